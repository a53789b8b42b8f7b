/- A text read as an answer, plainly; what was written is read again. -/
import Derived.Test.YtdekbbffoaphhaaDoorAnLines
import Derived.Test.YtdekbbffoaphhaaDoorAnBackP
import Derived.Test.YtdekbbffoaphhaaDoorAnPrint
set_option linter.unusedVariables false
set_option linter.unusedSimpArgs false
namespace Go.Proofs.An
def errorW : ByteArray := ⟨#[101, 114, 114, 111, 114]⟩
def jobB : ByteArray := ⟨#[106, 111, 98]⟩
def accountB : ByteArray := ⟨#[97, 99, 99, 111, 117, 110, 116]⟩
def holderB : ByteArray := ⟨#[104, 111, 108, 100, 101, 114]⟩
def usageB : ByteArray := ⟨#[117, 115, 97, 103, 101]⟩
def freeB : ByteArray := ⟨#[102, 114, 101, 101]⟩
def configB : ByteArray := ⟨#[99, 111, 110, 102, 105, 103]⟩
def okB : ByteArray := ⟨#[111, 107]⟩
def decB (n : Int) : ByteArray := ⟨(Lib.decDigits n.toNat).toArray⟩
/-- What strconv.ParseUint answers, whatever the word. -/
def puV (s : ByteArray) : Int := match Lib.parseMag s.data.toList with | .ok u => (u : Int) | .syntax => 0 | .range => 18446744073709551615
/-- The answer of the numbers of a first line. -/
def tailA (k st us fa : Int) (n : List Int) : Ans :=
  if k = 1 ∨ k = 5 then { zA with id := n.getD 0 0 } else if k = 9 then { zA with job := ⟨n.getD 0 0, n.getD 1 0, n.getD 2 0, n.getD 3 0, st, n.getD 4 0, n.getD 5 0, n.drop 6⟩ }
  else if k = 10 then { zA with holder := n.getD 0 0, shadow := n.getD 1 0 } else if k = 11 then { zA with raw := n.getD 0 0, usage := us, factor := fa } else if k = 12 then { zA with free := n.getD 0 0 }
  else if k = 13 then { zA with cfg := ⟨n.getD 0 0, n.getD 1 0, n.getD 2 0, n.getD 3 0, n.getD 4 0, n.getD 5 0, n.getD 6 0, n.getD 7 0⟩, bound := n.getD 8 0 } else zA
def usB (k : Int) (ws : List ByteArray) : Bool := k == 11 && ws.length == 4
def jbB (k : Int) (ws : List ByteArray) : Bool := k == 9 && decide (5 < ws.length)
/-- The words that are numbers, but for the first. -/
def restW (k : Int) (ws : List ByteArray) : List ByteArray := if usB k ws then ws.take 2 else if jbB k ws then ws.take 5 ++ ws.drop 6 else ws
def numsOf (k : Int) (ws : List ByteArray) : List Int := (numsW ((restW k ws).drop 1)).getD []
def headA (k : Int) (ws : List ByteArray) : Ans :=
  if ws.headD ⟨#[]⟩ = errorW then (match numsW (ws.drop 1) with | some [n] => { zA with code := n } | _ => zA)
  else tailA k (if jbB k ws then stN (ws.getD 5 ⟨#[]⟩) else 0) (if usB k ws then puV (ws.getD 2 ⟨#[]⟩) else 0) (if usB k ws then puV (ws.getD 3 ⟨#[]⟩) else 0) (numsOf k ws)
/-- A line read as a rank. -/
def rankOf (s : ByteArray) : Rk := ⟨((numsW (wordsOf s)).getD [] ++ [-1, -1]).getD 0 0, ((numsW (wordsOf s)).getD [] ++ [-1, -1]).getD 1 0⟩
def evsOf (k : Int) (ls : List ByteArray) : List Ev := if hasB k then ls.map fun s => (readE s).1 else []
def rksOf (k : Int) (ls : List ByteArray) : List Rk := if hasB k then [] else if k = 10 then ls.map rankOf else []
def candA (k : Int) (t : ByteArray) : Ans := { headA k (wordsOf ((linesW t).headD ⟨#[]⟩)) with events := evsOf k ((linesW t).drop 1), ranks := rksOf k ((linesW t).drop 1) }
def parseA (k : Int) (t : ByteArray) : Ans × Int := if linesB t = true ∧ checkA k (candA k t) = 0 ∧ printS k (candA k t) = t then (candA k t, 0) else (zA, 90)
def ownK (k : Int) (a : Ans) : Ans :=
  if k = 1 ∨ k = 5 then { zA with id := a.id } else if k = 9 then { zA with job := a.job } else if k = 10 then { zA with ranks := a.ranks, holder := a.holder, shadow := a.shadow }
  else if k = 11 then { zA with raw := a.raw, usage := a.usage, factor := a.factor } else if k = 12 then { zA with free := a.free } else if k = 13 then { zA with cfg := a.cfg, bound := a.bound } else zA
def ownA (k : Int) (a : Ans) : Ans := if hasB k then { ownK k a with events := a.events } else ownK k a
def own2A (k : Int) (a : Ans) : Ans := if a.code = 0 then ownA k a else { zA with code := a.code }
theorem blank_eq {a : Ans} (h : blankB a = true) : a = { zA with code := a.code } := by
  obtain ⟨c, i, es, ⟨j0, j1, j2, j3, j4, j5, j6, js⟩, rs, q0, q1, q2, q3, q4, q5, cf, bd⟩ := a
  simp only [blankB, bareJ, Bool.and_eq_true, beq_iff_eq, decide_eq_true_eq, List.length_eq_zero_iff] at h
  obtain ⟨⟨⟨⟨⟨⟨⟨⟨⟨⟨⟨rfl, rfl⟩, ⟨⟨⟨⟨⟨⟨⟨rfl, rfl⟩, rfl⟩, rfl⟩, rfl⟩, rfl⟩, rfl⟩, rfl⟩⟩, rfl⟩, rfl⟩, rfl⟩, rfl⟩, rfl⟩, rfl⟩, rfl⟩, rfl⟩, rfl⟩ := h
  rfl
theorem restA_code (k : Int) (a : Ans) : (restA k a).code = a.code := by
  unfold restA restK
  repeat' split
  all_goals rfl
/-- An answer whose other fields are blank is what its kind has of it. -/
theorem rest_own {k : Int} {a : Ans} (hc : a.code = 0) (h : blankB (restA k a) = true) : ownA k a = a := by
  have hb := blank_eq h
  rw [restA_code, hc] at hb
  obtain ⟨c, i, es, j, rs, q0, q1, q2, q3, q4, q5, cf, bd⟩ := a
  simp only at hc
  subst hc
  unfold restA restK at hb
  unfold ownA ownK
  by_cases h1 : k = 1
  · subst h1
    simp [hasB, zA] at hb ⊢
    simp [hb]
  by_cases h5 : k = 5
  · subst h5
    simp [hasB, zA] at hb ⊢
    simp [hb]
  by_cases h9 : k = 9
  · subst h9
    simp [hasB, zA] at hb ⊢
    simp [hb]
  by_cases h10 : k = 10
  · subst h10
    simp [hasB, zA] at hb ⊢
    simp [hb]
  by_cases h11 : k = 11
  · subst h11
    simp [hasB, zA] at hb ⊢
    simp [hb]
  by_cases h12 : k = 12
  · subst h12
    simp [hasB, zA] at hb ⊢
    simp [hb]
  by_cases h13 : k = 13
  · subst h13
    simp [hasB, zA] at hb ⊢
    simp [hb]
  · simp only [h1, h5, h9, h10, h11, h12, h13, or_self, if_false] at hb ⊢
    cases hh : hasB k <;> simp [hh, zA] at hb ⊢ <;> simp [hb]
theorem check_kinds {k : Int} {a : Ans} (h : checkA k a = 0) : 1 ≤ k ∧ k ≤ 13 := by
  unfold checkA at h
  split at h
  · simp at h
  · omega
theorem check_code {k : Int} {a : Ans} (h : checkA k a = 0) (hc : a.code ≠ 0) : 1 ≤ a.code ∧ a.code ≤ 999 ∧ a = { zA with code := a.code } := by
  unfold checkA at h
  split at h
  · simp at h
  · try rw [if_pos hc] at h
    split at h
    · rename_i g
      exact ⟨g.1, g.2.1, blank_eq g.2.2⟩
    · simp at h
theorem check_fine {k : Int} {a : Ans} (h : checkA k a = 0) (hc : a.code = 0) : okA k a = true := by
  unfold checkA at h
  split at h
  · simp at h
  · try rw [if_neg (by simp [hc])] at h
    split at h
    · assumption
    · simp at h
theorem fine_rest {k : Int} {a : Ans} (h : okA k a = true) : blankB (restA k a) = true := by
  simp only [okA, Bool.and_eq_true] at h
  exact h.1.1.1.1.1.1
theorem check_own {k : Int} {a : Ans} (h : checkA k a = 0) : own2A k a = a := by
  unfold own2A
  by_cases hc : a.code = 0
  · rw [if_pos hc]
    exact rest_own hc (fine_rest (check_fine h hc))
  · rw [if_neg hc]
    exact (check_code h hc).2.2.symm
/-! ### Lines -/
theorem cut_lines : ∀ (ls : List ByteArray), (∀ s ∈ ls, (10 : UInt8) ∉ s.data.toList) → cutC 10 (ls.flatMap fun s => s.data.toList ++ [10]) = ls.map (·.data.toList) ++ [[]]
  | [], _ => rfl
  | s :: r, h => by
    have e : (s :: r).flatMap (fun s => s.data.toList ++ [10]) = s.data.toList ++ 10 :: r.flatMap (fun s => s.data.toList ++ [10]) := by simp
    rw [e, cut_app 10 _ _ (h s (by simp)), cut_lines r (fun x hx => h x (List.mem_cons_of_mem _ hx))]
    rfl
theorem lines_back {ls : List ByteArray} (h : ∀ s ∈ ls, (10 : UInt8) ∉ s.data.toList) (hne : ls ≠ []) : linesW (toB (ls.flatMap fun s => s.data.toList ++ [10])) = ls ∧ linesB (toB (ls.flatMap fun s => s.data.toList ++ [10])) = true := by
  have hw : wordsC 10 (toB (ls.flatMap fun s => s.data.toList ++ [10])) = ls ++ [⟨#[]⟩] := by
    unfold wordsC
    rw [toB_data, cut_lines ls h, List.map_append, List.map_map]
    congr 1
    conv => rhs; rw [← List.map_id ls]
    apply List.map_congr_left
    intro x _
    exact toB_eq x
  have h1 : linesW (toB (ls.flatMap fun s => s.data.toList ++ [10])) = ls := by unfold linesW; rw [hw]; simp
  refine ⟨h1, ?_⟩
  unfold linesB
  rw [h1, hw]
  simp [List.length_pos_iff, hne]
theorem wordsT_no10 {ws : List ByteArray} (h : ∀ s ∈ ws, Clean s) : (10 : UInt8) ∉ wordsT ws := by
  cases ws with
  | nil => simp [wordsT]
  | cons s r =>
    simp only [wordsT, List.mem_append, List.mem_flatMap, not_or]
    refine ⟨fun hc => (h s (by simp) 10 hc).2 rfl, ?_⟩
    rintro ⟨t, ht, hc⟩
    rcases List.mem_cons.1 hc with e | hc
    · exact absurd e (by decide)
    · exact (h t (List.mem_cons_of_mem _ ht) 10 hc).2 rfl
/-! ### The first line -/
/-- The words of the first line. -/
def firstW (k : Int) (a : Ans) : List ByteArray :=
  if a.code ≠ 0 then [errorW, itB a.code] else if k = 1 then jobB :: allW [a.id] else if k = 5 then accountB :: allW [a.id]
  else if k = 9 then jobB :: (allW [a.job.acc, a.job.nodes, a.job.lim, a.job.sub] ++ stW a.job.st :: allW ([a.job.start, a.job.fin] ++ a.job.set))
  else if k = 10 then holderB :: allW [a.holder, a.shadow] else if k = 11 then [usageB, itB a.raw, decB a.usage, decB a.factor]
  else if k = 12 then freeB :: allW [a.free] else if k = 13 then configB :: allW [a.cfg.c0, a.cfg.c1, a.cfg.c2, a.cfg.c3, a.cfg.c4, a.cfg.c5, a.cfg.c6, a.cfg.c7, a.bound] else [okB]
theorem wordsT_mid (s : ByteArray) (l : List Int) (t : ByteArray) (m : List Int) : wordsT (s :: (allW l ++ t :: allW m)) = s.data.toList ++ numsT l ++ [32] ++ t.data.toList ++ numsT m := by
  simp [wordsT, allW, numsT, itB, List.flatMap_map, List.flatMap_append]
theorem firstW_text {k : Int} {a : Ans} : wordsT (firstW k a) = if a.code ≠ 0 then [101, 114, 114, 111, 114] ++ numsT [a.code] else firstT k a := by
  by_cases hc : a.code ≠ 0
  · simp only [firstW, if_pos hc]
    exact wordsT_nums errorW [a.code]
  · simp only [firstW, firstT, if_neg hc]
    by_cases h1 : k = 1
    · simp only [if_pos h1]; exact wordsT_nums jobB _
    simp only [if_neg h1]
    by_cases h5 : k = 5
    · simp only [if_pos h5]; exact wordsT_nums accountB _
    simp only [if_neg h5]
    by_cases h9 : k = 9
    · simp only [if_pos h9]
      rw [wordsT_mid, numsT_app]
      simp [jobB]
    simp only [if_neg h9]
    by_cases h10 : k = 10
    · simp only [if_pos h10]; exact wordsT_nums holderB _
    simp only [if_neg h10]
    by_cases h11 : k = 11
    · simp only [if_pos h11]
      simp [wordsT, numsT, itB, decB, usageB]
    simp only [if_neg h11]
    by_cases h12 : k = 12
    · simp only [if_pos h12]; exact wordsT_nums freeB _
    simp only [if_neg h12]
    by_cases h13 : k = 13
    · simp only [if_pos h13]; exact wordsT_nums configB _
    simp only [if_neg h13]
    simp [wordsT, okB]
theorem decB_clean (n : Int) : Clean (decB n) := fun c hc => by
  have := dec_digits _ n.toNat (Nat.le_refl _) c (by simpa [decB] using hc)
  constructor
  · rintro rfl
    have e : (32 : UInt8).toNat = 32 := rfl
    omega
  · rintro rfl
    have e : (10 : UInt8).toNat = 10 := rfl
    omega
theorem firstW_clean (k : Int) (a : Ans) : ∀ s ∈ firstW k a, Clean s := by
  have ha := allW_clean
  have hi := itB_clean
  have hd := decB_clean
  have hs := stW_clean
  have h0 : Clean errorW ∧ Clean jobB ∧ Clean accountB ∧ Clean holderB ∧ Clean usageB ∧ Clean freeB ∧ Clean configB ∧ Clean okB := by unfold Clean; decide
  obtain ⟨b0, b1, b2, b3, b4, b5, b6, b7⟩ := h0
  intro s hs2
  unfold firstW at hs2
  repeat' split at hs2
  all_goals
    simp only [List.mem_cons, List.mem_append, List.not_mem_nil, or_false] at hs2
  · rcases hs2 with rfl | rfl <;> simp_all
  · rcases hs2 with rfl | h
    · exact b1
    · exact ha _ _ h
  · rcases hs2 with rfl | h
    · exact b2
    · exact ha _ _ h
  · rcases hs2 with rfl | h | rfl | h
    · exact b1
    · exact ha _ _ h
    · exact hs _
    · exact ha _ _ h
  · rcases hs2 with rfl | h
    · exact b3
    · exact ha _ _ h
  · rcases hs2 with rfl | rfl | rfl | rfl <;> simp_all
  · rcases hs2 with rfl | h
    · exact b5
    · exact ha _ _ h
  · rcases hs2 with rfl | h
    · exact b6
    · exact ha _ _ h
  · rw [hs2]; exact b7
theorem firstW_ne (k : Int) (a : Ans) : firstW k a ≠ [] := by
  unfold firstW
  repeat' split
  all_goals simp
theorem puV_back {n : Int} (h0 : 0 ≤ n) (h1 : n < 18446744073709551616) : puV (decB n) = n := by
  have hp := parse_dec _ n.toNat (Nat.le_refl _) (by omega)
  have hne : Lib.decDigits n.toNat ≠ [] := (dec_num _ n.toNat (Nat.le_refl _)).1.1
  unfold puV Lib.parseMag decB
  simp only [List.toList_toArray]
  rw [if_neg hne, hp]
  simp only
  omega
theorem stN_all {n : Int} (h : stW n ≠ ⟨#[]⟩) : stN (stW n) = n := by
  have : n = 1 ∨ n = 2 ∨ n = 3 ∨ n = 4 ∨ n = 5 ∨ n = 6 := by
    unfold stW at h
    by_cases h1 : n = 1; · simp [h1]
    by_cases h2 : n = 2; · simp [h2]
    by_cases h3 : n = 3; · simp [h3]
    by_cases h4 : n = 4; · simp [h4]
    by_cases h5 : n = 5; · simp [h5]
    by_cases h6 : n = 6; · simp [h6]
    exact absurd (by simp [h1, h2, h3, h4, h5, h6]) h
  rcases this with rfl | rfl | rfl | rfl | rfl | rfl <;> decide
theorem allW_len2 (l : List Int) : (allW l).length = l.length := by simp [allW]
/-- The first line of an answer is read as that answer, but for its events and ranks. -/
theorem head_back {k : Int} {a : Ans} (h : checkA k a = 0) (hok : AnsOk a) : headA k (firstW k a) = { a with events := [], ranks := [] } := by
  by_cases hc : a.code = 0
  case neg =>
    have he := (check_code h hc).2.2
    unfold headA
    have e1 : firstW k a = errorW :: allW [a.code] := by simp [firstW, hc, allW]
    have hn : numsW (allW [a.code]) = some [a.code] := nums_back _ (fitsCons hok.code fitsNil)
    rw [e1]
    simp only [List.headD_cons, if_true, List.drop_succ_cons, List.drop_zero]
    rw [hn]
    simp only
    rw [he]
    rfl
  have hfine := check_fine h hc
  have hown := rest_own hc (fine_rest hfine)
  have hfst : firstW k a = if k = 1 then jobB :: allW [a.id] else if k = 5 then accountB :: allW [a.id]
      else if k = 9 then jobB :: (allW [a.job.acc, a.job.nodes, a.job.lim, a.job.sub] ++ stW a.job.st :: allW ([a.job.start, a.job.fin] ++ a.job.set))
      else if k = 10 then holderB :: allW [a.holder, a.shadow] else if k = 11 then [usageB, itB a.raw, decB a.usage, decB a.factor]
      else if k = 12 then freeB :: allW [a.free] else if k = 13 then configB :: allW [a.cfg.c0, a.cfg.c1, a.cfg.c2, a.cfg.c3, a.cfg.c4, a.cfg.c5, a.cfg.c6, a.cfg.c7, a.bound] else [okB] := by
    simp [firstW, hc]
  have n1 : jobB ≠ errorW ∧ accountB ≠ errorW ∧ holderB ≠ errorW ∧ usageB ≠ errorW ∧ freeB ≠ errorW ∧ configB ≠ errorW ∧ okB ≠ errorW := by decide
  obtain ⟨m1, m2, m3, m4, m5, m6, m7⟩ := n1
  rw [hfst]
  unfold headA
  conv => rhs; rw [← hown]
  by_cases h1 : k = 1
  · subst h1
    have hn : numsW (allW [a.id]) = some [a.id] := nums_back _ (fitsCons hok.id fitsNil)
    simp only [if_true, List.headD_cons, if_neg m1, jbB, usB, numsOf, restW]
    simp [hn, tailA, ownA, ownK, hasB, zA]
  by_cases h5 : k = 5
  · subst h5
    have hn : numsW (allW [a.id]) = some [a.id] := nums_back _ (fitsCons hok.id fitsNil)
    simp only [if_neg h1, if_true, List.headD_cons, if_neg m2, jbB, usB, numsOf, restW]
    simp [hn, tailA, ownA, ownK, hasB, zA]
  by_cases h9 : k = 9
  · subst h9
    have hst : stN (stW a.job.st) = a.job.st := by
      apply stN_all
      simp only [okA, Bool.and_eq_true] at hfine
      have := hfine.1.1.2
      simp only [if_true, Bool.and_eq_true, decide_eq_true_eq] at this
      exact this.1.2
    have hn : numsW (allW ([a.job.acc, a.job.nodes, a.job.lim, a.job.sub] ++ ([a.job.start, a.job.fin] ++ a.job.set))) = some ([a.job.acc, a.job.nodes, a.job.lim, a.job.sub] ++ ([a.job.start, a.job.fin] ++ a.job.set)) :=
      nums_back _ (fitsCons hok.acc (fitsCons hok.nodes (fitsCons hok.lim (fitsCons hok.sub (fitsCons hok.start (fitsCons hok.fin hok.set))))))
    have happ : ∀ l m, allW (l ++ m) = allW l ++ allW m := fun l m => by simp [allW]
    have hj : jbB 9 (jobB :: (allW [a.job.acc, a.job.nodes, a.job.lim, a.job.sub] ++ stW a.job.st :: allW ([a.job.start, a.job.fin] ++ a.job.set))) = true := by
      simp [jbB, allW]
    simp only [if_neg h1, if_neg h5, if_true, List.headD_cons, if_neg m1, usB]
    rw [hj]
    simp only [numsOf, restW, usB, hj]
    have e2 : ((jobB :: (allW [a.job.acc, a.job.nodes, a.job.lim, a.job.sub] ++ stW a.job.st :: allW ([a.job.start, a.job.fin] ++ a.job.set))).take 5 ++ (jobB :: (allW [a.job.acc, a.job.nodes, a.job.lim, a.job.sub] ++ stW a.job.st :: allW ([a.job.start, a.job.fin] ++ a.job.set))).drop 6).drop 1 = allW ([a.job.acc, a.job.nodes, a.job.lim, a.job.sub] ++ ([a.job.start, a.job.fin] ++ a.job.set)) := by
      simp [allW]
    have e3 : (jobB :: (allW [a.job.acc, a.job.nodes, a.job.lim, a.job.sub] ++ stW a.job.st :: allW ([a.job.start, a.job.fin] ++ a.job.set))).getD 5 ⟨#[]⟩ = stW a.job.st := by simp [allW]
    simp only [show ((9 : Int) == 11) = false from rfl, Bool.false_and, Bool.false_eq_true, if_false, if_true]
    rw [e2, e3, hn, hst]
    simp [tailA, ownA, ownK, hasB, zA]
  by_cases h10 : k = 10
  · subst h10
    have hn : numsW (allW [a.holder, a.shadow]) = some [a.holder, a.shadow] := nums_back _ (fitsCons hok.holder (fitsCons hok.shadow fitsNil))
    simp only [if_neg h1, if_neg h5, if_neg h9, if_true, List.headD_cons, if_neg m3, jbB, usB, numsOf, restW]
    simp [hn, tailA, ownA, ownK, hasB, zA]
  by_cases h11 : k = 11
  · subst h11
    have hn : numsW (allW [a.raw]) = some [a.raw] := nums_back _ (fitsCons hok.raw fitsNil)
    have hn2 : numsW [itB a.raw] = some [a.raw] := hn
    simp only [if_neg h1, if_neg h5, if_neg h9, if_neg h10, if_true, List.headD_cons, if_neg m4, jbB, usB, numsOf, restW]
    simp [hn2, tailA, ownA, ownK, hasB, zA, puV_back hok.usage.1 hok.usage.2, puV_back hok.factor.1 hok.factor.2]
  by_cases h12 : k = 12
  · subst h12
    have hn : numsW (allW [a.free]) = some [a.free] := nums_back _ (fitsCons hok.free fitsNil)
    simp only [if_neg h1, if_neg h5, if_neg h9, if_neg h10, if_neg h11, if_true, List.headD_cons, if_neg m5, jbB, usB, numsOf, restW]
    simp [hn, tailA, ownA, ownK, hasB, zA]
  by_cases h13 : k = 13
  · subst h13
    have hn : numsW (allW [a.cfg.c0, a.cfg.c1, a.cfg.c2, a.cfg.c3, a.cfg.c4, a.cfg.c5, a.cfg.c6, a.cfg.c7, a.bound]) = some [a.cfg.c0, a.cfg.c1, a.cfg.c2, a.cfg.c3, a.cfg.c4, a.cfg.c5, a.cfg.c6, a.cfg.c7, a.bound] :=
      nums_back _ (fitsCons hok.c0 (fitsCons hok.c1 (fitsCons hok.c2 (fitsCons hok.c3 (fitsCons hok.c4 (fitsCons hok.c5 (fitsCons hok.c6 (fitsCons hok.c7 (fitsCons hok.bound fitsNil)))))))))
    simp only [if_neg h1, if_neg h5, if_neg h9, if_neg h10, if_neg h11, if_neg h12, if_true, List.headD_cons, if_neg m6, jbB, usB, numsOf, restW]
    simp [hn, tailA, ownA, ownK, hasB, zA]
  · simp only [if_neg h1, if_neg h5, if_neg h9, if_neg h10, if_neg h11, if_neg h12, if_neg h13, List.headD_cons, if_neg m7, jbB, usB, numsOf, restW]
    cases hh : hasB k <;> simp [tailA, ownA, ownK, h1, h5, h9, h10, h11, h12, h13, hh, zA]
/-! ### The whole -/
def rkB2 (r : Rk) : ByteArray := toB (wordsT [itB r.job, itB r.prio])
theorem rkT_line (r : Rk) : rkT r = (rkB2 r).data.toList ++ [10] := by simp [rkT, rkB2, numsT, wordsT, itB]
/-- An answer's lines. -/
def linesA (k : Int) (a : Ans) : List ByteArray := toB (wordsT (firstW k a)) :: (a.events.map evS ++ a.ranks.map rkB2)
theorem print_lines {k : Int} {a : Ans} (h : checkA k a = 0) : printT k a = (linesA k a).flatMap fun s => s.data.toList ++ [10] := by
  unfold linesA printT
  by_cases hc : a.code = 0
  · have hr := check_right h hc
    have he : ∀ (es : List Ev), (∀ e ∈ es, right e = true) → evsT es = (es.map evS).flatMap fun s => s.data.toList ++ [10] := by
      intro es
      induction es with
      | nil => intro _; rfl
      | cons e r ih =>
        intro h2
        have h3 := h2 e (by simp)
        have ih2 := ih (fun x hx => h2 x (List.mem_cons_of_mem _ hx))
        simp only [evsT, List.flatMap_cons, List.map_cons] at ih2 ⊢
        rw [ih2]
        congr 1
        unfold evS
        rw [if_pos h3]
    have hk : ∀ (rs : List Rk), rksT rs = (rs.map rkB2).flatMap fun s => s.data.toList ++ [10] := by
      intro rs
      induction rs with
      | nil => rfl
      | cons r l ih =>
        simp only [rksT, List.flatMap_cons, List.map_cons] at ih ⊢
        rw [ih, rkT_line]
    rw [if_neg (by simp [hc]), he _ hr, hk]
    simp only [List.flatMap_cons, List.flatMap_append, toB_data]
    rw [firstW_text, if_neg (by simp [hc])]
    simp
  · have he := (check_code h hc).2.2
    rw [if_pos hc]
    have e1 : a.events = [] := by rw [he]; rfl
    have e2 : a.ranks = [] := by rw [he]; rfl
    rw [e1, e2]
    simp only [List.map_nil, List.append_nil, List.flatMap_cons, List.flatMap_nil, toB_data]
    rw [firstW_text, if_pos hc]
theorem lines_clean {k : Int} {a : Ans} (h : checkA k a = 0) (he : ∀ e ∈ a.events, right e = true) : ∀ s ∈ linesA k a, (10 : UInt8) ∉ s.data.toList := by
  intro s hs
  unfold linesA at hs
  rcases List.mem_cons.1 hs with rfl | hs
  · rw [toB_data]; exact wordsT_no10 (firstW_clean k a)
  · rcases List.mem_append.1 hs with hs | hs
    · obtain ⟨e, hm, rfl⟩ := List.mem_map.1 hs
      rw [evS_words (he e hm), toB_data]
      exact wordsT_no10 (onlyW_clean (he e hm))
    · obtain ⟨r, hm, rfl⟩ := List.mem_map.1 hs
      unfold rkB2
      rw [toB_data]
      exact wordsT_no10 (fun x hx => by
        simp only [List.mem_cons, List.not_mem_nil, or_false] at hx
        rcases hx with rfl | rfl <;> exact itB_clean _)
theorem check_events {k : Int} {a : Ans} (h : checkA k a = 0) : ∀ e ∈ a.events, right e = true := by
  by_cases hc : a.code = 0
  · exact check_right h hc
  · intro e hm
    rw [(check_code h hc).2.2] at hm
    simp [zA] at hm
theorem rank_back {r : Rk} (h1 : Int64 r.job) (h2 : Int64 r.prio) : rankOf (rkB2 r) = r := by
  have hw : wordsOf (rkB2 r) = allW [r.job, r.prio] := by
    rw [wordsOf_eq]
    exact words_back (by simp) (fun x hx => by
      simp only [List.mem_cons, List.not_mem_nil, or_false] at hx
      rcases hx with rfl | rfl <;> exact itB_clean _)
  unfold rankOf
  rw [hw, nums_back _ (fitsCons h1 (fitsCons h2 fitsNil))]
  rfl
theorem own_events {k : Int} {a : Ans} (h : ownA k a = a) : (hasB k = false → a.events = []) ∧ (k ≠ 10 → a.ranks = []) := by
  constructor
  · intro hh
    rw [← h]
    unfold ownA
    rw [hh]
    unfold ownK
    simp only [Bool.false_eq_true, if_false]
    repeat' split
    all_goals rfl
  · intro hk
    rw [← h]
    unfold ownA ownK
    simp only [if_neg hk]
    repeat' split
    all_goals rfl
theorem has10 {k : Int} (h : hasB k = true) : k ≠ 10 := by rintro rfl; revert h; decide
theorem cand_whole {k : Int} {a : Ans} (h : checkA k a = 0) (hok : AnsOk a) : candA k (printS k a) = a ∧ linesB (printS k a) = true := by
  have he := check_events h
  have hp : printS k a = toB ((linesA k a).flatMap fun s => s.data.toList ++ [10]) := by unfold printS; rw [if_pos h, print_lines h]
  obtain ⟨b1, b2⟩ := lines_back (lines_clean h he) (by simp [linesA])
  rw [← hp] at b1 b2
  refine ⟨?_, b2⟩
  unfold candA
  rw [b1]
  have hf : wordsOf ((linesA k a).headD ⟨#[]⟩) = firstW k a := by
    rw [wordsOf_eq]
    exact words_back (firstW_ne k a) (firstW_clean k a)
  rw [hf, head_back h hok]
  have hl : (linesA k a).drop 1 = a.events.map evS ++ a.ranks.map rkB2 := rfl
  rw [hl]
  have hown : (hasB k = false → a.events = []) ∧ (k ≠ 10 → a.ranks = []) := by
    by_cases hc : a.code = 0
    · exact own_events (rest_own hc (fine_rest (check_fine h hc)))
    · rw [(check_code h hc).2.2]
      exact ⟨fun _ => rfl, fun _ => rfl⟩
  have h1 : evsOf k (a.events.map evS ++ a.ranks.map rkB2) = a.events := by
    unfold evsOf
    cases hh : hasB k with
    | false => rw [hown.1 hh]; rfl
    | true =>
      rw [hown.2 (has10 hh)]
      simp only [List.map_nil, List.append_nil, if_true, List.map_map]
      conv => rhs; rw [← List.map_id a.events]
      apply List.map_congr_left
      intro e hm
      simp only [Function.comp_apply, id]
      rw [read_back (he e hm) (hok.events e hm)]
  have h2 : rksOf k (a.events.map evS ++ a.ranks.map rkB2) = a.ranks := by
    unfold rksOf
    cases hh : hasB k with
    | true => rw [hown.2 (has10 hh)]; rfl
    | false =>
      rw [hown.1 hh]
      simp only [Bool.false_eq_true, if_false, List.map_nil, List.nil_append, List.map_map]
      by_cases hk : k = 10
      · rw [if_pos hk]
        conv => rhs; rw [← List.map_id a.ranks]
        apply List.map_congr_left
        intro r hm
        simp only [Function.comp_apply, id]
        exact rank_back (hok.ranks r hm).1 (hok.ranks r hm).2
      · rw [if_neg hk, hown.2 hk]
  rw [h1, h2]
/-- What was written is read again. -/
theorem parse_back {k : Int} {a : Ans} (h : checkA k a = 0) (hok : AnsOk a) : parseA k (printS k a) = (a, 0) := by
  obtain ⟨h1, h2⟩ := cand_whole h hok
  unfold parseA
  rw [h1, if_pos ⟨h2, h, rfl⟩]
/-- What is read was written so. -/
theorem parse_sound {k : Int} {t : ByteArray} (h : (parseA k t).2 = 0) : checkA k (parseA k t).1 = 0 ∧ printS k (parseA k t).1 = t := by
  unfold parseA at h ⊢
  split at h
  · rename_i hh
    rw [if_pos hh]
    exact hh.2
  · simp at h
end Go.Proofs.An

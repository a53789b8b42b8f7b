/- A text read as an answer, plainly; what was written is read again. -/
import Derived.Test.YtdekbbffoaphhaaGreatDoorAnPkA
import Derived.Test.YtdekbbffoaphhaaGreatDoorAnPrint
import Derived.Test.YtdekbbffoaphhaaGreatDoorShelfB
import Derived.Test.YtdekbbffoaphhaaGreatDoorAnBase
import Derived.Lib.ParseIntBCases
import Derived.Test.YtdekbbffoaphhaaGreatDoorSteps
import Derived.Maps.AppendAt
import Derived.Test.YtdekbbffoaphhaaGreatDoorAnZipB
import Derived.Test.YtdekbbffoaphhaaGreatDoorAnCheck
import Derived.WalkSpells
set_option linter.unusedVariables false
set_option linter.unusedSimpArgs false
set_option maxRecDepth 100000
set_option maxHeartbeats 8000000
namespace Go.Proofs.An
def errorW : ByteArray := ⟨#[101, 114, 114, 111, 114]⟩
def jobB : ByteArray := ⟨#[106, 111, 98]⟩
def accountB : ByteArray := ⟨#[97, 99, 99, 111, 117, 110, 116]⟩
def holderB : ByteArray := ⟨#[104, 111, 108, 100, 101, 114]⟩
def usageB : ByteArray := ⟨#[117, 115, 97, 103, 101]⟩
def freeB : ByteArray := ⟨#[102, 114, 101, 101]⟩
def configB : ByteArray := ⟨#[99, 111, 110, 102, 105, 103]⟩
def okB : ByteArray := ⟨#[111, 107]⟩
def decB (n : Int) : ByteArray := ⟨(Lib.decDigits n.toNat).toArray⟩
/-- What strconv.ParseUint answers, whatever the word. -/
def puV (s : ByteArray) : Int := match Lib.parseMag s.data.toList with | .ok u => (u : Int) | .syntax => 0 | .range => 18446744073709551615
/-- The answer of the numbers of a first line. -/
def tailA (k st us fa : Int) (n : List Int) : Ans :=
 if k = 1 ∨ k = 5 then { zA with id := n.getD 0 0 } else if k = 9 then { zA with job := ⟨n.getD 0 0, n.getD 1 0, n.getD 2 0, n.getD 3 0, st, n.getD 4 0, n.getD 5 0, n.drop 6⟩ }
 else if k = 10 then { zA with holder := n.getD 0 0, shadow := n.getD 1 0 } else if k = 11 then { zA with raw := n.getD 0 0, usage := us, factor := fa } else if k = 12 then { zA with free := n.getD 0 0 }
 else if k = 13 then { zA with cfg := ⟨n.getD 0 0, n.getD 1 0, n.getD 2 0, n.getD 3 0, n.getD 4 0, n.getD 5 0, n.getD 6 0, n.getD 7 0⟩, bound := n.getD 8 0 } else zA
def usB (k : Int) (ws : List ByteArray) : Bool := k == 11 && ws.length == 4
def jbB (k : Int) (ws : List ByteArray) : Bool := k == 9 && decide (5 < ws.length)
/-- The words that are numbers, but for the first. -/
def restW (k : Int) (ws : List ByteArray) : List ByteArray := if usB k ws then ws.take 2 else if jbB k ws then ws.take 5 ++ ws.drop 6 else ws
def numsOf (k : Int) (ws : List ByteArray) : List Int := (numsW ((restW k ws).drop 1)).getD []
def headA (k : Int) (ws : List ByteArray) : Ans :=
 if ws.headD ⟨#[]⟩ = errorW then (match numsW (ws.drop 1) with | some [n] => { zA with code := n } | _ => zA)
 else tailA k (if jbB k ws then stN (ws.getD 5 ⟨#[]⟩) else 0) (if usB k ws then puV (ws.getD 2 ⟨#[]⟩) else 0) (if usB k ws then puV (ws.getD 3 ⟨#[]⟩) else 0) (numsOf k ws)
/-- A line read as a rank. -/
def rankOf (s : ByteArray) : Rk := ⟨((numsW (wordsOf s)).getD [] ++ [-1, -1]).getD 0 0, ((numsW (wordsOf s)).getD [] ++ [-1, -1]).getD 1 0⟩
def evsOf (k : Int) (ls : List ByteArray) : List Ev := if hasB k then ls.map fun s => (readE s).1 else []
def rksOf (k : Int) (ls : List ByteArray) : List Rk := if hasB k then [] else if k = 10 then ls.map rankOf else []
def candA (k : Int) (t : ByteArray) : Ans := { headA k (wordsOf ((linesW t).headD ⟨#[]⟩)) with events := evsOf k ((linesW t).drop 1), ranks := rksOf k ((linesW t).drop 1) }
def parseA (k : Int) (t : ByteArray) : Ans × Int := if linesB t = true ∧ checkA k (candA k t) = 0 ∧ printS k (candA k t) = t then (candA k t, 0) else (zA, 90)
def ownK (k : Int) (a : Ans) : Ans :=
 if k = 1 ∨ k = 5 then { zA with id := a.id } else if k = 9 then { zA with job := a.job } else if k = 10 then { zA with ranks := a.ranks, holder := a.holder, shadow := a.shadow }
 else if k = 11 then { zA with raw := a.raw, usage := a.usage, factor := a.factor } else if k = 12 then { zA with free := a.free } else if k = 13 then { zA with cfg := a.cfg, bound := a.bound } else zA
def ownA (k : Int) (a : Ans) : Ans := if hasB k then { ownK k a with events := a.events } else ownK k a
def own2A (k : Int) (a : Ans) : Ans := if a.code = 0 then ownA k a else { zA with code := a.code }
theorem blank_eq {a : Ans} (h : blankB a = true) : a = { zA with code := a.code } := by
 obtain ⟨c, i, es, ⟨j0, j1, j2, j3, j4, j5, j6, js⟩, rs, q0, q1, q2, q3, q4, q5, cf, bd⟩ := a
 simp only [blankB, bareJ, Bool.and_eq_true, beq_iff_eq, decide_eq_true_eq, List.length_eq_zero_iff] at h
 obtain ⟨⟨⟨⟨⟨⟨⟨⟨⟨⟨⟨rfl, rfl⟩, ⟨⟨⟨⟨⟨⟨⟨rfl, rfl⟩, rfl⟩, rfl⟩, rfl⟩, rfl⟩, rfl⟩, rfl⟩⟩, rfl⟩, rfl⟩, rfl⟩, rfl⟩, rfl⟩, rfl⟩, rfl⟩, rfl⟩, rfl⟩ := h
 rfl
theorem restA_code (k : Int) (a : Ans) : (restA k a).code = a.code := by
 unfold restA restK
 repeat' split
 all_goals rfl
/-- An answer whose other fields are blank is what its kind has of it. -/
theorem rest_own {k : Int} {a : Ans} (hc : a.code = 0) (h : blankB (restA k a) = true) : ownA k a = a := by
 have hb := blank_eq h
 rw [restA_code, hc] at hb
 obtain ⟨c, i, es, j, rs, q0, q1, q2, q3, q4, q5, cf, bd⟩ := a
 simp only at hc
 subst hc
 unfold restA restK at hb
 unfold ownA ownK
 by_cases h1 : k = 1
 ·subst h1
  simp [hasB, zA] at hb ⊢
  simp [hb]
 by_cases h5 : k = 5
 ·subst h5
  simp [hasB, zA] at hb ⊢
  simp [hb]
 by_cases h9 : k = 9
 ·subst h9
  simp [hasB, zA] at hb ⊢
  simp [hb]
 by_cases h10 : k = 10
 ·subst h10
  simp [hasB, zA] at hb ⊢
  simp [hb]
 by_cases h11 : k = 11
 ·subst h11
  simp [hasB, zA] at hb ⊢
  simp [hb]
 by_cases h12 : k = 12
 ·subst h12
  simp [hasB, zA] at hb ⊢
  simp [hb]
 by_cases h13 : k = 13
 ·subst h13
  simp [hasB, zA] at hb ⊢
  simp [hb]
 ·simp only [h1, h5, h9, h10, h11, h12, h13, or_self, if_false] at hb ⊢
  cases hh : hasB k <;> simp [hh, zA] at hb ⊢ <;> simp [hb]
theorem check_kinds {k : Int} {a : Ans} (h : checkA k a = 0) : 1 ≤ k ∧ k ≤ 13 := by
 unfold checkA at h
 split at h
 ·simp at h
 ·omega
theorem check_code {k : Int} {a : Ans} (h : checkA k a = 0) (hc : a.code ≠ 0) : 1 ≤ a.code ∧ a.code ≤ 999 ∧ a = { zA with code := a.code } := by
 unfold checkA at h
 split at h
 ·simp at h
 ·try rw [if_pos hc] at h
  split at h
  ·rename_i g
   exact ⟨g.1, g.2.1, blank_eq g.2.2⟩
  ·simp at h
theorem check_fine {k : Int} {a : Ans} (h : checkA k a = 0) (hc : a.code = 0) : okA k a = true := by
 unfold checkA at h
 split at h
 ·simp at h
 ·try rw [if_neg (by simp [hc])] at h
  split at h
  ·assumption
  ·simp at h
theorem fine_rest {k : Int} {a : Ans} (h : okA k a = true) : blankB (restA k a) = true := by
 simp only [okA, Bool.and_eq_true] at h
 exact h.1.1.1.1.1.1
theorem check_own {k : Int} {a : Ans} (h : checkA k a = 0) : own2A k a = a := by
 unfold own2A
 by_cases hc : a.code = 0
 ·rw [if_pos hc]
  exact rest_own hc (fine_rest (check_fine h hc))
 ·rw [if_neg hc]
  exact (check_code h hc).2.2.symm
theorem cut_lines : ∀ (ls : List ByteArray), (∀ s ∈ ls, (10 : UInt8) ∉ s.data.toList) → cutC 10 (ls.flatMap fun s => s.data.toList ++ [10]) = ls.map (·.data.toList) ++ [[]]
 | [], _ => rfl
 | s :: r, h => by
  have e : (s :: r).flatMap (fun s => s.data.toList ++ [10]) = s.data.toList ++ 10 :: r.flatMap (fun s => s.data.toList ++ [10]) := by simp
  rw [e, cut_app 10 _ _ (h s (by simp)), cut_lines r (fun x hx => h x (List.mem_cons_of_mem _ hx))]
  rfl
theorem lines_back {ls : List ByteArray} (h : ∀ s ∈ ls, (10 : UInt8) ∉ s.data.toList) (hne : ls ≠ []) : linesW (toB (ls.flatMap fun s => s.data.toList ++ [10])) = ls ∧ linesB (toB (ls.flatMap fun s => s.data.toList ++ [10])) = true := by
 have hw : wordsC 10 (toB (ls.flatMap fun s => s.data.toList ++ [10])) = ls ++ [⟨#[]⟩] := by
  unfold wordsC
  rw [toB_data, cut_lines ls h, List.map_append, List.map_map]
  congr 1
  conv => rhs; rw [← List.map_id ls]
  apply List.map_congr_left
  intro x _
  exact toB_eq x
 have h1 : linesW (toB (ls.flatMap fun s => s.data.toList ++ [10])) = ls := by unfold linesW; rw [hw]; simp
 refine ⟨h1, ?_⟩
 unfold linesB
 rw [h1, hw]
 simp [List.length_pos_iff, hne]
theorem wordsT_no10 {ws : List ByteArray} (h : ∀ s ∈ ws, Clean s) : (10 : UInt8) ∉ wordsT ws := by
 cases ws with
 | nil => simp [wordsT]
 | cons s r =>
  simp only [wordsT, List.mem_append, List.mem_flatMap, not_or]
  refine ⟨fun hc => (h s (by simp) 10 hc).2 rfl, ?_⟩
  rintro ⟨t, ht, hc⟩
  rcases List.mem_cons.1 hc with e | hc
  ·exact absurd e (by decide)
  ·exact (h t (List.mem_cons_of_mem _ ht) 10 hc).2 rfl
/-- The words of the first line. -/
def firstW (k : Int) (a : Ans) : List ByteArray :=
 if a.code ≠ 0 then [errorW, itB a.code] else if k = 1 then jobB :: allW [a.id] else if k = 5 then accountB :: allW [a.id]
 else if k = 9 then jobB :: (allW [a.job.acc, a.job.nodes, a.job.lim, a.job.sub] ++ stW a.job.st :: allW ([a.job.start, a.job.fin] ++ a.job.set))
 else if k = 10 then holderB :: allW [a.holder, a.shadow] else if k = 11 then [usageB, itB a.raw, decB a.usage, decB a.factor]
 else if k = 12 then freeB :: allW [a.free] else if k = 13 then configB :: allW [a.cfg.c0, a.cfg.c1, a.cfg.c2, a.cfg.c3, a.cfg.c4, a.cfg.c5, a.cfg.c6, a.cfg.c7, a.bound] else [okB]
theorem wordsT_mid (s : ByteArray) (l : List Int) (t : ByteArray) (m : List Int) : wordsT (s :: (allW l ++ t :: allW m)) = s.data.toList ++ numsT l ++ [32] ++ t.data.toList ++ numsT m := by
 simp [wordsT, allW, numsT, itB, List.flatMap_map, List.flatMap_append]
theorem firstW_text {k : Int} {a : Ans} : wordsT (firstW k a) = if a.code ≠ 0 then [101, 114, 114, 111, 114] ++ numsT [a.code] else firstT k a := by
 by_cases hc : a.code ≠ 0
 ·simp only [firstW, if_pos hc]
  exact wordsT_nums errorW [a.code]
 ·simp only [firstW, firstT, if_neg hc]
  by_cases h1 : k = 1
  ·simp only [if_pos h1]; exact wordsT_nums jobB _
  simp only [if_neg h1]
  by_cases h5 : k = 5
  ·simp only [if_pos h5]; exact wordsT_nums accountB _
  simp only [if_neg h5]
  by_cases h9 : k = 9
  ·simp only [if_pos h9]
   rw [wordsT_mid, numsT_app]
   simp [jobB]
  simp only [if_neg h9]
  by_cases h10 : k = 10
  ·simp only [if_pos h10]; exact wordsT_nums holderB _
  simp only [if_neg h10]
  by_cases h11 : k = 11
  ·simp only [if_pos h11]
   simp [wordsT, numsT, itB, decB, usageB]
  simp only [if_neg h11]
  by_cases h12 : k = 12
  ·simp only [if_pos h12]; exact wordsT_nums freeB _
  simp only [if_neg h12]
  by_cases h13 : k = 13
  ·simp only [if_pos h13]; exact wordsT_nums configB _
  simp only [if_neg h13]
  simp [wordsT, okB]
theorem decB_clean (n : Int) : Clean (decB n) := fun c hc => by
 have := dec_digits _ n.toNat (Nat.le_refl _) c (by simpa [decB] using hc)
 constructor
 ·rintro rfl
  have e : (32 : UInt8).toNat = 32 := rfl
  omega
 ·rintro rfl
  have e : (10 : UInt8).toNat = 10 := rfl
  omega
theorem firstW_clean (k : Int) (a : Ans) : ∀ s ∈ firstW k a, Clean s := by
 have ha := allW_clean
 have hi := itB_clean
 have hd := decB_clean
 have hs := stW_clean
 have h0 : Clean errorW ∧ Clean jobB ∧ Clean accountB ∧ Clean holderB ∧ Clean usageB ∧ Clean freeB ∧ Clean configB ∧ Clean okB := by unfold Clean; decide
 obtain ⟨b0, b1, b2, b3, b4, b5, b6, b7⟩ := h0
 intro s hs2
 unfold firstW at hs2
 repeat' split at hs2
 all_goals
  simp only [List.mem_cons, List.mem_append, List.not_mem_nil, or_false] at hs2
 ·rcases hs2 with rfl | rfl <;> simp_all
 ·rcases hs2 with rfl | h
  ·exact b1
  ·exact ha _ _ h
 ·rcases hs2 with rfl | h
  ·exact b2
  ·exact ha _ _ h
 ·rcases hs2 with rfl | h | rfl | h
  ·exact b1
  ·exact ha _ _ h
  ·exact hs _
  ·exact ha _ _ h
 ·rcases hs2 with rfl | h
  ·exact b3
  ·exact ha _ _ h
 ·rcases hs2 with rfl | rfl | rfl | rfl <;> simp_all
 ·rcases hs2 with rfl | h
  ·exact b5
  ·exact ha _ _ h
 ·rcases hs2 with rfl | h
  ·exact b6
  ·exact ha _ _ h
 ·rw [hs2]; exact b7
theorem firstW_ne (k : Int) (a : Ans) : firstW k a ≠ [] := by
 unfold firstW
 repeat' split
 all_goals simp
theorem puV_back {n : Int} (h0 : 0 ≤ n) (h1 : n < 18446744073709551616) : puV (decB n) = n := by
 have hp := parse_dec _ n.toNat (Nat.le_refl _) (by omega)
 have hne : Lib.decDigits n.toNat ≠ [] := (dec_num _ n.toNat (Nat.le_refl _)).1.1
 unfold puV Lib.parseMag decB
 simp only [List.toList_toArray]
 rw [if_neg hne, hp]
 simp only
 omega
theorem stN_all {n : Int} (h : stW n ≠ ⟨#[]⟩) : stN (stW n) = n := by
 have : n = 1 ∨ n = 2 ∨ n = 3 ∨ n = 4 ∨ n = 5 ∨ n = 6 := by
  unfold stW at h
  by_cases h1 : n = 1; · simp [h1]
  by_cases h2 : n = 2; · simp [h2]
  by_cases h3 : n = 3; · simp [h3]
  by_cases h4 : n = 4; · simp [h4]
  by_cases h5 : n = 5; · simp [h5]
  by_cases h6 : n = 6; · simp [h6]
  exact absurd (by simp [h1, h2, h3, h4, h5, h6]) h
 rcases this with rfl | rfl | rfl | rfl | rfl | rfl <;> decide
/-- The first line of an answer is read as that answer, but for its events and ranks. -/
theorem head_back {k : Int} {a : Ans} (h : checkA k a = 0) (hok : AnsOk a) : headA k (firstW k a) = { a with events := [], ranks := [] } := by
 by_cases hc : a.code = 0
 case neg =>
  have he := (check_code h hc).2.2
  unfold headA
  have e1 : firstW k a = errorW :: allW [a.code] := by simp [firstW, hc, allW]
  have hn : numsW (allW [a.code]) = some [a.code] := nums_back _ (fitsCons hok.code fitsNil)
  rw [e1]
  simp only [List.headD_cons, if_true, List.drop_succ_cons, List.drop_zero]
  rw [hn]
  simp only
  rw [he]
  rfl
 have hfine := check_fine h hc
 have hown := rest_own hc (fine_rest hfine)
 have hfst : firstW k a = if k = 1 then jobB :: allW [a.id] else if k = 5 then accountB :: allW [a.id]
   else if k = 9 then jobB :: (allW [a.job.acc, a.job.nodes, a.job.lim, a.job.sub] ++ stW a.job.st :: allW ([a.job.start, a.job.fin] ++ a.job.set))
   else if k = 10 then holderB :: allW [a.holder, a.shadow] else if k = 11 then [usageB, itB a.raw, decB a.usage, decB a.factor]
   else if k = 12 then freeB :: allW [a.free] else if k = 13 then configB :: allW [a.cfg.c0, a.cfg.c1, a.cfg.c2, a.cfg.c3, a.cfg.c4, a.cfg.c5, a.cfg.c6, a.cfg.c7, a.bound] else [okB] := by
  simp [firstW, hc]
 have n1 : jobB ≠ errorW ∧ accountB ≠ errorW ∧ holderB ≠ errorW ∧ usageB ≠ errorW ∧ freeB ≠ errorW ∧ configB ≠ errorW ∧ okB ≠ errorW := by decide
 obtain ⟨m1, m2, m3, m4, m5, m6, m7⟩ := n1
 rw [hfst]
 unfold headA
 conv => rhs; rw [← hown]
 by_cases h1 : k = 1
 ·subst h1
  have hn : numsW (allW [a.id]) = some [a.id] := nums_back _ (fitsCons hok.id fitsNil)
  simp only [if_true, List.headD_cons, if_neg m1, jbB, usB, numsOf, restW]
  simp [hn, tailA, ownA, ownK, hasB, zA]
 by_cases h5 : k = 5
 ·subst h5
  have hn : numsW (allW [a.id]) = some [a.id] := nums_back _ (fitsCons hok.id fitsNil)
  simp only [if_neg h1, if_true, List.headD_cons, if_neg m2, jbB, usB, numsOf, restW]
  simp [hn, tailA, ownA, ownK, hasB, zA]
 by_cases h9 : k = 9
 ·subst h9
  have hst : stN (stW a.job.st) = a.job.st := by
   apply stN_all
   simp only [okA, Bool.and_eq_true] at hfine
   have := hfine.1.1.2
   simp only [if_true, Bool.and_eq_true, decide_eq_true_eq] at this
   exact this.1.2
  have hn : numsW (allW ([a.job.acc, a.job.nodes, a.job.lim, a.job.sub] ++ ([a.job.start, a.job.fin] ++ a.job.set))) = some ([a.job.acc, a.job.nodes, a.job.lim, a.job.sub] ++ ([a.job.start, a.job.fin] ++ a.job.set)) :=
   nums_back _ (fitsCons hok.acc (fitsCons hok.nodes (fitsCons hok.lim (fitsCons hok.sub (fitsCons hok.start (fitsCons hok.fin hok.set))))))
  have happ : ∀ l m, allW (l ++ m) = allW l ++ allW m := fun l m => by simp [allW]
  have hj : jbB 9 (jobB :: (allW [a.job.acc, a.job.nodes, a.job.lim, a.job.sub] ++ stW a.job.st :: allW ([a.job.start, a.job.fin] ++ a.job.set))) = true := by
   simp [jbB, allW]
  simp only [if_neg h1, if_neg h5, if_true, List.headD_cons, if_neg m1, usB]
  rw [hj]
  simp only [numsOf, restW, usB, hj]
  have e2 : ((jobB :: (allW [a.job.acc, a.job.nodes, a.job.lim, a.job.sub] ++ stW a.job.st :: allW ([a.job.start, a.job.fin] ++ a.job.set))).take 5 ++ (jobB :: (allW [a.job.acc, a.job.nodes, a.job.lim, a.job.sub] ++ stW a.job.st :: allW ([a.job.start, a.job.fin] ++ a.job.set))).drop 6).drop 1 = allW ([a.job.acc, a.job.nodes, a.job.lim, a.job.sub] ++ ([a.job.start, a.job.fin] ++ a.job.set)) := by
   simp [allW]
  have e3 : (jobB :: (allW [a.job.acc, a.job.nodes, a.job.lim, a.job.sub] ++ stW a.job.st :: allW ([a.job.start, a.job.fin] ++ a.job.set))).getD 5 ⟨#[]⟩ = stW a.job.st := by simp [allW]
  simp only [show ((9 : Int) == 11) = false from rfl, Bool.false_and, Bool.false_eq_true, if_false, if_true]
  rw [e2, e3, hn, hst]
  simp [tailA, ownA, ownK, hasB, zA]
 by_cases h10 : k = 10
 ·subst h10
  have hn : numsW (allW [a.holder, a.shadow]) = some [a.holder, a.shadow] := nums_back _ (fitsCons hok.holder (fitsCons hok.shadow fitsNil))
  simp only [if_neg h1, if_neg h5, if_neg h9, if_true, List.headD_cons, if_neg m3, jbB, usB, numsOf, restW]
  simp [hn, tailA, ownA, ownK, hasB, zA]
 by_cases h11 : k = 11
 ·subst h11
  have hn : numsW (allW [a.raw]) = some [a.raw] := nums_back _ (fitsCons hok.raw fitsNil)
  have hn2 : numsW [itB a.raw] = some [a.raw] := hn
  simp only [if_neg h1, if_neg h5, if_neg h9, if_neg h10, if_true, List.headD_cons, if_neg m4, jbB, usB, numsOf, restW]
  simp [hn2, tailA, ownA, ownK, hasB, zA, puV_back hok.usage.1 hok.usage.2, puV_back hok.factor.1 hok.factor.2]
 by_cases h12 : k = 12
 ·subst h12
  have hn : numsW (allW [a.free]) = some [a.free] := nums_back _ (fitsCons hok.free fitsNil)
  simp only [if_neg h1, if_neg h5, if_neg h9, if_neg h10, if_neg h11, if_true, List.headD_cons, if_neg m5, jbB, usB, numsOf, restW]
  simp [hn, tailA, ownA, ownK, hasB, zA]
 by_cases h13 : k = 13
 ·subst h13
  have hn : numsW (allW [a.cfg.c0, a.cfg.c1, a.cfg.c2, a.cfg.c3, a.cfg.c4, a.cfg.c5, a.cfg.c6, a.cfg.c7, a.bound]) = some [a.cfg.c0, a.cfg.c1, a.cfg.c2, a.cfg.c3, a.cfg.c4, a.cfg.c5, a.cfg.c6, a.cfg.c7, a.bound] :=
   nums_back _ (fitsCons hok.c0 (fitsCons hok.c1 (fitsCons hok.c2 (fitsCons hok.c3 (fitsCons hok.c4 (fitsCons hok.c5 (fitsCons hok.c6 (fitsCons hok.c7 (fitsCons hok.bound fitsNil)))))))))
  simp only [if_neg h1, if_neg h5, if_neg h9, if_neg h10, if_neg h11, if_neg h12, if_true, List.headD_cons, if_neg m6, jbB, usB, numsOf, restW]
  simp [hn, tailA, ownA, ownK, hasB, zA]
 ·simp only [if_neg h1, if_neg h5, if_neg h9, if_neg h10, if_neg h11, if_neg h12, if_neg h13, List.headD_cons, if_neg m7, jbB, usB, numsOf, restW]
  cases hh : hasB k <;> simp [tailA, ownA, ownK, h1, h5, h9, h10, h11, h12, h13, hh, zA]
def rkB2 (r : Rk) : ByteArray := toB (wordsT [itB r.job, itB r.prio])
theorem rkT_line (r : Rk) : rkT r = (rkB2 r).data.toList ++ [10] := by simp [rkT, rkB2, numsT, wordsT, itB]
/-- An answer's lines. -/
def linesA (k : Int) (a : Ans) : List ByteArray := toB (wordsT (firstW k a)) :: (a.events.map evS ++ a.ranks.map rkB2)
theorem print_lines {k : Int} {a : Ans} (h : checkA k a = 0) : printT k a = (linesA k a).flatMap fun s => s.data.toList ++ [10] := by
 unfold linesA printT
 by_cases hc : a.code = 0
 ·have hr := check_right h hc
  have he : ∀ (es : List Ev), (∀ e ∈ es, right e = true) → evsT es = (es.map evS).flatMap fun s => s.data.toList ++ [10] := by
   intro es
   induction es with
   | nil => intro _; rfl
   | cons e r ih =>
    intro h2
    have h3 := h2 e (by simp)
    have ih2 := ih (fun x hx => h2 x (List.mem_cons_of_mem _ hx))
    simp only [evsT, List.flatMap_cons, List.map_cons] at ih2 ⊢
    rw [ih2]
    congr 1
    unfold evS
    rw [if_pos h3]
  have hk : ∀ (rs : List Rk), rksT rs = (rs.map rkB2).flatMap fun s => s.data.toList ++ [10] := by
   intro rs
   induction rs with
   | nil => rfl
   | cons r l ih =>
    simp only [rksT, List.flatMap_cons, List.map_cons] at ih ⊢
    rw [ih, rkT_line]
  rw [if_neg (by simp [hc]), he _ hr, hk]
  simp only [List.flatMap_cons, List.flatMap_append, toB_data]
  rw [firstW_text, if_neg (by simp [hc])]
  simp
 ·have he := (check_code h hc).2.2
  rw [if_pos hc]
  have e1 : a.events = [] := by rw [he]; rfl
  have e2 : a.ranks = [] := by rw [he]; rfl
  rw [e1, e2]
  simp only [List.map_nil, List.append_nil, List.flatMap_cons, List.flatMap_nil, toB_data]
  rw [firstW_text, if_pos hc]
theorem lines_clean {k : Int} {a : Ans} (h : checkA k a = 0) (he : ∀ e ∈ a.events, right e = true) : ∀ s ∈ linesA k a, (10 : UInt8) ∉ s.data.toList := by
 intro s hs
 unfold linesA at hs
 rcases List.mem_cons.1 hs with rfl | hs
 ·rw [toB_data]; exact wordsT_no10 (firstW_clean k a)
 ·rcases List.mem_append.1 hs with hs | hs
  ·obtain ⟨e, hm, rfl⟩ := List.mem_map.1 hs
   rw [evS_words (he e hm), toB_data]
   exact wordsT_no10 (onlyW_clean (he e hm))
  ·obtain ⟨r, hm, rfl⟩ := List.mem_map.1 hs
   unfold rkB2
   rw [toB_data]
   exact wordsT_no10 (fun x hx => by
    simp only [List.mem_cons, List.not_mem_nil, or_false] at hx
    rcases hx with rfl | rfl <;> exact itB_clean _)
theorem check_events {k : Int} {a : Ans} (h : checkA k a = 0) : ∀ e ∈ a.events, right e = true := by
 by_cases hc : a.code = 0
 ·exact check_right h hc
 ·intro e hm
  rw [(check_code h hc).2.2] at hm
  simp [zA] at hm
theorem rank_back {r : Rk} (h1 : Int64 r.job) (h2 : Int64 r.prio) : rankOf (rkB2 r) = r := by
 have hw : wordsOf (rkB2 r) = allW [r.job, r.prio] := by
  rw [wordsOf_eq]
  exact words_back (by simp) (fun x hx => by
   simp only [List.mem_cons, List.not_mem_nil, or_false] at hx
   rcases hx with rfl | rfl <;> exact itB_clean _)
 unfold rankOf
 rw [hw, nums_back _ (fitsCons h1 (fitsCons h2 fitsNil))]
 rfl
theorem own_events {k : Int} {a : Ans} (h : ownA k a = a) : (hasB k = false → a.events = []) ∧ (k ≠ 10 → a.ranks = []) := by
 constructor
 ·intro hh
  rw [← h]
  unfold ownA
  rw [hh]
  unfold ownK
  simp only [Bool.false_eq_true, if_false]
  repeat' split
  all_goals rfl
 ·intro hk
  rw [← h]
  unfold ownA ownK
  simp only [if_neg hk]
  repeat' split
  all_goals rfl
theorem has10 {k : Int} (h : hasB k = true) : k ≠ 10 := by rintro rfl; revert h; decide
theorem cand_whole {k : Int} {a : Ans} (h : checkA k a = 0) (hok : AnsOk a) : candA k (printS k a) = a ∧ linesB (printS k a) = true := by
 have he := check_events h
 have hp : printS k a = toB ((linesA k a).flatMap fun s => s.data.toList ++ [10]) := by unfold printS; rw [if_pos h, print_lines h]
 obtain ⟨b1, b2⟩ := lines_back (lines_clean h he) (by simp [linesA])
 rw [← hp] at b1 b2
 refine ⟨?_, b2⟩
 unfold candA
 rw [b1]
 have hf : wordsOf ((linesA k a).headD ⟨#[]⟩) = firstW k a := by
  rw [wordsOf_eq]
  exact words_back (firstW_ne k a) (firstW_clean k a)
 rw [hf, head_back h hok]
 have hl : (linesA k a).drop 1 = a.events.map evS ++ a.ranks.map rkB2 := rfl
 rw [hl]
 have hown : (hasB k = false → a.events = []) ∧ (k ≠ 10 → a.ranks = []) := by
  by_cases hc : a.code = 0
  ·exact own_events (rest_own hc (fine_rest (check_fine h hc)))
  ·rw [(check_code h hc).2.2]
   exact ⟨fun _ => rfl, fun _ => rfl⟩
 have h1 : evsOf k (a.events.map evS ++ a.ranks.map rkB2) = a.events := by
  unfold evsOf
  cases hh : hasB k with
  | false => rw [hown.1 hh]; rfl
  | true =>
   rw [hown.2 (has10 hh)]
   simp only [List.map_nil, List.append_nil, if_true, List.map_map]
   conv => rhs; rw [← List.map_id a.events]
   apply List.map_congr_left
   intro e hm
   simp only [Function.comp_apply, id]
   rw [read_back (he e hm) (hok.events e hm)]
 have h2 : rksOf k (a.events.map evS ++ a.ranks.map rkB2) = a.ranks := by
  unfold rksOf
  cases hh : hasB k with
  | true => rw [hown.2 (has10 hh)]; rfl
  | false =>
   rw [hown.1 hh]
   simp only [Bool.false_eq_true, if_false, List.map_nil, List.nil_append, List.map_map]
   by_cases hk : k = 10
   ·rw [if_pos hk]
    conv => rhs; rw [← List.map_id a.ranks]
    apply List.map_congr_left
    intro r hm
    simp only [Function.comp_apply, id]
    exact rank_back (hok.ranks r hm).1 (hok.ranks r hm).2
   ·rw [if_neg hk, hown.2 hk]
 rw [h1, h2]
/-- What was written is read again. -/
theorem parse_back {k : Int} {a : Ans} (h : checkA k a = 0) (hok : AnsOk a) : parseA k (printS k a) = (a, 0) := by
 obtain ⟨h1, h2⟩ := cand_whole h hok
 unfold parseA
 rw [h1, if_pos ⟨h2, h, rfl⟩]
theorem cut_sum (c : UInt8) : ∀ (l : List UInt8), ((cutC c l).map List.length).sum + (cutC c l).length = l.length + 1
 | [] => by simp [cutC]
 | x :: l => by
  have ih := cut_sum c l
  unfold cutC
  split
  ·simp; omega
  ·cases hr : cutC c l with
   | nil => exact absurd hr (cutC_ne c l)
   | cons a r => rw [hr] at ih; simp at ih ⊢; omega
theorem wordsC_sum (c : UInt8) (s : ByteArray) : ((wordsC c s).map (·.size)).sum + (wordsC c s).length = s.size + 1 := by
 have h := cut_sum c s.data.toList
 unfold wordsC
 rw [List.map_map, List.length_map]
 have e : (cutC c s.data.toList).map ((fun x : ByteArray => x.size) ∘ toB) = (cutC c s.data.toList).map List.length := by
  apply List.map_congr_left
  intro l _
  exact toB_size l
 rw [e, h, Array.length_toList]
 rfl
theorem sum_dropLast : ∀ (l : List Nat), l.dropLast.sum ≤ l.sum
 | [] => by simp
 | [x] => by simp
 | x :: y :: r => by
  have := sum_dropLast (y :: r)
  simp only [List.dropLast_cons_cons, List.sum_cons] at this ⊢
  omega
theorem lines_sum (t : ByteArray) : ((linesW t).map (·.size)).sum + (linesW t).length ≤ t.size + 1 := by
 have h := wordsC_sum 10 t
 unfold linesW
 rw [List.map_dropLast, List.length_dropLast]
 have := sum_dropLast ((wordsC 10 t).map (·.size))
 omega
theorem lines_size (t : ByteArray) : ∀ s ∈ linesW t, s.size ≤ t.size := fun s hs => wordsC_size 10 t s (by unfold linesW at hs; rw [List.dropLast_eq_take] at hs; exact List.mem_of_mem_take hs)
theorem readE_len (s : ByteArray) : (evT (readE s).1).length ≤ s.size := by
 unfold readE
 cases candW (wordsOf s) with
 | none => exact Nat.zero_le _
 | some e =>
  simp only
  split
  ·rename_i h
   rw [← h.2]
   unfold evS
   rw [if_pos h.1]
   simp [ByteArray.size]
  ·exact Nat.zero_le _
theorem evsT_reads : ∀ (ls : List ByteArray), (evsT (ls.map fun s => (readE s).1)).length ≤ (ls.map (·.size)).sum + ls.length
 | [] => by simp [evsT]
 | s :: r => by
  have ih := evsT_reads r
  have h := readE_len s
  simp only [evsT, List.map_cons, List.flatMap_cons, List.length_append, List.length_cons, List.length_nil, List.sum_cons] at ih ⊢
  omega
theorem readE_ok {s : ByteArray} (hs : s.size ≤ 1000000000) : EvOk (readE s).1 := by
 unfold readE
 cases hc : candW (wordsOf s) with
 | none => exact evOk_zero
 | some e =>
  simp only
  split
  ·unfold candW at hc
   cases hn : numsW ((cutEnd (wordsOf s)).1.drop 1) with
   | none => rw [hn] at hc; cases hc
   | some n =>
    rw [hn] at hc
    obtain rfl := Option.some.inj hc
    have hb : 0 ≤ (cutEnd (wordsOf s)).2 ∧ (cutEnd (wordsOf s)).2 ≤ 6 := by
     unfold cutEnd
     split
     ·exact stN_bounds _
     ·exact ⟨by simp, by simp⟩
    have hl := numsW_len _ _ hn
    have hw : (wordsOf s).length ≤ s.size + 1 := by rw [wordsOf_eq]; exact wordsC_most 32 s
    have hle : (cutEnd (wordsOf s)).1.length ≤ (wordsOf s).length := by
     unfold cutEnd
     split
     ·rw [List.length_take]; omega
     ·exact Nat.le_refl _
    refine evOk_of (numsW_fits _ _ hn) ?_ hb.1 hb.2
    rw [hl, List.length_drop]
    omega
  ·exact evOk_zero
theorem puV_bounds (s : ByteArray) : 0 ≤ puV s ∧ puV s < 18446744073709551616 := by
 unfold puV
 cases h : Lib.parseMag s.data.toList with
 | ok u =>
  have := Lib.parseMag_lt h
  simp only
  omega
 | «syntax» => simp
 | range => simp
theorem int0 : Int64 0 := ⟨by decide, by decide⟩
theorem tail_ok {k st us fa : Int} {n : List Int} (hf : Fits n) (hl : n.length ≤ 4294967296) (hst : Int64 st) (hu : 0 ≤ us ∧ us < 18446744073709551616) (hfa : 0 ≤ fa ∧ fa < 18446744073709551616) : AnsOk (tailA k st us fa n) := by
 have g : ∀ i, Int64 (n.getD i 0) := fun i => fits_getD hf i
 have g6 : Fits (n.drop 6) := fun m hm => hf m (List.mem_of_mem_drop hm)
 have l6 : (n.drop 6).length ≤ 4294967296 := by rw [List.length_drop]; omega
 have u0 : (0 : Int) ≤ 0 ∧ (0 : Int) < 18446744073709551616 := by decide
 have z0 : ([] : List Int).length ≤ 4294967296 := by simp
 have ze : ([] : List Ev).length ≤ 4294967296 := by simp
 have zr : ([] : List Rk).length ≤ 4294967296 := by simp
 have e0 : ∀ e ∈ ([] : List Ev), EvOk e := fun e h => by simp at h
 have r0 : ∀ r ∈ ([] : List Rk), Int64 r.job ∧ Int64 r.prio := fun r h => by simp at h
 unfold tailA
 repeat' split
 all_goals
  constructor <;> first | exact int0 | exact g _ | exact hst | exact hu | exact hfa | exact g6 | exact l6 | exact u0 | exact z0 | exact ze | exact zr | exact e0 | exact r0 | exact fitsNil
theorem stN_int (s : ByteArray) : Int64 (stN s) := by
 have := stN_bounds s
 exact ⟨by omega, by omega⟩
theorem nums_ok (ws : List ByteArray) : Fits ((numsW ws).getD []) ∧ ((numsW ws).getD []).length ≤ ws.length := by
 cases h : numsW ws with
 | none => exact ⟨fitsNil, by simp⟩
 | some l => exact ⟨numsW_fits _ _ h, by simp [numsW_len _ _ h]⟩
theorem restW_len (k : Int) (ws : List ByteArray) : (restW k ws).length ≤ ws.length := by
 unfold restW
 split
 ·rw [List.length_take]; omega
 ·split
  ·rw [List.length_append, List.length_take, List.length_drop]; omega
  ·exact Nat.le_refl _
theorem head_fits {k : Int} {ws : List ByteArray} (hl : ws.length ≤ 4294967296) : AnsOk (headA k ws) ∧ (headA k ws).job.set.length ≤ ws.length := by
 unfold headA
 have z : AnsOk zA := tail_ok (k := 0) (st := 0) (us := 0) (fa := 0) (n := []) fitsNil (by simp) int0 (by decide) (by decide)
 split
 ·split
  ·rename_i n hn
   refine ⟨?_, by simp [zA, zJ]⟩
   obtain ⟨a1, a2, a3, a4, a5, a6, a7, a8, a9, a10, a11, a12, a13, a14, a15, a16, a17, a18, a19, a20, a21, a22, a23, a24, a25, a26, a27, a28, a29, a30⟩ := z
   exact ⟨numsW_fits _ _ hn n (by simp), a2, a3, a4, a5, a6, a7, a8, a9, a10, a11, a12, a13, a14, a15, a16, a17, a18, a19, a20, a21, a22, a23, a24, a25, a26, a27, a28, a29, a30⟩
  ·exact ⟨z, by simp [zA, zJ]⟩
 ·obtain ⟨h1, h2⟩ := nums_ok ((restW k ws).drop 1)
  have h3 := restW_len k ws
  rw [List.length_drop] at h2
  have hu : ∀ i, 0 ≤ (if usB k ws then puV (ws.getD i ⟨#[]⟩) else 0) ∧ (if usB k ws then puV (ws.getD i ⟨#[]⟩) else 0) < 18446744073709551616 := fun i => by
   split
   ·exact puV_bounds _
   ·decide
  refine ⟨tail_ok h1 (by show ((numsW ((restW k ws).drop 1)).getD []).length ≤ _; omega) ?_ (hu 2) (hu 3), ?_⟩
  ·split
   ·exact stN_int _
   ·exact int0
  ·unfold tailA
   repeat' split
   all_goals first
    | (simp [zA, zJ]; done)
    | (simp only [List.length_drop]; show ((numsW ((restW k ws).drop 1)).getD []).length - 6 ≤ _; omega)
theorem rank_fits (s : ByteArray) : Int64 (rankOf s).job ∧ Int64 (rankOf s).prio := by
 have h : Fits ((numsW (wordsOf s)).getD [] ++ [-1, -1]) := fun m hm => by
  rcases List.mem_append.1 hm with hm | hm
  ·exact (nums_ok _).1 m hm
  ·simp at hm
   omega
 exact ⟨fits_getD h 0, fits_getD h 1⟩
theorem cand_fits {k : Int} {t : ByteArray} (ht : t.size ≤ 1000000000) : AnsOk (candA k t) ∧ (candA k t).job.set.length ≤ 1000000001 := by
 have hl : (linesW t).length ≤ t.size + 1 := by have := lines_sum t; omega
 have hs : ((linesW t).headD ⟨#[]⟩).size ≤ t.size := by
  cases h : linesW t with
  | nil => exact Nat.zero_le _
  | cons x r => exact lines_size t x (by rw [h]; simp)
 have hw : (wordsOf ((linesW t).headD ⟨#[]⟩)).length ≤ t.size + 1 := by
  rw [wordsOf_eq]
  have := wordsC_most 32 ((linesW t).headD ⟨#[]⟩)
  omega
 obtain ⟨z, zl⟩ := head_fits (k := k) (ws := wordsOf ((linesW t).headD ⟨#[]⟩)) (by omega)
 refine ⟨?_, by show (headA k _).job.set.length ≤ _; omega⟩
 obtain ⟨a1, a2, a3, a4, a5, a6, a7, a8, a9, a10, a11, a12, a13, a14, a15, a16, a17, a18, a19, a20, a21, a22, a23, a24, a25, a26, a27, a28, a29, a30⟩ := z
 have hE : ∀ e ∈ evsOf k ((linesW t).drop 1), EvOk e := fun e he => by
  unfold evsOf at he
  split at he
  ·obtain ⟨s, hs2, rfl⟩ := List.mem_map.1 he
   exact readE_ok (by have := lines_size t s (List.mem_of_mem_drop hs2); omega)
  ·simp at he
 have hEl : (evsOf k ((linesW t).drop 1)).length ≤ 4294967296 := by
  unfold evsOf
  split
  ·rw [List.length_map, List.length_drop]; omega
  ·simp
 have hR : ∀ r ∈ rksOf k ((linesW t).drop 1), Int64 r.job ∧ Int64 r.prio := fun r hr => by
  unfold rksOf at hr
  split at hr
  ·simp at hr
  ·split at hr
   ·obtain ⟨s, -, rfl⟩ := List.mem_map.1 hr
    exact rank_fits s
   ·simp at hr
 have hRl : (rksOf k ((linesW t).drop 1)).length ≤ 4294967296 := by
  unfold rksOf
  split
  ·simp
  ·split
   ·rw [List.length_map, List.length_drop]; omega
   ·simp
 exact ⟨a1, a2, hE, hEl, a5, a6, a7, a8, a9, a10, a11, a12, a13, hR, hRl, a16, a17, a18, a19, a20, a21, a22, a23, a24, a25, a26, a27, a28, a29, a30⟩
theorem dec_most (n : Int) (h0 : 0 ≤ n) (h1 : n < 18446744073709551616) : (Lib.decDigits n.toNat).length ≤ 20 := dec_len 19 n.toNat (by omega)
theorem firstT_most {k : Int} {a : Ans} (h : AnsOk a) : (firstT k a).length ≤ 300 + 22 * a.job.set.length := by
 have n1 := numsT_len [a.id] (fitsCons h.id fitsNil)
 have n2 := numsT_len [a.job.acc, a.job.nodes, a.job.lim, a.job.sub] (fitsCons h.acc (fitsCons h.nodes (fitsCons h.lim (fitsCons h.sub fitsNil))))
 have n3 := numsT_len [a.job.start, a.job.fin] (fitsCons h.start (fitsCons h.fin fitsNil))
 have n4 := numsT_len a.job.set h.set
 have n5 := numsT_len [a.holder, a.shadow] (fitsCons h.holder (fitsCons h.shadow fitsNil))
 have n6 := numsT_len [a.raw] (fitsCons h.raw fitsNil)
 have n7 := numsT_len [a.free] (fitsCons h.free fitsNil)
 have n8 := numsT_len [a.cfg.c0, a.cfg.c1, a.cfg.c2, a.cfg.c3, a.cfg.c4, a.cfg.c5, a.cfg.c6, a.cfg.c7, a.bound] (fitsCons h.c0 (fitsCons h.c1 (fitsCons h.c2 (fitsCons h.c3 (fitsCons h.c4 (fitsCons h.c5 (fitsCons h.c6 (fitsCons h.c7 (fitsCons h.bound fitsNil)))))))))
 have d1 := dec_most a.usage h.usage.1 h.usage.2
 have d2 := dec_most a.factor h.factor.1 h.factor.2
 have s1 : (stW a.job.st).data.toList.length ≤ 9 := stW_size a.job.st
 simp only [List.length_cons, List.length_nil] at n1 n2 n3 n5 n6 n7 n8
 unfold firstT
 repeat' split
 all_goals
  simp only [List.length_append, List.length_cons, List.length_nil]
  omega
theorem rksT_most : ∀ (rs : List Rk), (∀ r ∈ rs, Int64 r.job ∧ Int64 r.prio) → (rksT rs).length ≤ 45 * rs.length
 | [], _ => by simp [rksT]
 | r :: l, h => by
  have ih := rksT_most l (fun x hx => h x (List.mem_cons_of_mem _ hx))
  have h1 := h r (by simp)
  have n := numsT_len [r.job, r.prio] (fitsCons h1.1 (fitsCons h1.2 fitsNil))
  simp only [List.length_cons, List.length_nil] at n
  simp only [rksT, List.flatMap_cons, List.length_append, List.length_cons] at ih ⊢
  have e : (rkT r).length ≤ 45 := by
   unfold rkT
   rw [List.length_append, List.length_drop]
   simp only [List.length_cons, List.length_nil]
   omega
  omega
theorem cand_print {k : Int} {t : ByteArray} (ht : t.size ≤ 1000000000) : (printT k (candA k t)).length ≤ 140737488355328 := by
 obtain ⟨hok, hset⟩ := cand_fits (k := k) ht
 have hl := lines_sum t
 have he : (evsT (candA k t).events).length ≤ 1000000001 := by
  show (evsT (evsOf k ((linesW t).drop 1))).length ≤ _
  unfold evsOf
  split
  ·have h1 := evsT_reads ((linesW t).drop 1)
   have h2 : (((linesW t).drop 1).map (·.size)).sum ≤ ((linesW t).map (·.size)).sum := by
    cases linesW t with
    | nil => simp
    | cons x r => simp
   rw [List.length_drop] at h1
   omega
  ·simp [evsT]
 have hr : (rksT (candA k t).ranks).length ≤ 45000000045 := by
  have h1 := rksT_most (candA k t).ranks hok.ranks
  have h2 : (candA k t).ranks.length ≤ 1000000001 := by
   show (rksOf k ((linesW t).drop 1)).length ≤ _
   unfold rksOf
   split
   ·simp
   ·split
    ·rw [List.length_map, List.length_drop]; omega
    ·simp
  omega
 have hf := firstT_most (k := k) hok
 have hn := numsT_len [(candA k t).code] (fitsCons hok.code fitsNil)
 simp only [List.length_cons, List.length_nil] at hn
 unfold printT
 split
 ·simp only [List.length_append, List.length_cons, List.length_nil]
  omega
 ·simp only [List.length_append, List.length_cons, List.length_nil]
  omega
end Go.Proofs.An
namespace Go.Proofs.HL
open Go.RowKit
theorem HL.setCells {w0 : World} {L : List At} {base g n c : Nat} {E : TypeId} : ∀ (cs : List Value) (o : Nat) (xs : List Value) (w : World), HL w0 w (row base E 1 (.slice (some ⟨g, 0, none⟩) n c) n xs :: L) → o + cs.length ≤ xs.length →
  HL w0 (w.setCells g o cs) (row base E 1 (.slice (some ⟨g, 0, none⟩) n c) n (xs.take o ++ cs ++ xs.drop (o + cs.length)) :: L)
 | [], o, xs, w, H, _ => by simpa [World.setCells] using H
 | v :: r, o, xs, w, H, hl => by
  simp only [List.length_cons] at hl
  have h1 := HL.setCells r (o + 1) (xs.set o v) _ (H.setRow o v) (by simp; omega)
  show HL w0 ((w.setCell ⟨g, o, none⟩ v).setCells g (o + 1) r) _
  have e : (xs.set o v).take (o + 1) ++ r ++ (xs.set o v).drop (o + 1 + r.length) = xs.take o ++ v :: r ++ xs.drop (o + (v :: r).length) := by
   have e1 : (xs.set o v).take (o + 1) = xs.take o ++ [v] := by
    rw [List.take_add_one, List.take_set_of_le (Nat.le_refl _), List.getElem?_set_self (by omega)]
    rfl
   have e2 : (xs.set o v).drop (o + 1 + r.length) = xs.drop (o + 1 + r.length) := by rw [List.drop_set_of_lt (by omega)]
   rw [e1, e2]
   simp [show o + (r.length + 1) = o + 1 + r.length by omega]
  rw [e] at h1
  exact h1
theorem ownsRow_lower {w : World} {a b k n : Nat} {E : TypeId} {v : Value} {xs : List Value} (h : w.ownsRow a E k v n xs) (hab : b ≤ a) : w.ownsRow b E k v n xs := by
 obtain ⟨h1, h2⟩ := h
 rcases h2 with h2 | ⟨g, cap, cur, e1, e2, e3⟩
 ·exact ⟨h1, .inl h2⟩
 ·exact ⟨h1, .inr ⟨g, cap, cur, e1, by omega, e3⟩⟩
end Go.Proofs.HL
namespace Go.Proofs.YtdekbbffoaphhaaGreatDoor
open Go.RowKit Go.Proofs.HL Go.Proofs.An
section
variable {w0 w : World} {L : List At}
theorem pu_ok (hD : Doors w0) (H : HL w0 w L) (s : ByteArray) (hs : s.size ≤ 140737488351232) :
  Calls Tryz.prog 59 #[.string s, .int .i64 10, .int .i64 64] w fun e w' => ∃ x, e = .returned (.tuple #[.int .u64 (puV s), x]) ∧ HL w0 w' L := by
 obtain ⟨-, -, ⟨t1, p1, h1⟩, ⟨t2, p2, h2⟩, -⟩ := hD.keep H
 have e64 := Lib.parseUintB_64 s.data.toList
 unfold puV
 cases hA : Lib.parseMag s.data.toList with
 | ok u =>
  rw [hA] at e64
  refine (Tryz.strconv_ParseUint_10_at64_ok s (by omega) u e64 w).mono ?_
  rintro e w' ⟨rfl, rfl | rfl⟩
  ·exact ⟨_, rfl, H⟩
  ·exact ⟨_, rfl, HL.ofBelow H (Lib.bytesWorld_below w _ _)⟩
 | «syntax» =>
  rw [hA] at e64
  refine (Tryz.strconv_ParseUint_10_at64_syntax_var s (by omega) e64 t1 p1 w h1).mono ?_
  rintro e w' ⟨N, rfl, -, -, hb⟩
  exact ⟨_, rfl, HL.ofBelow H hb⟩
 | range =>
  rw [hA] at e64
  refine (Tryz.strconv_ParseUint_10_at64_range_var s (by omega) e64 t2 p2 w h2).mono ?_
  rintro e w' ⟨N, rfl, -, -, hb⟩
  exact ⟨_, rfl, HL.ofBelow H hb⟩
theorem clone_ok (H : HL w0 w L) {A : Option Addr} {c : Nat} {l : List Int} (h : Rd 1 (.slice A l.length c) l.length (intC l) w) (hl : l.length ≤ 4294967296) :
  Calls Tryz.prog 64 #[.slice A l.length c] w fun e w' => ∃ A' c', e = .returned (.slice A' l.length c') ∧ HL w0 w' (intsR w0.heap.size (.slice A' l.length c') l :: L) := by
 have fresh : ∀ (W : World) (v' : Value), W.ownsRow w.heap.size 3 1 v' l.length (intC l) → Below w.heap.size w W → ∃ A' c', v' = .slice A' l.length c' ∧ HL w0 W (intsR w0.heap.size (.slice A' l.length c') l :: L) := fun W v' hr hb => by
  have hs : ∃ A' c', v' = .slice A' l.length c' := by
   rcases hr.2 with ⟨rfl, e⟩ | ⟨g, cap, cur, rfl, -⟩
   ·exact ⟨none, 0, by rw [e]⟩
   ·exact ⟨_, _, rfl⟩
  obtain ⟨A', c', rfl⟩ := hs
  refine ⟨A', c', rfl, H.new (A' := intsR w0.heap.size (.slice A' l.length c') l) ⟨hb.os, hb.tape, hb.output, hb.size, fun k hk _ => hb.block k hk⟩ (ownsRow_lower hr H.size) (fun b e => ?_)⟩
  exact (hr.lt b e).1
 by_cases h0 : l = []
 ·subst h0
  cases A with
  | none =>
   refine (Tryz.slices_Clone_int_nil 0 c w).mono ?_
   rintro e w' ⟨rfl, rfl⟩
   exact ⟨none, 0, rfl, H.nilRow _ _ _⟩
  | some a =>
   refine (Tryz.slices_Clone_int_zero a c w).mono ?_
   rintro e w' ⟨v', rfl, hr, -, hb⟩
   obtain ⟨A', c', rfl, hh⟩ := fresh w' v' hr hb
   exact ⟨A', c', rfl, hh⟩
 ·obtain ⟨b, o, c2, hv, hc1, hc2, hcell⟩ := rd_plain h (by simpa using h0)
  simp only [Value.slice.injEq] at hv
  obtain ⟨rfl, -, rfl⟩ := hv
  refine (Tryz.slices_Clone_int b o l.length c l w (Nat.le_refl _) (by omega) (fun j hj => hcell j _ (by simp [List.getElem?_eq_getElem hj]))).mono ?_
  rintro e w' ⟨v', rfl, hr, -, hb⟩
  rw [List.take_length] at hr
  obtain ⟨A', c', rfl, hh⟩ := fresh w' v' hr hb
  exact ⟨A', c', rfl, hh⟩
theorem delete_ok {b c i j : Nat} {xs : List ByteArray} (H : HL w0 w (strs w0.heap.size (.slice (some ⟨b, 0, none⟩) xs.length c) xs :: L)) (hij : i ≤ j) (hj : j ≤ xs.length) :
  Calls Tryz.prog 60 #[.slice (some ⟨b, 0, none⟩) xs.length c, .int .i64 i, .int .i64 j] w fun e w' => e = .returned (.slice (some ⟨b, 0, none⟩) (xs.length - (j - i)) c) ∧
   ∃ ys : List ByteArray, ys.length = xs.length ∧ ys.take (xs.length - (j - i)) = xs.take i ++ xs.drop j ∧ HL w0 w' (strs w0.heap.size (.slice (some ⟨b, 0, none⟩) xs.length c) ys :: L) := by
 obtain ⟨A, cc, hv, -, hc1, hc2⟩ := row_shape (show w.ownsRow w0.heap.size 9 1 (.slice (some ⟨b, 0, none⟩) xs.length c) xs.length (strC xs) from H.head)
 simp only [Value.slice.injEq] at hv
 obtain ⟨-, -, rfl⟩ := hv
 unfold maxLen at hc2
 refine (Tryz.slices_Delete_string_cells b 0 xs.length c i j (fun i => xs.getD i ⟨#[]⟩) w hc1 (by omega) hij hj (fun i hi => ?_) (fun j hj => ?_)).mono ?_
 ·rw [Nat.zero_add]
  exact H.rowCell (E := 9) (k := 1) (List.mem_cons_self ..) i _ (by simp [List.getElem?_eq_getElem hi])
 ·rw [Nat.zero_add]
  exact H.rowFrozen (E := 9) (k := 1) (xs := strC xs) (List.mem_cons_self ..) j
 ·rintro e w' ⟨rfl, q, rfl⟩
  have hsx : Lib.strsOf (fun i => xs.getD i ⟨#[]⟩) xs.length = xs.map (·.data.toList) := by
   unfold Lib.strsOf
   apply List.ext_getElem
   ·simp
   ·intro k h1 h2
    simp at h2
    simp [List.getElem?_eq_getElem h2]
  have hys : ((Lib.strsOf (fun i => xs.getD i ⟨#[]⟩) xs.length).take i ++ (Lib.strsOf (fun i => xs.getD i ⟨#[]⟩) xs.length).drop j ++ List.replicate (j - i) []).map encStr = strC (xs.take i ++ xs.drop j ++ List.replicate (j - i) ⟨#[]⟩) := by
   rw [hsx]
   simp [encStr, List.map_take, List.map_drop, Function.comp_def]
   try rfl
  have hlen : (xs.take i ++ xs.drop j ++ List.replicate (j - i) (⟨#[]⟩ : ByteArray)).length = xs.length := by simp; omega
  refine ⟨rfl, xs.take i ++ xs.drop j ++ List.replicate (j - i) ⟨#[]⟩, hlen, ?_, ?_⟩
  ·have : (xs.take i ++ xs.drop j).length = xs.length - (j - i) := by simp; omega
   rw [← this]
   exact List.take_left
  ·rw [hys]
   have h2 := HL.setCells (strC (xs.take i ++ xs.drop j ++ List.replicate (j - i) ⟨#[]⟩)) 0 (strC xs) _ (H.drewN q) (by rw [Nat.zero_add, List.length_map, hlen, List.length_map]; exact Nat.le_refl _)
   rw [List.take_zero, List.nil_append, Nat.zero_add, List.length_map, hlen, show (strC xs).drop xs.length = [] from List.drop_of_length_le (by rw [List.length_map]; exact Nat.le_refl _), List.append_nil] at h2
   unfold strs
   rw [hlen]
   exact h2
end
end Go.Proofs.YtdekbbffoaphhaaGreatDoor
namespace Go.Proofs.HL
open Go.RowKit
theorem zeroC_eq {z : Value} (hz : z.cells = #[.int .i64 0]) (m : Nat) : (Builtin.zeroCells z.cells m).toList = List.replicate m (.int .i64 0) := by
 rw [hz]
 unfold Builtin.zeroCells
 apply List.ext_getElem
 ·simp
 ·intro i h1 h2
  simp [Nat.mod_one]
section
variable {P : Program} (w : World)
theorem run_append_zeros_at (base : Nat) (t ti ty e : TypeId) (i : TypeInfo) (z : Value) (bytes : Nat) (ht : P.underlying t = some (.slice e)) (hti : P.underlying ti = some (.int .i64)) (hi : P.info? e = some i) (hz : i.zero = some z)
  (hsize : i.size = 1) (hby : i.bytes = bytes) (hzs : z.cells = #[.int .i64 0])
  (v : Value) (n : Nat) (xs : List Value) (hown : w.ownsRow base e 1 v n xs) (m : Nat) (hm0 : 0 < m) (hm : m ≤ 1000)
  (hn : n ≤ 4294967296) (hb8 : bytes ≤ 8) (hbase : base ≤ w.heap.size) :
  ∃ v' w', (Builtin.append_ #[t, ti] ty #[v, .int .i64 m]).run P w = .ok v' w' ∧ w'.ownsRow base e 1 v' (n + m) (xs ++ List.replicate m (.int .i64 0)) ∧ w.grownBy w' v.ownBlock ∧ (v'.ownBlock = v.ownBlock ∨ v'.ownBlock = some w.heap.size) := by
 subst hby
 have hw : IntKind.i64.wrap (m : Int) = m := by rw [IntWalk.i64_in] <;> omega
 have hl0 : ¬ ((m : Int) < 0) := by omega
 have hmb : (m : Int) * (i.bytes : Int) ≤ 8000 := by
  have : m * i.bytes ≤ 1000 * 8 := Nat.mul_le_mul hm hb8
  omega
 have hbig : ¬ ((2 : Int) ^ 48 < (m : Int) * (i.bytes : Int)) := by
  have : (2 : Int) ^ 48 = 281474976710656 := by decide
  omega
 have hbig2 : ¬ ((281474976710656 : Int) < (m : Int) * (i.bytes : Int)) := by omega
 have hm1 : ¬ (m * 1 = 0) := by omega
 have hm2 : ¬ m = 0 := by omega
 have hm3 : ¬ ((m : Int) ≤ 0) := by omega
 have hm4 : max (m : Int) 0 = m := by omega
 have ha : ∀ w', (asIntOf (.int .i64 (m : Int))).run P w' = .ok (.i64, (m : Int)) w' := fun _ => rfl
 have hzc := zeroC_eq hzs m
 have hlen : (xs ++ List.replicate m (Value.int .i64 0)).length = (n + m) * 1 := by rw [List.length_append, hown.1, List.length_replicate]; omega
 have h63 : n + m ≤ maxLen := by unfold maxLen; omega
 have hcap : ∀ old, old < n + m → ¬ (281474976710656 < Builtin.nextslicecap (n + m) old * i.bytes) := fun old ho => by
  have h1 := nextslicecap_le ho
  have h2 : Builtin.nextslicecap (n + m) old * i.bytes ≤ (2 * (n + m)) * 8 := Nat.mul_le_mul h1 hb8
  omega
 have grown : ∀ (old : Nat), old < n + m → ∀ (row : Option Nat),
   (w.drew.alloc (.cells (xs.toArray ++ (Builtin.zeroCells z.cells m) ++ Builtin.zeroCells z.cells (grownCap w (n + m) old e - (n + m))) e)).ownsRow base e 1
    (.slice (some ⟨w.heap.size, 0, none⟩) (n + m) (grownCap w (n + m) old e)) (n + m) (xs ++ List.replicate m (.int .i64 0)) ∧
   w.grownBy (w.drew.alloc (.cells (xs.toArray ++ (Builtin.zeroCells z.cells m) ++ Builtin.zeroCells z.cells (grownCap w (n + m) old e - (n + m))) e)) row := by
  intro old ho row
  have hge := grownCap_ge w (n + m) old e
  have hcm : grownCap w (n + m) old e ≤ maxLen := grownCap_le_maxLen w (n + m) old e h63
  refine ⟨⟨hlen, .inr ⟨w.heap.size, _, _, rfl, hbase, heap_alloc_new w.drew _, hge, hcm, ?_, ?_⟩⟩, ⟨rfl, rfl, rfl, by simp, fun k hk _ => by first | exact Go.heap_alloc_old w.drew _ k hk | exact heap_alloc_old w.drew _ hk⟩⟩
  ·have hz1 : z.cells.size = 1 := by rw [hzs]; rfl
   have := hown.1
   simp only [Array.size_append, List.size_toArray, size_zeroCells, hz1]
   omega
  ·simp only [Array.toList_append, List.append_assoc, hzc]
   rw [← List.append_assoc, ← hlen]
   exact List.take_left
 rcases hown.2 with ⟨rfl, rfl⟩ | ⟨g, cap, cur, rfl, hbg, hg, hnc, hcm, hcs, htake⟩
 ·obtain rfl : xs = [] := List.eq_nil_of_length_eq_zero (by simpa using hown.1)
  have hgr := grown 0 (by omega) (Value.ownBlock (.slice none 0 0))
  have hc0 := hcap 0 (by omega)
  have h63' : ¬ (9223372036854775807 < (m : Int)) := by omega
  simp only [Nat.zero_add] at hgr hc0
  simp only [Nat.zero_add, List.nil_append, Array.empty_append] at hgr ⊢
  refine ⟨_, _, ?_, hgr.1, hgr.2, .inr rfl⟩
  simp [Builtin.append_, run_underlying ht, run_underlying hti, sizeOf, typeInfo, zeroValue, hi, hz, hsize, asInt, ha, hw, hl0, hbig, hbig2, hm1, hm2, hm3, hm4, hc0, h63', Question.forced, run_firstCells_none, newRow, grownCap]
 ·by_cases hroom : n + m ≤ cap
  ·have hfit : n * 1 + (List.replicate m (Value.int .i64 0)).length ≤ cur.size := by rw [hcs, List.length_replicate]; omega
   have hst := run_storeCells_at P g n e (Builtin.zeroCells z.cells m).toList 0 cur w hg (by rw [hzc, List.length_replicate, hcs]; omega) (by rw [hzc]; intro u hu; rw [List.eq_of_mem_replicate hu]; rfl)
   simp only [Nat.add_zero] at hst
   refine ⟨.slice (some ⟨g, 0, none⟩) (n + m) cap, w.setRow g (cur.toList.take n ++ (Builtin.zeroCells z.cells m).toList ++ cur.toList.drop (n + (Builtin.zeroCells z.cells m).toList.length)).toArray, ?_, ⟨hlen, .inr ⟨g, cap, _, rfl, hbg, setRow_heap w g cur _ e _ hg, hroom, hcm, ?_, ?_⟩⟩, ⟨rfl, rfl, rfl, by simp, fun k _ hk => setRow_other w g k _ (fun e => hk (by simp [Value.ownBlock, e]))⟩, .inl rfl⟩
   ·simp [Builtin.append_, run_underlying ht, run_underlying hti, sizeOf, typeInfo, zeroValue, hi, hz, hsize, asInt, ha, hw, hl0, hbig, hbig2, hm1, hm2, hm3, hm4, hroom, Addr.add_lit] at hst ⊢
    rw [hst]
    simp
   ·rw [hzc]
    simp only [List.size_toArray, List.length_append, List.length_take, List.length_drop, Array.length_toList, List.length_replicate]
    rw [hcs] at *
    omega
   ·rw [Nat.mul_one] at htake
    rw [htake, hzc, ← hlen]
    exact List.take_left
  ·have hgr := grown cap (by omega) (Value.ownBlock (.slice (some ⟨g, 0, none⟩) n cap))
   have holds : ∀ j u, xs[j]? = some u → w.cell? ((⟨g, 0, none⟩ : Addr).add j) = some u := hown.cells (g := g) rfl
   have hfo := run_firstCells_some (P := P) w.drew 1 n ⟨g, 0, none⟩ n cap xs hown.1 (by simpa using holds)
   have hc0 := hcap cap (by omega)
   have h63' : ¬ (9223372036854775807 < ((n : Int) + (m : Int))) := by omega
   refine ⟨_, _, ?_, hgr.1, hgr.2, .inr rfl⟩
   simp [Builtin.append_, run_underlying ht, run_underlying hti, sizeOf, typeInfo, zeroValue, hi, hz, hsize, asInt, ha, hw, hl0, hbig, hbig2, hm1, hm2, hm3, hm4, hroom, hc0, h63', Question.forced, hfo, newRow, grownCap]
end
theorem wpList_append_zeros {P : Program} {ops : Array Oper} {rest : List Oper} {o : Oper} {a : Act} {Q : Exit → Act → World → Prop} {w0 w : World} {L : List At} {t ti E : TypeId} {bytes : Nat} (ht : P.underlying t = some (.slice E)) (hti : P.underlying ti = some (.int .i64))
  (hinf : (P.info? E).map (fun i => (i.zero, i.size, i.bytes)) = some (some (.int .i64 0), 1, bytes)) (hb8 : bytes ≤ 8) (hgd : o.guard = none) (s x : Operand) (ho : o.op = .call { callee := .builtin .append, args := #[s, x], argTypes := #[t, ti] })
  {v : Value} {n m : Nat} {xs : List Value} (H : HL w0 w (row w0.heap.size E 1 v n xs :: L)) (hs : a.eval s = v) (hx : a.eval x = .int .i64 m) (hm0 : 0 < m) (hm : m ≤ 1000) (hn : n ≤ 4294967296)
  (h : ∀ v' w', HL w0 w' (row w0.heap.size E 1 v' (n + m) (xs ++ List.replicate m (.int .i64 0)) :: L) → wpList P ops Q rest (a.put o.dst v') w') : wpList P ops Q (o :: rest) a w := by
 cases e : P.info? E with
 | none => rw [e] at hinf; cases hinf
 | some i =>
  rw [e] at hinf
  simp only [Option.map_some, Option.some.injEq, Prod.mk.injEq] at hinf
  obtain ⟨v', w', hrun, hown, hgrow, hat⟩ := run_append_zeros_at (P := P) w w0.heap.size t ti o.type E i (.int .i64 0) bytes ht hti e hinf.1 hinf.2.1 hinf.2.2 rfl v n xs H.head m hm0 hm hn hb8 H.size
  refine wpList_plain hgd fun K' hK' => ?_
  unfold Oper.wp execOp
  simp only [ho, resolve, invoke, builtin, Sem.run_bind, Sem.run_pure, Result.andThen_ok, List.map_toArray, List.map_cons, List.map_nil, hs, hx, hrun]
  refine hK' _ _ (h v' w' (H.step hgrow hown (fun b hb => ?_)))
  rcases hat with e | e
  ·exact .inl (e.symm.trans hb)
  ·exact .inr (by
    have : v'.ownBlock = some b := hb
    rw [e] at this
    cases this
    exact Nat.le_refl _)
end Go.Proofs.HL
namespace Go.Proofs.An
end Go.Proofs.An
namespace Go.Proofs.YtdekbbffoaphhaaGreatDoor
open Go.RowKit Go.Proofs.HL Go.Proofs.An
section
variable {w0 w : World} {L : List At}
/-- Words read as numbers: those numbers, or none. -/
theorem reads_num {v : Value} (hD : Doors w0) (H : HL w0 w L) {ws : List ByteArray} (h : Strs w0 L v ws) (hz : ∀ s ∈ ws, s.size ≤ 140737488351232) (hl : ws.length ≤ 4294967296) :
  Calls Tryz.prog 42 #[v] w fun e w' => ∃ u, e = .returned (.tuple #[u, .bool (numsW ws).isSome]) ∧ HL w0 w' (intsR w0.heap.size u ((numsW ws).getD []) :: L) := by
 refine (reads_any hD H h hz hl).mono ?_
 intro e w' hp
 unfold ReadsPost at hp
 cases hn : numsW ws with
 | none =>
  rw [hn] at hp
  obtain ⟨rfl, H'⟩ := hp
  exact ⟨_, rfl, H'.nilRow _ _ _⟩
 | some l =>
  rw [hn] at hp
  exact hp
def HeadPost (w0 : World) (L : List At) (r : Ans) (e : Ending) (w' : World) : Prop :=
 ∃ (K : List At) (As : Option Addr) (cs : Nat), e = .returned (ansV r (.slice none 0 0) (.slice As r.job.set.length cs) (.slice none 0 0)) ∧ Ints w0 K (.slice As r.job.set.length cs) r.job.set ∧ HL w0 w' (K ++ L)
theorem headPost_plain {r : Ans} (hs : r.job.set = []) {w' : World} (K : List At) (H : HL w0 w' (K ++ L)) : HeadPost w0 L r (.returned (ansV r (.slice none 0 0) (.slice none 0 0) (.slice none 0 0))) w' := by
 refine ⟨K, none, 0, by rw [hs]; rfl, ?_, H⟩
 rw [hs]
 exact fun W _ => rd_nil
/-- What lies behind the first word. -/
theorem strs_behind {b c : Nat} {s0 : ByteArray} {wr : List ByteArray} {A' : Option Addr} (hA' : (if c = 1 then some (⟨b, 0, none⟩ : Addr) else some ⟨b, 1, none⟩) = A') {W : World} (h : Rd 1 (.slice (some ⟨b, 0, none⟩) (wr.length + 1) c) (wr.length + 1) (strC (s0 :: wr)) W) : Rd 1 (.slice A' wr.length (c - 1)) wr.length (strC wr) W := by
 subst hA'
 have hc : wr.length + 1 ≤ c := by
  obtain ⟨-, -, A, c', h3, h4, -⟩ := h
  simp only [Value.slice.injEq] at h3
  obtain ⟨-, -, rfl⟩ := h3
  exact h4
 by_cases hc1 : c = 1
 ·rw [if_pos hc1]
  have h0 : wr.length = 0 := by omega
  have := rd_suffix (a' := ⟨b, 0, none⟩) h 1 (by omega) (.inr (by omega))
  simpa using this
 ·rw [if_neg hc1]
  have := rd_suffix (a' := ⟨b, 1, none⟩) h 1 (by omega) (.inl (by rw [add_plain]))
  simpa using this
theorem head_err (hD : Doors w0) (k : Int) {s0 : ByteArray} {wr : List ByteArray} {b c : Nat} (H : HL w0 w (strs w0.heap.size (.slice (some ⟨b, 0, none⟩) (wr.length + 1) c) (s0 :: wr) :: L)) (hz : ∀ s ∈ s0 :: wr, s.size ≤ 1000000000) (hl : wr.length ≤ 1000000000) (he : s0 = errorW) :
  Calls Tryz.prog 39 #[.int .i64 k, .slice (some ⟨b, 0, none⟩) (wr.length + 1) c] w (HeadPost w0 L (headA k (s0 :: wr))) := by
 have H1 := HL.bzA H
 have H2 := HL.bzA H1
 rw [World.size_alloc] at H2
 obtain ⟨A0, c0, hv0, -, hc1, hc2⟩ := row_shape (show w.ownsRow w0.heap.size 9 1 (.slice (some ⟨b, 0, none⟩) (wr.length + 1) c) (wr.length + 1) (strC (s0 :: wr)) from H.head)
 simp only [Value.slice.injEq] at hv0
 obtain ⟨-, -, rfl⟩ := hv0
 unfold maxLen at hc2
 have G2 : _ = some (Obj.cells _ 32 (0, 0)) := H2.head
 have HS := HL.setWhole (cells := ansA zA (.slice none 0 0) (.slice none 0 0) (.slice none 0 0)) H2
 have hq : (s0.toList == [101, 114, 114, 111, 114]) = true := by rw [he]; decide +kernel
 have hh : headA k (s0 :: wr) = match numsW wr with | some [n] => { zA with code := n } | _ => zA := by unfold headA; rw [List.headD_cons, if_pos he]; rfl
 have HH := Lib.hid hh
 generalize hb4 : w.heap.size = b4 at *
 clear H H1 H2 he hh
 go_enter Tryz.func39, Tryz.ntmps39
 go_upto_region 2 with (refine wpList_store_row rfl 32 _ _ rfl (b4 + 1) (ansA zA (.slice none 0 0) (.slice none 0 0) (.slice none 0 0)) rfl rfl 32 _ G2 (ansA_size _ _ _ _) rfl (ansA_one _ _ _ _ _ _ _ _ _ _) ?_)
 have HB4 := Lib.hid hb4
 clear hb4 G2
 generalize World.setRow _ _ _ = W at *
 have e0 : W.cell? ⟨b, 0, none⟩ = some (.string s0) := HS.tail.tail.rowCell (E := 9) (k := 1) (xs := strC (s0 :: wr)) (List.mem_cons_self ..) 0 _ rfl
 have hB := fun W' L' (HW : HL w0 W' (strs w0.heap.size (.slice (some ⟨b, 0, none⟩) (wr.length + 1) c) (s0 :: wr) :: L')) => entRow W' HW
 obtain ⟨A', hA'⟩ : ∃ A', (if c = 1 then some (⟨b, 0, none⟩ : Addr) else some ⟨b, 1, none⟩) = A' := ⟨_, rfl⟩
 have hrd := reads_num hD HS (v := .slice A' wr.length (c - 1)) (ws := wr) (fun W' HW => strs_behind hA' (hB W' _ HW.tail.tail)) (fun s hs => by have := hz s (List.mem_cons_of_mem _ hs); omega) (by omega)
 clear hB hz
 cases hn : numsW wr with
 | none =>
  rw [hn] at hrd
  have hx : headA k (s0 :: wr) = zA := by rw [HH.out, hn]
  have HX := Lib.hid hx
  clear hn hx
  go_upto_region 6 with (go_at_call 42; refine hrd.mono ?_; rintro e w3 ⟨u, rfl, H3⟩; clear hrd HS e0)
  simp only [Option.getD_none] at H3
  have G1 : _ = some (Obj.cells (ansA zA (.slice none 0 0) (.slice none 0 0) (.slice none 0 0)) 32 (0, 0)) := H3.tail.head
  have G3 : _ = some (Obj.cells _ 32 (0, 0)) := H3.tail.tail.head
  have HS := HL.setWhole (cells := ansA zA (.slice none 0 0) (.slice none 0 0) (.slice none 0 0)) (H3.sel 3 [2, 0])
  go_wp2_with (first
   | (refine wpList_load_row rfl 32 _ rfl (b4 + 1) rfl 32 _ (0, 0) _ G1 Tryz.underlying32 rfl (ansA_size _ _ _ _) ?_)
   | (refine wpList_store_row rfl 32 _ _ rfl b4 (ansA zA (.slice none 0 0) (.slice none 0 0) (.slice none 0 0)) rfl rfl 32 _ G3 (ansA_size _ _ _ _) rfl (ansA_one _ _ _ _ _ _ _ _ _ _) ?_))
  have G5 := HS.head
  refine bodyPost_ret (results_cell_row (by rfl) _ _ b4 32 _ (0, 0) _ (by rfl) G5 Tryz.underlying32 rfl (ansA_size _ _ _ _)) rfl ?_
  rw [HX.out]
  exact headPost_plain (r := zA) rfl [_] (HL.drop2 HS.tail)
 | some l =>
  rw [hn] at hrd
  simp only [Option.isSome_some, Option.getD_some] at hrd
  by_cases h1 : l.length = 1
  ·obtain ⟨n, rfl⟩ : ∃ n, l = [n] := List.length_eq_one_iff.1 h1
   have hx : headA k (s0 :: wr) = { zA with code := n } := by rw [HH.out, hn]
   have HX := Lib.hid hx
   clear hn hx h1
   go_upto_region 4 with (go_at_call 42; refine hrd.mono ?_; rintro e w3 ⟨u, rfl, H3⟩; clear hrd HS e0)
   have H4 : HL w0 w3 (bxz (b4 + 1) :: intsR w0.heap.size u [n] :: bxz b4 :: strs w0.heap.size (.slice (some ⟨b, 0, none⟩) (wr.length + 1) c) (s0 :: wr) :: L) := H3.swap
   clear H3
   obtain ⟨g, og, cg, rfl, d0⟩ := int_at (l := [n]) (k := 0) (rd_row H4.tail.head) rfl
   have n0 : w3.cell? ⟨b4 + 1, 0, none⟩ = some (.int .i64 0) := HL.cell H4 0
   have y0 : w3.frozen? ⟨b4 + 1, 0, none⟩ = false := HL.frozen H4 0
   have H5 : HL w0 _ (boxA (b4 + 1) { zA with code := n } (.slice none 0 0) (.slice none 0 0) (.slice none 0 0) :: _) := HL.setCell H4 0 (.int .i64 n)
   rw [Nat.add_zero] at d0
   clear H4
   go_upto_region 6 with (fail)
   clear d0 n0 y0
   generalize World.setCell _ _ _ = W5 at *
   have H3 := H5.swap
   have G1 : _ = some (Obj.cells (ansA { zA with code := n } (.slice none 0 0) (.slice none 0 0) (.slice none 0 0)) 32 (0, 0)) := H3.tail.head
   have G3 : _ = some (Obj.cells _ 32 (0, 0)) := H3.tail.tail.head
   have HS := HL.setWhole (cells := ansA { zA with code := n } (.slice none 0 0) (.slice none 0 0) (.slice none 0 0)) (H3.sel 3 [2, 0])
   go_wp2_with (first
    | (refine wpList_load_row rfl 32 _ rfl (b4 + 1) rfl 32 _ (0, 0) _ G1 Tryz.underlying32 rfl (ansA_size _ _ _ _) ?_)
    | (refine wpList_store_row rfl 32 _ _ rfl b4 (ansA { zA with code := n } (.slice none 0 0) (.slice none 0 0) (.slice none 0 0)) rfl rfl 32 _ G3 (ansA_size _ _ _ _) rfl (ansA_one _ _ _ _ _ _ _ _ _ _) ?_))
   have G5 := HS.head
   refine bodyPost_ret (results_cell_row (by rfl) _ _ b4 32 _ (0, 0) _ (by rfl) G5 Tryz.underlying32 rfl (ansA_size _ _ _ _)) rfl ?_
   rw [HX.out]
   exact headPost_plain (r := { zA with code := n }) rfl [_] (HL.drop2 HS.tail)
  ·have hx : headA k (s0 :: wr) = zA := by
    rw [HH.out, hn]
    match l, h1 with
    | [], _ => rfl
    | _ :: _ :: _, _ => rfl
    | [_], h => exact absurd rfl h
   have HX := Lib.hid hx
   have q1 : ((l.length : Int) == 1) = false := by simp; omega
   clear hn hx h1
   go_upto_region 4 with (go_at_call 42; refine hrd.mono ?_; rintro e w3 ⟨u, rfl, H3⟩; clear hrd HS e0)
   obtain ⟨Au, cu, rfl, -⟩ := row_shape (show w3.ownsRow w0.heap.size 3 1 u l.length (intC l) from H3.head)
   go_upto_region 6 with (fail)
   have G1 : _ = some (Obj.cells (ansA zA (.slice none 0 0) (.slice none 0 0) (.slice none 0 0)) 32 (0, 0)) := H3.tail.head
   have G3 : _ = some (Obj.cells _ 32 (0, 0)) := H3.tail.tail.head
   have HS := HL.setWhole (cells := ansA zA (.slice none 0 0) (.slice none 0 0) (.slice none 0 0)) (H3.sel 3 [2, 0])
   go_wp2_with (first
    | (refine wpList_load_row rfl 32 _ rfl (b4 + 1) rfl 32 _ (0, 0) _ G1 Tryz.underlying32 rfl (ansA_size _ _ _ _) ?_)
    | (refine wpList_store_row rfl 32 _ _ rfl b4 (ansA zA (.slice none 0 0) (.slice none 0 0) (.slice none 0 0)) rfl rfl 32 _ G3 (ansA_size _ _ _ _) rfl (ansA_one _ _ _ _ _ _ _ _ _ _) ?_))
   have G5 := HS.head
   refine bodyPost_ret (results_cell_row (by rfl) _ _ b4 32 _ (0, 0) _ (by rfl) G5 Tryz.underlying32 rfl (ansA_size _ _ _ _)) rfl ?_
   rw [HX.out]
   exact headPost_plain (r := zA) rfl [_] (HL.drop2 HS.tail)
end
end Go.Proofs.YtdekbbffoaphhaaGreatDoor

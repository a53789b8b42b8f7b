/- A text read as an answer: how great what is read may be. -/
import Derived.Test.YtdekbbffoaphhaaDoorAnParseP
set_option linter.unusedVariables false
set_option linter.unusedSimpArgs false
namespace Go.Proofs.An
theorem cut_sum (c : UInt8) : ∀ (l : List UInt8), ((cutC c l).map List.length).sum + (cutC c l).length = l.length + 1
  | [] => by simp [cutC]
  | x :: l => by
    have ih := cut_sum c l
    unfold cutC
    split
    · simp; omega
    · cases hr : cutC c l with
      | nil => exact absurd hr (cutC_ne c l)
      | cons a r => rw [hr] at ih; simp at ih ⊢; omega
theorem wordsC_sum (c : UInt8) (s : ByteArray) : ((wordsC c s).map (·.size)).sum + (wordsC c s).length = s.size + 1 := by
  have h := cut_sum c s.data.toList
  unfold wordsC
  rw [List.map_map, List.length_map]
  have e : (cutC c s.data.toList).map ((fun x : ByteArray => x.size) ∘ toB) = (cutC c s.data.toList).map List.length := by
    apply List.map_congr_left
    intro l _
    exact toB_size l
  rw [e, h, Array.length_toList]
  rfl
theorem sum_dropLast : ∀ (l : List Nat), l.dropLast.sum ≤ l.sum
  | [] => by simp
  | [x] => by simp
  | x :: y :: r => by
    have := sum_dropLast (y :: r)
    simp only [List.dropLast_cons_cons, List.sum_cons] at this ⊢
    omega
theorem lines_sum (t : ByteArray) : ((linesW t).map (·.size)).sum + (linesW t).length ≤ t.size + 1 := by
  have h := wordsC_sum 10 t
  unfold linesW
  rw [List.map_dropLast, List.length_dropLast]
  have := sum_dropLast ((wordsC 10 t).map (·.size))
  omega
theorem lines_size (t : ByteArray) : ∀ s ∈ linesW t, s.size ≤ t.size := fun s hs => wordsC_size 10 t s (by unfold linesW at hs; rw [List.dropLast_eq_take] at hs; exact List.mem_of_mem_take hs)
theorem readE_len (s : ByteArray) : (evT (readE s).1).length ≤ s.size := by
  unfold readE
  cases candW (wordsOf s) with
  | none => exact Nat.zero_le _
  | some e =>
    simp only
    split
    · rename_i h
      rw [← h.2]
      unfold evS
      rw [if_pos h.1]
      simp [ByteArray.size]
    · exact Nat.zero_le _
theorem evsT_reads : ∀ (ls : List ByteArray), (evsT (ls.map fun s => (readE s).1)).length ≤ (ls.map (·.size)).sum + ls.length
  | [] => by simp [evsT]
  | s :: r => by
    have ih := evsT_reads r
    have h := readE_len s
    simp only [evsT, List.map_cons, List.flatMap_cons, List.length_append, List.length_cons, List.length_nil, List.sum_cons] at ih ⊢
    omega
theorem readE_ok {s : ByteArray} (hs : s.size ≤ 1000000000) : EvOk (readE s).1 := by
  unfold readE
  cases hc : candW (wordsOf s) with
  | none => exact evOk_zero
  | some e =>
    simp only
    split
    · unfold candW at hc
      cases hn : numsW ((cutEnd (wordsOf s)).1.drop 1) with
      | none => rw [hn] at hc; cases hc
      | some n =>
        rw [hn] at hc
        obtain rfl := Option.some.inj hc
        have hb : 0 ≤ (cutEnd (wordsOf s)).2 ∧ (cutEnd (wordsOf s)).2 ≤ 6 := by
          unfold cutEnd
          split
          · exact stN_bounds _
          · exact ⟨by simp, by simp⟩
        have hl := numsW_len _ _ hn
        have hw : (wordsOf s).length ≤ s.size + 1 := by rw [wordsOf_eq]; exact wordsC_most 32 s
        have hle : (cutEnd (wordsOf s)).1.length ≤ (wordsOf s).length := by
          unfold cutEnd
          split
          · rw [List.length_take]; omega
          · exact Nat.le_refl _
        refine evOk_of (numsW_fits _ _ hn) ?_ hb.1 hb.2
        rw [hl, List.length_drop]
        omega
    · exact evOk_zero
theorem puV_bounds (s : ByteArray) : 0 ≤ puV s ∧ puV s < 18446744073709551616 := by
  unfold puV
  cases h : Lib.parseMag s.data.toList with
  | ok u =>
    have := Lib.parseMag_lt h
    simp only
    omega
  | «syntax» => simp
  | range => simp
theorem int0 : Int64 0 := ⟨by decide, by decide⟩
theorem tail_ok {k st us fa : Int} {n : List Int} (hf : Fits n) (hl : n.length ≤ 4294967296) (hst : Int64 st) (hu : 0 ≤ us ∧ us < 18446744073709551616) (hfa : 0 ≤ fa ∧ fa < 18446744073709551616) : AnsOk (tailA k st us fa n) := by
  have g : ∀ i, Int64 (n.getD i 0) := fun i => fits_getD hf i
  have g6 : Fits (n.drop 6) := fun m hm => hf m (List.mem_of_mem_drop hm)
  have l6 : (n.drop 6).length ≤ 4294967296 := by rw [List.length_drop]; omega
  have u0 : (0 : Int) ≤ 0 ∧ (0 : Int) < 18446744073709551616 := by decide
  have z0 : ([] : List Int).length ≤ 4294967296 := by simp
  have ze : ([] : List Ev).length ≤ 4294967296 := by simp
  have zr : ([] : List Rk).length ≤ 4294967296 := by simp
  have e0 : ∀ e ∈ ([] : List Ev), EvOk e := fun e h => by simp at h
  have r0 : ∀ r ∈ ([] : List Rk), Int64 r.job ∧ Int64 r.prio := fun r h => by simp at h
  unfold tailA
  repeat' split
  all_goals
    constructor <;> first | exact int0 | exact g _ | exact hst | exact hu | exact hfa | exact g6 | exact l6 | exact u0 | exact z0 | exact ze | exact zr | exact e0 | exact r0 | exact fitsNil
theorem stN_int (s : ByteArray) : Int64 (stN s) := by
  have := stN_bounds s
  exact ⟨by omega, by omega⟩
theorem nums_ok (ws : List ByteArray) : Fits ((numsW ws).getD []) ∧ ((numsW ws).getD []).length ≤ ws.length := by
  cases h : numsW ws with
  | none => exact ⟨fitsNil, by simp⟩
  | some l => exact ⟨numsW_fits _ _ h, by simp [numsW_len _ _ h]⟩
theorem restW_len (k : Int) (ws : List ByteArray) : (restW k ws).length ≤ ws.length := by
  unfold restW
  split
  · rw [List.length_take]; omega
  · split
    · rw [List.length_append, List.length_take, List.length_drop]; omega
    · exact Nat.le_refl _
theorem head_fits {k : Int} {ws : List ByteArray} (hl : ws.length ≤ 4294967296) : AnsOk (headA k ws) ∧ (headA k ws).job.set.length ≤ ws.length := by
  unfold headA
  have z : AnsOk zA := tail_ok (k := 0) (st := 0) (us := 0) (fa := 0) (n := []) fitsNil (by simp) int0 (by decide) (by decide)
  split
  · split
    · rename_i n hn
      refine ⟨?_, by simp [zA, zJ]⟩
      obtain ⟨a1, a2, a3, a4, a5, a6, a7, a8, a9, a10, a11, a12, a13, a14, a15, a16, a17, a18, a19, a20, a21, a22, a23, a24, a25, a26, a27, a28, a29, a30⟩ := z
      exact ⟨numsW_fits _ _ hn n (by simp), a2, a3, a4, a5, a6, a7, a8, a9, a10, a11, a12, a13, a14, a15, a16, a17, a18, a19, a20, a21, a22, a23, a24, a25, a26, a27, a28, a29, a30⟩
    · exact ⟨z, by simp [zA, zJ]⟩
  · obtain ⟨h1, h2⟩ := nums_ok ((restW k ws).drop 1)
    have h3 := restW_len k ws
    rw [List.length_drop] at h2
    have hu : ∀ i, 0 ≤ (if usB k ws then puV (ws.getD i ⟨#[]⟩) else 0) ∧ (if usB k ws then puV (ws.getD i ⟨#[]⟩) else 0) < 18446744073709551616 := fun i => by
      split
      · exact puV_bounds _
      · decide
    refine ⟨tail_ok h1 (by show ((numsW ((restW k ws).drop 1)).getD []).length ≤ _; omega) ?_ (hu 2) (hu 3), ?_⟩
    · split
      · exact stN_int _
      · exact int0
    · unfold tailA
      repeat' split
      all_goals first
        | (simp [zA, zJ]; done)
        | (simp only [List.length_drop]; show ((numsW ((restW k ws).drop 1)).getD []).length - 6 ≤ _; omega)
theorem rank_fits (s : ByteArray) : Int64 (rankOf s).job ∧ Int64 (rankOf s).prio := by
  have h : Fits ((numsW (wordsOf s)).getD [] ++ [-1, -1]) := fun m hm => by
    rcases List.mem_append.1 hm with hm | hm
    · exact (nums_ok _).1 m hm
    · simp at hm
      omega
  exact ⟨fits_getD h 0, fits_getD h 1⟩
theorem cand_fits {k : Int} {t : ByteArray} (ht : t.size ≤ 1000000000) : AnsOk (candA k t) ∧ (candA k t).job.set.length ≤ 1000000001 := by
  have hl : (linesW t).length ≤ t.size + 1 := by have := lines_sum t; omega
  have hs : ((linesW t).headD ⟨#[]⟩).size ≤ t.size := by
    cases h : linesW t with
    | nil => exact Nat.zero_le _
    | cons x r => exact lines_size t x (by rw [h]; simp)
  have hw : (wordsOf ((linesW t).headD ⟨#[]⟩)).length ≤ t.size + 1 := by
    rw [wordsOf_eq]
    have := wordsC_most 32 ((linesW t).headD ⟨#[]⟩)
    omega
  obtain ⟨z, zl⟩ := head_fits (k := k) (ws := wordsOf ((linesW t).headD ⟨#[]⟩)) (by omega)
  refine ⟨?_, by show (headA k _).job.set.length ≤ _; omega⟩
  obtain ⟨a1, a2, a3, a4, a5, a6, a7, a8, a9, a10, a11, a12, a13, a14, a15, a16, a17, a18, a19, a20, a21, a22, a23, a24, a25, a26, a27, a28, a29, a30⟩ := z
  have hE : ∀ e ∈ evsOf k ((linesW t).drop 1), EvOk e := fun e he => by
    unfold evsOf at he
    split at he
    · obtain ⟨s, hs2, rfl⟩ := List.mem_map.1 he
      exact readE_ok (by have := lines_size t s (List.mem_of_mem_drop hs2); omega)
    · simp at he
  have hEl : (evsOf k ((linesW t).drop 1)).length ≤ 4294967296 := by
    unfold evsOf
    split
    · rw [List.length_map, List.length_drop]; omega
    · simp
  have hR : ∀ r ∈ rksOf k ((linesW t).drop 1), Int64 r.job ∧ Int64 r.prio := fun r hr => by
    unfold rksOf at hr
    split at hr
    · simp at hr
    · split at hr
      · obtain ⟨s, -, rfl⟩ := List.mem_map.1 hr
        exact rank_fits s
      · simp at hr
  have hRl : (rksOf k ((linesW t).drop 1)).length ≤ 4294967296 := by
    unfold rksOf
    split
    · simp
    · split
      · rw [List.length_map, List.length_drop]; omega
      · simp
  exact ⟨a1, a2, hE, hEl, a5, a6, a7, a8, a9, a10, a11, a12, a13, hR, hRl, a16, a17, a18, a19, a20, a21, a22, a23, a24, a25, a26, a27, a28, a29, a30⟩
theorem dec_most (n : Int) (h0 : 0 ≤ n) (h1 : n < 18446744073709551616) : (Lib.decDigits n.toNat).length ≤ 20 := dec_len 19 n.toNat (by omega)
theorem firstT_most {k : Int} {a : Ans} (h : AnsOk a) : (firstT k a).length ≤ 300 + 22 * a.job.set.length := by
  have n1 := numsT_len [a.id] (fitsCons h.id fitsNil)
  have n2 := numsT_len [a.job.acc, a.job.nodes, a.job.lim, a.job.sub] (fitsCons h.acc (fitsCons h.nodes (fitsCons h.lim (fitsCons h.sub fitsNil))))
  have n3 := numsT_len [a.job.start, a.job.fin] (fitsCons h.start (fitsCons h.fin fitsNil))
  have n4 := numsT_len a.job.set h.set
  have n5 := numsT_len [a.holder, a.shadow] (fitsCons h.holder (fitsCons h.shadow fitsNil))
  have n6 := numsT_len [a.raw] (fitsCons h.raw fitsNil)
  have n7 := numsT_len [a.free] (fitsCons h.free fitsNil)
  have n8 := numsT_len [a.cfg.c0, a.cfg.c1, a.cfg.c2, a.cfg.c3, a.cfg.c4, a.cfg.c5, a.cfg.c6, a.cfg.c7, a.bound] (fitsCons h.c0 (fitsCons h.c1 (fitsCons h.c2 (fitsCons h.c3 (fitsCons h.c4 (fitsCons h.c5 (fitsCons h.c6 (fitsCons h.c7 (fitsCons h.bound fitsNil)))))))))
  have d1 := dec_most a.usage h.usage.1 h.usage.2
  have d2 := dec_most a.factor h.factor.1 h.factor.2
  have s1 : (stW a.job.st).data.toList.length ≤ 9 := stW_size a.job.st
  simp only [List.length_cons, List.length_nil] at n1 n2 n3 n5 n6 n7 n8
  unfold firstT
  repeat' split
  all_goals
    simp only [List.length_append, List.length_cons, List.length_nil]
    omega
theorem rksT_most : ∀ (rs : List Rk), (∀ r ∈ rs, Int64 r.job ∧ Int64 r.prio) → (rksT rs).length ≤ 45 * rs.length
  | [], _ => by simp [rksT]
  | r :: l, h => by
    have ih := rksT_most l (fun x hx => h x (List.mem_cons_of_mem _ hx))
    have h1 := h r (by simp)
    have n := numsT_len [r.job, r.prio] (fitsCons h1.1 (fitsCons h1.2 fitsNil))
    simp only [List.length_cons, List.length_nil] at n
    simp only [rksT, List.flatMap_cons, List.length_append, List.length_cons] at ih ⊢
    have e : (rkT r).length ≤ 45 := by
      unfold rkT
      rw [List.length_append, List.length_drop]
      simp only [List.length_cons, List.length_nil]
      omega
    omega
theorem cand_print {k : Int} {t : ByteArray} (ht : t.size ≤ 1000000000) : (printT k (candA k t)).length ≤ 140737488355328 := by
  obtain ⟨hok, hset⟩ := cand_fits (k := k) ht
  have hl := lines_sum t
  have he : (evsT (candA k t).events).length ≤ 1000000001 := by
    show (evsT (evsOf k ((linesW t).drop 1))).length ≤ _
    unfold evsOf
    split
    · have h1 := evsT_reads ((linesW t).drop 1)
      have h2 : (((linesW t).drop 1).map (·.size)).sum ≤ ((linesW t).map (·.size)).sum := by
        cases linesW t with
        | nil => simp
        | cons x r => simp
      rw [List.length_drop] at h1
      omega
    · simp [evsT]
  have hr : (rksT (candA k t).ranks).length ≤ 45000000045 := by
    have h1 := rksT_most (candA k t).ranks hok.ranks
    have h2 : (candA k t).ranks.length ≤ 1000000001 := by
      show (rksOf k ((linesW t).drop 1)).length ≤ _
      unfold rksOf
      split
      · simp
      · split
        · rw [List.length_map, List.length_drop]; omega
        · simp
    omega
  have hf := firstT_most (k := k) hok
  have hn := numsT_len [(candA k t).code] (fitsCons hok.code fitsNil)
  simp only [List.length_cons, List.length_nil] at hn
  unfold printT
  split
  · simp only [List.length_append, List.length_cons, List.length_nil]
    omega
  · simp only [List.length_append, List.length_cons, List.length_nil]
    omega
end Go.Proofs.An

/- As many as can be, and nobody else: of a pass as plain lists. -/
import Derived.Test.YtebibcaahjmjfaaPaPlan
set_option linter.unusedVariables false
namespace Go.Proofs.HL.Pa
open Go.Proofs.HL.Pr

def sumW : List Wn → Int
  | [] => 0
  | x :: l => x.nodes + sumW l
theorem sumW_append : ∀ (l m : List Wn), sumW (l ++ m) = sumW l + sumW m
  | [], m => by simp [sumW]
  | x :: l, m => by simp only [List.cons_append, sumW, sumW_append l m]; omega
def runOf (now : Int) (x : Wn) : Rn := ⟨x.nodes, now + x.limit⟩
theorem sumN_runs (now : Int) : ∀ (T : List Wn), sumN (T.map (runOf now)) = sumW T
  | [] => rfl
  | x :: T => by simp only [List.map_cons, sumN, sumW, sumN_runs now T]; rfl

open Go.Proofs.Ytebibcaahjmjfaa (mayB_iff)
/-- What has been started so far, and what it cost. -/
structure Told (n0 f0 : Int) (ws : List Wn) (l : List Rn) (s : RS) (T : List Wn) : Prop where
  tnow : s.now = n0
  tstarts : s.starts = T.map (·.job)
  tfree : s.free = f0 - sumW T
  truns : s.runs = l ++ T.map (runOf n0)
  tmem : ∀ x ∈ T, x ∈ ws
  tfits : ∀ i x, T[i]? = some x → x.nodes ≤ f0 - sumW (T.take i)
  tnodup : (T.map (·.job)).Nodup
theorem Told.start {n0 f0 : Int} {ws : List Wn} {l : List Rn} {s : RS} {T : List Wn} (h : Told n0 f0 ws l s T) {x : Wn} (hx : x ∈ ws) (hno : x.job ∉ s.starts) (hf : x.nodes ≤ s.free) : Told n0 f0 ws l (startP s x) (T ++ [x]) := by
  obtain ⟨h0, h1, h2, h3, h4, h5, h6⟩ := h
  refine ⟨h0, ?_, ?_, ?_, ?_, ?_, ?_⟩
  · show s.starts ++ [x.job] = _; rw [h1, List.map_append]; rfl
  · show s.free - x.nodes = _; rw [h2, sumW_append]; simp only [sumW]; omega
  · show s.runs ++ [⟨x.nodes, s.now + x.limit⟩] = _; rw [h3, h0, List.map_append, List.append_assoc]; rfl
  · intro y hy
    rcases List.mem_append.1 hy with h | h
    · exact h4 y h
    · obtain rfl : y = x := by simpa using h
      exact hx
  · intro i y hy
    by_cases hi : i < T.length
    · rw [List.getElem?_append_left hi] at hy
      rw [List.take_append_of_le_length (by omega)]
      exact h5 i y hy
    · have hi2 : i = T.length := by
        have := (List.getElem?_eq_some_iff.1 hy).1
        simp only [List.length_append, List.length_singleton] at this
        omega
      subst hi2
      rw [List.getElem?_append_right (Nat.le_refl _), Nat.sub_self] at hy
      obtain rfl : x = y := by simpa using hy
      rw [List.take_left, ← h2]
      exact hf
  · rw [List.map_append, List.nodup_append]
    refine ⟨h6, by simp, fun a ha b hb e => ?_⟩
    obtain rfl : b = x.job := by simpa using hb
    exact hno (by rw [h1, ← e]; exact ha)
theorem Told.same {n0 f0 : Int} {ws : List Wn} {l : List Rn} {s t : RS} {T : List Wn} (h : Told n0 f0 ws l s T) (h1 : t.now = s.now) (h2 : t.starts = s.starts) (h3 : t.free = s.free) (h4 : t.runs = s.runs) : Told n0 f0 ws l t T :=
  ⟨h1.trans h.tnow, h2.trans h.tstarts, h3.trans h.tfree, h4.trans h.truns, h.tmem, h.tfits, h.tnodup⟩
theorem Told.begin (n0 f0 holder : Int) (ws : List Wn) (l : List Rn) : Told n0 f0 ws l (rs0 n0 f0 holder l) [] :=
  ⟨rfl, rfl, by show f0 = f0 - 0; omega, by simp [rs0], (fun _ h => by simp at h), (fun i x h => by simp at h), by simp⟩

theorem hold_one {holder : Int} {x : Wn} : ∀ (l : List Wn) (p : RS × Int), (l.map (·.job)).Nodup → x ∈ l → x.job = holder → l.foldl (holdStep holder) p = holdStep holder p x
  | y :: l, p, hn, hx, hj => by
    rw [List.map_cons, List.nodup_cons] at hn
    rw [List.foldl_cons]
    rcases List.mem_cons.1 hx with rfl | hx
    · exact hold_nil l _ (by rw [← hj]; exact hn.1)
    · have hy : y.job ≠ holder := fun e => hn.1 (by rw [e, ← hj]; exact List.mem_map_of_mem hx)
      rw [show holdStep holder p y = p by unfold holdStep; rw [if_pos hy]]
      exact hold_one l p hn.2 hx hj
/-- The holder's turn, told. -/
theorem passA_told {n0 f0 holder : Int} {ws : List Wn} {l : List Rn} (hm : mayB n0 f0 ws holder l = true) :
    (holder = -1 ∧ passA n0 f0 ws holder l = (rs0 n0 f0 holder l, 0)) ∨
    ∃ x ∈ ws, x.job = holder ∧ 0 ≤ holder ∧ ((x.nodes ≤ f0 ∧ passA n0 f0 ws holder l = ({ startP (rs0 n0 f0 holder l) x with holder := -1 }, x.nodes)) ∨ (f0 < x.nodes ∧ passA n0 f0 ws holder l = (rs0 n0 f0 holder l, x.nodes))) := by
  obtain ⟨-, -, hw, hnd, hho⟩ := mayB_iff.1 hm
  rcases hho with hh | hh
  · refine .inl ⟨hh, hold_nil ws _ fun h => ?_⟩
    obtain ⟨x, hx, hj⟩ := List.mem_map.1 h
    have := (hw x hx).1
    omega
  · obtain ⟨x, hx, hj⟩ := List.mem_map.1 hh
    have h0 := (hw x hx).1
    refine .inr ⟨x, hx, hj, by omega, ?_⟩
    unfold passA
    rw [hold_one ws _ hnd hx hj]
    unfold holdStep
    rw [if_neg (fun h => h hj)]
    by_cases hf : x.nodes ≤ (rs0 n0 f0 holder l).free
    · exact .inl ⟨hf, if_pos hf⟩
    · exact .inr ⟨by have : (rs0 n0 f0 holder l).free = f0 := rfl; omega, if_neg hf⟩
/-- Those in their rank, told. -/
theorem ranked_told {n0 f0 : Int} {ws : List Wn} {l : List Rn} : ∀ (m : List Wn) (s : RS) (T : List Wn), (∀ x ∈ m, x ∈ ws) → Told n0 f0 ws l s T → ∃ T', Told n0 f0 ws l (rankedP s m).1 (T ++ T') ∧
    ((rankedP s m).1.holder = s.holder ∧ (∀ x ∈ m, x.job ∈ (rankedP s m).1.starts) ∨ ∃ x ∈ m, (rankedP s m).1.holder = x.job ∧ (rankedP s m).2 = x.nodes ∧ (rankedP s m).1.free < x.nodes ∧ x.job ∉ (rankedP s m).1.starts)
  | [], s, T, _, h => ⟨[], by rw [List.append_nil]; exact h, .inl ⟨rfl, (fun _ h => by simp at h)⟩⟩
  | x :: m, s, T, hm, h => by
    have hx := hm x (List.mem_cons_self ..)
    have hm' : ∀ y ∈ m, y ∈ ws := fun y hy => hm y (List.mem_cons_of_mem _ hy)
    unfold rankedP
    by_cases h1 : x.job ∈ s.starts
    · rw [if_pos h1]
      obtain ⟨T', hT, hr⟩ := ranked_told m s T hm' h
      refine ⟨T', hT, ?_⟩
      rcases hr with ⟨e, hr⟩ | ⟨y, hy, hr⟩
      · refine .inl ⟨e, fun y hy => ?_⟩
        rcases List.mem_cons.1 hy with rfl | hy
        · rw [hT.tstarts, List.map_append, ← h.tstarts]; exact List.mem_append_left _ h1
        · exact hr y hy
      · exact .inr ⟨y, List.mem_cons_of_mem _ hy, hr⟩
    · rw [if_neg h1]
      by_cases h2 : x.nodes ≤ s.free
      · rw [if_pos h2]
        have hs := h.start hx h1 h2
        obtain ⟨T', hT, hr⟩ := ranked_told m _ _ hm' hs
        refine ⟨x :: T', by rw [List.append_assoc] at hT; exact hT, ?_⟩
        rcases hr with ⟨e, hr⟩ | ⟨y, hy, hr⟩
        · refine .inl ⟨e, fun y hy => ?_⟩
          rcases List.mem_cons.1 hy with rfl | hy
          · rw [hT.tstarts]; simp
          · exact hr y hy
        · exact .inr ⟨y, List.mem_cons_of_mem _ hy, hr⟩
      · rw [if_neg h2]
        exact ⟨[], by rw [List.append_nil]; exact h.same rfl rfl rfl rfl, .inr ⟨x, List.mem_cons_self .., rfl, rfl, by show s.free < _; omega, h1⟩⟩
/-- What is known once someone holds, or nobody. -/
structure Pinned0 (n0 f0 : Int) (ws : List Wn) (holder : Int) (l : List Rn) (p : RS × Int) (T : List Wn) : Prop where
  told : Told n0 f0 ws l p.1 T
  sh : p.1.shadow = 0
  ex : p.1.extra = 0
  old : ∀ x ∈ ws, x.job = holder → (x.nodes ≤ f0 → ∃ T', T = x :: T') ∧ (f0 < x.nodes → p.1.holder = holder)
  held : (p.1.holder = -1 ∧ ∀ x ∈ ws, x.job ∈ p.1.starts) ∨ ∃ x ∈ ws, p.1.holder = x.job ∧ p.2 = x.nodes ∧ p.1.free < x.nodes ∧ x.job ∉ p.1.starts
theorem start_sh (s : RS) (x : Wn) : (startP s x).shadow = s.shadow ∧ (startP s x).extra = s.extra := ⟨rfl, rfl⟩
theorem ranked_sh : ∀ (m : List Wn) (s : RS), (rankedP s m).1.shadow = s.shadow ∧ (rankedP s m).1.extra = s.extra
  | [], s => ⟨rfl, rfl⟩
  | x :: m, s => by
    unfold rankedP
    split
    · exact ranked_sh m s
    · split
      · exact ranked_sh m _
      · exact ⟨rfl, rfl⟩
theorem passB_told {n0 f0 holder : Int} {ws : List Wn} {l : List Rn} (hm : mayB n0 f0 ws holder l = true) : ∃ T, Pinned0 n0 f0 ws holder l (passB n0 f0 ws holder l) T := by
  obtain ⟨-, -, hw, hnd, -⟩ := mayB_iff.1 hm
  have hone : ∀ x ∈ ws, ∀ y ∈ ws, x.job = y.job → x = y := fun x hx y hy e => by
    obtain ⟨i, hi, rfl⟩ := List.getElem_of_mem hx
    obtain ⟨j, hj, rfl⟩ := List.getElem_of_mem hy
    have := (List.getElem_inj (h₀ := by simpa using hi) (h₁ := by simpa using hj) hnd).1 (by simpa using e)
    subst this
    rfl
  rcases passA_told hm with ⟨hh, hA⟩ | ⟨x, hx, hj, h0, ⟨hf, hA⟩ | ⟨hf, hA⟩⟩
  · have hB : passB n0 f0 ws holder l = rankedP (rs0 n0 f0 holder l) ws := by unfold passB; rw [hA]; exact if_pos hh
    rw [hB]
    obtain ⟨T, hT, hr⟩ := ranked_told ws (rs0 n0 f0 holder l) [] (fun _ h => h) (Told.begin ..)
    rw [List.nil_append] at hT
    refine ⟨T, hT, (ranked_sh _ _).1, (ranked_sh _ _).2, fun y hy e => ?_, ?_⟩
    · have := (hw y hy).1
      omega
    · rcases hr with ⟨e, hr⟩ | hr
      · exact .inl ⟨e.trans hh, hr⟩
      · exact .inr hr
  · have hB : passB n0 f0 ws holder l = rankedP { startP (rs0 n0 f0 holder l) x with holder := -1 } ws := by unfold passB; rw [hA]; exact if_pos rfl
    rw [hB]
    have hs := (Told.begin n0 f0 holder ws l).start hx (by simp [rs0]) hf
    obtain ⟨T, hT, hr⟩ := ranked_told ws { startP (rs0 n0 f0 holder l) x with holder := -1 } ([] ++ [x]) (fun _ h => h) (hs.same rfl rfl rfl rfl)
    refine ⟨x :: T, hT, (ranked_sh _ _).1, (ranked_sh _ _).2, fun y hy e => ?_, ?_⟩
    · obtain rfl := hone y hy x hx (e.trans hj.symm)
      exact ⟨fun _ => ⟨T, rfl⟩, fun h => by omega⟩
    · rcases hr with ⟨e, hr⟩ | hr
      · exact .inl ⟨e, hr⟩
      · exact .inr hr
  · have hB : passB n0 f0 ws holder l = (rs0 n0 f0 holder l, x.nodes) := by
      unfold passB
      rw [hA]
      exact if_neg (by show holder ≠ -1; omega)
    rw [hB]
    refine ⟨[], Told.begin .., rfl, rfl, fun y hy e => ?_, .inr ⟨x, hx, hj.symm, rfl, hf, by simp [rs0]⟩⟩
    obtain rfl := hone y hy x hx (e.trans hj.symm)
    exact ⟨fun h => by omega, fun _ => rfl⟩
end Go.Proofs.HL.Pa

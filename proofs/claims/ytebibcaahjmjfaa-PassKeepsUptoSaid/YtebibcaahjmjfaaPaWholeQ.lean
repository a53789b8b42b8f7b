/- Who is started behind a holder: its shadow stays; nobody else could be. -/
import Derived.Test.YtebibcaahjmjfaaPaWholeP
set_option linter.unusedVariables false
namespace Go.Proofs.HL.Pa
open Go.Proofs.HL.Pr
open Go.Proofs.Ytebibcaahjmjfaa (mayB_iff)
theorem filter_all {u : Int} : ∀ (l : List Rn), (∀ r ∈ l, r.fin ≤ u) → (l.filter fun r => decide (r.fin ≤ u)) = l
  | [], _ => rfl
  | r :: l, h => by
    rw [List.filter_cons_of_pos (by simpa using h r (List.mem_cons_self ..)), filter_all l (fun x hx => h x (List.mem_cons_of_mem _ hx))]
/-- Who asks for no more than there is has a shadow. -/
theorem shadow_is {n0 free : Int} {l : List Rn} {need : Int} (hf : rightB free l = true) (hn : 0 ≤ need) (h0 : n0 ≤ 4398046511104) (hl : ∀ r ∈ l, r.fin ≤ 4398046511104) (hall : need ≤ free + sumN l) : ∃ a m, shadowAll n0 free l need = (a, m, true) := by
  rcases shadow_spec (now := n0) hf hn with ⟨t, h1, -⟩ | ⟨-, h⟩
  · exact ⟨_, _, h1⟩
  · have := h 4398046511104 h0
    unfold atS at this
    rw [filter_all l hl] at this
    omega
/-- How a pass goes on once someone holds. -/
structure Fill (n0 f0 : Int) (ws : List Wn) (l : List Rn) (need : Int) (c s : RS) (T : List Wn) : Prop where
  told : Told n0 f0 ws l s T
  holder : s.holder = c.holder
  shadow : s.shadow = c.shadow
  extra : s.extra ≤ c.extra
  free : s.free ≤ c.free
  kept : shadowAll n0 s.free s.runs need = (s.shadow, s.extra, true)
  nohold : c.holder ∉ s.starts
theorem Fill.step {n0 f0 : Int} {ws : List Wn} {l : List Rn} {need : Int} {c s : RS} {T : List Wn} (h : Fill n0 f0 ws l need c s T) {x : Wn} (hx : x ∈ ws) (hn : 1 ≤ x.nodes) :
    ∃ T', Fill n0 f0 ws l need c (fillStep s x) (T ++ T') ∧ (fillStep s x).free ≤ s.free ∧ (fillStep s x).extra ≤ s.extra ∧ (∀ j ∈ s.starts, j ∈ (fillStep s x).starts) ∧
      (x.job ∈ (fillStep s x).starts ∨ x.job = c.holder ∨ s.free < x.nodes ∨ (¬ n0 + x.limit ≤ c.shadow ∧ ¬ x.nodes ≤ (fillStep s x).extra)) := by
  have hnow := h.told.tnow
  unfold fillStep
  by_cases h1 : x.job ∈ s.starts ∨ x.job = s.holder ∨ s.free < x.nodes
  · rw [if_pos h1]
    refine ⟨[], by rw [List.append_nil]; exact h, Int.le_refl _, Int.le_refl _, (fun _ h => h), ?_⟩
    rcases h1 with h1 | h1 | h1
    · exact .inl h1
    · exact .inr (.inl (h1.trans h.holder))
    · exact .inr (.inr (.inl h1))
  · rw [if_neg h1]
    have g1 : x.job ∉ s.starts := fun e => h1 (.inl e)
    have g2 : x.job ≠ s.holder := fun e => h1 (.inr (.inl e))
    have g3 : x.nodes ≤ s.free := by
      have : ¬ s.free < x.nodes := fun e => h1 (.inr (.inr e))
      omega
    have hno : c.holder ∉ s.starts ++ [x.job] := fun e => by
      rcases List.mem_append.1 e with e | e
      · exact h.nohold e
      · exact g2 ((by simpa using e : c.holder = x.job).symm.trans h.holder.symm)
    have hl := less_more (e := s.now + x.limit) h.kept hn g3
    by_cases h2 : s.now + x.limit ≤ s.shadow
    · rw [if_pos h2]
      refine ⟨[x], ⟨h.told.start hx g1 g3, h.holder, h.shadow, h.extra, ?_, hl.1 h2, hno⟩, ?_, Int.le_refl _, (fun j hj => List.mem_append_left _ hj), .inl (List.mem_append_right _ (List.mem_singleton_self _))⟩
      · show s.free - x.nodes ≤ _; have := h.free; omega
      · show s.free - x.nodes ≤ _; omega
    · rw [if_neg h2]
      by_cases h3 : x.nodes ≤ s.extra
      · rw [if_pos h3]
        refine ⟨[x], ⟨(h.told.start hx g1 g3).same rfl rfl rfl rfl, h.holder, h.shadow, ?_, ?_, hl.2 (by omega) h3, hno⟩, ?_, ?_, (fun j hj => List.mem_append_left _ hj), .inl (List.mem_append_right _ (List.mem_singleton_self _))⟩
        · show s.extra - x.nodes ≤ _; have := h.extra; omega
        · show s.free - x.nodes ≤ _; have := h.free; omega
        · show s.free - x.nodes ≤ _; omega
        · show s.extra - x.nodes ≤ _; omega
      · rw [if_neg h3]
        exact ⟨[], by rw [List.append_nil]; exact h, Int.le_refl _, Int.le_refl _, (fun _ h => h), .inr (.inr (.inr ⟨by rw [← hnow, ← h.shadow]; exact h2, h3⟩))⟩
theorem Fill.all {n0 f0 : Int} {ws : List Wn} {l : List Rn} {need : Int} {c : RS} : ∀ (m : List Wn) {s : RS} {T : List Wn}, (∀ x ∈ m, x ∈ ws ∧ 1 ≤ x.nodes) → Fill n0 f0 ws l need c s T →
    ∃ T', Fill n0 f0 ws l need c (m.foldl fillStep s) (T ++ T') ∧ (m.foldl fillStep s).free ≤ s.free ∧ (m.foldl fillStep s).extra ≤ s.extra ∧ (∀ j ∈ s.starts, j ∈ (m.foldl fillStep s).starts) ∧
      ∀ x ∈ m, x.job ∈ (m.foldl fillStep s).starts ∨ x.job = c.holder ∨ (m.foldl fillStep s).free < x.nodes ∨ (¬ n0 + x.limit ≤ c.shadow ∧ ¬ x.nodes ≤ (m.foldl fillStep s).extra)
  | [], s, T, _, h => ⟨[], by rw [List.append_nil]; exact h, Int.le_refl _, Int.le_refl _, (fun _ h => h), fun _ h => by simp at h⟩
  | x :: m, s, T, hm, h => by
    obtain ⟨hx, hn⟩ := hm x (List.mem_cons_self ..)
    obtain ⟨T1, h1, h2, h3, h4, h5⟩ := h.step hx hn
    obtain ⟨T2, g1, g2, g3, g4, g5⟩ := Fill.all m (fun y hy => hm y (List.mem_cons_of_mem _ hy)) h1
    rw [List.foldl_cons]
    refine ⟨T1 ++ T2, by rw [← List.append_assoc]; exact g1, by omega, by omega, fun j hj => g4 j (h4 j hj), fun y hy => ?_⟩
    rcases List.mem_cons.1 hy with rfl | hy
    · rcases h5 with h5 | h5 | h5 | ⟨h5, h6⟩
      · exact .inl (g4 _ h5)
      · exact .inr (.inl h5)
      · exact .inr (.inr (.inl (by omega)))
      · exact .inr (.inr (.inr ⟨h5, by omega⟩))
    · exact g5 y hy

/-- What a pass answers, as its law asks it. -/
structure Whole (n0 f0 : Int) (ws : List Wn) (holder : Int) (l : List Rn) (T : List Wn) : Prop where
  told : Told n0 f0 ws l (passD n0 f0 ws holder l) T
  nohold : ∀ x ∈ T, x.job ≠ (passC n0 f0 ws holder l).holder
  old : ∀ x ∈ ws, x.job = holder → (x.nodes ≤ f0 → ∃ T', T = x :: T') ∧ (f0 < x.nodes → (passC n0 f0 ws holder l).holder = holder)
  none : (passC n0 f0 ws holder l).holder < 0 → (passC n0 f0 ws holder l).holder = -1 ∧ (passC n0 f0 ws holder l).shadow = 0 ∧ (passC n0 f0 ws holder l).extra = 0 ∧ T.length = ws.length
  held : 0 ≤ (passC n0 f0 ws holder l).holder → ∃ h ∈ ws, h.job = (passC n0 f0 ws holder l).holder ∧ (passD n0 f0 ws holder l).free < h.nodes ∧ ∃ more, shadowAll n0 (passD n0 f0 ws holder l).free (passD n0 f0 ws holder l).runs h.nodes = ((passC n0 f0 ws holder l).shadow, more, true) ∧ more ≤ (passC n0 f0 ws holder l).extra ∧
    ∀ x ∈ ws, x.job ≠ (passC n0 f0 ws holder l).holder → x.job ∉ (passD n0 f0 ws holder l).starts → x.nodes ≤ (passD n0 f0 ws holder l).free → ¬ n0 + x.limit ≤ (passC n0 f0 ws holder l).shadow ∧ ¬ x.nodes ≤ more
theorem Told.right {n0 f0 : Int} {ws : List Wn} {l : List Rn} {s : RS} {T : List Wn} (h : Told n0 f0 ws l s T) {holder : Int} (hm : mayB n0 f0 ws holder l = true) : rightB s.free s.runs = true ∧ (∀ r ∈ s.runs, r.fin ≤ 4398046511104) ∧ s.free + sumN s.runs = sumAll f0 l := by
  obtain ⟨⟨a0, a1, a2, a3⟩, hr, hw, -, -⟩ := mayB_iff.1 hm
  have h0 : 0 ≤ s.free ∧ s.free ≤ f0 := by
    have hs : 0 ≤ sumW T := by
      have : ∀ (K : List Wn), (∀ x ∈ K, x ∈ ws) → 0 ≤ sumW K := fun K => by
        induction K with
        | nil => intro _; exact Int.le_refl _
        | cons y K ih => intro hK; have := (hw y (hK y (List.mem_cons_self ..))).2.1; have := ih (fun x hx => hK x (List.mem_cons_of_mem _ hx)); simp only [sumW]; omega
      exact this T h.tmem
    refine ⟨?_, by rw [h.tfree]; omega⟩
    rw [h.tfree]
    rcases List.eq_nil_or_concat T with rfl | ⟨K, x, rfl⟩
    · simp only [sumW]; omega
    · have := h.tfits K.length x (by simp)
      rw [List.concat_eq_append, List.take_left' rfl] at this
      rw [List.concat_eq_append, sumW_append]
      simp only [sumW]
      omega
  refine ⟨rightB_iff.2 ⟨h0.1, by omega, fun r hrm => ?_⟩, fun r hrm => ?_, ?_⟩
  · rw [h.truns] at hrm
    rcases List.mem_append.1 hrm with hrm | hrm
    · have := hr r hrm; exact ⟨this.1, this.2.1⟩
    · obtain ⟨x, hx, rfl⟩ := List.mem_map.1 hrm
      have := hw x (h.tmem x hx)
      exact ⟨this.2.1, this.2.2.1⟩
  · rw [h.truns] at hrm
    rcases List.mem_append.1 hrm with hrm | hrm
    · exact (hr r hrm).2.2.2
    · obtain ⟨x, hx, rfl⟩ := List.mem_map.1 hrm
      have := hw x (h.tmem x hx)
      show n0 + x.limit ≤ _
      omega
  · rw [h.truns, h.tfree, sumN_append, sumN_runs]
    unfold sumAll
    omega
theorem whole {n0 f0 holder : Int} {ws : List Wn} {l : List Rn} (hm : mayB n0 f0 ws holder l = true) : ∃ T, Whole n0 f0 ws holder l T := by
  obtain ⟨T, hT, hsh, hex, hold, hheld⟩ := passB_told hm
  obtain ⟨⟨a0, a1, a2, a3⟩, hr, hw, hnd, -⟩ := mayB_iff.1 hm
  rcases hheld with ⟨hh, hall⟩ | ⟨h, hhw, hh, hneed, hfree, hnot⟩
  · have hC : passC n0 f0 ws holder l = (passB n0 f0 ws holder l).1 := by unfold passC pinS; rw [if_neg (by omega)]
    have hD : passD n0 f0 ws holder l = (passB n0 f0 ws holder l).1 := by unfold passD; rw [hC, if_neg (by omega)]
    refine ⟨T, by rw [hD]; exact hT, fun x hx => ?_, by rw [hC]; exact hold, fun _ => ?_, fun hp => ?_⟩
    · rw [hC, hh]; have := (hw x (hT.tmem x hx)).1; omega
    · rw [hC]
      refine ⟨hh, hsh, hex, ?_⟩
      have h1 : T.length ≤ ws.length := by
        have := length_le_of_nodup (T.map (·.job)) (ws.map (·.job)) hT.tnodup (fun j hj => by
          obtain ⟨x, hx, rfl⟩ := List.mem_map.1 hj
          exact List.mem_map_of_mem (hT.tmem x hx))
        simpa using this
      have h2 : ws.length ≤ T.length := by
        have := length_le_of_nodup (ws.map (·.job)) (T.map (·.job)) hnd (fun j hj => by
          obtain ⟨x, hx, rfl⟩ := List.mem_map.1 hj
          have := hall x hx
          rwa [hT.tstarts] at this)
        simpa using this
      omega
    · rw [hC, hh] at hp; omega
  · have h0 : 0 ≤ h.job := (hw h hhw).1
    obtain ⟨hright, hfin, hsum⟩ := hT.right hm
    obtain ⟨a, m, hsd⟩ := shadow_is (n0 := n0) (need := h.nodes) hright (by have := (hw h hhw).2.1; omega) (by omega) hfin (by rw [hsum]; exact (hw h hhw).2.2.2.1)
    have hC : passC n0 f0 ws holder l = { (passB n0 f0 ws holder l).1 with shadow := a, extra := m } := by
      unfold passC pinS
      rw [if_pos (by omega), hneed, hsd]
    have hF : Fill n0 f0 ws l h.nodes (passC n0 f0 ws holder l) (passC n0 f0 ws holder l) T := by
      rw [hC]
      exact ⟨hT.same rfl rfl rfl rfl, rfl, rfl, Int.le_refl _, Int.le_refl _, hsd, by show (passB n0 f0 ws holder l).1.holder ∉ _; rw [hh]; exact hnot⟩
    have hCh : (passC n0 f0 ws holder l).holder = h.job := by rw [hC]; exact hh
    have hCf : (passC n0 f0 ws holder l).free < h.nodes := by rw [hC]; exact hfree
    obtain ⟨T', g1, g2, g3, g4, g5⟩ := Fill.all ws (fun x hx => ⟨hx, (hw x hx).2.1⟩) hF
    have hD : passD n0 f0 ws holder l = ws.foldl fillStep (passC n0 f0 ws holder l) := by unfold passD; rw [if_pos (by omega)]
    rw [← hD] at g1 g2 g3 g4 g5
    refine ⟨T ++ T', g1.told, fun x hx e => ?_, fun x hx e => ?_, fun hp => by omega, fun _ => ⟨h, hhw, hCh.symm, by omega, (passD n0 f0 ws holder l).extra, by rw [g1.kept, g1.shadow], g1.extra, fun x hx e1 e2 e3 => ?_⟩⟩
    · exact g1.nohold (by rw [← e, g1.told.tstarts]; exact List.mem_map_of_mem hx)
    · obtain ⟨o1, o2⟩ := hold x hx e
      refine ⟨fun hf => ?_, fun hf => ?_⟩
      · obtain ⟨K, rfl⟩ := o1 hf
        exact ⟨K ++ T', rfl⟩
      · rw [hC]; exact o2 hf
    · rcases g5 x hx with h5 | h5 | h5 | h5
      · exact absurd h5 e2
      · exact absurd h5 e1
      · omega
      · exact h5
theorem Told.few {n0 f0 : Int} {ws : List Wn} {l : List Rn} {s : RS} {T : List Wn} (h : Told n0 f0 ws l s T) {holder : Int} (hm : mayB n0 f0 ws holder l = true) : T.length ≤ 256 := by
  obtain ⟨hr, -, -⟩ := h.right hm
  obtain ⟨⟨a0, a1, a2, a3⟩, -, hw, -, -⟩ := mayB_iff.1 hm
  have h1 := (rightB_iff.1 hr).1
  rw [h.tfree] at h1
  have h2 : ∀ (K : List Wn), (∀ x ∈ K, x ∈ ws) → (K.length : Int) ≤ sumW K := fun K => by
    induction K with
    | nil => intro _; exact Int.le_refl _
    | cons y K ih => intro hK; have := (hw y (hK y (List.mem_cons_self ..))).2.1; have := ih (fun x hx => hK x (List.mem_cons_of_mem _ hx)); simp only [sumW, List.length_cons]; omega
  have := h2 T h.tmem
  omega
theorem sumW_bd {ws T : List Wn} (hw : ∀ x ∈ ws, 1 ≤ x.nodes ∧ x.nodes ≤ 256) (hT : ∀ x ∈ T, x ∈ ws) (k : Nat) : 0 ≤ sumW (T.take k) ∧ sumW (T.take k) ≤ sumW T := by
  have h1 : ∀ (K : List Wn), (∀ x ∈ K, x ∈ ws) → 0 ≤ sumW K := fun K => by
    induction K with
    | nil => intro _; exact Int.le_refl _
    | cons y K ih => intro hK; have := (hw y (hK y (List.mem_cons_self ..))).1; have := ih (fun x hx => hK x (List.mem_cons_of_mem _ hx)); simp only [sumW]; omega
  have e : sumW T = sumW (T.take k) + sumW (T.drop k) := by rw [← sumW_append, List.take_append_drop]
  have a1 := h1 (T.take k) (fun x hx => hT x (List.mem_of_mem_take hx))
  have a2 := h1 (T.drop k) (fun x hx => hT x (List.mem_of_mem_drop hx))
  omega
end Go.Proofs.HL.Pa

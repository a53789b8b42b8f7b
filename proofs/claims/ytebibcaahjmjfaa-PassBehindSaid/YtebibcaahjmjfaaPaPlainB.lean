/- What comes last changes nothing ahead; the order of the runs is not seen. -/
import Derived.Test.YtebibcaahjmjfaaPaPlan
set_option linter.unusedVariables false
namespace Go.Proofs.HL.Pa
open Go.Proofs.HL.Pr

/-- Alike but for the order of the runs. -/
structure Like (s t : RS) : Prop where
  now : s.now = t.now
  free : s.free = t.free
  runs : s.runs.Perm t.runs
  starts : s.starts = t.starts
  holder : s.holder = t.holder
  shadow : s.shadow = t.shadow
  extra : s.extra = t.extra
theorem Like.start {s t : RS} (h : Like s t) (x : Wn) : Like (startP s x) (startP t x) := by
  obtain ⟨h1, h2, h3, h4, h5, h6, h7⟩ := h
  refine ⟨h1, ?_, ?_, ?_, h5, h6, h7⟩
  · show s.free - x.nodes = t.free - x.nodes; rw [h2]
  · show (s.runs ++ [_]).Perm (t.runs ++ [_]); rw [h1]; exact h3.append_right _
  · show s.starts ++ [_] = t.starts ++ [_]; rw [h4]
theorem Like.hold {holder : Int} {p q : RS × Int} (h : Like p.1 q.1) (h2 : p.2 = q.2) (x : Wn) : Like (holdStep holder p x).1 (holdStep holder q x).1 ∧ (holdStep holder p x).2 = (holdStep holder q x).2 := by
  unfold holdStep
  by_cases h1 : x.job ≠ holder
  · rw [if_pos h1, if_pos h1]; exact ⟨h, h2⟩
  · rw [if_neg h1, if_neg h1, h.free]
    by_cases h3 : x.nodes ≤ q.1.free
    · rw [if_pos h3, if_pos h3]
      have := h.start x
      exact ⟨⟨this.now, this.free, this.runs, this.starts, rfl, this.shadow, this.extra⟩, rfl⟩
    · rw [if_neg h3, if_neg h3]; exact ⟨h, rfl⟩
theorem Like.holds {holder : Int} : ∀ (l : List Wn) {p q : RS × Int}, Like p.1 q.1 → p.2 = q.2 → Like (l.foldl (holdStep holder) p).1 (l.foldl (holdStep holder) q).1 ∧ (l.foldl (holdStep holder) p).2 = (l.foldl (holdStep holder) q).2
  | [], p, q, h, h2 => ⟨h, h2⟩
  | x :: l, p, q, h, h2 => by
    have := h.hold (holder := holder) h2 x
    rw [List.foldl_cons, List.foldl_cons]
    exact Like.holds l this.1 this.2
theorem Like.ranked : ∀ (l : List Wn) {s t : RS}, Like s t → Like (rankedP s l).1 (rankedP t l).1 ∧ (rankedP s l).2 = (rankedP t l).2
  | [], s, t, h => ⟨h, rfl⟩
  | x :: l, s, t, h => by
    unfold rankedP
    rw [h.starts, h.free]
    by_cases h1 : x.job ∈ t.starts
    · rw [if_pos h1, if_pos h1]; exact Like.ranked l h
    · rw [if_neg h1, if_neg h1]
      by_cases h2 : x.nodes ≤ t.free
      · rw [if_pos h2, if_pos h2]; exact Like.ranked l (h.start x)
      · rw [if_neg h2, if_neg h2]; exact ⟨⟨h.now, rfl, h.runs, rfl, rfl, h.shadow, h.extra⟩, rfl⟩
theorem Like.fill1 {s t : RS} (h : Like s t) (x : Wn) : Like (fillStep s x) (fillStep t x) := by
  unfold fillStep
  rw [h.starts, h.holder, h.free, h.now, h.shadow, h.extra]
  split
  · exact h
  · split
    · exact h.start x
    · split
      · exact Like.start (show Like ⟨t.now, t.free, s.runs, t.starts, t.holder, t.shadow, t.extra - x.nodes⟩ ⟨t.now, t.free, t.runs, t.starts, t.holder, t.shadow, t.extra - x.nodes⟩ from ⟨rfl, rfl, h.runs, rfl, rfl, rfl, rfl⟩) x
      · exact h
theorem Like.fill : ∀ (l : List Wn) {s t : RS}, Like s t → Like (l.foldl fillStep s) (l.foldl fillStep t)
  | [], s, t, h => h
  | x :: l, s, t, h => by rw [List.foldl_cons, List.foldl_cons]; exact Like.fill l (h.fill1 x)
theorem Like.pin {now : Int} {p q : RS × Int} (h : Like p.1 q.1) (h2 : p.2 = q.2) : Like (pinS now p) (pinS now q) := by
  unfold pinS
  rw [h.holder, h.free, h2, shadowAll_perm h.runs]
  split
  · exact ⟨h.now, h.free, h.runs, h.starts, h.holder, rfl, rfl⟩
  · exact h
theorem passC_perm {l m : List Rn} (h : l.Perm m) (now free holder : Int) (ws : List Wn) : Like (passC now free ws holder l) (passC now free ws holder m) := by
  have hA := Like.holds (holder := holder) ws (p := (rs0 now free holder l, 0)) (q := (rs0 now free holder m, 0)) ⟨rfl, rfl, h, rfl, rfl, rfl, rfl⟩ rfl
  have hB : Like (passB now free ws holder l).1 (passB now free ws holder m).1 ∧ (passB now free ws holder l).2 = (passB now free ws holder m).2 := by
    unfold passB
    have e : (passA now free ws holder l).1.holder = (passA now free ws holder m).1.holder := hA.1.holder
    rw [e]
    split
    · exact Like.ranked ws hA.1
    · exact hA
  exact hB.1.pin hB.2
theorem passD_perm {l m : List Rn} (h : l.Perm m) (now free holder : Int) (ws : List Wn) : Like (passD now free ws holder l) (passD now free ws holder m) := by
  have hC := passC_perm h now free holder ws
  unfold passD
  rw [hC.holder]
  split
  · exact Like.fill ws hC
  · exact hC
theorem mayB_perm {l m : List Rn} (h : l.Perm m) {now free holder : Int} {ws : List Wn} : mayB now free ws holder l = mayB now free ws holder m := by
  have e : sumAll free l = sumAll free m := by unfold sumAll; rw [sumN_perm h]
  have e2 : l.all (okRun now) = m.all (okRun now) := by
    rw [Bool.eq_iff_iff, List.all_eq_true, List.all_eq_true]
    exact ⟨fun h1 x hx => h1 x (h.mem_iff.2 hx), fun h1 x hx => h1 x (h.mem_iff.1 hx)⟩
  unfold mayB
  rw [e, e2]

theorem ranked_more (m : List Wn) : ∀ (l : List Wn) (s : RS), s.holder = -1 → 0 ≤ (rankedP s l).1.holder → rankedP s (l ++ m) = rankedP s l
  | [], s, h, h2 => by simp only [rankedP] at h2; omega
  | x :: l, s, h, h2 => by
    rw [List.cons_append]
    unfold rankedP at h2 ⊢
    split
    · rename_i h3; rw [if_pos h3] at h2; exact ranked_more m l s h h2
    · rename_i h3
      rw [if_neg h3] at h2
      split
      · rename_i h4; rw [if_pos h4] at h2; exact ranked_more m l _ h h2
      · rfl
theorem fill_one (s : RS) (x : Wn) : (fillStep s x).starts = s.starts ∨ (fillStep s x).starts = s.starts ++ [x.job] := by
  unfold fillStep
  split
  · exact .inl rfl
  · split
    · exact .inr rfl
    · split
      · exact .inr rfl
      · exact .inl rfl
theorem mayB_left {now free holder : Int} {ws : List Wn} {x : Wn} {l : List Rn} (h1 : mayB now free ws holder l = true) (h2 : mayB now free (ws ++ [x]) holder l = true) : x.job ≠ holder := by
  simp only [mayB, Bool.and_eq_true, Bool.or_eq_true, decide_eq_true_eq, List.map_append, List.map_cons, List.map_nil, List.all_append, List.all_cons, List.all_nil] at h1 h2
  rcases h1.2 with h | h
  · have := h2.1.1.2.2
    simp only [okWant, Bool.and_eq_true, decide_eq_true_eq] at this
    omega
  · intro e
    have := List.nodup_append.1 h2.1.2
    exact this.2.2 _ h _ (List.mem_singleton_self _) e.symm
theorem passC_more {now free holder : Int} {ws : List Wn} {x : Wn} {l : List Rn} (h1 : mayB now free ws holder l = true) (h2 : mayB now free (ws ++ [x]) holder l = true) (h3 : 0 ≤ (passC now free ws holder l).holder) :
    passC now free (ws ++ [x]) holder l = passC now free ws holder l := by
  have hj := mayB_left h1 h2
  have hA : passA now free (ws ++ [x]) holder l = passA now free ws holder l := by
    unfold passA
    rw [List.foldl_append, List.foldl_cons, List.foldl_nil]
    unfold holdStep
    rw [if_pos hj]
  have hB : passB now free (ws ++ [x]) holder l = passB now free ws holder l := by
    have h4 : 0 ≤ (passB now free ws holder l).1.holder := by
      unfold passC pinS at h3
      split at h3
      · rename_i h; exact h
      · exact h3
    unfold passB at h4 ⊢
    rw [hA]
    split
    · rename_i h; rw [if_pos h] at h4; exact ranked_more _ _ _ h h4
    · rfl
  unfold passC
  rw [hB]
theorem passD_more {now free holder : Int} {ws : List Wn} {x : Wn} {l : List Rn} (h1 : mayB now free ws holder l = true) (h2 : mayB now free (ws ++ [x]) holder l = true) (h3 : 0 ≤ (passC now free ws holder l).holder) :
    (passD now free (ws ++ [x]) holder l).starts = (passD now free ws holder l).starts ∨ (passD now free (ws ++ [x]) holder l).starts = (passD now free ws holder l).starts ++ [x.job] := by
  have hC := passC_more h1 h2 h3
  unfold passD
  rw [hC, if_pos h3, if_pos h3, List.foldl_append, List.foldl_cons, List.foldl_nil]
  exact fill_one _ x
end Go.Proofs.HL.Pa

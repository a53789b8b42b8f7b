/- The reference's check and the check: the same. -/
import Derived.Test.YtdekbbffoaphhaaDoorVeBackP
set_option linter.unusedVariables false
namespace Go.Proofs.Ve
/-- What is left of a command, field by field; none: one of them may not be. -/
def chkR : Cm → List Nat → Option Cm
  | r, [] => some r
  | r, f :: fs => if f < 2 then (if validB (txtF r f) then chkR (setT r f ⟨#[]⟩) fs else none) else if numF r f < 0 then none else chkR (setN r f 0) fs
def refCheckB (c : Cm) : Bool := match verbL.find? (fun v => v.kind == c.kind) with
  | none => false
  | some V => match chkR { c with kind := 0 } V.fs with | none => false | some r => decide (r = zeroC 0)
/-- A field of one and of the other. -/
def Comp (c o r : Cm) (g : Nat) : Prop := (g < 2 → (txtF o g = txtF c g ∧ txtF r g = ⟨#[]⟩) ∨ (txtF o g = ⟨#[]⟩ ∧ txtF r g = txtF c g)) ∧ (2 ≤ g → (numF o g = numF c g ∧ numF r g = 0) ∨ (numF o g = 0 ∧ numF r g = numF c g))
theorem chk_same {c : Cm} : ∀ (fs : List Nat) (o r : Cm), fs.Nodup → (∀ f ∈ fs, f ≤ 6) → (∀ f ∈ fs, SameAt r c f) → (∀ g, g ≤ 6 → Comp c o r g) →
    (chk c o fs = none ∧ chkR r fs = none) ∨ ∃ o' r', chk c o fs = some o' ∧ chkR r fs = some r' ∧ o'.kind = o.kind ∧ r'.kind = r.kind ∧ ∀ g, g ≤ 6 → Comp c o' r' g
  | [], o, r, _, _, _, hc => .inr ⟨o, r, rfl, rfl, rfl, rfl, hc⟩
  | f :: fs, o, r, hn, h6, hs, hc => by
    rw [List.nodup_cons] at hn
    have hf6 := h6 f (List.mem_cons_self ..)
    obtain ⟨s1, s2⟩ := hs f (List.mem_cons_self ..)
    simp only [chk, chkR]
    by_cases h2 : f < 2
    · rw [if_pos h2, if_pos h2, s1 h2]
      by_cases hv : validB (txtF c f) = true
      · rw [if_pos hv, if_pos hv]
        obtain ⟨a1, a2, a3⟩ := setT_at (o := o) h2 (txtF c f)
        obtain ⟨b1, b2, b3⟩ := setT_at (o := r) h2 ⟨#[]⟩
        rcases chk_same fs (setT o f (txtF c f)) (setT r f ⟨#[]⟩) hn.2 (fun g hg => h6 g (List.mem_cons_of_mem _ hg)) (fun g hg => by
          have hne : g ≠ f := fun e => hn.1 (e ▸ hg)
          have h1 := b3 g (h6 g (List.mem_cons_of_mem _ hg)) hne
          have h3 := hs g (List.mem_cons_of_mem _ hg)
          exact ⟨fun h => (h1.1 h).trans (h3.1 h), fun h => (h1.2 h).trans (h3.2 h)⟩) (fun g hg => by
          by_cases hne : g = f
          · subst hne
            exact ⟨fun _ => .inl ⟨a1, b1⟩, fun h => by omega⟩
          · have h1 := a3 g hg hne
            have h3 := b3 g hg hne
            have h4 := hc g hg
            exact ⟨fun h => by rw [h1.1 h, h3.1 h]; exact h4.1 h, fun h => by rw [h1.2 h, h3.2 h]; exact h4.2 h⟩) with h | ⟨o', r', e1, e2, e3, e4, e5⟩
        · exact .inl h
        · exact .inr ⟨o', r', e1, e2, e3.trans a2, e4.trans b2, e5⟩
      · rw [if_neg hv, if_neg hv]; exact .inl ⟨rfl, rfl⟩
    · have h2' : 2 ≤ f := by omega
      rw [if_neg h2, if_neg h2, s2 h2']
      by_cases hv : numF c f < 0
      · rw [if_pos hv, if_pos hv]; exact .inl ⟨rfl, rfl⟩
      · rw [if_neg hv, if_neg hv]
        obtain ⟨a1, a2, a3⟩ := setN_at (o := o) h2' hf6 (numF c f)
        obtain ⟨b1, b2, b3⟩ := setN_at (o := r) h2' hf6 0
        rcases chk_same fs (setN o f (numF c f)) (setN r f 0) hn.2 (fun g hg => h6 g (List.mem_cons_of_mem _ hg)) (fun g hg => by
          have hne : g ≠ f := fun e => hn.1 (e ▸ hg)
          have h1 := b3 g (h6 g (List.mem_cons_of_mem _ hg)) hne
          have h3 := hs g (List.mem_cons_of_mem _ hg)
          exact ⟨fun h => (h1.1 h).trans (h3.1 h), fun h => (h1.2 h).trans (h3.2 h)⟩) (fun g hg => by
          by_cases hne : g = f
          · subst hne
            exact ⟨fun h => by omega, fun _ => .inl ⟨a1, b1⟩⟩
          · have h1 := a3 g hg hne
            have h3 := b3 g hg hne
            have h4 := hc g hg
            exact ⟨fun h => by rw [h1.1 h, h3.1 h]; exact h4.1 h, fun h => by rw [h1.2 h, h3.2 h]; exact h4.2 h⟩) with h | ⟨o', r', e1, e2, e3, e4, e5⟩
        · exact .inl h
        · exact .inr ⟨o', r', e1, e2, e3.trans a2, e4.trans b2, e5⟩
theorem cm_ext {o c : Cm} (hk : o.kind = c.kind) (h : ∀ g, g ≤ 6 → SameAt o c g) : o = c := by
  have h0 := (h 0 (by omega)).1 (by omega)
  have h1 := (h 1 (by omega)).1 (by omega)
  have h2 := (h 2 (by omega)).2 (by omega)
  have h3 := (h 3 (by omega)).2 (by omega)
  have h4 := (h 4 (by omega)).2 (by omega)
  have h5 := (h 5 (by omega)).2 (by omega)
  have h6 := (h 6 (by omega)).2 (by omega)
  obtain ⟨a0, a1, a2, a3, a4, a5, a6, a7⟩ := o
  obtain ⟨b0, b1, b2, b3, b4, b5, b6, b7⟩ := c
  simp [txtF, numF] at h0 h1 h2 h3 h4 h5 h6
  dsimp only at hk
  subst hk h0 h1 h2 h3 h4 h5 h6
  rfl
theorem zero_at (k : Int) (g : Nat) (hg : g ≤ 6) : (g < 2 → txtF (zeroC k) g = ⟨#[]⟩) ∧ (2 ≤ g → numF (zeroC k) g = 0) := by
  rcases seven6 hg with rfl | rfl | rfl | rfl | rfl | rfl | rfl <;> exact ⟨fun h => by first | rfl | omega, fun h => by first | rfl | omega⟩
theorem refCheck_eq (c : Cm) : refCheckB c = checkB c := by
  unfold refCheckB checkB
  cases hf : verbL.find? (fun v => v.kind == c.kind) with
  | none => rfl
  | some V =>
    have hV := List.mem_of_find?_eq_some hf
    simp only [okV]
    have hself : ∀ g, SameAt { c with kind := 0 } c g := fun g => ⟨fun _ => rfl, fun _ => rfl⟩
    rcases chk_same (c := c) V.fs (zeroC c.kind) { c with kind := 0 } (fs_nodup V hV) (fs_le V hV) (fun f _ => hself f) (fun g hg => by
      have hz := zero_at c.kind g hg
      exact ⟨fun h => .inr ⟨hz.1 h, (hself g).1 h⟩, fun h => .inr ⟨hz.2 h, (hself g).2 h⟩⟩) with ⟨h1, h2⟩ | ⟨o', r', h1, h2, h3, h4, h5⟩
    · rw [h1, h2]
    · rw [h1, h2]
      simp only
      have hok : o'.kind = c.kind := h3
      have hrk : r'.kind = 0 := h4
      rw [Bool.eq_iff_iff, decide_eq_true_eq, decide_eq_true_eq]
      constructor
      · intro hr
        refine cm_ext hok fun g hg => ?_
        have hz := zero_at 0 g hg
        have hc := h5 g hg
        rw [hr] at hc
        refine ⟨fun h => ?_, fun h => ?_⟩
        · rcases hc.1 h with h6 | h6
          · exact h6.1
          · rw [h6.1, ← h6.2, hz.1 h]
        · rcases hc.2 h with h6 | h6
          · exact h6.1
          · rw [h6.1, ← h6.2, hz.2 h]
      · intro ho
        refine cm_ext hrk fun g hg => ?_
        have hz := zero_at 0 g hg
        have hc := h5 g hg
        rw [ho] at hc
        refine ⟨fun h => ?_, fun h => ?_⟩
        · rw [hz.1 h]
          rcases hc.1 h with h6 | h6
          · exact h6.2
          · rw [h6.2, h6.1]
        · rw [hz.2 h]
          rcases hc.2 h with h6 | h6
          · exact h6.2
          · rw [h6.2, h6.1]
end Go.Proofs.Ve

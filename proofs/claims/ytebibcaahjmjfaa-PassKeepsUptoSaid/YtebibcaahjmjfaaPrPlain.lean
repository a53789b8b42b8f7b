/- Steps as a function of time: what At and Shadow find. -/
import Derived.Test.YtebibcaahjmjfaaPrCore
set_option linter.unusedVariables false
namespace Go.Proofs.HL.Pr

/-- What is free by the last step that is not above a time. -/
def goA (t : Int) (a : Int) : List Sp → Int
  | [] => a
  | s :: r => if t < s.at_ then a else goA t s.free r
theorem atS_same {free : Int} {l : List Rn} {t0 t : Int} (h : ∀ r ∈ l, (r.fin ≤ t0 ↔ r.fin ≤ t)) : atS free l t0 = atS free l t := by
  unfold atS
  congr 2
  exact List.filter_congr fun r hr => by simp only [h r hr]
theorem goA_stepsT (free : Int) (l : List Rn) (t : Int) : ∀ (g : Nat) (t0 : Int), above l t0 ≤ g → t0 ≤ t → goA t (atS free l t0) (stepsT free l t0) = atS free l t := by
  intro g
  induction g with
  | zero =>
    intro t0 hg ht
    have hn : nextS l t0 = none := by
      cases hn : nextS l t0 with
      | none => rfl
      | some n => have := above_lt hn; omega
    rw [stepsT_none hn]
    have := nextS_none.1 hn
    exact atS_same fun r hr => by have := this r hr; omega
  | succ g ih =>
    intro t0 hg ht
    cases hn : nextS l t0 with
    | none =>
      rw [stepsT_none hn]
      have := nextS_none.1 hn
      exact atS_same fun r hr => by have := this r hr; omega
    | some n =>
      rw [stepsT_some hn]
      have h1 := above_lt hn
      obtain ⟨-, h2, h3⟩ := nextS_some.1 hn
      unfold goA
      by_cases h4 : t < n
      · simp only [h4, if_true]
        refine atS_same fun r hr => ?_
        have := h3 r hr
        omega
      · simp only [h4, if_false]
        exact ih n (by omega) (by omega)
theorem goA_all (now free : Int) (l : List Rn) (t : Int) : goA t 0 (stepsAll now free l) = atAll now free l t := by
  unfold stepsAll atAll
  by_cases hf : rightB free l = true
  · rw [if_pos hf, stepsS_eq]
    simp only [goA]
    by_cases h : t < now
    · rw [if_pos h, if_neg (fun h' => by omega)]
    · rw [if_neg h, if_pos ⟨hf, by omega⟩]
      exact goA_stepsT free l t _ now (Nat.le_refl _) (by omega)
  · rw [if_neg hf, if_neg (fun h => hf h.1)]
    rfl
theorem goA_hit {t a : Int} {T : List Sp} {k : Nat} {x : Sp} (hx : T[k]? = some x) (h : t < x.at_) : goA t a (T.drop k) = a := by
  have hlt := (List.getElem?_eq_some_iff.1 hx).1
  rw [List.drop_eq_getElem_cons hlt]
  obtain ⟨_, rfl⟩ := List.getElem?_eq_some_iff.1 hx
  simp only [goA, if_pos h]
theorem goA_miss {t a : Int} {T : List Sp} {k : Nat} {x : Sp} (hx : T[k]? = some x) (h : ¬ t < x.at_) : goA t a (T.drop k) = goA t x.free (T.drop (k + 1)) := by
  have hlt := (List.getElem?_eq_some_iff.1 hx).1
  rw [List.drop_eq_getElem_cons hlt]
  obtain ⟨_, rfl⟩ := List.getElem?_eq_some_iff.1 hx
  simp only [goA, if_neg h]
end Go.Proofs.HL.Pr

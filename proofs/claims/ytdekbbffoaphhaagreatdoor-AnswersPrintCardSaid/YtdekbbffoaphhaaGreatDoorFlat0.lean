/- Lists of elements of k cells each, flat. -/
import Derived.Test.YtdekbbffoaphhaaGreatDoorSteps
set_option linter.unusedVariables false
namespace Go.Proofs.HL
open Go.RowKit
section
variable {α : Type} (enc : α → List Value) (k : Nat) (hk : ∀ x, (enc x).length = k)
include hk
theorem flat_length : ∀ xs : List α, (xs.flatMap enc).length = xs.length * k
 | [] => by simp
 | x :: xs => by rw [List.flatMap_cons, List.length_append, hk, flat_length xs, List.length_cons, Nat.add_mul, Nat.one_mul, Nat.add_comm]
theorem flat_at : ∀ (xs : List α) (j f : Nat) (x : α), xs[j]? = some x → f < k → (xs.flatMap enc)[j * k + f]? = (enc x)[f]?
 | [], j, f, x, h, _ => by simp at h
 | y :: xs, 0, f, x, h, hf => by
  simp only [List.getElem?_cons_zero, Option.some.injEq] at h
  subst h
  rw [List.flatMap_cons, Nat.zero_mul, Nat.zero_add, List.getElem?_append_left (by rw [hk]; exact hf)]
 | y :: xs, j + 1, f, x, h, hf => by
  simp only [List.getElem?_cons_succ] at h
  rw [List.flatMap_cons, List.getElem?_append_right (by rw [hk, Nat.add_mul]; omega), hk, show (j + 1) * k + f - k = j * k + f by rw [Nat.add_mul]; omega]
  exact flat_at xs j f x h hf
end
end Go.Proofs.HL

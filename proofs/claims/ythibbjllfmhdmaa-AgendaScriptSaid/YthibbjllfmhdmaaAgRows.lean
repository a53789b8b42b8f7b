/- Arguments of the laws of agendas: lists of acts, lists of numbers. -/
import Derived.Test.YthibbjllfmhdmaaAgFilled
import Derived.Test.YthibbjllfmhdmaaOpen
set_option linter.unusedVariables false
namespace Go.Proofs.Ythibbjllfmhdmaa
open Go.RowKit Go.ChangeShapes Go.WideShapes Go.Deep Go.Proofs.HL AgInt
variable {H : Type} {encH : TypeId × Value → H} {w : World} {base : Nat} {spare : Nat → Bool} {held : Bool}

theorem open_acts {v : Value} {d : DataW H} {ps : List MemPlace} (hv : ∃ a len cap, v = .slice a len cap) (h : DataW.Trod encH Try.prog w base spare held 22 v d ps) :
    ∃ l : List ActD, Acts w v l ∧ (∀ x ∈ l, True) ∧ ((d = .nil ∧ l = []) ∨ ∃ elems rest, d = .slice elems rest ∧ elems.length = l.length) := by
  refine open_rows 5 encAct (fun _ => True) (fun _ => rfl) (by decide) Try.underlying22 (by kernel_rfl) ?_ hv h
  intro n cs y hl ht
  obtain ⟨m, hf⟩ := open_struct Try.underlying45 (by kernel_rfl) hl ht
  obtain ⟨v0, z0, c0, t0⟩ := hf 0 _ rfl
  obtain ⟨v1, z1, c1, t1⟩ := hf 1 _ rfl
  obtain ⟨v2, z2, c2, t2⟩ := hf 2 _ rfl
  obtain ⟨v3, z3, c3, t3⟩ := hf 3 _ rfl
  obtain ⟨v4, z4, c4, t4⟩ := hf 4 _ rfl
  obtain ⟨i0, rfl, -⟩ := field_int Try.underlying3 t0
  obtain ⟨i1, rfl, -⟩ := field_int Try.underlying3 t1
  obtain ⟨i2, rfl, -⟩ := field_int Try.underlying3 t2
  obtain ⟨i3, rfl, -⟩ := field_int Try.underlying3 t3
  obtain ⟨i4, rfl, -⟩ := field_int Try.underlying3 t4
  refine ⟨⟨i0, i1, i2, i3, i4⟩, ?_, trivial⟩
  match cs, hl with
  | [_, _, _, _, _], _ =>
    simp only [List.getElem?_cons_zero, List.getElem?_cons_succ, Option.some.injEq] at c0 c1 c2 c3 c4
    subst c0 c1 c2 c3 c4
    rfl

theorem open_nums {v : Value} {d : DataW H} {ps : List MemPlace} (hv : ∃ a len cap, v = .slice a len cap) (h : DataW.Trod encH Try.prog w base spare held 27 v d ps) :
    ∃ l : List Int, Rd 1 v l.length (ints l) w ∧ (∀ x ∈ l, True) ∧ ((d = .nil ∧ l = []) ∨ ∃ elems rest, d = .slice elems rest ∧ elems.length = l.length) := by
  have := open_rows 1 (fun i : Int => [Value.int .i64 i]) (fun _ => True) (fun _ => rfl) (by decide) Try.underlying27 (by kernel_rfl) (by
    intro n cs y hl ht
    obtain ⟨i, h1, -⟩ := DataW.trod_int Try.underlying3 ht
    exact ⟨i, h1, trivial⟩) hv h
  have e : ∀ l : List Int, l.flatMap (fun i : Int => [Value.int .i64 i]) = ints l := fun l => by
    induction l with
    | nil => rfl
    | cons x l ih => rw [List.flatMap_cons, ih]; rfl
  simpa only [e] using this
end Go.Proofs.Ythibbjllfmhdmaa

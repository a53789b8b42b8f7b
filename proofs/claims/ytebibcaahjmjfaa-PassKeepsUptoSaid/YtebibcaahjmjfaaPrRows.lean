/- Arguments of the laws of profiles: lists of runs. -/
import Derived.Test.YtebibcaahjmjfaaPrRef
import Derived.Test.YtebibcaahjmjfaaOpen
set_option linter.unusedVariables false
namespace Go.Proofs.Ytebibcaahjmjfaa
open Go.RowKit Go.ChangeShapes Go.WideShapes Go.Deep Go.Proofs.HL Go.Proofs.HL.Pr
variable {H : Type} {encH : TypeId × Value → H} {w : World} {base : Nat} {spare : Nat → Bool} {held : Bool}

theorem open_runs {v : Value} {d : DataW H} {ps : List MemPlace} (hv : ∃ a len cap, v = .slice a len cap) (h : DataW.Trod encH Try.prog w base spare held 22 v d ps) :
    ∃ l : List Rn, Rd 2 v l.length (l.flatMap encR) w ∧ (∀ x ∈ l, True) ∧ ((d = .nil ∧ l = []) ∨ ∃ elems rest, d = .slice elems rest ∧ elems.length = l.length) := by
  refine open_rows 2 encR (fun _ => True) (fun _ => rfl) (by decide) Try.underlying22 (by kernel_rfl) ?_ hv h
  intro n cs y hl ht
  obtain ⟨m, hf⟩ := open_struct Try.underlying42 (by kernel_rfl) hl ht
  obtain ⟨v0, z0, c0, t0⟩ := hf 0 _ rfl
  obtain ⟨v1, z1, c1, t1⟩ := hf 1 _ rfl
  obtain ⟨i0, rfl, -⟩ := field_int Try.underlying3 t0
  obtain ⟨i1, rfl, -⟩ := field_int Try.underlying3 t1
  refine ⟨⟨i0, i1⟩, ?_, trivial⟩
  match cs, hl with
  | [_, _], _ =>
    simp only [List.getElem?_cons_zero, List.getElem?_cons_succ, Option.some.injEq] at c0 c1
    subst c0 c1
    rfl
theorem open_nums {v : Value} {d : DataW H} {ps : List MemPlace} (hv : ∃ a len cap, v = .slice a len cap) (h : DataW.Trod encH Try.prog w base spare held 36 v d ps) :
    ∃ l : List Int, Rd 1 v l.length (l.flatMap fun i => [Value.int .i64 i]) w ∧ (∀ x ∈ l, True) ∧ ((d = .nil ∧ l = []) ∨ ∃ elems rest, d = .slice elems rest ∧ elems.length = l.length) :=
  open_rows 1 (fun i : Int => [Value.int .i64 i]) (fun _ => True) (fun _ => rfl) (by decide) Try.underlying36 (by kernel_rfl) (by
    intro n cs y hl ht
    obtain ⟨i, h1, -⟩ := DataW.trod_int Try.underlying3 ht
    exact ⟨i, h1, trivial⟩) hv h
end Go.Proofs.Ytebibcaahjmjfaa

/- A function that has gone through several ranges over functions, one behind the other: its end. -/
import Derived.Test.YtebibcaahjmjfaaIterK
set_option linter.unusedVariables false
namespace Go.Proofs.HL
open Go.RowKit
section
variable {P : Program} {w0 : World} {L : List At}
/-- The deferred calls that such ranges leave: none in any of them. -/
def marksD (ds : List Nat) : List Deferred := ds.map fun D => { target := .collected D, args := #[] }
def marksAt (ds : List Nat) : List At := ds.map fun D => blk D (.deferred (some []))
theorem leavesM {fn : Func} {tmps : Array Value} {R : Ending → World → Prop} : ∀ (ds : List Nat) (w : World), HL w0 w (marksAt ds ++ L) →
    (∀ w', HL w0 w' L → ∃ v, (results fn tmps).run P w' = .ok v w' ∧ R (.returned v) w') → LeavesInM Fence.wide 0 P fn tmps R (marksD ds) .returning w
  | [], w, H, h => h w H
  | D :: ds, w, H, h => by
    obtain ⟨ht, H2⟩ := HL.takes (P := P) (D := D) (L := marksAt ds ++ L) H
    exact ⟨by simp, .inl ⟨D, _, rfl, ht, leavesM ds _ H2 h⟩⟩
theorem bodyPostM_marks {fn : Func} {R : Ending → World → Prop} {a : Act} {w : World} (ds : List Nat) (hd : a.defers = marksD ds) (H : HL w0 w (marksAt ds ++ L))
    (h : ∀ w', HL w0 w' L → ∃ v, (results fn a.tmps).run P w' = .ok v w' ∧ R (.returned v) w') : bodyPostM Fence.wide 0 P fn R .ret a w := by
  show LeavesInM Fence.wide 0 P fn a.tmps R a.defers .returning w
  rw [hd]
  exact leavesM ds w H h
end
end Go.Proofs.HL

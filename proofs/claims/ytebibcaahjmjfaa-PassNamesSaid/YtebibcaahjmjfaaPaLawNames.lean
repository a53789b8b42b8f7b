/- The pass's numbers are the document's. -/
import Derived.Test.YtebibcaahjmjfaaPaShown
set_option linter.unusedVariables false
namespace Go.Proofs.Ytebibcaahjmjfaa
open Go.RowKit Go.Proofs.HL Go.Proofs.HL.Pr Go.Proofs.HL.Pa
theorem names15_law {w : World} : Calls Try.prog 11 #[] w fun e w' => e = .returned (.bool true) ∧ Below w.heap.size w w' := by
  have H := HL.start w
  go_enter Try.func11, Try.ntmps11
  go_wp2_with (go_at_call 23; refine (shown15_ok H).mono ?_; rintro e w1 ⟨rfl, H1⟩)
  go_ret
  exact ⟨rfl, H1.below⟩
end Go.Proofs.Ytebibcaahjmjfaa

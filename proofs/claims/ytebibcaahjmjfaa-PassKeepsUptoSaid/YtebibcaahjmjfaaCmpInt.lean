/- cmp.Compare at whole numbers. -/
import Derived.Test.YtebibcaahjmjfaaProg
import Derived.Test.YtebibcaahjmjfaaSteps
import Derived.Outline
import Derived.IntWalk
import Derived.KernelRfl
import Derived.WalkKit
set_option linter.unusedVariables false
set_option linter.unusedSimpArgs false
namespace Go.Proofs.Ytebibcaahjmjfaa
open Go.RowKit Go.Proofs.HL

def cmpI (x y : Int) : Int := if x < y then -1 else if y < x then 1 else 0

theorem isNaN_ok (x : Int) (w : World) : Calls Try.prog 59 #[.int .i64 x] w fun e w' => e = .returned (.bool false) ∧ w = w' := by
  go_enter Try.func59, Try.ntmps59
  go_wp2
  go_ret
  simp

set_option maxRecDepth 100000 in
set_option maxHeartbeats 400000 in
theorem compare_ok (x y : Int) (w : World) : Calls Try.prog 45 #[.int .i64 x, .int .i64 y] w fun e w' => e = .returned (.int .i64 (cmpI x y)) ∧ w = w' := by
  by_cases h1 : x < y
  · have hc : cmpI x y = -1 := by simp [cmpI, h1]
    rw [hc]
    clear hc
    go_enter Try.func45, Try.ntmps45
    go_wp2_with (go_at_call 59; refine (isNaN_ok _ _).mono ?_; rintro e w' ⟨rfl, rfl⟩)
    go_ret
    exact ⟨rfl, rfl⟩
  · by_cases h2 : y < x
    · have hc : cmpI x y = 1 := by simp [cmpI, h1, h2]
      rw [hc]
      clear hc
      go_enter Try.func45, Try.ntmps45
      go_wp2_with (go_at_call 59; refine (isNaN_ok _ _).mono ?_; rintro e w' ⟨rfl, rfl⟩)
      go_ret
      exact ⟨rfl, rfl⟩
    · have hc : cmpI x y = 0 := by simp [cmpI, h1, h2]
      rw [hc]
      clear hc
      go_enter Try.func45, Try.ntmps45
      go_wp2_with (go_at_call 59; refine (isNaN_ok _ _).mono ?_; rintro e w' ⟨rfl, rfl⟩)
      go_ret
      exact ⟨rfl, rfl⟩

end Go.Proofs.Ytebibcaahjmjfaa

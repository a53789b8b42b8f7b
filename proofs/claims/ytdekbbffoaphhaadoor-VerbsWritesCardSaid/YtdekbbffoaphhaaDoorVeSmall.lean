/- A command's fields; names. -/
import Derived.Test.YtdekbbffoaphhaaDoorDoor
import Derived.Test.YtdekbbffoaphhaaDoorRead
import Derived.Test.YtdekbbffoaphhaaDoorOwn
import Derived.Test.YtdekbbffoaphhaaDoorSteps
import Derived.Test.YtdekbbffoaphhaaDoorRegion
import Derived.Test.YtdekbbffoaphhaaDoorVeCore
import Derived.WalkKit
import Derived.LoopTactic
import Derived.Deep.LoopGhost
import Derived.Deep.QuietTactic
import Derived.BigQuiet
set_option linter.unusedVariables false
set_option linter.unusedSimpArgs false
namespace Go.Proofs.YtdekbbffoaphhaaDoor
open Go.RowKit Go.Proofs.HL Go.Proofs.Ve
theorem retB {a b : Bool} (h : a = b) : Ending.returned (.bool b) = .returned (.bool a) := by rw [h]
set_option maxRecDepth 100000 in
set_option maxHeartbeats 1000000 in
theorem valid_ok (s : ByteArray) (hs : s.size ≤ 9223372036854775807) (w : World) :
    Calls Tryd.prog 13 #[.string s] w fun e w' => e = .returned (.bool (validB s)) ∧ w = w' := by
  by_cases h1 : s.size < 1
  · have hf : validB s = false := by simp [validB]; omega
    have HF := Lib.hid hf
    clear hf
    go_enter Tryd.func13, Tryd.ntmps13
    go_wp2
    go_ret
    exact ⟨retB HF.out, rfl⟩
  · by_cases h2 : 32 < s.size
    · have hf : validB s = false := by simp [validB]; omega
      have HF := Lib.hid hf
      clear hf
      go_enter Tryd.func13, Tryd.ntmps13
      go_wp2
      go_ret
      exact ⟨retB HF.out, rfl⟩
    · go_enter Tryd.func13, Tryd.ntmps13
      go_wp2
      go_loopg [15] s.size (fun g i wr => ∃ k : Nat, i = .int .i64 k ∧ k + g = s.size ∧ okS (s.data.toList.take k) = true ∧ w = wr)
      case atStart => exact ⟨0, rfl, by omega, rfl, rfl⟩
      case round =>
        obtain ⟨k, rfl, hk, hok, rfl⟩ := hrel
        have HOK := Lib.hid hok
        clear hok
        by_cases hlt : k < s.size
        · have hd : s.data.toList[k]? = some s[k] := by rw [List.getElem?_eq_getElem (by simpa using hlt)]; rfl
          have hn : ∃ n : Int, (s[k].toNat : Int) = n := ⟨_, rfl⟩
          have hcase : ((s[k].toNat : Int) < 45) ∨ ((s[k].toNat : Int) = 45) ∨ (45 < (s[k].toNat : Int) ∧ (s[k].toNat : Int) ≤ 47) ∨ (48 ≤ (s[k].toNat : Int) ∧ (s[k].toNat : Int) ≤ 57) ∨ (57 < (s[k].toNat : Int) ∧ (s[k].toNat : Int) ≤ 64) ∨ (65 ≤ (s[k].toNat : Int) ∧ (s[k].toNat : Int) ≤ 90) ∨ (90 < (s[k].toNat : Int) ∧ (s[k].toNat : Int) ≤ 94) ∨ ((s[k].toNat : Int) = 95) ∨ ((s[k].toNat : Int) = 96) ∨ (97 ≤ (s[k].toNat : Int) ∧ (s[k].toNat : Int) ≤ 122) ∨ (122 < (s[k].toNat : Int)) := by omega
          clear hn
          have htk : s.data.toList.take (k + 1) = s.data.toList.take k ++ [s[k]] := by rw [List.take_add_one, hd]; rfl
          have hgood : okN (s[k].toNat : Int) = true → okS (s.data.toList.take (k + 1)) = true := fun h => by
            have := HOK.out
            unfold okS at this ⊢
            rw [htk, List.all_append, this]
            simp [h]
          have hbad : okN (s[k].toNat : Int) = false → validB s = false := fun h => by
            have hm : s[k] ∈ s.data.toList := List.mem_of_getElem? hd
            have : okS s.data.toList = false := by
              unfold okS
              rw [List.all_eq_false]
              exact ⟨s[k], hm, by rw [h]; exact Bool.false_ne_true⟩
            simp [validB, this]
          have HG := Lib.hid hgood; have HB := Lib.hid hbad
          clear hgood hbad htk hd
          rcases hcase with c | c | ⟨c, d⟩ | ⟨c, d⟩ | ⟨c, d⟩ | ⟨c, d⟩ | ⟨c, d⟩ | c | c | ⟨c, d⟩ | c
          · have e1 : ((s[k].toNat : Int) == 45) = false := by simp; omega
            have e2 : ((s[k].toNat : Int) == 95) = false := by simp; omega
            have HV := Lib.hid (HB.out (by simp [okN]; omega))
            go_wp2
            go_ret
            exact ⟨retB HV.out, rfl⟩
          · have HV := Lib.hid (HG.out (by rw [c]; rfl))
            go_wp2
            go_roundg (gk - 1)
            case measure => omega
            case rel => exact ⟨k + 1, by go_num, by omega, HV.out, rfl⟩
          · have e1 : ((s[k].toNat : Int) == 45) = false := by simp; omega
            have e2 : ((s[k].toNat : Int) == 95) = false := by simp; omega
            have HV := Lib.hid (HB.out (by simp [okN]; omega))
            go_wp2
            go_ret
            exact ⟨retB HV.out, rfl⟩
          · have HV := Lib.hid (HG.out (by simp [okN]; omega))
            go_wp2
            go_roundg (gk - 1)
            case measure => omega
            case rel => exact ⟨k + 1, by go_num, by omega, HV.out, rfl⟩
          · have e1 : ((s[k].toNat : Int) == 45) = false := by simp; omega
            have e2 : ((s[k].toNat : Int) == 95) = false := by simp; omega
            have e3 : decide ((s[k].toNat : Int) ≤ 57) = false := decide_eq_false (by omega)
            have HV := Lib.hid (HB.out (by simp [okN]; omega))
            go_wp2
            go_ret
            exact ⟨retB HV.out, rfl⟩
          · have HV := Lib.hid (HG.out (by simp [okN]; omega))
            go_wp2
            go_roundg (gk - 1)
            case measure => omega
            case rel => exact ⟨k + 1, by go_num, by omega, HV.out, rfl⟩
          · have e1 : ((s[k].toNat : Int) == 45) = false := by simp; omega
            have e2 : ((s[k].toNat : Int) == 95) = false := by simp; omega
            have e3 : decide ((s[k].toNat : Int) ≤ 57) = false := decide_eq_false (by omega)
            have e4 : decide ((s[k].toNat : Int) ≤ 90) = false := decide_eq_false (by omega)
            have HV := Lib.hid (HB.out (by simp [okN]; omega))
            go_wp2
            go_ret
            exact ⟨retB HV.out, rfl⟩
          · have HV := Lib.hid (HG.out (by rw [c]; rfl))
            go_wp2
            go_roundg (gk - 1)
            case measure => omega
            case rel => exact ⟨k + 1, by go_num, by omega, HV.out, rfl⟩
          · have HV := Lib.hid (HB.out (by rw [c]; rfl))
            go_wp2
            go_ret
            exact ⟨retB HV.out, rfl⟩
          · have HV := Lib.hid (HG.out (by simp [okN]; omega))
            go_wp2
            go_roundg (gk - 1)
            case measure => omega
            case rel => exact ⟨k + 1, by go_num, by omega, HV.out, rfl⟩
          · have e1 : ((s[k].toNat : Int) == 45) = false := by simp; omega
            have e2 : ((s[k].toNat : Int) == 95) = false := by simp; omega
            have e3 : decide ((s[k].toNat : Int) ≤ 57) = false := decide_eq_false (by omega)
            have e4 : decide ((s[k].toNat : Int) ≤ 90) = false := decide_eq_false (by omega)
            have e5 : decide ((s[k].toNat : Int) ≤ 122) = false := decide_eq_false (by omega)
            have HV := Lib.hid (HB.out (by simp [okN]; omega))
            go_wp2
            go_ret
            exact ⟨retB HV.out, rfl⟩
        · have hv : validB s = true := by
            have := HOK.out
            rw [List.take_of_length_le (by simp; omega)] at this
            simp [validB, this]
            omega
          have HV := Lib.hid hv
          clear hv
          go_wp2
          go_ret
          exact ⟨retB HV.out, rfl⟩
end Go.Proofs.YtdekbbffoaphhaaDoor

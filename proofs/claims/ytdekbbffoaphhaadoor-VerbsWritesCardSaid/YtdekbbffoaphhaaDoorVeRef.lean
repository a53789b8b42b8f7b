/- The reference's small functions. -/
import Derived.Test.YtdekbbffoaphhaaDoorVeFields
import Derived.Test.YtdekbbffoaphhaaDoorVePrintP
set_option linter.unusedVariables false
set_option linter.unusedSimpArgs false
namespace Go.Proofs.Ve
/-- A field's letter. -/
def letter (f : Nat) : Nat := if f = 0 then 78 else if f = 1 then 80 else if f = 2 then 104 else if f = 3 then 110 else if f = 4 then 108 else if f = 5 then 106 else 116
def formB (V : Verb) : ByteArray := ⟨(V.fs.map fun f => UInt8.ofNat (letter f)).toArray⟩
def wordK (k : Int) : ByteArray × ByteArray := match verbL.find? (fun v => v.kind == k) with | some V => (V.word, formB V) | none => (⟨#[]⟩, ⟨#[]⟩)
end Go.Proofs.Ve
namespace Go.Proofs.YtdekbbffoaphhaaDoor
open Go.RowKit Go.Proofs.HL Go.Proofs.Ve
set_option maxRecDepth 100000 in
set_option maxHeartbeats 1000000 in
theorem Ref.valid_ok (s : ByteArray) (hs : s.size ≤ 9223372036854775807) (w : World) :
    Calls Tryd.prog 14 #[.string s] w fun e w' => e = .returned (.bool (validB s)) ∧ w = w' := by
  by_cases h1 : s.size < 1
  · have hf : validB s = false := by simp [validB]; omega
    have HF := Lib.hid hf
    clear hf
    go_enter Tryd.func14, Tryd.ntmps14
    go_wp2
    go_ret
    exact ⟨retB HF.out, rfl⟩
  · by_cases h2 : 32 < s.size
    · have hf : validB s = false := by simp [validB]; omega
      have HF := Lib.hid hf
      clear hf
      go_enter Tryd.func14, Tryd.ntmps14
      go_wp2
      go_ret
      exact ⟨retB HF.out, rfl⟩
    · go_enter Tryd.func14, Tryd.ntmps14
      go_wp2
      go_loopg [3] s.size (fun g i wr => ∃ k : Nat, i = .int .i64 k ∧ k + g = s.size ∧ okS (s.data.toList.take k) = true ∧ w = wr)
      case atStart => exact ⟨0, rfl, by omega, rfl, rfl⟩
      case round =>
        obtain ⟨k, rfl, hk, hok, rfl⟩ := hrel
        have HOK := Lib.hid hok
        clear hok
        by_cases hlt : k < s.size
        · have hd : s.data.toList[k]? = some s[k] := by rw [List.getElem?_eq_getElem (by simpa using hlt)]; rfl
          have hn : ∃ n : Int, (s[k].toNat : Int) = n := ⟨_, rfl⟩
          have hcase : ((s[k].toNat : Int) < 45) ∨ ((s[k].toNat : Int) = 45) ∨ (45 < (s[k].toNat : Int) ∧ (s[k].toNat : Int) ≤ 47) ∨ (48 ≤ (s[k].toNat : Int) ∧ (s[k].toNat : Int) ≤ 57) ∨ (57 < (s[k].toNat : Int) ∧ (s[k].toNat : Int) ≤ 64) ∨ (65 ≤ (s[k].toNat : Int) ∧ (s[k].toNat : Int) ≤ 90) ∨ (90 < (s[k].toNat : Int) ∧ (s[k].toNat : Int) ≤ 94) ∨ ((s[k].toNat : Int) = 95) ∨ ((s[k].toNat : Int) = 96) ∨ (97 ≤ (s[k].toNat : Int) ∧ (s[k].toNat : Int) ≤ 122) ∨ (122 < (s[k].toNat : Int)) := by omega
          clear hn
          have htk : s.data.toList.take (k + 1) = s.data.toList.take k ++ [s[k]] := by rw [List.take_add_one, hd]; rfl
          have hgood : okN (s[k].toNat : Int) = true → okS (s.data.toList.take (k + 1)) = true := fun h => by
            have := HOK.out
            unfold okS at this ⊢
            rw [htk, List.all_append, this]
            simp [h]
          have hbad : okN (s[k].toNat : Int) = false → validB s = false := fun h => by
            have hm : s[k] ∈ s.data.toList := List.mem_of_getElem? hd
            have : okS s.data.toList = false := by
              unfold okS
              rw [List.all_eq_false]
              exact ⟨s[k], hm, by rw [h]; exact Bool.false_ne_true⟩
            simp [validB, this]
          have HG := Lib.hid hgood; have HB := Lib.hid hbad
          clear hgood hbad htk hd
          rcases hcase with c | c | ⟨c, d⟩ | ⟨c, d⟩ | ⟨c, d⟩ | ⟨c, d⟩ | ⟨c, d⟩ | c | c | ⟨c, d⟩ | c
          · have e1 : ((s[k].toNat : Int) == 45) = false := by simp; omega
            have e2 : ((s[k].toNat : Int) == 95) = false := by simp; omega
            have HV := Lib.hid (HB.out (by simp [okN]; omega))
            go_wp2
            go_ret
            exact ⟨retB HV.out, rfl⟩
          · have HV := Lib.hid (HG.out (by rw [c]; rfl))
            go_wp2
            go_roundg (gk - 1)
            case measure => omega
            case rel => exact ⟨k + 1, by go_num, by omega, HV.out, rfl⟩
          · have e1 : ((s[k].toNat : Int) == 45) = false := by simp; omega
            have e2 : ((s[k].toNat : Int) == 95) = false := by simp; omega
            have HV := Lib.hid (HB.out (by simp [okN]; omega))
            go_wp2
            go_ret
            exact ⟨retB HV.out, rfl⟩
          · have HV := Lib.hid (HG.out (by simp [okN]; omega))
            go_wp2
            go_roundg (gk - 1)
            case measure => omega
            case rel => exact ⟨k + 1, by go_num, by omega, HV.out, rfl⟩
          · have e1 : ((s[k].toNat : Int) == 45) = false := by simp; omega
            have e2 : ((s[k].toNat : Int) == 95) = false := by simp; omega
            have e3 : decide ((s[k].toNat : Int) ≤ 57) = false := decide_eq_false (by omega)
            have HV := Lib.hid (HB.out (by simp [okN]; omega))
            go_wp2
            go_ret
            exact ⟨retB HV.out, rfl⟩
          · have HV := Lib.hid (HG.out (by simp [okN]; omega))
            go_wp2
            go_roundg (gk - 1)
            case measure => omega
            case rel => exact ⟨k + 1, by go_num, by omega, HV.out, rfl⟩
          · have e1 : ((s[k].toNat : Int) == 45) = false := by simp; omega
            have e2 : ((s[k].toNat : Int) == 95) = false := by simp; omega
            have e3 : decide ((s[k].toNat : Int) ≤ 57) = false := decide_eq_false (by omega)
            have e4 : decide ((s[k].toNat : Int) ≤ 90) = false := decide_eq_false (by omega)
            have HV := Lib.hid (HB.out (by simp [okN]; omega))
            go_wp2
            go_ret
            exact ⟨retB HV.out, rfl⟩
          · have HV := Lib.hid (HG.out (by rw [c]; rfl))
            go_wp2
            go_roundg (gk - 1)
            case measure => omega
            case rel => exact ⟨k + 1, by go_num, by omega, HV.out, rfl⟩
          · have HV := Lib.hid (HB.out (by rw [c]; rfl))
            go_wp2
            go_ret
            exact ⟨retB HV.out, rfl⟩
          · have HV := Lib.hid (HG.out (by simp [okN]; omega))
            go_wp2
            go_roundg (gk - 1)
            case measure => omega
            case rel => exact ⟨k + 1, by go_num, by omega, HV.out, rfl⟩
          · have e1 : ((s[k].toNat : Int) == 45) = false := by simp; omega
            have e2 : ((s[k].toNat : Int) == 95) = false := by simp; omega
            have e3 : decide ((s[k].toNat : Int) ≤ 57) = false := decide_eq_false (by omega)
            have e4 : decide ((s[k].toNat : Int) ≤ 90) = false := decide_eq_false (by omega)
            have e5 : decide ((s[k].toNat : Int) ≤ 122) = false := decide_eq_false (by omega)
            have HV := Lib.hid (HB.out (by simp [okN]; omega))
            go_wp2
            go_ret
            exact ⟨retB HV.out, rfl⟩
        · have hv : validB s = true := by
            have := HOK.out
            rw [List.take_of_length_le (by simp; omega)] at this
            simp [validB, this]
            omega
          have HV := Lib.hid hv
          clear hv
          go_wp2
          go_ret
          exact ⟨retB HV.out, rfl⟩

theorem kind14 (k : Int) : k = 1 ∨ k = 2 ∨ k = 3 ∨ k = 4 ∨ k = 5 ∨ k = 6 ∨ k = 7 ∨ k = 8 ∨ k = 9 ∨ k = 10 ∨ k = 11 ∨ k = 12 ∨ k = 13 ∨ (k ≠ 1 ∧ k ≠ 2 ∧ k ≠ 3 ∧ k ≠ 4 ∧ k ≠ 5 ∧ k ≠ 6 ∧ k ≠ 7 ∧ k ≠ 8 ∧ k ≠ 9 ∧ k ≠ 10 ∧ k ≠ 11 ∧ k ≠ 12 ∧ k ≠ 13) := by omega
set_option maxHeartbeats 2000000 in
theorem Ref.word_ok (k : Int) (w : World) : Calls Tryd.prog 31 #[.int .i64 k] w fun e w' => e = .returned (.tuple #[.string (wordK k).1, .string (wordK k).2]) ∧ w = w' := by
  rcases kind14 k with rfl | rfl | rfl | rfl | rfl | rfl | rfl | rfl | rfl | rfl | rfl | rfl | rfl | ⟨a1, a2, a3, a4, a5, a6, a7, a8, a9, a10, a11, a12, a13⟩
  iterate 13
    · go_enter Tryd.func31, Tryd.ntmps31
      go_wp2
      go_ret2
      exact ⟨rfl, rfl⟩
  · have hno : wordK k = (⟨#[]⟩, ⟨#[]⟩) := by
      unfold wordK
      rw [find_no (fun j V hj hV => ?_)]
      have hm := List.mem_of_getElem? hV
      simp only [verbL, List.mem_cons, List.not_mem_nil, or_false] at hm
      rw [beq_eq_false_iff_ne]
      rcases hm with rfl | rfl | rfl | rfl | rfl | rfl | rfl | rfl | rfl | rfl | rfl | rfl | rfl <;> (intro e; subst e; simp at *)
    rw [hno]
    have b1 : (k == 1) = false := by simp [a1]
    have b2 : (k == 2) = false := by simp [a2]
    have b3 : (k == 3) = false := by simp [a3]
    have b4 : (k == 4) = false := by simp [a4]
    have b5 : (k == 5) = false := by simp [a5]
    have b6 : (k == 6) = false := by simp [a6]
    have b7 : (k == 7) = false := by simp [a7]
    have b8 : (k == 8) = false := by simp [a8]
    have b9 : (k == 9) = false := by simp [a9]
    have b10 : (k == 10) = false := by simp [a10]
    have b11 : (k == 11) = false := by simp [a11]
    have b12 : (k == 12) = false := by simp [a12]
    have b13 : (k == 13) = false := by simp [a13]
    clear a1 a2 a3 a4 a5 a6 a7 a8 a9 a10 a11 a12 a13 hno
    go_enter Tryd.func31, Tryd.ntmps31
    go_wp2
    go_ret2
    exact ⟨rfl, rfl⟩
theorem Ref.named_yes (f : Nat) (hf : f < 2) (w : World) : Calls Tryd.prog 32 #[.int .u8 (letter f : Int)] w fun e w' => e = .returned (.bool true) ∧ w = w' := by
  rcases (show f = 0 ∨ f = 1 by omega) with rfl | rfl
  all_goals
    go_enter Tryd.func32, Tryd.ntmps32
    go_wp2
    go_ret
    exact ⟨rfl, rfl⟩
theorem Ref.named_no (f : Nat) (h2 : 2 ≤ f) (hf : f ≤ 6) (w : World) : Calls Tryd.prog 32 #[.int .u8 (letter f : Int)] w fun e w' => e = .returned (.bool false) ∧ w = w' := by
  rcases seven hf with rfl | rfl | rfl | rfl | rfl | rfl | rfl
  · omega
  · omega
  all_goals
    go_enter Tryd.func32, Tryd.ntmps32
    go_wp2
    go_ret
    exact ⟨rfl, rfl⟩
theorem Ref.text_ok (b f : Nat) (hf : f < 2) (w : World) : Calls Tryd.prog 33 #[.pointer (some ⟨b, 0, none⟩), .int .u8 (letter f : Int)] w fun e w' => e = .returned (.pointer (some ⟨b, f + 1, none⟩)) ∧ w = w' := by
  rcases (show f = 0 ∨ f = 1 by omega) with rfl | rfl
  all_goals
    go_enter Tryd.func33, Tryd.ntmps33
    go_wp2
    go_ret
    exact ⟨rfl, rfl⟩
theorem Ref.value_ok (b f : Nat) (h2 : 2 ≤ f) (hf : f ≤ 6) (w : World) : Calls Tryd.prog 35 #[.pointer (some ⟨b, 0, none⟩), .int .u8 (letter f : Int)] w fun e w' => e = .returned (.pointer (some ⟨b, f + 1, none⟩)) ∧ w = w' := by
  rcases seven hf with rfl | rfl | rfl | rfl | rfl | rfl | rfl
  · omega
  · omega
  all_goals
    go_enter Tryd.func35, Tryd.ntmps35
    go_wp2
    go_ret
    exact ⟨rfl, rfl⟩
end Go.Proofs.YtdekbbffoaphhaaDoor

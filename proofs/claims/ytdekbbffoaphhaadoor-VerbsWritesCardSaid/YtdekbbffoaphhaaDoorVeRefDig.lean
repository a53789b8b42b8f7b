/- The reference's digits. -/
import Derived.Test.YtdekbbffoaphhaaDoorVeRefChk
import Derived.Test.YtdekbbffoaphhaaDoorVeWords
import Derived.Laws.IdiomStrings
import Derived.Laws.NewBlocks
import Derived.Lib.ItoaLen
import Derived.Lib.ItoaMem
set_option linter.unusedVariables false
set_option linter.unusedSimpArgs false
namespace Go.Proofs.YtdekbbffoaphhaaDoor
open Go.RowKit Go.Proofs.HL Go.Proofs.Ve
def digB (m : Nat) : ByteArray := ⟨#[UInt8.ofNat (48 + m % 10)]⟩
theorem byte_text (W : World) (m : Nat) : (convert 53 9 (.slice (some ⟨W.heap.size, 0, none⟩) 1 1)).run Tryd.prog (W.alloc (.cells #[.int .u8 (48 + (m : Int) % 10)] 5)) = .ok (.string (digB m)) (W.alloc (.cells #[.int .u8 (48 + (m : Int) % 10)] 5)) := by
  refine run_convert_bytes_back _ _ _ 5 ⟨W.heap.size, 0, none⟩ 1 [UInt8.ofNat (48 + m % 10)] (by kernel_rfl) (by kernel_rfl) (by kernel_rfl) fun j hj => ?_
  obtain rfl : j = 0 := by simpa using hj
  have h1 : ((UInt8.ofNat (48 + m % 10)).toNat : Int) = 48 + (m : Int) % 10 := by
    rw [UInt8.toNat_ofNat', Nat.mod_eq_of_lt (by omega)]
    omega
  rw [List.getElem_cons_zero, h1]
  exact World.cell?_alloc_at _ _ _ _ rfl
section
variable {w0 w : World} {L : List At}
set_option maxRecDepth 100000 in
set_option maxHeartbeats 8000000 in
theorem Ref.digits_ok (H : HL w0 w L) (n : Nat) (hn : (n : Int) ≤ 9223372036854775807) :
    Calls Tryd.prog 40 #[.int .i64 n] w fun e w' => e = .returned (.string ⟨(Lib.itoa n).toArray⟩) ∧ HL w0 w' L := by
  have hcv := fun W => byte_text W n
  have H2 := (H.alloc (.cells #[.int .u8 (48 + (n : Int) % 10)] 5)).tail
  go_enter Tryd.func40, Tryd.ntmps40
  go_wp2
  clear hcv H
  go_loopg [0, 3] n (fun g i s wr => ∃ (m : Nat) (t : ByteArray), i = .int .i64 m ∧ s = .string t ∧ m ≤ g ∧ m ≤ n ∧ Lib.decDigits n = (if m < 10 then [] else Lib.decDigits (m / 10)) ++ t.data.toList ∧ HL w0 wr L)
  case atStart =>
    refine ⟨n, digB n, rfl, rfl, Nat.le_refl _, Nat.le_refl _, ?_, H2⟩
    by_cases h : n < 10
    · rw [Lib.decDigits_one h, if_pos h]; simp [digB, Nat.mod_eq_of_lt h]
    · rw [Lib.decDigits, dif_neg h, if_neg h]; rfl
  case round =>
    obtain ⟨m, t, rfl, rfl, hg, hmn, hd, HK⟩ := hrel
    have hts : t.size ≤ 20 := by
      have h1 := congrArg List.length hd
      rw [Lib.decDigits_length, List.length_append] at h1
      have h2 := Lib.nDigits_le20 n (by omega)
      have h3 : t.data.toList.length = t.size := rfl
      omega
    have hds : (digB (m / 10)).size = 1 := rfl
    have HD := Lib.hid hd
    clear hd H2
    by_cases hlt : m < 10
    · have hr : Lib.decDigits n = t.data.toList := by have := HD.out; rw [if_pos hlt] at this; exact this
      have hs : (⟨(Lib.itoa n).toArray⟩ : ByteArray) = t := by rw [Lib.itoa_nonneg, hr]
      have HS := Lib.hid hs
      clear hr hs
      go_wp2
      go_ret
      exact ⟨by rw [HS.out]; rfl, HK⟩
    · have hcv := fun W => byte_text W (m / 10)
      have H3 := (HK.alloc (.cells #[.int .u8 (48 + ((m / 10 : Nat) : Int) % 10)] 5)).tail
      have hnx : Lib.decDigits n = (if m / 10 < 10 then [] else Lib.decDigits (m / 10 / 10)) ++ (digB (m / 10) ++ t).data.toList := by
        have := HD.out
        rw [if_neg hlt] at this
        rw [this]
        by_cases h : m / 10 < 10
        · rw [Lib.decDigits_one h, if_pos h]; simp [digB, Nat.mod_eq_of_lt h]
        · rw [Lib.decDigits, dif_neg h, if_neg h]; simp [digB]
      have HNX := Lib.hid hnx
      clear hnx HK
      rw [show ((m / 10 : Nat) : Int) = (m : Int) / 10 from rfl] at H3
      have hcv2 : ∀ W : World, (convert 53 9 (.slice (some ⟨W.heap.size, 0, none⟩) 1 1)).run Tryd.prog (W.alloc (.cells #[.int .u8 (48 + (m : Int) / 10 % 10)] 5)) = .ok (.string (digB (m / 10))) (W.alloc (.cells #[.int .u8 (48 + (m : Int) / 10 % 10)] 5)) := hcv
      clear hcv
      go_wp2
      go_roundg (gk - 1)
      case measure => omega
      case rel => exact ⟨m / 10, digB (m / 10) ++ t, by go_num, rfl, by omega, by omega, HNX.out, H3⟩
end
end Go.Proofs.YtdekbbffoaphhaaDoor

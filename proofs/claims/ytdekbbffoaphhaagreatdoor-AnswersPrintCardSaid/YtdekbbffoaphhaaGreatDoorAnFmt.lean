/- strconv.FormatUint at base ten. -/
import Derived.Test.YtdekbbffoaphhaaGreatDoorAnFirst
import Derived.Test.YtdekbbffoaphhaaGreatDoorAnBld
import Derived.Lib.ItoaMem
set_option linter.unusedVariables false
set_option linter.unusedSimpArgs false
set_option maxRecDepth 100000
set_option maxHeartbeats 2000000
namespace Go.Proofs.YtdekbbffoaphhaaGreatDoor
open Go.RowKit Go.Proofs.HL Go.Proofs.An
open Go.Sort
abbrev encU : UInt8 → Value := fun (b : UInt8) => Value.int .u8 (b.toNat : Int)
theorem holds0 (w : World) (T : TypeId) (nd : Nat) (hs : nd ≤ 24) : Holds encU (w.alloc (.cells Lib.zeros24 T)) w.heap.size 0 (Array.replicate nd (0 : UInt8)) := fun j hj => by
 have hj' : j < nd := by simpa using hj
 refine ⟨?_, World.frozen?_alloc_new _ _ _ _⟩
 rw [World.cell?_alloc_new, Lib.zeros24_at _ (by omega), getElem!_pos _ j hj]
 simp
theorem fin0 (w : World) (o : Obj) (dk : Array UInt8) (k : Nat) : ∃ os, (putRow encU (w.alloc o) w.heap.size 0 dk).drewN k = grow (w.drewN k) os := by
 rw [Go.Sort.alloc_eq_grow]
 obtain ⟨os', _, e⟩ := Go.Sort.putRow_grow_new encU w #[o] w.heap.size 0 dk (Nat.le_refl _)
 exact ⟨os', by rw [e]; rfl⟩
section
variable {w0 w : World} {L : List At}
theorem fmtIn_ok (hD : Doors w0) (H : HL w0 w L) (u : Nat) (hu : u < 18446744073709551616) :
  Calls Tryz.prog 70 #[.int .u64 u, .int .i64 10] w fun e w' => e = .returned (.string ⟨(Lib.decDigits u).toArray⟩) ∧ HL w0 w' L := by
 by_cases hs : u < 100
 ·have hsm := fun W => Tryz.internal_strconv_small u hs W
  go_enter Tryz.func70, Tryz.ntmps70
  go_wp2_with (go_at_call 79; refine (hsm _).mono ?_; rintro e w' ⟨rfl, rfl⟩)
  go_ret
  exact ⟨rfl, H⟩
 ·have htab := (hD.keep H).pow
  have hu1 : 1 ≤ u := by omega
  have hnd20 : Lib.nDigits u ≤ 20 := Lib.nDigits_le20 u hu
  have hnd := fun W (hW : Lib.TabIs Tryz.prog W "internal/strconv.uint64pow10" .u64 Lib.pow10Tab) => Tryz.internal_strconv_numDigits u hu1 hu W hW
  have hal : Tryz.prog.arrayLen 109 = 24 := by kernel_rfl
  have hel : Tryz.prog.underlying 109 = some (.array (Tryz.prog.arrayLen 109) (Tryz.prog.elem 109)) := by kernel_rfl
  have hsl : ∀ W, (Instr.sliceAt 109 (.pointer (some ⟨w.heap.size, 0, none⟩)) none (some (.int .i64 (Lib.nDigits u : Int))) none).run Tryz.prog W = .ok (.slice (some ⟨w.heap.size, 0, none⟩) (Lib.nDigits u) 24) W := fun W => by
   rw [run_sliceAt_array_h W 109 ⟨w.heap.size, 0, none⟩ hel .i64 (Lib.nDigits u : Int) (by omega) (by rw [hal]; omega)]
   have hsz : (sizeOf (Tryz.prog.elem 109)).run Tryz.prog W = .ok 1 W := by kernel_rfl
   rw [hsz, hal]
   have e1 : ((Lib.nDigits u : Int)).toNat = Lib.nDigits u := Int.toNat_natCast _
   rw [e1]
   show Result.ok (slicedAt _ 0 (Lib.nDigits u) 24 1) W = _
   unfold slicedAt
   rw [if_neg (by omega)]
   rfl
  have hH0 := holds0 w 109 (Lib.nDigits u) (by omega)
  have hfmt := Tryz.internal_strconv_formatBase10 w.heap.size 0 24 u (Array.replicate (Lib.nDigits u) 0) (w.alloc (.cells Lib.zeros24 109)) hH0 (by rw [Array.size_replicate]; exact Lib.lt_pow_nDigits u) hu (by rw [Array.size_replicate]; omega)
  rw [Array.size_replicate] at hfmt
  have HH0 := Lib.hid hH0; have HT := Lib.hid htab; have HAL := Lib.hid hal; have HEL := Lib.hid hel
  clear hH0 hal htab hel
  go_enter Tryz.func70, Tryz.ntmps70
  go_wp2_with (go_at_call 80; refine (hnd _ (Lib.tabIs_alloc HT.out _)).mono ?_; rintro e w' ⟨rfl, rfl⟩)
  go_at_call 81
  refine hfmt.mono ?_
  rintro e w' ⟨rfl, k, v', dk, rfl, hF⟩
  have hcv : (convert 53 9 (.slice (some ⟨w.heap.size, 0, none⟩) (Lib.nDigits u) 24)).run Tryz.prog ((putRow encU (w.alloc (.cells Lib.zeros24 109)) w.heap.size 0 dk).drewN k) = .ok (.string ⟨(Lib.decDigits u).toArray⟩) ((putRow encU (w.alloc (.cells Lib.zeros24 109)) w.heap.size 0 dk).drewN k) := by
   have h := run_convert_bytes_back (P := Tryz.prog) ((putRow encU (w.alloc (.cells Lib.zeros24 109)) w.heap.size 0 dk).drewN k) 53 9 5 ⟨w.heap.size, 0, none⟩ 24 (Lib.decDigits u) Tryz.underlying53 Tryz.underlying5 Tryz.underlying9 (fun j hj => by
    rw [Lib.row_is_numeral hF j hj, Lib.add_plain, World.cell?_drewN]
    exact cell?_putRow encU _ w.heap.size 0 _ dk HH0.out (by rw [hF.size, Array.size_replicate]) j (by rw [hF.size]; rw [Lib.decDigits_length] at hj; exact hj))
   rw [Lib.decDigits_length] at h
   exact h
  obtain ⟨os, eo⟩ := fin0 w (.cells Lib.zeros24 109) dk k
  have HW : HL w0 ((putRow encU (w.alloc (.cells Lib.zeros24 109)) w.heap.size 0 dk).drewN k) L := by rw [eo]; exact HL.grow (H.drewN k) os
  clear eo
  go_wp2
  go_ret
  exact ⟨rfl, HW⟩
theorem fmtU_all (W : World) (hD : Doors W) : FmtU W := fun n W' L' hn HH => by
 have h := fmtIn_ok hD HH n hn
 go_enter Tryz.func52, Tryz.ntmps52
 go_wp2_with (go_at_call 70; refine h.mono ?_; rintro e w2 ⟨rfl, H2⟩)
 go_ret
 exact ⟨rfl, H2⟩
end
end Go.Proofs.YtdekbbffoaphhaaGreatDoor

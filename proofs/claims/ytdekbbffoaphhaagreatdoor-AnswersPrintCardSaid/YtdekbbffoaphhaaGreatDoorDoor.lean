/- What the library's variables hold, in every world that a call makes of the one that it began in. -/
import Derived.Test.YtdekbbffoaphhaaGreatDoorHL
import Derived.Test.YtdekbbffoaphhaaGreatDoorShelf
import Derived.Lib.LaidTab
import Derived.Lib.Hide
set_option linter.unusedVariables false
namespace Go.Proofs.YtdekbbffoaphhaaGreatDoor
open Go.RowKit Go.Proofs.HL Go.Lib
theorem gSyn : Tryz.prog.globalNamed "strconv.ErrSyntax" = some 1 := by kernel_rfl
theorem gRng : Tryz.prog.globalNamed "strconv.ErrRange" = some 2 := by kernel_rfl
theorem gPow : Tryz.prog.globalNamed "internal/strconv.uint64pow10" = some 0 := by kernel_rfl
/-- What the library reads. -/
structure Doors (w : World) : Prop where
 size : 4 ≤ w.heap.size
 pow : TabIs Tryz.prog w "internal/strconv.uint64pow10" .u64 pow10Tab
 syn : ∃ tp p, w.var? Tryz.prog "strconv.ErrSyntax" = some #[.iface tp p]
 rng : ∃ tp p, w.var? Tryz.prog "strconv.ErrRange" = some #[.iface tp p]
 mlen : ∃ m : Int, w.cell? ⟨3, 0, none⟩ = some (.int .i64 m)
theorem var_stays {P : Program} {w w' : World} {n : String} {g : Nat} (hg : P.globalNamed n = some g) (hb : Below w.heap.size w w') (hs : g < w.heap.size) : w'.var? P n = w.var? P n := by
 unfold World.var?
 rw [hg]
 show (match w'.heap[g]? with | some (.cells cs _ _) => some cs | _ => none) = _
 rw [hb.block g hs]
 rfl
theorem Doors.keep {w0 w : World} {L : List At} (h : Doors w0) (H : HL w0 w L) : Doors w := by
 have hb := H.below
 obtain ⟨h1, h2, ⟨t3, p3, h3⟩, ⟨t4, p4, h4⟩, ⟨m, h5⟩⟩ := h
 refine ⟨Nat.le_trans h1 hb.size, ?_, ⟨t3, p3, ?_⟩, ⟨t4, p4, ?_⟩, ⟨m, ?_⟩⟩
 ·show w.var? _ _ = _
  rw [var_stays gPow hb (by omega)]; exact h2
 ·rw [var_stays gSyn hb (by omega)]; exact h3
 ·rw [var_stays gRng hb (by omega)]; exact h4
 ·rw [hb.cell (p := ⟨3, 0, none⟩) (by show 3 < w0.heap.size; omega)]; exact h5
end Go.Proofs.YtdekbbffoaphhaaGreatDoor

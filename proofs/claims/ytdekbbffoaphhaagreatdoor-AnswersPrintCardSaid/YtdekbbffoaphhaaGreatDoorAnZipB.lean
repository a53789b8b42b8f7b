/- Short names for boxes that the walks make over and over. -/
import Derived.Test.YtdekbbffoaphhaaGreatDoorAnRest
import Derived.Test.YtdekbbffoaphhaaGreatDoorAnOf
namespace Go.Proofs.YtdekbbffoaphhaaGreatDoor
open Go.RowKit Go.Proofs.HL Go.Proofs.An
abbrev bxz (b : Nat) : At := boxA b zA (.slice none 0 0) (.slice none 0 0) (.slice none 0 0)
section
variable {w0 w : World} {L : List At}
theorem HL.bzA (H : HL w0 w L) : HL w0 (w.alloc (.cells #[.int .i64 0, .int .i64 0, .slice none 0 0, .int .i64 0, .int .i64 0, .int .i64 0, .int .i64 0, .int .i64 0, .int .i64 0, .int .i64 0, .slice none 0 0, .slice none 0 0, .int .i64 0, .int .u64 0, .int .u64 0, .int .i64 0, .int .i64 0, .int .i64 0, .int .i64 0, .int .i64 0, .int .i64 0, .int .i64 0, .int .i64 0, .int .i64 0, .int .i64 0, .int .i64 0, .int .i64 0] 32)) (boxA w.heap.size zA (.slice none 0 0) (.slice none 0 0) (.slice none 0 0) :: L) := H.alloc _
theorem HL.bzE (H : HL w0 w L) : HL w0 (w.alloc (.cells #[.int .i64 0, .int .i64 0, .int .i64 0, .int .i64 0, .int .i64 0, .slice none 0 0] 46)) (boxE w.heap.size zE (.slice none 0 0) :: L) := HL.allocE H zE (.slice none 0 0)
theorem boxA_cf {b : Nat} {a : Ans} {ve vs vr : Value} (H : HL w0 w (boxA b a ve vs vr :: L)) : w.cell? ⟨b, 18, none⟩ = some (.int .i64 a.cfg.c0) ∧ w.cell? ⟨b, 19, none⟩ = some (.int .i64 a.cfg.c1) ∧ w.cell? ⟨b, 20, none⟩ = some (.int .i64 a.cfg.c2) ∧ w.cell? ⟨b, 21, none⟩ = some (.int .i64 a.cfg.c3) ∧ w.cell? ⟨b, 22, none⟩ = some (.int .i64 a.cfg.c4) ∧ w.cell? ⟨b, 23, none⟩ = some (.int .i64 a.cfg.c5) ∧ w.cell? ⟨b, 24, none⟩ = some (.int .i64 a.cfg.c6) ∧ w.cell? ⟨b, 25, none⟩ = some (.int .i64 a.cfg.c7) ∧ w.cell? ⟨b, 26, none⟩ = some (.int .i64 a.bound) :=
  ⟨HL.cell H 18, HL.cell H 19, HL.cell H 20, HL.cell H 21, HL.cell H 22, HL.cell H 23, HL.cell H 24, HL.cell H 25, HL.cell H 26⟩
end
end Go.Proofs.YtdekbbffoaphhaaGreatDoor

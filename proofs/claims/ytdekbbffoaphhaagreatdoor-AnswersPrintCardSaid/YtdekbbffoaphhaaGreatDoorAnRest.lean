/- An answer without the fields that a kind has. -/
import Derived.Test.YtdekbbffoaphhaaGreatDoorAnBlank
import Derived.Laws.Rows
import Derived.Laws.Tables
set_option linter.unusedVariables false
set_option linter.unusedSimpArgs false
set_option maxRecDepth 100000
set_option maxHeartbeats 8000000
namespace Go.Proofs.HL
open Go.RowKit
theorem HL.setWhole {w0 w : World} {L : List At} {b : Nat} {old cells : Array Value} {E : TypeId} (h : HL w0 w (blk b (.cells old E (0, 0)) :: L)) : HL w0 (w.setRow b cells) (blk b (.cells cells E (0, 0)) :: L) := by
 refine h.step (A := blk b (.cells old E (0, 0))) ⟨rfl, rfl, rfl, by simp [World.setRow], fun k hk hne => ?_⟩ ?_ (fun b' hb => .inl hb)
 ·simp only [World.setRow, Array.getElem?_modify]
  rw [if_neg (fun e => hne (by rw [← e]; rfl))]
 ·have := h.head
  simp only [blk] at this ⊢
  simp [World.setRow, Array.getElem?_modify, this]
end Go.Proofs.HL
namespace Go.Proofs.YtdekbbffoaphhaaGreatDoor
open Go.RowKit Go.Proofs.HL Go.Proofs.An
section
variable {w0 w : World} {L : List At}
def ansA (a : Ans) (ve vs vr : Value) : Array Value := #[.int .i64 a.code, .int .i64 a.id, ve, .int .i64 a.job.acc, .int .i64 a.job.nodes, .int .i64 a.job.lim, .int .i64 a.job.sub, .int .i64 a.job.st, .int .i64 a.job.start, .int .i64 a.job.fin, vs, vr, .int .i64 a.raw, .int .u64 a.usage, .int .u64 a.factor, .int .i64 a.free, .int .i64 a.holder, .int .i64 a.shadow, .int .i64 a.cfg.c0, .int .i64 a.cfg.c1, .int .i64 a.cfg.c2, .int .i64 a.cfg.c3, .int .i64 a.cfg.c4, .int .i64 a.cfg.c5, .int .i64 a.cfg.c6, .int .i64 a.cfg.c7, .int .i64 a.bound]
theorem ansA_size (a : Ans) (ve vs vr : Value) : (Tryz.prog.info? 32).map (·.size) = some (ansA a ve vs vr).size := by
 rw [show (ansA a ve vs vr).size = 27 from rfl]
 kernel_rfl
theorem ansA_one (a : Ans) (Ae As Ar : Option Addr) (ne ce ns cs nr cr : Nat) : (ansA a (.slice Ae ne ce) (.slice As ns cs) (.slice Ar nr cr)).all (·.oneCell') = true := by simp [ansA, Value.oneCell']
def RestPost (w0 : World) (L : List At) (r : Ans) (e : Ending) (w' : World) : Prop := ∃ (Ae As Ar : Option Addr) (ce cs cr : Nat), e = .returned (ansV r (.slice Ae r.events.length ce) (.slice As r.job.set.length cs) (.slice Ar r.ranks.length cr)) ∧ HL w0 w' L
theorem rest_ok (H : HL w0 w L) (k : Int) (a : Ans) (Ae As Ar : Option Addr) (ce cs cr : Nat) : Calls Tryz.prog 25 #[.int .i64 k, ansV a (.slice Ae a.events.length ce) (.slice As a.job.set.length cs) (.slice Ar a.ranks.length cr)] w (RestPost w0 L (restA k a)) := by
 have H1 := HL.allocA H a (.slice Ae a.events.length ce) (.slice As a.job.set.length cs) (.slice Ar a.ranks.length cr)
 have H2 : HL w0 _ (boxA (World.alloc w _).heap.size zA (.slice none 0 0) (.slice none 0 0) (.slice none 0 0) :: _) := H1.alloc (.cells #[.int .i64 0, .int .i64 0, .slice none 0 0, .int .i64 0, .int .i64 0, .int .i64 0, .int .i64 0, .int .i64 0, .int .i64 0, .int .i64 0, .slice none 0 0, .slice none 0 0, .int .i64 0, .int .u64 0, .int .u64 0, .int .i64 0, .int .i64 0, .int .i64 0, .int .i64 0, .int .i64 0, .int .i64 0, .int .i64 0, .int .i64 0, .int .i64 0, .int .i64 0, .int .i64 0, .int .i64 0] 32)
 rw [World.size_alloc] at H2
 have H3 := H2.swap
 unfold ansV
 have hra : restA k a = if hasB k then { restK k a with events := [] } else restK k a := rfl
 have HRA := Lib.hid hra
 generalize hb1 : w.heap.size = b1 at *
 clear H H1 H2 hra
 go_enter Tryz.func25, Tryz.ntmps25
 go_upto_block 0 with (fail)
 have HB1 := Lib.hid hb1
 clear hb1
 generalize World.alloc (World.alloc _ _) _ = W at *
 obtain ⟨r, hr⟩ : ∃ r, restK k a = r := ⟨_, rfl⟩
 rw [hr] at HRA
 go_cut [] (fun wc => ∃ (As' Ar' : Option Addr) (cs' cr' : Nat), r.events = a.events ∧ HL w0 wc (boxA b1 r (.slice Ae r.events.length ce) (.slice As' r.job.set.length cs') (.slice Ar' r.ranks.length cr') :: boxA (b1 + 1) zA (.slice none 0 0) (.slice none 0 0) (.slice none 0 0) :: L))
 case first =>
  by_cases g1 : k = 1
  ·have hk : restK k a = { a with id := 0 } := by simp [restK, g1]
   have q1 : (k == 1) = true := by simp [g1]
   have q5 : (k == 5) = false := by simp [g1]
   have q9 : (k == 9) = false := by simp [g1]
   have q10 : (k == 10) = false := by simp [g1]
   have q11 : (k == 11) = false := by simp [g1]
   have q12 : (k == 12) = false := by simp [g1]
   have q13 : (k == 13) = false := by simp [g1]
   have n1 : W.cell? ⟨b1, 1, none⟩ = some (.int .i64 a.id) := HL.cell H3 1
   have y1 : W.frozen? ⟨b1, 1, none⟩ = false := HL.frozen H3 1
   have s0 : HL w0 _ (blk b1 (.cells #[.int .i64 a.code, .int .i64 0, .slice Ae a.events.length ce, .int .i64 a.job.acc, .int .i64 a.job.nodes, .int .i64 a.job.lim, .int .i64 a.job.sub, .int .i64 a.job.st, .int .i64 a.job.start, .int .i64 a.job.fin, .slice As a.job.set.length cs, .slice Ar a.ranks.length cr, .int .i64 a.raw, .int .u64 a.usage, .int .u64 a.factor, .int .i64 a.free, .int .i64 a.holder, .int .i64 a.shadow, .int .i64 a.cfg.c0, .int .i64 a.cfg.c1, .int .i64 a.cfg.c2, .int .i64 a.cfg.c3, .int .i64 a.cfg.c4, .int .i64 a.cfg.c5, .int .i64 a.cfg.c6, .int .i64 a.cfg.c7, .int .i64 a.bound] 32) :: boxA (b1 + 1) zA (.slice none 0 0) (.slice none 0 0) (.slice none 0 0) :: L) := HL.setCell H3 1 (.int .i64 0)
   rw [hk] at hr
   have HR := Lib.hid hr
   clear hr hk g1
   go_wp2
   go_meet
   rw [← HR.out]
   exact ⟨As, Ar, cs, cr, rfl, s0⟩
  have q1 : (k == 1) = false := by simp [g1]
  by_cases g5 : k = 5
  ·have hk : restK k a = { a with id := 0 } := by simp [restK, g5]
   have q5 : (k == 5) = true := by simp [g5]
   have q9 : (k == 9) = false := by simp [g5]
   have q10 : (k == 10) = false := by simp [g5]
   have q11 : (k == 11) = false := by simp [g5]
   have q12 : (k == 12) = false := by simp [g5]
   have q13 : (k == 13) = false := by simp [g5]
   have n1 : W.cell? ⟨b1, 1, none⟩ = some (.int .i64 a.id) := HL.cell H3 1
   have y1 : W.frozen? ⟨b1, 1, none⟩ = false := HL.frozen H3 1
   have s0 : HL w0 _ (blk b1 (.cells #[.int .i64 a.code, .int .i64 0, .slice Ae a.events.length ce, .int .i64 a.job.acc, .int .i64 a.job.nodes, .int .i64 a.job.lim, .int .i64 a.job.sub, .int .i64 a.job.st, .int .i64 a.job.start, .int .i64 a.job.fin, .slice As a.job.set.length cs, .slice Ar a.ranks.length cr, .int .i64 a.raw, .int .u64 a.usage, .int .u64 a.factor, .int .i64 a.free, .int .i64 a.holder, .int .i64 a.shadow, .int .i64 a.cfg.c0, .int .i64 a.cfg.c1, .int .i64 a.cfg.c2, .int .i64 a.cfg.c3, .int .i64 a.cfg.c4, .int .i64 a.cfg.c5, .int .i64 a.cfg.c6, .int .i64 a.cfg.c7, .int .i64 a.bound] 32) :: boxA (b1 + 1) zA (.slice none 0 0) (.slice none 0 0) (.slice none 0 0) :: L) := HL.setCell H3 1 (.int .i64 0)
   rw [hk] at hr
   have HR := Lib.hid hr
   clear hr hk g5
   go_wp2
   go_meet
   rw [← HR.out]
   exact ⟨As, Ar, cs, cr, rfl, s0⟩
  have q5 : (k == 5) = false := by simp [g5]
  by_cases g9 : k = 9
  ·have hk : restK k a = { a with job := zJ } := by simp [restK, g9]
   have q9 : (k == 9) = true := by simp [g9]
   have q10 : (k == 10) = false := by simp [g9]
   have q11 : (k == 11) = false := by simp [g9]
   have q12 : (k == 12) = false := by simp [g9]
   have q13 : (k == 13) = false := by simp [g9]
   have n3 : W.cell? ⟨b1, 3, none⟩ = some (.int .i64 a.job.acc) := HL.cell H3 3
   have y3 : W.frozen? ⟨b1, 3, none⟩ = false := HL.frozen H3 3
   have n4 : W.cell? ⟨b1, 4, none⟩ = some (.int .i64 a.job.nodes) := HL.cell H3 4
   have y4 : W.frozen? ⟨b1, 4, none⟩ = false := HL.frozen H3 4
   have n5 : W.cell? ⟨b1, 5, none⟩ = some (.int .i64 a.job.lim) := HL.cell H3 5
   have y5 : W.frozen? ⟨b1, 5, none⟩ = false := HL.frozen H3 5
   have n6 : W.cell? ⟨b1, 6, none⟩ = some (.int .i64 a.job.sub) := HL.cell H3 6
   have y6 : W.frozen? ⟨b1, 6, none⟩ = false := HL.frozen H3 6
   have n7 : W.cell? ⟨b1, 7, none⟩ = some (.int .i64 a.job.st) := HL.cell H3 7
   have y7 : W.frozen? ⟨b1, 7, none⟩ = false := HL.frozen H3 7
   have n8 : W.cell? ⟨b1, 8, none⟩ = some (.int .i64 a.job.start) := HL.cell H3 8
   have y8 : W.frozen? ⟨b1, 8, none⟩ = false := HL.frozen H3 8
   have n9 : W.cell? ⟨b1, 9, none⟩ = some (.int .i64 a.job.fin) := HL.cell H3 9
   have y9 : W.frozen? ⟨b1, 9, none⟩ = false := HL.frozen H3 9
   have n10 : W.cell? ⟨b1, 10, none⟩ = some (.slice As a.job.set.length cs) := HL.cell H3 10
   have y10 : W.frozen? ⟨b1, 10, none⟩ = false := HL.frozen H3 10
   have s0 : HL w0 _ (blk b1 (.cells #[.int .i64 a.code, .int .i64 a.id, .slice Ae a.events.length ce, .int .i64 0, .int .i64 a.job.nodes, .int .i64 a.job.lim, .int .i64 a.job.sub, .int .i64 a.job.st, .int .i64 a.job.start, .int .i64 a.job.fin, .slice As a.job.set.length cs, .slice Ar a.ranks.length cr, .int .i64 a.raw, .int .u64 a.usage, .int .u64 a.factor, .int .i64 a.free, .int .i64 a.holder, .int .i64 a.shadow, .int .i64 a.cfg.c0, .int .i64 a.cfg.c1, .int .i64 a.cfg.c2, .int .i64 a.cfg.c3, .int .i64 a.cfg.c4, .int .i64 a.cfg.c5, .int .i64 a.cfg.c6, .int .i64 a.cfg.c7, .int .i64 a.bound] 32) :: boxA (b1 + 1) zA (.slice none 0 0) (.slice none 0 0) (.slice none 0 0) :: L) := HL.setCell H3 3 (.int .i64 0)
   have s1 : HL w0 _ (blk b1 (.cells #[.int .i64 a.code, .int .i64 a.id, .slice Ae a.events.length ce, .int .i64 0, .int .i64 0, .int .i64 a.job.lim, .int .i64 a.job.sub, .int .i64 a.job.st, .int .i64 a.job.start, .int .i64 a.job.fin, .slice As a.job.set.length cs, .slice Ar a.ranks.length cr, .int .i64 a.raw, .int .u64 a.usage, .int .u64 a.factor, .int .i64 a.free, .int .i64 a.holder, .int .i64 a.shadow, .int .i64 a.cfg.c0, .int .i64 a.cfg.c1, .int .i64 a.cfg.c2, .int .i64 a.cfg.c3, .int .i64 a.cfg.c4, .int .i64 a.cfg.c5, .int .i64 a.cfg.c6, .int .i64 a.cfg.c7, .int .i64 a.bound] 32) :: boxA (b1 + 1) zA (.slice none 0 0) (.slice none 0 0) (.slice none 0 0) :: L) := HL.setCell s0 4 (.int .i64 0)
   have s2 : HL w0 _ (blk b1 (.cells #[.int .i64 a.code, .int .i64 a.id, .slice Ae a.events.length ce, .int .i64 0, .int .i64 0, .int .i64 0, .int .i64 a.job.sub, .int .i64 a.job.st, .int .i64 a.job.start, .int .i64 a.job.fin, .slice As a.job.set.length cs, .slice Ar a.ranks.length cr, .int .i64 a.raw, .int .u64 a.usage, .int .u64 a.factor, .int .i64 a.free, .int .i64 a.holder, .int .i64 a.shadow, .int .i64 a.cfg.c0, .int .i64 a.cfg.c1, .int .i64 a.cfg.c2, .int .i64 a.cfg.c3, .int .i64 a.cfg.c4, .int .i64 a.cfg.c5, .int .i64 a.cfg.c6, .int .i64 a.cfg.c7, .int .i64 a.bound] 32) :: boxA (b1 + 1) zA (.slice none 0 0) (.slice none 0 0) (.slice none 0 0) :: L) := HL.setCell s1 5 (.int .i64 0)
   have s3 : HL w0 _ (blk b1 (.cells #[.int .i64 a.code, .int .i64 a.id, .slice Ae a.events.length ce, .int .i64 0, .int .i64 0, .int .i64 0, .int .i64 0, .int .i64 a.job.st, .int .i64 a.job.start, .int .i64 a.job.fin, .slice As a.job.set.length cs, .slice Ar a.ranks.length cr, .int .i64 a.raw, .int .u64 a.usage, .int .u64 a.factor, .int .i64 a.free, .int .i64 a.holder, .int .i64 a.shadow, .int .i64 a.cfg.c0, .int .i64 a.cfg.c1, .int .i64 a.cfg.c2, .int .i64 a.cfg.c3, .int .i64 a.cfg.c4, .int .i64 a.cfg.c5, .int .i64 a.cfg.c6, .int .i64 a.cfg.c7, .int .i64 a.bound] 32) :: boxA (b1 + 1) zA (.slice none 0 0) (.slice none 0 0) (.slice none 0 0) :: L) := HL.setCell s2 6 (.int .i64 0)
   have s4 : HL w0 _ (blk b1 (.cells #[.int .i64 a.code, .int .i64 a.id, .slice Ae a.events.length ce, .int .i64 0, .int .i64 0, .int .i64 0, .int .i64 0, .int .i64 0, .int .i64 a.job.start, .int .i64 a.job.fin, .slice As a.job.set.length cs, .slice Ar a.ranks.length cr, .int .i64 a.raw, .int .u64 a.usage, .int .u64 a.factor, .int .i64 a.free, .int .i64 a.holder, .int .i64 a.shadow, .int .i64 a.cfg.c0, .int .i64 a.cfg.c1, .int .i64 a.cfg.c2, .int .i64 a.cfg.c3, .int .i64 a.cfg.c4, .int .i64 a.cfg.c5, .int .i64 a.cfg.c6, .int .i64 a.cfg.c7, .int .i64 a.bound] 32) :: boxA (b1 + 1) zA (.slice none 0 0) (.slice none 0 0) (.slice none 0 0) :: L) := HL.setCell s3 7 (.int .i64 0)
   have s5 : HL w0 _ (blk b1 (.cells #[.int .i64 a.code, .int .i64 a.id, .slice Ae a.events.length ce, .int .i64 0, .int .i64 0, .int .i64 0, .int .i64 0, .int .i64 0, .int .i64 0, .int .i64 a.job.fin, .slice As a.job.set.length cs, .slice Ar a.ranks.length cr, .int .i64 a.raw, .int .u64 a.usage, .int .u64 a.factor, .int .i64 a.free, .int .i64 a.holder, .int .i64 a.shadow, .int .i64 a.cfg.c0, .int .i64 a.cfg.c1, .int .i64 a.cfg.c2, .int .i64 a.cfg.c3, .int .i64 a.cfg.c4, .int .i64 a.cfg.c5, .int .i64 a.cfg.c6, .int .i64 a.cfg.c7, .int .i64 a.bound] 32) :: boxA (b1 + 1) zA (.slice none 0 0) (.slice none 0 0) (.slice none 0 0) :: L) := HL.setCell s4 8 (.int .i64 0)
   have s6 : HL w0 _ (blk b1 (.cells #[.int .i64 a.code, .int .i64 a.id, .slice Ae a.events.length ce, .int .i64 0, .int .i64 0, .int .i64 0, .int .i64 0, .int .i64 0, .int .i64 0, .int .i64 0, .slice As a.job.set.length cs, .slice Ar a.ranks.length cr, .int .i64 a.raw, .int .u64 a.usage, .int .u64 a.factor, .int .i64 a.free, .int .i64 a.holder, .int .i64 a.shadow, .int .i64 a.cfg.c0, .int .i64 a.cfg.c1, .int .i64 a.cfg.c2, .int .i64 a.cfg.c3, .int .i64 a.cfg.c4, .int .i64 a.cfg.c5, .int .i64 a.cfg.c6, .int .i64 a.cfg.c7, .int .i64 a.bound] 32) :: boxA (b1 + 1) zA (.slice none 0 0) (.slice none 0 0) (.slice none 0 0) :: L) := HL.setCell s5 9 (.int .i64 0)
   have s7 : HL w0 _ (blk b1 (.cells #[.int .i64 a.code, .int .i64 a.id, .slice Ae a.events.length ce, .int .i64 0, .int .i64 0, .int .i64 0, .int .i64 0, .int .i64 0, .int .i64 0, .int .i64 0, .slice none 0 0, .slice Ar a.ranks.length cr, .int .i64 a.raw, .int .u64 a.usage, .int .u64 a.factor, .int .i64 a.free, .int .i64 a.holder, .int .i64 a.shadow, .int .i64 a.cfg.c0, .int .i64 a.cfg.c1, .int .i64 a.cfg.c2, .int .i64 a.cfg.c3, .int .i64 a.cfg.c4, .int .i64 a.cfg.c5, .int .i64 a.cfg.c6, .int .i64 a.cfg.c7, .int .i64 a.bound] 32) :: boxA (b1 + 1) zA (.slice none 0 0) (.slice none 0 0) (.slice none 0 0) :: L) := HL.setCell s6 10 (.slice none 0 0)
   rw [hk] at hr
   have HR := Lib.hid hr
   clear hr hk g9
   go_wp2
   go_meet
   rw [← HR.out]
   exact ⟨none, Ar, 0, cr, rfl, s7⟩
  have q9 : (k == 9) = false := by simp [g9]
  by_cases g10 : k = 10
  ·have hk : restK k a = { a with ranks := [], holder := 0, shadow := 0 } := by simp [restK, g10]
   have q10 : (k == 10) = true := by simp [g10]
   have q11 : (k == 11) = false := by simp [g10]
   have q12 : (k == 12) = false := by simp [g10]
   have q13 : (k == 13) = false := by simp [g10]
   have n11 : W.cell? ⟨b1, 11, none⟩ = some (.slice Ar a.ranks.length cr) := HL.cell H3 11
   have y11 : W.frozen? ⟨b1, 11, none⟩ = false := HL.frozen H3 11
   have n16 : W.cell? ⟨b1, 16, none⟩ = some (.int .i64 a.holder) := HL.cell H3 16
   have y16 : W.frozen? ⟨b1, 16, none⟩ = false := HL.frozen H3 16
   have n17 : W.cell? ⟨b1, 17, none⟩ = some (.int .i64 a.shadow) := HL.cell H3 17
   have y17 : W.frozen? ⟨b1, 17, none⟩ = false := HL.frozen H3 17
   have s0 : HL w0 _ (blk b1 (.cells #[.int .i64 a.code, .int .i64 a.id, .slice Ae a.events.length ce, .int .i64 a.job.acc, .int .i64 a.job.nodes, .int .i64 a.job.lim, .int .i64 a.job.sub, .int .i64 a.job.st, .int .i64 a.job.start, .int .i64 a.job.fin, .slice As a.job.set.length cs, .slice none 0 0, .int .i64 a.raw, .int .u64 a.usage, .int .u64 a.factor, .int .i64 a.free, .int .i64 a.holder, .int .i64 a.shadow, .int .i64 a.cfg.c0, .int .i64 a.cfg.c1, .int .i64 a.cfg.c2, .int .i64 a.cfg.c3, .int .i64 a.cfg.c4, .int .i64 a.cfg.c5, .int .i64 a.cfg.c6, .int .i64 a.cfg.c7, .int .i64 a.bound] 32) :: boxA (b1 + 1) zA (.slice none 0 0) (.slice none 0 0) (.slice none 0 0) :: L) := HL.setCell H3 11 (.slice none 0 0)
   have s1 : HL w0 _ (blk b1 (.cells #[.int .i64 a.code, .int .i64 a.id, .slice Ae a.events.length ce, .int .i64 a.job.acc, .int .i64 a.job.nodes, .int .i64 a.job.lim, .int .i64 a.job.sub, .int .i64 a.job.st, .int .i64 a.job.start, .int .i64 a.job.fin, .slice As a.job.set.length cs, .slice none 0 0, .int .i64 a.raw, .int .u64 a.usage, .int .u64 a.factor, .int .i64 a.free, .int .i64 0, .int .i64 a.shadow, .int .i64 a.cfg.c0, .int .i64 a.cfg.c1, .int .i64 a.cfg.c2, .int .i64 a.cfg.c3, .int .i64 a.cfg.c4, .int .i64 a.cfg.c5, .int .i64 a.cfg.c6, .int .i64 a.cfg.c7, .int .i64 a.bound] 32) :: boxA (b1 + 1) zA (.slice none 0 0) (.slice none 0 0) (.slice none 0 0) :: L) := HL.setCell s0 16 (.int .i64 0)
   have s2 : HL w0 _ (blk b1 (.cells #[.int .i64 a.code, .int .i64 a.id, .slice Ae a.events.length ce, .int .i64 a.job.acc, .int .i64 a.job.nodes, .int .i64 a.job.lim, .int .i64 a.job.sub, .int .i64 a.job.st, .int .i64 a.job.start, .int .i64 a.job.fin, .slice As a.job.set.length cs, .slice none 0 0, .int .i64 a.raw, .int .u64 a.usage, .int .u64 a.factor, .int .i64 a.free, .int .i64 0, .int .i64 0, .int .i64 a.cfg.c0, .int .i64 a.cfg.c1, .int .i64 a.cfg.c2, .int .i64 a.cfg.c3, .int .i64 a.cfg.c4, .int .i64 a.cfg.c5, .int .i64 a.cfg.c6, .int .i64 a.cfg.c7, .int .i64 a.bound] 32) :: boxA (b1 + 1) zA (.slice none 0 0) (.slice none 0 0) (.slice none 0 0) :: L) := HL.setCell s1 17 (.int .i64 0)
   rw [hk] at hr
   have HR := Lib.hid hr
   clear hr hk g10
   go_wp2
   go_meet
   rw [← HR.out]
   exact ⟨As, none, cs, 0, rfl, s2⟩
  have q10 : (k == 10) = false := by simp [g10]
  by_cases g11 : k = 11
  ·have hk : restK k a = { a with raw := 0, usage := 0, factor := 0 } := by simp [restK, g11]
   have q11 : (k == 11) = true := by simp [g11]
   have q12 : (k == 12) = false := by simp [g11]
   have q13 : (k == 13) = false := by simp [g11]
   have n12 : W.cell? ⟨b1, 12, none⟩ = some (.int .i64 a.raw) := HL.cell H3 12
   have y12 : W.frozen? ⟨b1, 12, none⟩ = false := HL.frozen H3 12
   have n13 : W.cell? ⟨b1, 13, none⟩ = some (.int .u64 a.usage) := HL.cell H3 13
   have y13 : W.frozen? ⟨b1, 13, none⟩ = false := HL.frozen H3 13
   have n14 : W.cell? ⟨b1, 14, none⟩ = some (.int .u64 a.factor) := HL.cell H3 14
   have y14 : W.frozen? ⟨b1, 14, none⟩ = false := HL.frozen H3 14
   have s0 : HL w0 _ (blk b1 (.cells #[.int .i64 a.code, .int .i64 a.id, .slice Ae a.events.length ce, .int .i64 a.job.acc, .int .i64 a.job.nodes, .int .i64 a.job.lim, .int .i64 a.job.sub, .int .i64 a.job.st, .int .i64 a.job.start, .int .i64 a.job.fin, .slice As a.job.set.length cs, .slice Ar a.ranks.length cr, .int .i64 0, .int .u64 a.usage, .int .u64 a.factor, .int .i64 a.free, .int .i64 a.holder, .int .i64 a.shadow, .int .i64 a.cfg.c0, .int .i64 a.cfg.c1, .int .i64 a.cfg.c2, .int .i64 a.cfg.c3, .int .i64 a.cfg.c4, .int .i64 a.cfg.c5, .int .i64 a.cfg.c6, .int .i64 a.cfg.c7, .int .i64 a.bound] 32) :: boxA (b1 + 1) zA (.slice none 0 0) (.slice none 0 0) (.slice none 0 0) :: L) := HL.setCell H3 12 (.int .i64 0)
   have s1 : HL w0 _ (blk b1 (.cells #[.int .i64 a.code, .int .i64 a.id, .slice Ae a.events.length ce, .int .i64 a.job.acc, .int .i64 a.job.nodes, .int .i64 a.job.lim, .int .i64 a.job.sub, .int .i64 a.job.st, .int .i64 a.job.start, .int .i64 a.job.fin, .slice As a.job.set.length cs, .slice Ar a.ranks.length cr, .int .i64 0, .int .u64 0, .int .u64 a.factor, .int .i64 a.free, .int .i64 a.holder, .int .i64 a.shadow, .int .i64 a.cfg.c0, .int .i64 a.cfg.c1, .int .i64 a.cfg.c2, .int .i64 a.cfg.c3, .int .i64 a.cfg.c4, .int .i64 a.cfg.c5, .int .i64 a.cfg.c6, .int .i64 a.cfg.c7, .int .i64 a.bound] 32) :: boxA (b1 + 1) zA (.slice none 0 0) (.slice none 0 0) (.slice none 0 0) :: L) := HL.setCell s0 13 (.int .u64 0)
   have s2 : HL w0 _ (blk b1 (.cells #[.int .i64 a.code, .int .i64 a.id, .slice Ae a.events.length ce, .int .i64 a.job.acc, .int .i64 a.job.nodes, .int .i64 a.job.lim, .int .i64 a.job.sub, .int .i64 a.job.st, .int .i64 a.job.start, .int .i64 a.job.fin, .slice As a.job.set.length cs, .slice Ar a.ranks.length cr, .int .i64 0, .int .u64 0, .int .u64 0, .int .i64 a.free, .int .i64 a.holder, .int .i64 a.shadow, .int .i64 a.cfg.c0, .int .i64 a.cfg.c1, .int .i64 a.cfg.c2, .int .i64 a.cfg.c3, .int .i64 a.cfg.c4, .int .i64 a.cfg.c5, .int .i64 a.cfg.c6, .int .i64 a.cfg.c7, .int .i64 a.bound] 32) :: boxA (b1 + 1) zA (.slice none 0 0) (.slice none 0 0) (.slice none 0 0) :: L) := HL.setCell s1 14 (.int .u64 0)
   rw [hk] at hr
   have HR := Lib.hid hr
   clear hr hk g11
   go_wp2
   go_meet
   rw [← HR.out]
   exact ⟨As, Ar, cs, cr, rfl, s2⟩
  have q11 : (k == 11) = false := by simp [g11]
  by_cases g12 : k = 12
  ·have hk : restK k a = { a with free := 0 } := by simp [restK, g12]
   have q12 : (k == 12) = true := by simp [g12]
   have q13 : (k == 13) = false := by simp [g12]
   have n15 : W.cell? ⟨b1, 15, none⟩ = some (.int .i64 a.free) := HL.cell H3 15
   have y15 : W.frozen? ⟨b1, 15, none⟩ = false := HL.frozen H3 15
   have s0 : HL w0 _ (blk b1 (.cells #[.int .i64 a.code, .int .i64 a.id, .slice Ae a.events.length ce, .int .i64 a.job.acc, .int .i64 a.job.nodes, .int .i64 a.job.lim, .int .i64 a.job.sub, .int .i64 a.job.st, .int .i64 a.job.start, .int .i64 a.job.fin, .slice As a.job.set.length cs, .slice Ar a.ranks.length cr, .int .i64 a.raw, .int .u64 a.usage, .int .u64 a.factor, .int .i64 0, .int .i64 a.holder, .int .i64 a.shadow, .int .i64 a.cfg.c0, .int .i64 a.cfg.c1, .int .i64 a.cfg.c2, .int .i64 a.cfg.c3, .int .i64 a.cfg.c4, .int .i64 a.cfg.c5, .int .i64 a.cfg.c6, .int .i64 a.cfg.c7, .int .i64 a.bound] 32) :: boxA (b1 + 1) zA (.slice none 0 0) (.slice none 0 0) (.slice none 0 0) :: L) := HL.setCell H3 15 (.int .i64 0)
   rw [hk] at hr
   have HR := Lib.hid hr
   clear hr hk g12
   go_wp2
   go_meet
   rw [← HR.out]
   exact ⟨As, Ar, cs, cr, rfl, s0⟩
  have q12 : (k == 12) = false := by simp [g12]
  by_cases g13 : k = 13
  ·have hk : restK k a = { a with cfg := zC, bound := 0 } := by simp [restK, g13]
   have q13 : (k == 13) = true := by simp [g13]
   have n18 : W.cell? ⟨b1, 18, none⟩ = some (.int .i64 a.cfg.c0) := HL.cell H3 18
   have y18 : W.frozen? ⟨b1, 18, none⟩ = false := HL.frozen H3 18
   have n19 : W.cell? ⟨b1, 19, none⟩ = some (.int .i64 a.cfg.c1) := HL.cell H3 19
   have y19 : W.frozen? ⟨b1, 19, none⟩ = false := HL.frozen H3 19
   have n20 : W.cell? ⟨b1, 20, none⟩ = some (.int .i64 a.cfg.c2) := HL.cell H3 20
   have y20 : W.frozen? ⟨b1, 20, none⟩ = false := HL.frozen H3 20
   have n21 : W.cell? ⟨b1, 21, none⟩ = some (.int .i64 a.cfg.c3) := HL.cell H3 21
   have y21 : W.frozen? ⟨b1, 21, none⟩ = false := HL.frozen H3 21
   have n22 : W.cell? ⟨b1, 22, none⟩ = some (.int .i64 a.cfg.c4) := HL.cell H3 22
   have y22 : W.frozen? ⟨b1, 22, none⟩ = false := HL.frozen H3 22
   have n23 : W.cell? ⟨b1, 23, none⟩ = some (.int .i64 a.cfg.c5) := HL.cell H3 23
   have y23 : W.frozen? ⟨b1, 23, none⟩ = false := HL.frozen H3 23
   have n24 : W.cell? ⟨b1, 24, none⟩ = some (.int .i64 a.cfg.c6) := HL.cell H3 24
   have y24 : W.frozen? ⟨b1, 24, none⟩ = false := HL.frozen H3 24
   have n25 : W.cell? ⟨b1, 25, none⟩ = some (.int .i64 a.cfg.c7) := HL.cell H3 25
   have y25 : W.frozen? ⟨b1, 25, none⟩ = false := HL.frozen H3 25
   have n26 : W.cell? ⟨b1, 26, none⟩ = some (.int .i64 a.bound) := HL.cell H3 26
   have y26 : W.frozen? ⟨b1, 26, none⟩ = false := HL.frozen H3 26
   have s0 : HL w0 _ (blk b1 (.cells #[.int .i64 a.code, .int .i64 a.id, .slice Ae a.events.length ce, .int .i64 a.job.acc, .int .i64 a.job.nodes, .int .i64 a.job.lim, .int .i64 a.job.sub, .int .i64 a.job.st, .int .i64 a.job.start, .int .i64 a.job.fin, .slice As a.job.set.length cs, .slice Ar a.ranks.length cr, .int .i64 a.raw, .int .u64 a.usage, .int .u64 a.factor, .int .i64 a.free, .int .i64 a.holder, .int .i64 a.shadow, .int .i64 0, .int .i64 a.cfg.c1, .int .i64 a.cfg.c2, .int .i64 a.cfg.c3, .int .i64 a.cfg.c4, .int .i64 a.cfg.c5, .int .i64 a.cfg.c6, .int .i64 a.cfg.c7, .int .i64 a.bound] 32) :: boxA (b1 + 1) zA (.slice none 0 0) (.slice none 0 0) (.slice none 0 0) :: L) := HL.setCell H3 18 (.int .i64 0)
   have s1 : HL w0 _ (blk b1 (.cells #[.int .i64 a.code, .int .i64 a.id, .slice Ae a.events.length ce, .int .i64 a.job.acc, .int .i64 a.job.nodes, .int .i64 a.job.lim, .int .i64 a.job.sub, .int .i64 a.job.st, .int .i64 a.job.start, .int .i64 a.job.fin, .slice As a.job.set.length cs, .slice Ar a.ranks.length cr, .int .i64 a.raw, .int .u64 a.usage, .int .u64 a.factor, .int .i64 a.free, .int .i64 a.holder, .int .i64 a.shadow, .int .i64 0, .int .i64 0, .int .i64 a.cfg.c2, .int .i64 a.cfg.c3, .int .i64 a.cfg.c4, .int .i64 a.cfg.c5, .int .i64 a.cfg.c6, .int .i64 a.cfg.c7, .int .i64 a.bound] 32) :: boxA (b1 + 1) zA (.slice none 0 0) (.slice none 0 0) (.slice none 0 0) :: L) := HL.setCell s0 19 (.int .i64 0)
   have s2 : HL w0 _ (blk b1 (.cells #[.int .i64 a.code, .int .i64 a.id, .slice Ae a.events.length ce, .int .i64 a.job.acc, .int .i64 a.job.nodes, .int .i64 a.job.lim, .int .i64 a.job.sub, .int .i64 a.job.st, .int .i64 a.job.start, .int .i64 a.job.fin, .slice As a.job.set.length cs, .slice Ar a.ranks.length cr, .int .i64 a.raw, .int .u64 a.usage, .int .u64 a.factor, .int .i64 a.free, .int .i64 a.holder, .int .i64 a.shadow, .int .i64 0, .int .i64 0, .int .i64 0, .int .i64 a.cfg.c3, .int .i64 a.cfg.c4, .int .i64 a.cfg.c5, .int .i64 a.cfg.c6, .int .i64 a.cfg.c7, .int .i64 a.bound] 32) :: boxA (b1 + 1) zA (.slice none 0 0) (.slice none 0 0) (.slice none 0 0) :: L) := HL.setCell s1 20 (.int .i64 0)
   have s3 : HL w0 _ (blk b1 (.cells #[.int .i64 a.code, .int .i64 a.id, .slice Ae a.events.length ce, .int .i64 a.job.acc, .int .i64 a.job.nodes, .int .i64 a.job.lim, .int .i64 a.job.sub, .int .i64 a.job.st, .int .i64 a.job.start, .int .i64 a.job.fin, .slice As a.job.set.length cs, .slice Ar a.ranks.length cr, .int .i64 a.raw, .int .u64 a.usage, .int .u64 a.factor, .int .i64 a.free, .int .i64 a.holder, .int .i64 a.shadow, .int .i64 0, .int .i64 0, .int .i64 0, .int .i64 0, .int .i64 a.cfg.c4, .int .i64 a.cfg.c5, .int .i64 a.cfg.c6, .int .i64 a.cfg.c7, .int .i64 a.bound] 32) :: boxA (b1 + 1) zA (.slice none 0 0) (.slice none 0 0) (.slice none 0 0) :: L) := HL.setCell s2 21 (.int .i64 0)
   have s4 : HL w0 _ (blk b1 (.cells #[.int .i64 a.code, .int .i64 a.id, .slice Ae a.events.length ce, .int .i64 a.job.acc, .int .i64 a.job.nodes, .int .i64 a.job.lim, .int .i64 a.job.sub, .int .i64 a.job.st, .int .i64 a.job.start, .int .i64 a.job.fin, .slice As a.job.set.length cs, .slice Ar a.ranks.length cr, .int .i64 a.raw, .int .u64 a.usage, .int .u64 a.factor, .int .i64 a.free, .int .i64 a.holder, .int .i64 a.shadow, .int .i64 0, .int .i64 0, .int .i64 0, .int .i64 0, .int .i64 0, .int .i64 a.cfg.c5, .int .i64 a.cfg.c6, .int .i64 a.cfg.c7, .int .i64 a.bound] 32) :: boxA (b1 + 1) zA (.slice none 0 0) (.slice none 0 0) (.slice none 0 0) :: L) := HL.setCell s3 22 (.int .i64 0)
   have s5 : HL w0 _ (blk b1 (.cells #[.int .i64 a.code, .int .i64 a.id, .slice Ae a.events.length ce, .int .i64 a.job.acc, .int .i64 a.job.nodes, .int .i64 a.job.lim, .int .i64 a.job.sub, .int .i64 a.job.st, .int .i64 a.job.start, .int .i64 a.job.fin, .slice As a.job.set.length cs, .slice Ar a.ranks.length cr, .int .i64 a.raw, .int .u64 a.usage, .int .u64 a.factor, .int .i64 a.free, .int .i64 a.holder, .int .i64 a.shadow, .int .i64 0, .int .i64 0, .int .i64 0, .int .i64 0, .int .i64 0, .int .i64 0, .int .i64 a.cfg.c6, .int .i64 a.cfg.c7, .int .i64 a.bound] 32) :: boxA (b1 + 1) zA (.slice none 0 0) (.slice none 0 0) (.slice none 0 0) :: L) := HL.setCell s4 23 (.int .i64 0)
   have s6 : HL w0 _ (blk b1 (.cells #[.int .i64 a.code, .int .i64 a.id, .slice Ae a.events.length ce, .int .i64 a.job.acc, .int .i64 a.job.nodes, .int .i64 a.job.lim, .int .i64 a.job.sub, .int .i64 a.job.st, .int .i64 a.job.start, .int .i64 a.job.fin, .slice As a.job.set.length cs, .slice Ar a.ranks.length cr, .int .i64 a.raw, .int .u64 a.usage, .int .u64 a.factor, .int .i64 a.free, .int .i64 a.holder, .int .i64 a.shadow, .int .i64 0, .int .i64 0, .int .i64 0, .int .i64 0, .int .i64 0, .int .i64 0, .int .i64 0, .int .i64 a.cfg.c7, .int .i64 a.bound] 32) :: boxA (b1 + 1) zA (.slice none 0 0) (.slice none 0 0) (.slice none 0 0) :: L) := HL.setCell s5 24 (.int .i64 0)
   have s7 : HL w0 _ (blk b1 (.cells #[.int .i64 a.code, .int .i64 a.id, .slice Ae a.events.length ce, .int .i64 a.job.acc, .int .i64 a.job.nodes, .int .i64 a.job.lim, .int .i64 a.job.sub, .int .i64 a.job.st, .int .i64 a.job.start, .int .i64 a.job.fin, .slice As a.job.set.length cs, .slice Ar a.ranks.length cr, .int .i64 a.raw, .int .u64 a.usage, .int .u64 a.factor, .int .i64 a.free, .int .i64 a.holder, .int .i64 a.shadow, .int .i64 0, .int .i64 0, .int .i64 0, .int .i64 0, .int .i64 0, .int .i64 0, .int .i64 0, .int .i64 0, .int .i64 a.bound] 32) :: boxA (b1 + 1) zA (.slice none 0 0) (.slice none 0 0) (.slice none 0 0) :: L) := HL.setCell s6 25 (.int .i64 0)
   have s8 : HL w0 _ (blk b1 (.cells #[.int .i64 a.code, .int .i64 a.id, .slice Ae a.events.length ce, .int .i64 a.job.acc, .int .i64 a.job.nodes, .int .i64 a.job.lim, .int .i64 a.job.sub, .int .i64 a.job.st, .int .i64 a.job.start, .int .i64 a.job.fin, .slice As a.job.set.length cs, .slice Ar a.ranks.length cr, .int .i64 a.raw, .int .u64 a.usage, .int .u64 a.factor, .int .i64 a.free, .int .i64 a.holder, .int .i64 a.shadow, .int .i64 0, .int .i64 0, .int .i64 0, .int .i64 0, .int .i64 0, .int .i64 0, .int .i64 0, .int .i64 0, .int .i64 0] 32) :: boxA (b1 + 1) zA (.slice none 0 0) (.slice none 0 0) (.slice none 0 0) :: L) := HL.setCell s7 26 (.int .i64 0)
   rw [hk] at hr
   have HR := Lib.hid hr
   clear hr hk g13
   go_wp2
   go_meet
   rw [← HR.out]
   exact ⟨As, Ar, cs, cr, rfl, s8⟩
  have q13 : (k == 13) = false := by simp [g13]
  have hk : restK k a = a := by simp [restK, g1, g5, g9, g10, g11, g12, g13]
  rw [hk] at hr
  have HR := Lib.hid hr
  clear hr hk g1 g5 g9 g10 g11 g12 g13
  go_wp2
  go_meet
  rw [← HR.out]
  exact ⟨As, Ar, cs, cr, rfl, H3⟩
 case rest =>
  obtain ⟨As', Ar', cs', cr', hre, H4⟩ := hcut
  have HRE := Lib.hid hre; have HR := Lib.hid hr
  clear H3 hre hr
  have hha := fun W => has_ok k W
  cases hh : hasB k with
  | false =>
   rw [hh] at hha
   have hx : restA k a = r := by rw [HRA.out, hh]; rfl
   have HX := Lib.hid hx
   clear hx hh
   go_upto_region 17 with (go_at_call 41; refine (hha _).mono ?_; rintro e w3 ⟨rfl, rfl⟩)
   have G1 : _ = some (Obj.cells (ansA r (.slice Ae r.events.length ce) (.slice As' r.job.set.length cs') (.slice Ar' r.ranks.length cr')) 32 (0, 0)) := H4.head
   have G2 : _ = some (Obj.cells _ 32 (0, 0)) := H4.tail.head
   have HS := HL.setWhole (cells := ansA r (.slice Ae r.events.length ce) (.slice As' r.job.set.length cs') (.slice Ar' r.ranks.length cr')) H4.tail
   go_wp2_with (first
    | (refine wpList_load_row rfl 32 _ rfl b1 rfl 32 _ (0, 0) _ G1 Tryz.underlying32 rfl (ansA_size _ _ _ _) ?_)
    | (refine wpList_store_row rfl 32 _ _ rfl (b1 + 1) (ansA r (.slice Ae r.events.length ce) (.slice As' r.job.set.length cs') (.slice Ar' r.ranks.length cr')) rfl rfl 32 _ G2 (ansA_size _ _ _ _) rfl (ansA_one _ _ _ _ _ _ _ _ _ _) ?_))
   have G3 := HS.head
   refine bodyPost_ret (results_cell_row (by rfl) _ _ (b1 + 1) 32 _ (0, 0) _ (by rfl) G3 Tryz.underlying32 rfl (ansA_size _ _ _ _)) rfl ?_
   rw [HX.out]
   exact ⟨_, _, _, _, _, _, rfl, HS.tail⟩
  | true =>
   rw [hh] at hha
   have hx : restA k a = { r with events := [] } := by rw [HRA.out, hh]; rfl
   have HX := Lib.hid hx
   have H5 : HL w0 _ (boxA b1 { r with events := [] } (.slice none 0 0) (.slice As' r.job.set.length cs') (.slice Ar' r.ranks.length cr') :: boxA (b1 + 1) zA (.slice none 0 0) (.slice none 0 0) (.slice none 0 0) :: L) := HL.setCell H4 2 (.slice none 0 0)
   have n2 : wc.cell? ⟨b1, 2, none⟩ = some (.slice Ae r.events.length ce) := HL.cell H4 2
   have y2 : wc.frozen? ⟨b1, 2, none⟩ = false := HL.frozen H4 2
   clear hx hh
   go_upto_region 17 with (go_at_call 41; refine (hha _).mono ?_; rintro e w3 ⟨rfl, rfl⟩)
   clear n2 y2 H4
   generalize World.setCell _ _ _ = W5 at *
   have G1 : _ = some (Obj.cells (ansA { r with events := [] } (.slice none 0 0) (.slice As' r.job.set.length cs') (.slice Ar' r.ranks.length cr')) 32 (0, 0)) := H5.head
   have G2 : _ = some (Obj.cells _ 32 (0, 0)) := H5.tail.head
   have HS := HL.setWhole (cells := ansA { r with events := [] } (.slice none 0 0) (.slice As' r.job.set.length cs') (.slice Ar' r.ranks.length cr')) H5.tail
   go_wp2_with (first
    | (refine wpList_load_row rfl 32 _ rfl b1 rfl 32 _ (0, 0) _ G1 Tryz.underlying32 rfl (ansA_size _ _ _ _) ?_)
    | (refine wpList_store_row rfl 32 _ _ rfl (b1 + 1) (ansA { r with events := [] } (.slice none 0 0) (.slice As' r.job.set.length cs') (.slice Ar' r.ranks.length cr')) rfl rfl 32 _ G2 (ansA_size _ _ _ _) rfl (ansA_one _ _ _ _ _ _ _ _ _ _) ?_))
   have G3 := HS.head
   refine bodyPost_ret (results_cell_row (by rfl) _ _ (b1 + 1) 32 _ (0, 0) _ (by rfl) G3 Tryz.underlying32 rfl (ansA_size _ _ _ _)) rfl ?_
   rw [HX.out]
   exact ⟨_, _, _, _, _, _, rfl, HS.tail⟩
end
end Go.Proofs.YtdekbbffoaphhaaGreatDoor

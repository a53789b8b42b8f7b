/- The fields that an answer to a kind has (answers.own); an answer that was read, in memory of its own (own2). -/
import Derived.Test.YtdekbbffoaphhaaGreatDoorAnZipB
import Derived.Test.YtdekbbffoaphhaaGreatDoorAnZip
import Derived.Test.YtdekbbffoaphhaaGreatDoorAnPkB
set_option linter.unusedVariables false
set_option linter.unusedSimpArgs false
set_option maxRecDepth 100000
set_option maxHeartbeats 8000000
namespace Go.Proofs.YtdekbbffoaphhaaGreatDoor
open Go.RowKit Go.Proofs.HL Go.Proofs.An
section
variable {w0 w : World} {L : List At}
/-- A list that is the old one, or none. -/
def Same {α : Type} (l m : List α) (A A' : Option Addr) (c c' : Nat) : Prop := (m = l ∧ A' = A ∧ c' = c) ∨ (m = [] ∧ A' = none ∧ c' = 0)
def OwnPost (w0 : World) (L : List At) (a r : Ans) (Ae As Ar : Option Addr) (ce cs cr : Nat) (e : Ending) (w' : World) : Prop := ∃ (Ae' As' Ar' : Option Addr) (ce' cs' cr' : Nat),
 e = .returned (ansV r (.slice Ae' r.events.length ce') (.slice As' r.job.set.length cs') (.slice Ar' r.ranks.length cr')) ∧ Same a.events r.events Ae Ae' ce ce' ∧ Same a.job.set r.job.set As As' cs cs' ∧ Same a.ranks r.ranks Ar Ar' cr cr' ∧ HL w0 w' L
theorem ownK_plain (k : Int) (a : Ans) : (ownK k a).events = [] := by
 unfold ownK
 repeat' split
 all_goals rfl
theorem own_ok (H : HL w0 w L) (k : Int) (a : Ans) (Ae As Ar : Option Addr) (ce cs cr : Nat) : Calls Tryz.prog 63 #[.int .i64 k, ansV a (.slice Ae a.events.length ce) (.slice As a.job.set.length cs) (.slice Ar a.ranks.length cr)] w (OwnPost w0 L a (ownA k a) Ae As Ar ce cs cr) := by
 have H1 := HL.allocA H a (.slice Ae a.events.length ce) (.slice As a.job.set.length cs) (.slice Ar a.ranks.length cr)
 have H2 := HL.bzA H1
 have H3 : HL w0 _ (bxz (World.alloc (World.alloc w _) _).heap.size :: _) := H2.alloc (.cells #[.int .i64 0, .int .i64 0, .slice none 0 0, .int .i64 0, .int .i64 0, .int .i64 0, .int .i64 0, .int .i64 0, .int .i64 0, .int .i64 0, .slice none 0 0, .slice none 0 0, .int .i64 0, .int .u64 0, .int .u64 0, .int .i64 0, .int .i64 0, .int .i64 0, .int .i64 0, .int .i64 0, .int .i64 0, .int .i64 0, .int .i64 0, .int .i64 0, .int .i64 0, .int .i64 0, .int .i64 0] 32)
 rw [World.size_alloc, World.size_alloc] at H3
 have G2 : _ = some (Obj.cells _ 32 (0, 0)) := H3.head
 have HS : HL w0 _ (bxz _ :: _) := HL.setWhole (cells := ansA zA (.slice none 0 0) (.slice none 0 0) (.slice none 0 0)) H3
 unfold ansV
 have hra : ownA k a = if hasB k then { ownK k a with events := a.events } else ownK k a := rfl
 have HRA := Lib.hid hra
 generalize hb1 : w.heap.size = b1 at *
 clear H H1 H2 H3 hra
 go_enter Tryz.func63, Tryz.ntmps63
 go_upto_block 0 with (refine wpList_store_row rfl 32 _ _ rfl (b1 + 1 + 1) (ansA zA (.slice none 0 0) (.slice none 0 0) (.slice none 0 0)) rfl rfl 32 _ G2 (ansA_size _ _ _ _) rfl (ansA_one _ _ _ _ _ _ _ _ _ _) ?_)
 have HB1 := Lib.hid hb1
 clear hb1 G2
 generalize World.setRow _ _ _ = W at *
 have H3 : HL w0 W (bxz (b1 + 1 + 1) :: boxA b1 a (.slice Ae a.events.length ce) (.slice As a.job.set.length cs) (.slice Ar a.ranks.length cr) :: bxz (b1 + 1) :: L) := HS.sel 3 [0, 2, 1]
 clear HS
 obtain ⟨r, hr⟩ : ∃ r, ownK k a = r := ⟨_, rfl⟩
 rw [hr] at HRA
 go_cut [] (fun wc => ∃ (As' Ar' : Option Addr) (cs' cr' : Nat), Same a.job.set r.job.set As As' cs cs' ∧ Same a.ranks r.ranks Ar Ar' cr cr' ∧ HL w0 wc (boxA (b1 + 1 + 1) r (.slice none 0 0) (.slice As' r.job.set.length cs') (.slice Ar' r.ranks.length cr') :: boxA b1 a (.slice Ae a.events.length ce) (.slice As a.job.set.length cs) (.slice Ar a.ranks.length cr) :: bxz (b1 + 1) :: L))
 case first =>
  by_cases g1 : k = 1
  ·skip
   have hk : ownK k a = { zA with id := a.id } := by simp [ownK, g1]
   have q1 : (k == 1) = true := by simp [g1]
   have q5 : (k == 5) = false := by simp [g1]
   have q9 : (k == 9) = false := by simp [g1]
   have q10 : (k == 10) = false := by simp [g1]
   have q11 : (k == 11) = false := by simp [g1]
   have q12 : (k == 12) = false := by simp [g1]
   have q13 : (k == 13) = false := by simp [g1]
   rw [hk] at hr
   have HR := Lib.hid hr
   clear hr hk g1
   have n1 : W.cell? ⟨b1, 1, none⟩ = some (.int .i64 a.id) := HL.cell H3.tail 1
   have m1 : W.cell? ⟨b1 + 1 + 1, 1, none⟩ = some (.int .i64 zA.id) := HL.cell H3 1
   have z1 : W.frozen? ⟨b1 + 1 + 1, 1, none⟩ = false := HL.frozen H3 1
   have s0 : HL w0 _ (blk (b1 + 1 + 1) (.cells #[.int .i64 zA.code, .int .i64 a.id, .slice none 0 0, .int .i64 zA.job.acc, .int .i64 zA.job.nodes, .int .i64 zA.job.lim, .int .i64 zA.job.sub, .int .i64 zA.job.st, .int .i64 zA.job.start, .int .i64 zA.job.fin, .slice none 0 0, .slice none 0 0, .int .i64 zA.raw, .int .u64 zA.usage, .int .u64 zA.factor, .int .i64 zA.free, .int .i64 zA.holder, .int .i64 zA.shadow, .int .i64 zA.cfg.c0, .int .i64 zA.cfg.c1, .int .i64 zA.cfg.c2, .int .i64 zA.cfg.c3, .int .i64 zA.cfg.c4, .int .i64 zA.cfg.c5, .int .i64 zA.cfg.c6, .int .i64 zA.cfg.c7, .int .i64 zA.bound] 32) :: boxA b1 a (.slice Ae a.events.length ce) (.slice As a.job.set.length cs) (.slice Ar a.ranks.length cr) :: bxz (b1 + 1) :: L) := HL.setCell H3 1 (.int .i64 a.id)
   go_wp2
   go_meet
   rw [← HR.out]
   exact ⟨none, none, 0, 0, .inr ⟨rfl, rfl, rfl⟩, .inr ⟨rfl, rfl, rfl⟩, s0⟩
  have q1 : (k == 1) = false := by simp [g1]
  by_cases g5 : k = 5
  ·skip
   have hk : ownK k a = { zA with id := a.id } := by simp [ownK, g5]
   have q5 : (k == 5) = true := by simp [g5]
   have q9 : (k == 9) = false := by simp [g5]
   have q10 : (k == 10) = false := by simp [g5]
   have q11 : (k == 11) = false := by simp [g5]
   have q12 : (k == 12) = false := by simp [g5]
   have q13 : (k == 13) = false := by simp [g5]
   rw [hk] at hr
   have HR := Lib.hid hr
   clear hr hk g5
   have n1 : W.cell? ⟨b1, 1, none⟩ = some (.int .i64 a.id) := HL.cell H3.tail 1
   have m1 : W.cell? ⟨b1 + 1 + 1, 1, none⟩ = some (.int .i64 zA.id) := HL.cell H3 1
   have z1 : W.frozen? ⟨b1 + 1 + 1, 1, none⟩ = false := HL.frozen H3 1
   have s0 : HL w0 _ (blk (b1 + 1 + 1) (.cells #[.int .i64 zA.code, .int .i64 a.id, .slice none 0 0, .int .i64 zA.job.acc, .int .i64 zA.job.nodes, .int .i64 zA.job.lim, .int .i64 zA.job.sub, .int .i64 zA.job.st, .int .i64 zA.job.start, .int .i64 zA.job.fin, .slice none 0 0, .slice none 0 0, .int .i64 zA.raw, .int .u64 zA.usage, .int .u64 zA.factor, .int .i64 zA.free, .int .i64 zA.holder, .int .i64 zA.shadow, .int .i64 zA.cfg.c0, .int .i64 zA.cfg.c1, .int .i64 zA.cfg.c2, .int .i64 zA.cfg.c3, .int .i64 zA.cfg.c4, .int .i64 zA.cfg.c5, .int .i64 zA.cfg.c6, .int .i64 zA.cfg.c7, .int .i64 zA.bound] 32) :: boxA b1 a (.slice Ae a.events.length ce) (.slice As a.job.set.length cs) (.slice Ar a.ranks.length cr) :: bxz (b1 + 1) :: L) := HL.setCell H3 1 (.int .i64 a.id)
   go_wp2
   go_meet
   rw [← HR.out]
   exact ⟨none, none, 0, 0, .inr ⟨rfl, rfl, rfl⟩, .inr ⟨rfl, rfl, rfl⟩, s0⟩
  have q5 : (k == 5) = false := by simp [g5]
  by_cases g9 : k = 9
  ·skip
   have hk : ownK k a = { zA with job := a.job } := by simp [ownK, g9]
   have q9 : (k == 9) = true := by simp [g9]
   have q10 : (k == 10) = false := by simp [g9]
   have q11 : (k == 11) = false := by simp [g9]
   have q12 : (k == 12) = false := by simp [g9]
   have q13 : (k == 13) = false := by simp [g9]
   rw [hk] at hr
   have HR := Lib.hid hr
   clear hr hk g9
   have n3 : W.cell? ⟨b1, 3, none⟩ = some (.int .i64 a.job.acc) := HL.cell H3.tail 3
   have m3 : W.cell? ⟨b1 + 1 + 1, 3, none⟩ = some (.int .i64 zA.job.acc) := HL.cell H3 3
   have z3 : W.frozen? ⟨b1 + 1 + 1, 3, none⟩ = false := HL.frozen H3 3
   have n4 : W.cell? ⟨b1, 4, none⟩ = some (.int .i64 a.job.nodes) := HL.cell H3.tail 4
   have m4 : W.cell? ⟨b1 + 1 + 1, 4, none⟩ = some (.int .i64 zA.job.nodes) := HL.cell H3 4
   have z4 : W.frozen? ⟨b1 + 1 + 1, 4, none⟩ = false := HL.frozen H3 4
   have n5 : W.cell? ⟨b1, 5, none⟩ = some (.int .i64 a.job.lim) := HL.cell H3.tail 5
   have m5 : W.cell? ⟨b1 + 1 + 1, 5, none⟩ = some (.int .i64 zA.job.lim) := HL.cell H3 5
   have z5 : W.frozen? ⟨b1 + 1 + 1, 5, none⟩ = false := HL.frozen H3 5
   have n6 : W.cell? ⟨b1, 6, none⟩ = some (.int .i64 a.job.sub) := HL.cell H3.tail 6
   have m6 : W.cell? ⟨b1 + 1 + 1, 6, none⟩ = some (.int .i64 zA.job.sub) := HL.cell H3 6
   have z6 : W.frozen? ⟨b1 + 1 + 1, 6, none⟩ = false := HL.frozen H3 6
   have n7 : W.cell? ⟨b1, 7, none⟩ = some (.int .i64 a.job.st) := HL.cell H3.tail 7
   have m7 : W.cell? ⟨b1 + 1 + 1, 7, none⟩ = some (.int .i64 zA.job.st) := HL.cell H3 7
   have z7 : W.frozen? ⟨b1 + 1 + 1, 7, none⟩ = false := HL.frozen H3 7
   have n8 : W.cell? ⟨b1, 8, none⟩ = some (.int .i64 a.job.start) := HL.cell H3.tail 8
   have m8 : W.cell? ⟨b1 + 1 + 1, 8, none⟩ = some (.int .i64 zA.job.start) := HL.cell H3 8
   have z8 : W.frozen? ⟨b1 + 1 + 1, 8, none⟩ = false := HL.frozen H3 8
   have n9 : W.cell? ⟨b1, 9, none⟩ = some (.int .i64 a.job.fin) := HL.cell H3.tail 9
   have m9 : W.cell? ⟨b1 + 1 + 1, 9, none⟩ = some (.int .i64 zA.job.fin) := HL.cell H3 9
   have z9 : W.frozen? ⟨b1 + 1 + 1, 9, none⟩ = false := HL.frozen H3 9
   have n10 : W.cell? ⟨b1, 10, none⟩ = some (.slice As a.job.set.length cs) := HL.cell H3.tail 10
   have m10 : W.cell? ⟨b1 + 1 + 1, 10, none⟩ = some (.slice none 0 0) := HL.cell H3 10
   have z10 : W.frozen? ⟨b1 + 1 + 1, 10, none⟩ = false := HL.frozen H3 10
   have s0 : HL w0 _ (blk (b1 + 1 + 1) (.cells #[.int .i64 zA.code, .int .i64 zA.id, .slice none 0 0, .int .i64 a.job.acc, .int .i64 zA.job.nodes, .int .i64 zA.job.lim, .int .i64 zA.job.sub, .int .i64 zA.job.st, .int .i64 zA.job.start, .int .i64 zA.job.fin, .slice none 0 0, .slice none 0 0, .int .i64 zA.raw, .int .u64 zA.usage, .int .u64 zA.factor, .int .i64 zA.free, .int .i64 zA.holder, .int .i64 zA.shadow, .int .i64 zA.cfg.c0, .int .i64 zA.cfg.c1, .int .i64 zA.cfg.c2, .int .i64 zA.cfg.c3, .int .i64 zA.cfg.c4, .int .i64 zA.cfg.c5, .int .i64 zA.cfg.c6, .int .i64 zA.cfg.c7, .int .i64 zA.bound] 32) :: boxA b1 a (.slice Ae a.events.length ce) (.slice As a.job.set.length cs) (.slice Ar a.ranks.length cr) :: bxz (b1 + 1) :: L) := HL.setCell H3 3 (.int .i64 a.job.acc)
   have s1 : HL w0 _ (blk (b1 + 1 + 1) (.cells #[.int .i64 zA.code, .int .i64 zA.id, .slice none 0 0, .int .i64 a.job.acc, .int .i64 a.job.nodes, .int .i64 zA.job.lim, .int .i64 zA.job.sub, .int .i64 zA.job.st, .int .i64 zA.job.start, .int .i64 zA.job.fin, .slice none 0 0, .slice none 0 0, .int .i64 zA.raw, .int .u64 zA.usage, .int .u64 zA.factor, .int .i64 zA.free, .int .i64 zA.holder, .int .i64 zA.shadow, .int .i64 zA.cfg.c0, .int .i64 zA.cfg.c1, .int .i64 zA.cfg.c2, .int .i64 zA.cfg.c3, .int .i64 zA.cfg.c4, .int .i64 zA.cfg.c5, .int .i64 zA.cfg.c6, .int .i64 zA.cfg.c7, .int .i64 zA.bound] 32) :: boxA b1 a (.slice Ae a.events.length ce) (.slice As a.job.set.length cs) (.slice Ar a.ranks.length cr) :: bxz (b1 + 1) :: L) := HL.setCell s0 4 (.int .i64 a.job.nodes)
   have s2 : HL w0 _ (blk (b1 + 1 + 1) (.cells #[.int .i64 zA.code, .int .i64 zA.id, .slice none 0 0, .int .i64 a.job.acc, .int .i64 a.job.nodes, .int .i64 a.job.lim, .int .i64 zA.job.sub, .int .i64 zA.job.st, .int .i64 zA.job.start, .int .i64 zA.job.fin, .slice none 0 0, .slice none 0 0, .int .i64 zA.raw, .int .u64 zA.usage, .int .u64 zA.factor, .int .i64 zA.free, .int .i64 zA.holder, .int .i64 zA.shadow, .int .i64 zA.cfg.c0, .int .i64 zA.cfg.c1, .int .i64 zA.cfg.c2, .int .i64 zA.cfg.c3, .int .i64 zA.cfg.c4, .int .i64 zA.cfg.c5, .int .i64 zA.cfg.c6, .int .i64 zA.cfg.c7, .int .i64 zA.bound] 32) :: boxA b1 a (.slice Ae a.events.length ce) (.slice As a.job.set.length cs) (.slice Ar a.ranks.length cr) :: bxz (b1 + 1) :: L) := HL.setCell s1 5 (.int .i64 a.job.lim)
   have s3 : HL w0 _ (blk (b1 + 1 + 1) (.cells #[.int .i64 zA.code, .int .i64 zA.id, .slice none 0 0, .int .i64 a.job.acc, .int .i64 a.job.nodes, .int .i64 a.job.lim, .int .i64 a.job.sub, .int .i64 zA.job.st, .int .i64 zA.job.start, .int .i64 zA.job.fin, .slice none 0 0, .slice none 0 0, .int .i64 zA.raw, .int .u64 zA.usage, .int .u64 zA.factor, .int .i64 zA.free, .int .i64 zA.holder, .int .i64 zA.shadow, .int .i64 zA.cfg.c0, .int .i64 zA.cfg.c1, .int .i64 zA.cfg.c2, .int .i64 zA.cfg.c3, .int .i64 zA.cfg.c4, .int .i64 zA.cfg.c5, .int .i64 zA.cfg.c6, .int .i64 zA.cfg.c7, .int .i64 zA.bound] 32) :: boxA b1 a (.slice Ae a.events.length ce) (.slice As a.job.set.length cs) (.slice Ar a.ranks.length cr) :: bxz (b1 + 1) :: L) := HL.setCell s2 6 (.int .i64 a.job.sub)
   have s4 : HL w0 _ (blk (b1 + 1 + 1) (.cells #[.int .i64 zA.code, .int .i64 zA.id, .slice none 0 0, .int .i64 a.job.acc, .int .i64 a.job.nodes, .int .i64 a.job.lim, .int .i64 a.job.sub, .int .i64 a.job.st, .int .i64 zA.job.start, .int .i64 zA.job.fin, .slice none 0 0, .slice none 0 0, .int .i64 zA.raw, .int .u64 zA.usage, .int .u64 zA.factor, .int .i64 zA.free, .int .i64 zA.holder, .int .i64 zA.shadow, .int .i64 zA.cfg.c0, .int .i64 zA.cfg.c1, .int .i64 zA.cfg.c2, .int .i64 zA.cfg.c3, .int .i64 zA.cfg.c4, .int .i64 zA.cfg.c5, .int .i64 zA.cfg.c6, .int .i64 zA.cfg.c7, .int .i64 zA.bound] 32) :: boxA b1 a (.slice Ae a.events.length ce) (.slice As a.job.set.length cs) (.slice Ar a.ranks.length cr) :: bxz (b1 + 1) :: L) := HL.setCell s3 7 (.int .i64 a.job.st)
   have s5 : HL w0 _ (blk (b1 + 1 + 1) (.cells #[.int .i64 zA.code, .int .i64 zA.id, .slice none 0 0, .int .i64 a.job.acc, .int .i64 a.job.nodes, .int .i64 a.job.lim, .int .i64 a.job.sub, .int .i64 a.job.st, .int .i64 a.job.start, .int .i64 zA.job.fin, .slice none 0 0, .slice none 0 0, .int .i64 zA.raw, .int .u64 zA.usage, .int .u64 zA.factor, .int .i64 zA.free, .int .i64 zA.holder, .int .i64 zA.shadow, .int .i64 zA.cfg.c0, .int .i64 zA.cfg.c1, .int .i64 zA.cfg.c2, .int .i64 zA.cfg.c3, .int .i64 zA.cfg.c4, .int .i64 zA.cfg.c5, .int .i64 zA.cfg.c6, .int .i64 zA.cfg.c7, .int .i64 zA.bound] 32) :: boxA b1 a (.slice Ae a.events.length ce) (.slice As a.job.set.length cs) (.slice Ar a.ranks.length cr) :: bxz (b1 + 1) :: L) := HL.setCell s4 8 (.int .i64 a.job.start)
   have s6 : HL w0 _ (blk (b1 + 1 + 1) (.cells #[.int .i64 zA.code, .int .i64 zA.id, .slice none 0 0, .int .i64 a.job.acc, .int .i64 a.job.nodes, .int .i64 a.job.lim, .int .i64 a.job.sub, .int .i64 a.job.st, .int .i64 a.job.start, .int .i64 a.job.fin, .slice none 0 0, .slice none 0 0, .int .i64 zA.raw, .int .u64 zA.usage, .int .u64 zA.factor, .int .i64 zA.free, .int .i64 zA.holder, .int .i64 zA.shadow, .int .i64 zA.cfg.c0, .int .i64 zA.cfg.c1, .int .i64 zA.cfg.c2, .int .i64 zA.cfg.c3, .int .i64 zA.cfg.c4, .int .i64 zA.cfg.c5, .int .i64 zA.cfg.c6, .int .i64 zA.cfg.c7, .int .i64 zA.bound] 32) :: boxA b1 a (.slice Ae a.events.length ce) (.slice As a.job.set.length cs) (.slice Ar a.ranks.length cr) :: bxz (b1 + 1) :: L) := HL.setCell s5 9 (.int .i64 a.job.fin)
   have s7 : HL w0 _ (blk (b1 + 1 + 1) (.cells #[.int .i64 zA.code, .int .i64 zA.id, .slice none 0 0, .int .i64 a.job.acc, .int .i64 a.job.nodes, .int .i64 a.job.lim, .int .i64 a.job.sub, .int .i64 a.job.st, .int .i64 a.job.start, .int .i64 a.job.fin, .slice As a.job.set.length cs, .slice none 0 0, .int .i64 zA.raw, .int .u64 zA.usage, .int .u64 zA.factor, .int .i64 zA.free, .int .i64 zA.holder, .int .i64 zA.shadow, .int .i64 zA.cfg.c0, .int .i64 zA.cfg.c1, .int .i64 zA.cfg.c2, .int .i64 zA.cfg.c3, .int .i64 zA.cfg.c4, .int .i64 zA.cfg.c5, .int .i64 zA.cfg.c6, .int .i64 zA.cfg.c7, .int .i64 zA.bound] 32) :: boxA b1 a (.slice Ae a.events.length ce) (.slice As a.job.set.length cs) (.slice Ar a.ranks.length cr) :: bxz (b1 + 1) :: L) := HL.setCell s6 10 (.slice As a.job.set.length cs)
   go_wp2
   go_meet
   rw [← HR.out]
   exact ⟨As, none, cs, 0, .inl ⟨rfl, rfl, rfl⟩, .inr ⟨rfl, rfl, rfl⟩, s7⟩
  have q9 : (k == 9) = false := by simp [g9]
  by_cases g10 : k = 10
  ·skip
   have hk : ownK k a = { zA with ranks := a.ranks, holder := a.holder, shadow := a.shadow } := by simp [ownK, g10]
   have q10 : (k == 10) = true := by simp [g10]
   have q11 : (k == 11) = false := by simp [g10]
   have q12 : (k == 12) = false := by simp [g10]
   have q13 : (k == 13) = false := by simp [g10]
   rw [hk] at hr
   have HR := Lib.hid hr
   clear hr hk g10
   go_upto_region 9 with (fail)
   refine wp_region_held_drew (S := fun w' => w'.cell? ⟨b1, 11, none⟩ = some (.slice Ar a.ranks.length cr) ∧ w'.cell? ⟨b1, 16, none⟩ = some (.int .i64 a.holder) ∧ w'.cell? ⟨b1, 17, none⟩ = some (.int .i64 a.shadow)) (by kernel_rfl) (⟨HL.cell H3.drew.tail 11, HL.cell H3.drew.tail 16, HL.cell H3.drew.tail 17⟩) (fun hHeld => ?_)
   have Hd := H3.drew
   clear H3
   generalize World.drew _ = Wd at *
   have m11 := HL.cell Hd 11
   have z11 := HL.frozen Hd 11
   refine ztk 0 ?_
   simp only [Act.put, zp]
   refine ztk 1 ?_
   simp only [Act.put, zp]
   refine ztk 2 ?_
   simp only [Act.put, zp]
   refine ztk 3 ?_
   simp only [Act.put, zp]
   refine ztk 4 ?_
   simp only [Act.put, zp]
   refine ztk 5 ?_
   simp only [Act.put, zp]
   refine ztk 6 ?_
   simp only [Act.put, zp]
   refine zry 7 (fun K' hK' => ?_)
   dsimp only [zg1, zg3, zg2]
   go_simp
   have HT11 : HL w0 _ (blk (b1 + 1 + 1) (.cells #[.int .i64 zA.code, .int .i64 zA.id, .slice none 0 0, .int .i64 zA.job.acc, .int .i64 zA.job.nodes, .int .i64 zA.job.lim, .int .i64 zA.job.sub, .int .i64 zA.job.st, .int .i64 zA.job.start, .int .i64 zA.job.fin, .slice none 0 0, .slice Ar a.ranks.length cr, .int .i64 zA.raw, .int .u64 zA.usage, .int .u64 zA.factor, .int .i64 zA.free, .int .i64 zA.holder, .int .i64 zA.shadow, .int .i64 zA.cfg.c0, .int .i64 zA.cfg.c1, .int .i64 zA.cfg.c2, .int .i64 zA.cfg.c3, .int .i64 zA.cfg.c4, .int .i64 zA.cfg.c5, .int .i64 zA.cfg.c6, .int .i64 zA.cfg.c7, .int .i64 zA.bound] 32) :: boxA b1 a (.slice Ae a.events.length ce) (.slice As a.job.set.length cs) (.slice Ar a.ranks.length cr) :: bxz (b1 + 1) :: L) := HL.setCell Hd 11 (.slice Ar a.ranks.length cr)
   have m16 := HL.cell HT11 16
   have z16 := HL.frozen HT11 16
   refine hK'.out _ _ (⟨HL.cell HT11.tail 11, HL.cell HT11.tail 16, HL.cell HT11.tail 17⟩) (fun hHeld => ?_)
   clear hK' K'
   try simp only [Act.put, zp]
   refine ztk 8 ?_
   simp only [Act.put, zp]
   refine zry 9 (fun K' hK' => ?_)
   dsimp only [zg1, zg3, zg2]
   go_simp
   have HT16 : HL w0 _ (blk (b1 + 1 + 1) (.cells #[.int .i64 zA.code, .int .i64 zA.id, .slice none 0 0, .int .i64 zA.job.acc, .int .i64 zA.job.nodes, .int .i64 zA.job.lim, .int .i64 zA.job.sub, .int .i64 zA.job.st, .int .i64 zA.job.start, .int .i64 zA.job.fin, .slice none 0 0, .slice Ar a.ranks.length cr, .int .i64 zA.raw, .int .u64 zA.usage, .int .u64 zA.factor, .int .i64 zA.free, .int .i64 a.holder, .int .i64 zA.shadow, .int .i64 zA.cfg.c0, .int .i64 zA.cfg.c1, .int .i64 zA.cfg.c2, .int .i64 zA.cfg.c3, .int .i64 zA.cfg.c4, .int .i64 zA.cfg.c5, .int .i64 zA.cfg.c6, .int .i64 zA.cfg.c7, .int .i64 zA.bound] 32) :: boxA b1 a (.slice Ae a.events.length ce) (.slice As a.job.set.length cs) (.slice Ar a.ranks.length cr) :: bxz (b1 + 1) :: L) := HL.setCell HT11 16 (.int .i64 a.holder)
   have m17 := HL.cell HT16 17
   have z17 := HL.frozen HT16 17
   refine hK'.out _ _ (⟨HL.cell HT16.tail 11, HL.cell HT16.tail 16, HL.cell HT16.tail 17⟩) (fun hHeld => ?_)
   clear hK' K'
   try simp only [Act.put, zp]
   refine ztk 10 ?_
   simp only [Act.put, zp]
   refine zry 11 (fun K' hK' => ?_)
   dsimp only [zg1, zg3, zg2]
   go_simp
   have HT17 : HL w0 _ (blk (b1 + 1 + 1) (.cells #[.int .i64 zA.code, .int .i64 zA.id, .slice none 0 0, .int .i64 zA.job.acc, .int .i64 zA.job.nodes, .int .i64 zA.job.lim, .int .i64 zA.job.sub, .int .i64 zA.job.st, .int .i64 zA.job.start, .int .i64 zA.job.fin, .slice none 0 0, .slice Ar a.ranks.length cr, .int .i64 zA.raw, .int .u64 zA.usage, .int .u64 zA.factor, .int .i64 zA.free, .int .i64 a.holder, .int .i64 a.shadow, .int .i64 zA.cfg.c0, .int .i64 zA.cfg.c1, .int .i64 zA.cfg.c2, .int .i64 zA.cfg.c3, .int .i64 zA.cfg.c4, .int .i64 zA.cfg.c5, .int .i64 zA.cfg.c6, .int .i64 zA.cfg.c7, .int .i64 zA.bound] 32) :: boxA b1 a (.slice Ae a.events.length ce) (.slice As a.job.set.length cs) (.slice Ar a.ranks.length cr) :: bxz (b1 + 1) :: L) := HL.setCell HT16 17 (.int .i64 a.shadow)
   refine hK'.out _ _ (⟨HL.cell HT17.tail 11, HL.cell HT17.tail 16, HL.cell HT17.tail 17⟩) (fun hHeld => ?_)
   clear hK' K'
   try simp only [Act.put, zp]
   refine wpAnyH_done (by kernel_rfl) ?_ _
   go_wp2
   go_meet
   rw [← HR.out]
   exact ⟨none, Ar, 0, cr, .inr ⟨rfl, rfl, rfl⟩, .inl ⟨rfl, rfl, rfl⟩, HT17⟩
  have q10 : (k == 10) = false := by simp [g10]
  by_cases g11 : k = 11
  ·skip
   have hk : ownK k a = { zA with raw := a.raw, usage := a.usage, factor := a.factor } := by simp [ownK, g11]
   have q11 : (k == 11) = true := by simp [g11]
   have q12 : (k == 12) = false := by simp [g11]
   have q13 : (k == 13) = false := by simp [g11]
   rw [hk] at hr
   have HR := Lib.hid hr
   clear hr hk g11
   go_upto_region 11 with (fail)
   refine wp_region_held_drew (S := fun w' => w'.cell? ⟨b1, 12, none⟩ = some (.int .i64 a.raw) ∧ w'.cell? ⟨b1, 13, none⟩ = some (.int .u64 a.usage) ∧ w'.cell? ⟨b1, 14, none⟩ = some (.int .u64 a.factor)) (by kernel_rfl) (⟨HL.cell H3.drew.tail 12, HL.cell H3.drew.tail 13, HL.cell H3.drew.tail 14⟩) (fun hHeld => ?_)
   have Hd := H3.drew
   clear H3
   generalize World.drew _ = Wd at *
   have m12 := HL.cell Hd 12
   have z12 := HL.frozen Hd 12
   refine ztk 0 ?_
   simp only [Act.put, zp]
   refine ztk 1 ?_
   simp only [Act.put, zp]
   refine ztk 2 ?_
   simp only [Act.put, zp]
   refine ztk 3 ?_
   simp only [Act.put, zp]
   refine ztk 4 ?_
   simp only [Act.put, zp]
   refine ztk 5 ?_
   simp only [Act.put, zp]
   refine ztk 6 ?_
   simp only [Act.put, zp]
   refine zry 7 (fun K' hK' => ?_)
   dsimp only [zg1, zg3, zg2]
   go_simp
   have HT12 : HL w0 _ (blk (b1 + 1 + 1) (.cells #[.int .i64 zA.code, .int .i64 zA.id, .slice none 0 0, .int .i64 zA.job.acc, .int .i64 zA.job.nodes, .int .i64 zA.job.lim, .int .i64 zA.job.sub, .int .i64 zA.job.st, .int .i64 zA.job.start, .int .i64 zA.job.fin, .slice none 0 0, .slice none 0 0, .int .i64 a.raw, .int .u64 zA.usage, .int .u64 zA.factor, .int .i64 zA.free, .int .i64 zA.holder, .int .i64 zA.shadow, .int .i64 zA.cfg.c0, .int .i64 zA.cfg.c1, .int .i64 zA.cfg.c2, .int .i64 zA.cfg.c3, .int .i64 zA.cfg.c4, .int .i64 zA.cfg.c5, .int .i64 zA.cfg.c6, .int .i64 zA.cfg.c7, .int .i64 zA.bound] 32) :: boxA b1 a (.slice Ae a.events.length ce) (.slice As a.job.set.length cs) (.slice Ar a.ranks.length cr) :: bxz (b1 + 1) :: L) := HL.setCell Hd 12 (.int .i64 a.raw)
   have m13 := HL.cell HT12 13
   have z13 := HL.frozen HT12 13
   refine hK'.out _ _ (⟨HL.cell HT12.tail 12, HL.cell HT12.tail 13, HL.cell HT12.tail 14⟩) (fun hHeld => ?_)
   clear hK' K'
   try simp only [Act.put, zp]
   refine ztk 8 ?_
   simp only [Act.put, zp]
   refine zry 9 (fun K' hK' => ?_)
   dsimp only [zg1, zg3, zg2]
   go_simp
   have HT13 : HL w0 _ (blk (b1 + 1 + 1) (.cells #[.int .i64 zA.code, .int .i64 zA.id, .slice none 0 0, .int .i64 zA.job.acc, .int .i64 zA.job.nodes, .int .i64 zA.job.lim, .int .i64 zA.job.sub, .int .i64 zA.job.st, .int .i64 zA.job.start, .int .i64 zA.job.fin, .slice none 0 0, .slice none 0 0, .int .i64 a.raw, .int .u64 a.usage, .int .u64 zA.factor, .int .i64 zA.free, .int .i64 zA.holder, .int .i64 zA.shadow, .int .i64 zA.cfg.c0, .int .i64 zA.cfg.c1, .int .i64 zA.cfg.c2, .int .i64 zA.cfg.c3, .int .i64 zA.cfg.c4, .int .i64 zA.cfg.c5, .int .i64 zA.cfg.c6, .int .i64 zA.cfg.c7, .int .i64 zA.bound] 32) :: boxA b1 a (.slice Ae a.events.length ce) (.slice As a.job.set.length cs) (.slice Ar a.ranks.length cr) :: bxz (b1 + 1) :: L) := HL.setCell HT12 13 (.int .u64 a.usage)
   have m14 := HL.cell HT13 14
   have z14 := HL.frozen HT13 14
   refine hK'.out _ _ (⟨HL.cell HT13.tail 12, HL.cell HT13.tail 13, HL.cell HT13.tail 14⟩) (fun hHeld => ?_)
   clear hK' K'
   try simp only [Act.put, zp]
   refine ztk 10 ?_
   simp only [Act.put, zp]
   refine zry 11 (fun K' hK' => ?_)
   dsimp only [zg1, zg3, zg2]
   go_simp
   have HT14 : HL w0 _ (blk (b1 + 1 + 1) (.cells #[.int .i64 zA.code, .int .i64 zA.id, .slice none 0 0, .int .i64 zA.job.acc, .int .i64 zA.job.nodes, .int .i64 zA.job.lim, .int .i64 zA.job.sub, .int .i64 zA.job.st, .int .i64 zA.job.start, .int .i64 zA.job.fin, .slice none 0 0, .slice none 0 0, .int .i64 a.raw, .int .u64 a.usage, .int .u64 a.factor, .int .i64 zA.free, .int .i64 zA.holder, .int .i64 zA.shadow, .int .i64 zA.cfg.c0, .int .i64 zA.cfg.c1, .int .i64 zA.cfg.c2, .int .i64 zA.cfg.c3, .int .i64 zA.cfg.c4, .int .i64 zA.cfg.c5, .int .i64 zA.cfg.c6, .int .i64 zA.cfg.c7, .int .i64 zA.bound] 32) :: boxA b1 a (.slice Ae a.events.length ce) (.slice As a.job.set.length cs) (.slice Ar a.ranks.length cr) :: bxz (b1 + 1) :: L) := HL.setCell HT13 14 (.int .u64 a.factor)
   refine hK'.out _ _ (⟨HL.cell HT14.tail 12, HL.cell HT14.tail 13, HL.cell HT14.tail 14⟩) (fun hHeld => ?_)
   clear hK' K'
   try simp only [Act.put, zp]
   refine wpAnyH_done (by kernel_rfl) ?_ _
   go_wp2
   go_meet
   rw [← HR.out]
   exact ⟨none, none, 0, 0, .inr ⟨rfl, rfl, rfl⟩, .inr ⟨rfl, rfl, rfl⟩, HT14⟩
  have q11 : (k == 11) = false := by simp [g11]
  by_cases g12 : k = 12
  ·skip
   have hk : ownK k a = { zA with free := a.free } := by simp [ownK, g12]
   have q12 : (k == 12) = true := by simp [g12]
   have q13 : (k == 13) = false := by simp [g12]
   rw [hk] at hr
   have HR := Lib.hid hr
   clear hr hk g12
   have n15 : W.cell? ⟨b1, 15, none⟩ = some (.int .i64 a.free) := HL.cell H3.tail 15
   have m15 : W.cell? ⟨b1 + 1 + 1, 15, none⟩ = some (.int .i64 zA.free) := HL.cell H3 15
   have z15 : W.frozen? ⟨b1 + 1 + 1, 15, none⟩ = false := HL.frozen H3 15
   have s0 : HL w0 _ (blk (b1 + 1 + 1) (.cells #[.int .i64 zA.code, .int .i64 zA.id, .slice none 0 0, .int .i64 zA.job.acc, .int .i64 zA.job.nodes, .int .i64 zA.job.lim, .int .i64 zA.job.sub, .int .i64 zA.job.st, .int .i64 zA.job.start, .int .i64 zA.job.fin, .slice none 0 0, .slice none 0 0, .int .i64 zA.raw, .int .u64 zA.usage, .int .u64 zA.factor, .int .i64 a.free, .int .i64 zA.holder, .int .i64 zA.shadow, .int .i64 zA.cfg.c0, .int .i64 zA.cfg.c1, .int .i64 zA.cfg.c2, .int .i64 zA.cfg.c3, .int .i64 zA.cfg.c4, .int .i64 zA.cfg.c5, .int .i64 zA.cfg.c6, .int .i64 zA.cfg.c7, .int .i64 zA.bound] 32) :: boxA b1 a (.slice Ae a.events.length ce) (.slice As a.job.set.length cs) (.slice Ar a.ranks.length cr) :: bxz (b1 + 1) :: L) := HL.setCell H3 15 (.int .i64 a.free)
   go_wp2
   go_meet
   rw [← HR.out]
   exact ⟨none, none, 0, 0, .inr ⟨rfl, rfl, rfl⟩, .inr ⟨rfl, rfl, rfl⟩, s0⟩
  have q12 : (k == 12) = false := by simp [g12]
  by_cases g13 : k = 13
  ·skip
   have hk : ownK k a = { zA with cfg := a.cfg, bound := a.bound } := by simp [ownK, g13]
   have q13 : (k == 13) = true := by simp [g13]
   rw [hk] at hr
   have HR := Lib.hid hr
   clear hr hk g13
   go_upto_region 15 with (fail)
   refine wp_region_held_drew (S := fun w' => w'.cell? ⟨b1, 18, none⟩ = some (.int .i64 a.cfg.c0) ∧ w'.cell? ⟨b1, 19, none⟩ = some (.int .i64 a.cfg.c1) ∧ w'.cell? ⟨b1, 20, none⟩ = some (.int .i64 a.cfg.c2) ∧ w'.cell? ⟨b1, 21, none⟩ = some (.int .i64 a.cfg.c3) ∧ w'.cell? ⟨b1, 22, none⟩ = some (.int .i64 a.cfg.c4) ∧ w'.cell? ⟨b1, 23, none⟩ = some (.int .i64 a.cfg.c5) ∧ w'.cell? ⟨b1, 24, none⟩ = some (.int .i64 a.cfg.c6) ∧ w'.cell? ⟨b1, 25, none⟩ = some (.int .i64 a.cfg.c7) ∧ w'.cell? ⟨b1, 26, none⟩ = some (.int .i64 a.bound)) (by kernel_rfl) (boxA_cf H3.drew.tail) (fun hHeld => ?_)
   have Hd := H3.drew
   clear H3
   generalize World.drew _ = Wd at *
   have m18 := HL.cell Hd 18
   have z18 := HL.frozen Hd 18
   have m19 := HL.cell Hd 19
   have z19 := HL.frozen Hd 19
   have m20 := HL.cell Hd 20
   have z20 := HL.frozen Hd 20
   have m21 := HL.cell Hd 21
   have z21 := HL.frozen Hd 21
   have m22 := HL.cell Hd 22
   have z22 := HL.frozen Hd 22
   have m23 := HL.cell Hd 23
   have z23 := HL.frozen Hd 23
   have m24 := HL.cell Hd 24
   have z24 := HL.frozen Hd 24
   have m25 := HL.cell Hd 25
   have z25 := HL.frozen Hd 25
   refine ztk 0 ?_
   simp only [Act.put, zp]
   refine ztk 1 ?_
   simp only [Act.put, zp]
   refine ztk 2 ?_
   simp only [Act.put, zp]
   refine ztk 3 ?_
   simp only [Act.put, zp]
   refine ztk 4 ?_
   simp only [Act.put, zp]
   refine zry 5 (fun K' hK' => ?_)
   dsimp only [zg1, zg3, zg2]
   go_simp
   have HT18 : HL w0 _ (blk (b1 + 1 + 1) (.cells #[.int .i64 zA.code, .int .i64 zA.id, .slice none 0 0, .int .i64 zA.job.acc, .int .i64 zA.job.nodes, .int .i64 zA.job.lim, .int .i64 zA.job.sub, .int .i64 zA.job.st, .int .i64 zA.job.start, .int .i64 zA.job.fin, .slice none 0 0, .slice none 0 0, .int .i64 zA.raw, .int .u64 zA.usage, .int .u64 zA.factor, .int .i64 zA.free, .int .i64 zA.holder, .int .i64 zA.shadow, .int .i64 a.cfg.c0, .int .i64 zA.cfg.c1, .int .i64 zA.cfg.c2, .int .i64 zA.cfg.c3, .int .i64 zA.cfg.c4, .int .i64 zA.cfg.c5, .int .i64 zA.cfg.c6, .int .i64 zA.cfg.c7, .int .i64 zA.bound] 32) :: boxA b1 a (.slice Ae a.events.length ce) (.slice As a.job.set.length cs) (.slice Ar a.ranks.length cr) :: bxz (b1 + 1) :: L) := HL.setCell Hd 18 (.int .i64 a.cfg.c0)
   have HT19 : HL w0 _ (blk (b1 + 1 + 1) (.cells #[.int .i64 zA.code, .int .i64 zA.id, .slice none 0 0, .int .i64 zA.job.acc, .int .i64 zA.job.nodes, .int .i64 zA.job.lim, .int .i64 zA.job.sub, .int .i64 zA.job.st, .int .i64 zA.job.start, .int .i64 zA.job.fin, .slice none 0 0, .slice none 0 0, .int .i64 zA.raw, .int .u64 zA.usage, .int .u64 zA.factor, .int .i64 zA.free, .int .i64 zA.holder, .int .i64 zA.shadow, .int .i64 a.cfg.c0, .int .i64 a.cfg.c1, .int .i64 zA.cfg.c2, .int .i64 zA.cfg.c3, .int .i64 zA.cfg.c4, .int .i64 zA.cfg.c5, .int .i64 zA.cfg.c6, .int .i64 zA.cfg.c7, .int .i64 zA.bound] 32) :: boxA b1 a (.slice Ae a.events.length ce) (.slice As a.job.set.length cs) (.slice Ar a.ranks.length cr) :: bxz (b1 + 1) :: L) := HL.setCell HT18 19 (.int .i64 a.cfg.c1)
   have HT20 : HL w0 _ (blk (b1 + 1 + 1) (.cells #[.int .i64 zA.code, .int .i64 zA.id, .slice none 0 0, .int .i64 zA.job.acc, .int .i64 zA.job.nodes, .int .i64 zA.job.lim, .int .i64 zA.job.sub, .int .i64 zA.job.st, .int .i64 zA.job.start, .int .i64 zA.job.fin, .slice none 0 0, .slice none 0 0, .int .i64 zA.raw, .int .u64 zA.usage, .int .u64 zA.factor, .int .i64 zA.free, .int .i64 zA.holder, .int .i64 zA.shadow, .int .i64 a.cfg.c0, .int .i64 a.cfg.c1, .int .i64 a.cfg.c2, .int .i64 zA.cfg.c3, .int .i64 zA.cfg.c4, .int .i64 zA.cfg.c5, .int .i64 zA.cfg.c6, .int .i64 zA.cfg.c7, .int .i64 zA.bound] 32) :: boxA b1 a (.slice Ae a.events.length ce) (.slice As a.job.set.length cs) (.slice Ar a.ranks.length cr) :: bxz (b1 + 1) :: L) := HL.setCell HT19 20 (.int .i64 a.cfg.c2)
   have HT21 : HL w0 _ (blk (b1 + 1 + 1) (.cells #[.int .i64 zA.code, .int .i64 zA.id, .slice none 0 0, .int .i64 zA.job.acc, .int .i64 zA.job.nodes, .int .i64 zA.job.lim, .int .i64 zA.job.sub, .int .i64 zA.job.st, .int .i64 zA.job.start, .int .i64 zA.job.fin, .slice none 0 0, .slice none 0 0, .int .i64 zA.raw, .int .u64 zA.usage, .int .u64 zA.factor, .int .i64 zA.free, .int .i64 zA.holder, .int .i64 zA.shadow, .int .i64 a.cfg.c0, .int .i64 a.cfg.c1, .int .i64 a.cfg.c2, .int .i64 a.cfg.c3, .int .i64 zA.cfg.c4, .int .i64 zA.cfg.c5, .int .i64 zA.cfg.c6, .int .i64 zA.cfg.c7, .int .i64 zA.bound] 32) :: boxA b1 a (.slice Ae a.events.length ce) (.slice As a.job.set.length cs) (.slice Ar a.ranks.length cr) :: bxz (b1 + 1) :: L) := HL.setCell HT20 21 (.int .i64 a.cfg.c3)
   have HT22 : HL w0 _ (blk (b1 + 1 + 1) (.cells #[.int .i64 zA.code, .int .i64 zA.id, .slice none 0 0, .int .i64 zA.job.acc, .int .i64 zA.job.nodes, .int .i64 zA.job.lim, .int .i64 zA.job.sub, .int .i64 zA.job.st, .int .i64 zA.job.start, .int .i64 zA.job.fin, .slice none 0 0, .slice none 0 0, .int .i64 zA.raw, .int .u64 zA.usage, .int .u64 zA.factor, .int .i64 zA.free, .int .i64 zA.holder, .int .i64 zA.shadow, .int .i64 a.cfg.c0, .int .i64 a.cfg.c1, .int .i64 a.cfg.c2, .int .i64 a.cfg.c3, .int .i64 a.cfg.c4, .int .i64 zA.cfg.c5, .int .i64 zA.cfg.c6, .int .i64 zA.cfg.c7, .int .i64 zA.bound] 32) :: boxA b1 a (.slice Ae a.events.length ce) (.slice As a.job.set.length cs) (.slice Ar a.ranks.length cr) :: bxz (b1 + 1) :: L) := HL.setCell HT21 22 (.int .i64 a.cfg.c4)
   have HT23 : HL w0 _ (blk (b1 + 1 + 1) (.cells #[.int .i64 zA.code, .int .i64 zA.id, .slice none 0 0, .int .i64 zA.job.acc, .int .i64 zA.job.nodes, .int .i64 zA.job.lim, .int .i64 zA.job.sub, .int .i64 zA.job.st, .int .i64 zA.job.start, .int .i64 zA.job.fin, .slice none 0 0, .slice none 0 0, .int .i64 zA.raw, .int .u64 zA.usage, .int .u64 zA.factor, .int .i64 zA.free, .int .i64 zA.holder, .int .i64 zA.shadow, .int .i64 a.cfg.c0, .int .i64 a.cfg.c1, .int .i64 a.cfg.c2, .int .i64 a.cfg.c3, .int .i64 a.cfg.c4, .int .i64 a.cfg.c5, .int .i64 zA.cfg.c6, .int .i64 zA.cfg.c7, .int .i64 zA.bound] 32) :: boxA b1 a (.slice Ae a.events.length ce) (.slice As a.job.set.length cs) (.slice Ar a.ranks.length cr) :: bxz (b1 + 1) :: L) := HL.setCell HT22 23 (.int .i64 a.cfg.c5)
   have HT24 : HL w0 _ (blk (b1 + 1 + 1) (.cells #[.int .i64 zA.code, .int .i64 zA.id, .slice none 0 0, .int .i64 zA.job.acc, .int .i64 zA.job.nodes, .int .i64 zA.job.lim, .int .i64 zA.job.sub, .int .i64 zA.job.st, .int .i64 zA.job.start, .int .i64 zA.job.fin, .slice none 0 0, .slice none 0 0, .int .i64 zA.raw, .int .u64 zA.usage, .int .u64 zA.factor, .int .i64 zA.free, .int .i64 zA.holder, .int .i64 zA.shadow, .int .i64 a.cfg.c0, .int .i64 a.cfg.c1, .int .i64 a.cfg.c2, .int .i64 a.cfg.c3, .int .i64 a.cfg.c4, .int .i64 a.cfg.c5, .int .i64 a.cfg.c6, .int .i64 zA.cfg.c7, .int .i64 zA.bound] 32) :: boxA b1 a (.slice Ae a.events.length ce) (.slice As a.job.set.length cs) (.slice Ar a.ranks.length cr) :: bxz (b1 + 1) :: L) := HL.setCell HT23 24 (.int .i64 a.cfg.c6)
   have HT25 : HL w0 _ (blk (b1 + 1 + 1) (.cells #[.int .i64 zA.code, .int .i64 zA.id, .slice none 0 0, .int .i64 zA.job.acc, .int .i64 zA.job.nodes, .int .i64 zA.job.lim, .int .i64 zA.job.sub, .int .i64 zA.job.st, .int .i64 zA.job.start, .int .i64 zA.job.fin, .slice none 0 0, .slice none 0 0, .int .i64 zA.raw, .int .u64 zA.usage, .int .u64 zA.factor, .int .i64 zA.free, .int .i64 zA.holder, .int .i64 zA.shadow, .int .i64 a.cfg.c0, .int .i64 a.cfg.c1, .int .i64 a.cfg.c2, .int .i64 a.cfg.c3, .int .i64 a.cfg.c4, .int .i64 a.cfg.c5, .int .i64 a.cfg.c6, .int .i64 a.cfg.c7, .int .i64 zA.bound] 32) :: boxA b1 a (.slice Ae a.events.length ce) (.slice As a.job.set.length cs) (.slice Ar a.ranks.length cr) :: bxz (b1 + 1) :: L) := HL.setCell HT24 25 (.int .i64 a.cfg.c7)
   have m26 := HL.cell HT25 26
   have z26 := HL.frozen HT25 26
   refine hK'.out _ _ (boxA_cf HT25.tail) (fun hHeld => ?_)
   clear hK' K'
   try simp only [Act.put, zp]
   refine ztk 6 ?_
   simp only [Act.put, zp]
   refine zry 7 (fun K' hK' => ?_)
   dsimp only [zg1, zg3, zg2]
   go_simp
   have HT26 : HL w0 _ (blk (b1 + 1 + 1) (.cells #[.int .i64 zA.code, .int .i64 zA.id, .slice none 0 0, .int .i64 zA.job.acc, .int .i64 zA.job.nodes, .int .i64 zA.job.lim, .int .i64 zA.job.sub, .int .i64 zA.job.st, .int .i64 zA.job.start, .int .i64 zA.job.fin, .slice none 0 0, .slice none 0 0, .int .i64 zA.raw, .int .u64 zA.usage, .int .u64 zA.factor, .int .i64 zA.free, .int .i64 zA.holder, .int .i64 zA.shadow, .int .i64 a.cfg.c0, .int .i64 a.cfg.c1, .int .i64 a.cfg.c2, .int .i64 a.cfg.c3, .int .i64 a.cfg.c4, .int .i64 a.cfg.c5, .int .i64 a.cfg.c6, .int .i64 a.cfg.c7, .int .i64 a.bound] 32) :: boxA b1 a (.slice Ae a.events.length ce) (.slice As a.job.set.length cs) (.slice Ar a.ranks.length cr) :: bxz (b1 + 1) :: L) := HL.setCell HT25 26 (.int .i64 a.bound)
   refine hK'.out _ _ (boxA_cf HT26.tail) (fun hHeld => ?_)
   clear hK' K'
   try simp only [Act.put, zp]
   refine wpAnyH_done (by kernel_rfl) ?_ _
   go_wp2
   go_meet
   rw [← HR.out]
   exact ⟨none, none, 0, 0, .inr ⟨rfl, rfl, rfl⟩, .inr ⟨rfl, rfl, rfl⟩, HT26⟩
  have q13 : (k == 13) = false := by simp [g13]
  have hk : ownK k a = zA := by simp [ownK, g1, g5, g9, g10, g11, g12, g13]
  rw [hk] at hr
  have HR := Lib.hid hr
  clear hr hk g1 g5 g9 g10 g11 g12 g13
  go_wp2
  go_meet
  rw [← HR.out]
  exact ⟨none, none, 0, 0, .inr ⟨rfl, rfl, rfl⟩, .inr ⟨rfl, rfl, rfl⟩, H3⟩
 case rest =>
  obtain ⟨As', Ar', cs', cr', hsm, hrk, H4⟩ := hcut
  have HSM := Lib.hid hsm; have HRK := Lib.hid hrk
  have hre : r.events = [] := by rw [← hr]; exact ownK_plain k a
  have HRE := Lib.hid hre; have HR := Lib.hid hr
  clear H3 hre hr hsm hrk
  have hha := fun W => has_ok k W
  cases hh : hasB k with
  | false =>
   rw [hh] at hha
   have hx : ownA k a = r := by rw [HRA.out, hh]; rfl
   have HX := Lib.hid hx
   clear hx hh
   go_upto_region 18 with (go_at_call 41; refine (hha _).mono ?_; rintro e w3 ⟨rfl, rfl⟩)
   obtain ⟨r0, r1, r2, r3, r4, r5, r6, r7, r8, r9, r10, r11, r12⟩ := r
   have hr2 : r2 = [] := HRE.out
   subst hr2
   have G1 : _ = some (Obj.cells (ansA ⟨r0, r1, [], r3, r4, r5, r6, r7, r8, r9, r10, r11, r12⟩ (.slice none 0 0) (.slice As' r3.set.length cs') (.slice Ar' r4.length cr')) 32 (0, 0)) := H4.head
   have G3 : _ = some (Obj.cells _ 32 (0, 0)) := H4.tail.tail.head
   have HS := HL.setWhole (cells := ansA ⟨r0, r1, [], r3, r4, r5, r6, r7, r8, r9, r10, r11, r12⟩ (.slice none 0 0) (.slice As' r3.set.length cs') (.slice Ar' r4.length cr')) (H4.sel 3 [2])
   go_wp2_with (first
    | (refine wpList_load_row rfl 32 _ rfl (b1 + 1 + 1) rfl 32 _ (0, 0) _ G1 Tryz.underlying32 rfl (ansA_size _ _ _ _) ?_)
    | (refine wpList_store_row rfl 32 _ _ rfl (b1 + 1) (ansA ⟨r0, r1, [], r3, r4, r5, r6, r7, r8, r9, r10, r11, r12⟩ (.slice none 0 0) (.slice As' r3.set.length cs') (.slice Ar' r4.length cr')) rfl rfl 32 _ G3 (ansA_size _ _ _ _) rfl (ansA_one _ _ _ _ _ _ _ _ _ _) ?_))
   have G5 := HS.head
   refine bodyPost_ret (results_cell_row (by rfl) _ _ (b1 + 1) 32 _ (0, 0) _ (by rfl) G5 Tryz.underlying32 rfl (ansA_size _ _ _ _)) rfl ?_
   rw [HX.out]
   exact ⟨_, As', Ar', _, cs', cr', rfl, .inr ⟨rfl, rfl, rfl⟩, HSM.out, HRK.out, HS.tail⟩
  | true =>
   rw [hh] at hha
   have hx : ownA k a = { r with events := a.events } := by rw [HRA.out, hh]; rfl
   have HX := Lib.hid hx
   have H5 : HL w0 _ (boxA (b1 + 1 + 1) { r with events := a.events } (.slice Ae a.events.length ce) (.slice As' r.job.set.length cs') (.slice Ar' r.ranks.length cr') :: boxA b1 a (.slice Ae a.events.length ce) (.slice As a.job.set.length cs) (.slice Ar a.ranks.length cr) :: bxz (b1 + 1) :: L) := HL.setCell H4 2 (.slice Ae a.events.length ce)
   have n2 : wc.cell? ⟨b1, 2, none⟩ = some (.slice Ae a.events.length ce) := HL.cell H4.tail 2
   have m2 := HL.cell H4 2
   have y2 : wc.frozen? ⟨b1 + 1 + 1, 2, none⟩ = false := HL.frozen H4 2
   clear hx hh
   go_upto_region 18 with (go_at_call 41; refine (hha _).mono ?_; rintro e w3 ⟨rfl, rfl⟩)
   clear n2 y2 m2 H4
   generalize World.setCell _ _ _ = W5 at *
   have G1 : _ = some (Obj.cells (ansA { r with events := a.events } (.slice Ae a.events.length ce) (.slice As' r.job.set.length cs') (.slice Ar' r.ranks.length cr')) 32 (0, 0)) := H5.head
   have G3 : _ = some (Obj.cells _ 32 (0, 0)) := H5.tail.tail.head
   have HS := HL.setWhole (cells := ansA { r with events := a.events } (.slice Ae a.events.length ce) (.slice As' r.job.set.length cs') (.slice Ar' r.ranks.length cr')) (H5.sel 3 [2])
   go_wp2_with (first
    | (refine wpList_load_row rfl 32 _ rfl (b1 + 1 + 1) rfl 32 _ (0, 0) _ G1 Tryz.underlying32 rfl (ansA_size _ _ _ _) ?_)
    | (refine wpList_store_row rfl 32 _ _ rfl (b1 + 1) (ansA { r with events := a.events } (.slice Ae a.events.length ce) (.slice As' r.job.set.length cs') (.slice Ar' r.ranks.length cr')) rfl rfl 32 _ G3 (ansA_size _ _ _ _) rfl (ansA_one _ _ _ _ _ _ _ _ _ _) ?_))
   have G5 := HS.head
   refine bodyPost_ret (results_cell_row (by rfl) _ _ (b1 + 1) 32 _ (0, 0) _ (by rfl) G5 Tryz.underlying32 rfl (ansA_size _ _ _ _)) rfl ?_
   rw [HX.out]
   exact ⟨_, As', Ar', _, cs', cr', rfl, .inl ⟨rfl, rfl, rfl⟩, HSM.out, HRK.out, HS.tail⟩
end
open Go.RowKit Go.Proofs.HL Go.Proofs.An
section
variable {w0 w : World} {L : List At}
def Own2Post2 (w0 : World) (L : List At) (a r : Ans) (Ae Ar : Option Addr) (ce cr : Nat) (e : Ending) (w' : World) : Prop := ∃ (K : List At) (Ae' As' Ar' : Option Addr) (ce' cs' cr' : Nat),
 e = .returned (ansV r (.slice Ae' r.events.length ce') (.slice As' r.job.set.length cs') (.slice Ar' r.ranks.length cr')) ∧ Same a.events r.events Ae Ae' ce ce' ∧ Same a.ranks r.ranks Ar Ar' cr cr' ∧ Ints w0 K (.slice As' r.job.set.length cs') r.job.set ∧ Lies w0.heap.size K (.slice As' r.job.set.length cs') ∧ HL w0 w' (K ++ L)
theorem own2_ok2 (H : HL w0 w L) (k : Int) (a : Ans) (Ae As Ar : Option Addr) (ce cs cr : Nat) (hI : Ints w0 L (.slice As a.job.set.length cs) a.job.set) (hl : a.job.set.length ≤ 4294967296) : Calls Tryz.prog 43 #[.int .i64 k, ansV a (.slice Ae a.events.length ce) (.slice As a.job.set.length cs) (.slice Ar a.ranks.length cr)] w (Own2Post2 w0 L a (own2A k a) Ae Ar ce cr) := by
 have H1 := HL.allocA H a (.slice Ae a.events.length ce) (.slice As a.job.set.length cs) (.slice Ar a.ranks.length cr)
 have H2 := HL.bzA H1
 rw [World.size_alloc] at H2
 have hraw : own2A k a = if a.code = 0 then ownA k a else { zA with code := a.code } := rfl
 unfold ansV
 generalize hb1 : w.heap.size = b1 at *
 clear H H1
 by_cases hc : a.code = 0
 ·have hq : (a.code != 0) = false := by simp [hc]
  have hx0 : own2A k a = ownA k a := by rw [hraw, if_pos hc]
  have HX0 := Lib.hid hx0
  clear hc hx0 hraw
  go_enter Tryz.func43, Tryz.ntmps43
  go_upto_region 1 with (fail)
  have HB1 := Lib.hid hb1
  clear hb1
  generalize World.alloc (World.alloc _ _) _ = W at *
  have n0 : W.cell? ⟨b1, 0, none⟩ = some (.int .i64 a.code) := HL.cell H2.tail 0
  have G1 : _ = some (Obj.cells (ansA a (.slice Ae a.events.length ce) (.slice As a.job.set.length cs) (.slice Ar a.ranks.length cr)) 32 (0, 0)) := H2.tail.head
  have hown : Calls Tryz.prog 63 #[.int .i64 k, .agg (ansA a (.slice Ae a.events.length ce) (.slice As a.job.set.length cs) (.slice Ar a.ranks.length cr))] _ _ := own_ok H2 k a Ae As Ar ce cs cr
  go_upto_region 4 with (first
   | (have g1 := G1; refine wpList_load_row rfl 32 _ rfl b1 rfl 32 _ (0, 0) _ g1 Tryz.underlying32 rfl (ansA_size _ _ _ _) ?_; clear g1 G1)
   | (go_at_call 63; (with_reducible refine hown.mono ?_); rintro e w3 ⟨Ae', As', Ar', ce', cs', cr', rfl, hse, hss, hsr, H3⟩; clear hown H2 n0; generalize ownA k a = r at *; have H4 := HL.bzA H3; have G4 : _ = some (Obj.cells _ 32 (0, 0)) := H4.head; have H5 : HL w0 _ (boxA w3.heap.size r (.slice Ae' r.events.length ce') (.slice As' r.job.set.length cs') (.slice Ar' r.ranks.length cr') :: _) := HL.setWhole (cells := ansA r (.slice Ae' r.events.length ce') (.slice As' r.job.set.length cs') (.slice Ar' r.ranks.length cr')) H4)
   | (refine wpList_store_row rfl 32 _ _ rfl w3.heap.size (ansA r (.slice Ae' r.events.length ce') (.slice As' r.job.set.length cs') (.slice Ar' r.ranks.length cr')) rfl rfl 32 _ G4 (ansA_size _ _ _ _) rfl (ansA_one _ _ _ _ _ _ _ _ _ _) ?_; clear G4 H4 H3))
  generalize World.setRow _ _ _ = W5 at *
  generalize w3.heap.size = b5 at *
  have c10 : W5.cell? ⟨b5, 10, none⟩ = some (.slice As' r.job.set.length cs') := HL.cell H5 10
  have y10 : W5.frozen? ⟨b5, 10, none⟩ = false := HL.frozen H5 10
  have hIr : Ints w0 (boxA b5 r (.slice Ae' r.events.length ce') (.slice As' r.job.set.length cs') (.slice Ar' r.ranks.length cr') :: bxz (b1 + 1) :: boxA b1 a (.slice Ae a.events.length ce) (.slice As a.job.set.length cs) (.slice Ar a.ranks.length cr) :: L) (.slice As' r.job.set.length cs') r.job.set := by
   rcases hss with ⟨e1, rfl, rfl⟩ | ⟨e1, rfl, rfl⟩
   ·rw [e1]; exact ((hI.cons _).cons _).cons _
   ·rw [e1]; exact fun W _ => rd_nil
  have hlr : r.job.set.length ≤ 4294967296 := by
   rcases hss with ⟨e1, -⟩ | ⟨e1, -⟩
   ·rw [e1]; exact hl
   ·rw [e1]; simp
  have hcl := clone_ok H5 (hIr _ H5) hlr
  have HSE := Lib.hid hse; have HSR := Lib.hid hsr
  clear hse hss hsr hIr hI
  go_upto_region 5 with (go_at_call 64; refine hcl.mono ?_; rintro e w6 ⟨A6, c6, rfl, H6⟩; clear hcl c10 y10 H5; have H7 := H6.swap; have c10 := HL.cell H7 10; have y10 := HL.frozen H7 10)
  have H8 : HL w0 _ (boxA b5 r (.slice Ae' r.events.length ce') (.slice A6 r.job.set.length c6) (.slice Ar' r.ranks.length cr') :: intsR w0.heap.size (.slice A6 r.job.set.length c6) r.job.set :: bxz (b1 + 1) :: boxA b1 a (.slice Ae a.events.length ce) (.slice As a.job.set.length cs) (.slice Ar a.ranks.length cr) :: L) := HL.setCell H7 10 (.slice A6 r.job.set.length c6)
  clear c10 y10 H6 H7
  generalize World.setCell _ _ _ = W8 at *
  have G1 : _ = some (Obj.cells (ansA r (.slice Ae' r.events.length ce') (.slice A6 r.job.set.length c6) (.slice Ar' r.ranks.length cr')) 32 (0, 0)) := H8.head
  have G3 : _ = some (Obj.cells _ 32 (0, 0)) := H8.tail.tail.head
  have HS := HL.setWhole (cells := ansA r (.slice Ae' r.events.length ce') (.slice A6 r.job.set.length c6) (.slice Ar' r.ranks.length cr')) (H8.sel 4 [2, 1])
  go_wp2_with (first
   | (refine wpList_load_row rfl 32 _ rfl b5 rfl 32 _ (0, 0) _ G1 Tryz.underlying32 rfl (ansA_size _ _ _ _) ?_)
   | (refine wpList_store_row rfl 32 _ _ rfl (b1 + 1) (ansA r (.slice Ae' r.events.length ce') (.slice A6 r.job.set.length c6) (.slice Ar' r.ranks.length cr')) rfl rfl 32 _ G3 (ansA_size _ _ _ _) rfl (ansA_one _ _ _ _ _ _ _ _ _ _) ?_))
  have G5 := HS.head
  refine bodyPost_ret (results_cell_row (by rfl) _ _ (b1 + 1) 32 _ (0, 0) _ (by rfl) G5 Tryz.underlying32 rfl (ansA_size _ _ _ _)) rfl ?_
  rw [HX0.out]
  exact ⟨[intsR w0.heap.size (.slice A6 r.job.set.length c6) r.job.set], Ae', A6, Ar', ce', c6, cr', rfl, HSE.out, HSR.out, entRow, .inr ⟨_, _, List.mem_singleton.2 rfl, .inl rfl⟩, HS.tail⟩
 ·have hq : (a.code != 0) = true := by simp [hc]
  have hx0 : own2A k a = { zA with code := a.code } := by rw [hraw, if_neg hc]
  have HX := Lib.hid hx0
  clear hc hx0 hraw
  go_enter Tryz.func43, Tryz.ntmps43
  go_upto_region 1 with (fail)
  have HB1 := Lib.hid hb1
  clear hb1
  generalize World.alloc (World.alloc _ _) _ = W at *
  have n0 : W.cell? ⟨b1, 0, none⟩ = some (.int .i64 a.code) := HL.cell H2.tail 0
  have G3 : _ = some (Obj.cells _ 32 (0, 0)) := H2.head
  have HS := HL.setWhole (cells := ansA { zA with code := a.code } (.slice none 0 0) (.slice none 0 0) (.slice none 0 0)) H2
  go_wp2_with (refine wpList_store_row rfl 32 _ _ rfl (b1 + 1) (ansA { zA with code := a.code } (.slice none 0 0) (.slice none 0 0) (.slice none 0 0)) rfl rfl 32 _ G3 (ansA_size _ _ _ _) rfl (ansA_one _ _ _ _ _ _ _ _ _ _) ?_)
  have G5 := HS.head
  refine bodyPost_ret (results_cell_row (by rfl) _ _ (b1 + 1) 32 _ (0, 0) _ (by rfl) G5 Tryz.underlying32 rfl (ansA_size _ _ _ _)) rfl ?_
  rw [HX.out]
  exact ⟨[], none, none, none, 0, 0, 0, rfl, .inr ⟨rfl, rfl, rfl⟩, .inr ⟨rfl, rfl, rfl⟩, fun W _ => rd_nil, .inl rfl, HS.tail.tail⟩
def Own2Post (w0 : World) (L : List At) (a r : Ans) (Ae Ar : Option Addr) (ce cr : Nat) (e : Ending) (w' : World) : Prop := ∃ (K : List At) (Ae' As' Ar' : Option Addr) (ce' cs' cr' : Nat),
 e = .returned (ansV r (.slice Ae' r.events.length ce') (.slice As' r.job.set.length cs') (.slice Ar' r.ranks.length cr')) ∧ Same a.events r.events Ae Ae' ce ce' ∧ Same a.ranks r.ranks Ar Ar' cr cr' ∧ Ints w0 K (.slice As' r.job.set.length cs') r.job.set ∧ HL w0 w' (K ++ L)
theorem own2_ok (H : HL w0 w L) (k : Int) (a : Ans) (Ae As Ar : Option Addr) (ce cs cr : Nat) (hI : Ints w0 L (.slice As a.job.set.length cs) a.job.set) (hl : a.job.set.length ≤ 4294967296) : Calls Tryz.prog 43 #[.int .i64 k, ansV a (.slice Ae a.events.length ce) (.slice As a.job.set.length cs) (.slice Ar a.ranks.length cr)] w (Own2Post w0 L a (own2A k a) Ae Ar ce cr) :=
 (own2_ok2 H k a Ae As Ar ce cs cr hI hl).mono fun e w' ⟨K, A1, A2, A3, c1, c2, c3, h1, h2, h3, h4, _, h5⟩ => ⟨K, A1, A2, A3, c1, c2, c3, h1, h2, h3, h4, h5⟩
end
end Go.Proofs.YtdekbbffoaphhaaGreatDoor

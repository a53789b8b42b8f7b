/- The fields that an answer to a kind has (answers.own); an answer that was read, in memory of its own (own2). -/
import Derived.Test.YtdekbbffoaphhaaDoorAnHead
set_option linter.unusedVariables false
set_option linter.unusedSimpArgs false
namespace Go.Proofs.YtdekbbffoaphhaaDoor
open Go.RowKit Go.Proofs.HL Go.Proofs.An
section
variable {w0 w : World} {L : List At}
/-- A list that is the old one, or none. -/
def Same {α : Type} (l m : List α) (A A' : Option Addr) (c c' : Nat) : Prop := (m = l ∧ A' = A ∧ c' = c) ∨ (m = [] ∧ A' = none ∧ c' = 0)
def OwnPost (w0 : World) (L : List At) (a r : Ans) (Ae As Ar : Option Addr) (ce cs cr : Nat) (e : Ending) (w' : World) : Prop := ∃ (Ae' As' Ar' : Option Addr) (ce' cs' cr' : Nat),
  e = .returned (ansV r (.slice Ae' r.events.length ce') (.slice As' r.job.set.length cs') (.slice Ar' r.ranks.length cr')) ∧ Same a.events r.events Ae Ae' ce ce' ∧ Same a.job.set r.job.set As As' cs cs' ∧ Same a.ranks r.ranks Ar Ar' cr cr' ∧ HL w0 w' L
theorem ownK_plain (k : Int) (a : Ans) : (ownK k a).events = [] := by
  unfold ownK
  repeat' split
  all_goals rfl
set_option maxRecDepth 100000 in
set_option maxHeartbeats 8000000 in
theorem own_ok (H : HL w0 w L) (k : Int) (a : Ans) (Ae As Ar : Option Addr) (ce cs cr : Nat) : Calls Tryd.prog 87 #[.int .i64 k, ansV a (.slice Ae a.events.length ce) (.slice As a.job.set.length cs) (.slice Ar a.ranks.length cr)] w (OwnPost w0 L a (ownA k a) Ae As Ar ce cs cr) := by
  have H1 := HL.allocA H a (.slice Ae a.events.length ce) (.slice As a.job.set.length cs) (.slice Ar a.ranks.length cr)
  have H2 : HL w0 _ (boxA (World.alloc w _).heap.size zA (.slice none 0 0) (.slice none 0 0) (.slice none 0 0) :: _) := H1.alloc (.cells #[.int .i64 0, .int .i64 0, .slice none 0 0, .int .i64 0, .int .i64 0, .int .i64 0, .int .i64 0, .int .i64 0, .int .i64 0, .int .i64 0, .slice none 0 0, .slice none 0 0, .int .i64 0, .int .u64 0, .int .u64 0, .int .i64 0, .int .i64 0, .int .i64 0, .int .i64 0, .int .i64 0, .int .i64 0, .int .i64 0, .int .i64 0, .int .i64 0, .int .i64 0, .int .i64 0, .int .i64 0] 50)
  have H3 : HL w0 _ (boxA (World.alloc (World.alloc w _) _).heap.size zA (.slice none 0 0) (.slice none 0 0) (.slice none 0 0) :: _) := H2.alloc (.cells #[.int .i64 0, .int .i64 0, .slice none 0 0, .int .i64 0, .int .i64 0, .int .i64 0, .int .i64 0, .int .i64 0, .int .i64 0, .int .i64 0, .slice none 0 0, .slice none 0 0, .int .i64 0, .int .u64 0, .int .u64 0, .int .i64 0, .int .i64 0, .int .i64 0, .int .i64 0, .int .i64 0, .int .i64 0, .int .i64 0, .int .i64 0, .int .i64 0, .int .i64 0, .int .i64 0, .int .i64 0] 50)
  rw [World.size_alloc, World.size_alloc] at H3
  have G2 : _ = some (Obj.cells _ 50 (0, 0)) := H3.head
  have HS : HL w0 _ (boxA _ zA (.slice none 0 0) (.slice none 0 0) (.slice none 0 0) :: _) := HL.setWhole (cells := ansA zA (.slice none 0 0) (.slice none 0 0) (.slice none 0 0)) H3
  unfold ansV
  have hra : ownA k a = if hasB k then { ownK k a with events := a.events } else ownK k a := rfl
  have HRA := Lib.hid hra
  generalize hb1 : w.heap.size = b1 at *
  clear H H1 H2 H3 hra
  go_enter Tryd.func87, Tryd.ntmps87
  go_upto_block 0 with (refine wpList_store_row rfl 50 _ _ rfl (b1 + 1 + 1) (ansA zA (.slice none 0 0) (.slice none 0 0) (.slice none 0 0)) rfl rfl 50 _ G2 (ansA_size _ _ _ _) rfl (ansA_one _ _ _ _ _ _ _ _ _ _) ?_)
  have HB1 := Lib.hid hb1
  clear hb1 G2
  generalize World.setRow _ _ _ = W at *
  have H3 : HL w0 W (boxA (b1 + 1 + 1) zA (.slice none 0 0) (.slice none 0 0) (.slice none 0 0) :: boxA b1 a (.slice Ae a.events.length ce) (.slice As a.job.set.length cs) (.slice Ar a.ranks.length cr) :: boxA (b1 + 1) zA (.slice none 0 0) (.slice none 0 0) (.slice none 0 0) :: L) := HS.sel 3 [0, 2, 1]
  clear HS
  obtain ⟨r, hr⟩ : ∃ r, ownK k a = r := ⟨_, rfl⟩
  rw [hr] at HRA
  go_cut [] (fun wc => ∃ (As' Ar' : Option Addr) (cs' cr' : Nat), Same a.job.set r.job.set As As' cs cs' ∧ Same a.ranks r.ranks Ar Ar' cr cr' ∧ HL w0 wc (boxA (b1 + 1 + 1) r (.slice none 0 0) (.slice As' r.job.set.length cs') (.slice Ar' r.ranks.length cr') :: boxA b1 a (.slice Ae a.events.length ce) (.slice As a.job.set.length cs) (.slice Ar a.ranks.length cr) :: boxA (b1 + 1) zA (.slice none 0 0) (.slice none 0 0) (.slice none 0 0) :: L))
  case first =>
    by_cases g1 : k = 1
    · skip
      have hk : ownK k a = { zA with id := a.id } := by simp [ownK, g1]
      have q1 : (k == 1) = true := by simp [g1]
      have q5 : (k == 5) = false := by simp [g1]
      have q9 : (k == 9) = false := by simp [g1]
      have q10 : (k == 10) = false := by simp [g1]
      have q11 : (k == 11) = false := by simp [g1]
      have q12 : (k == 12) = false := by simp [g1]
      have q13 : (k == 13) = false := by simp [g1]
      rw [hk] at hr
      have HR := Lib.hid hr
      clear hr hk g1
      have n1 : W.cell? ⟨b1, 1, none⟩ = some (.int .i64 a.id) := HL.cell H3.tail 1
      have m1 : W.cell? ⟨b1 + 1 + 1, 1, none⟩ = some (.int .i64 zA.id) := HL.cell H3 1
      have z1 : W.frozen? ⟨b1 + 1 + 1, 1, none⟩ = false := HL.frozen H3 1
      have s0 : HL w0 (W.setCell ⟨b1 + 1 + 1, 1, none⟩ (.int .i64 a.id)) (blk (b1 + 1 + 1) (.cells #[.int .i64 zA.code, .int .i64 a.id, .slice none 0 0, .int .i64 zA.job.acc, .int .i64 zA.job.nodes, .int .i64 zA.job.lim, .int .i64 zA.job.sub, .int .i64 zA.job.st, .int .i64 zA.job.start, .int .i64 zA.job.fin, .slice none 0 0, .slice none 0 0, .int .i64 zA.raw, .int .u64 zA.usage, .int .u64 zA.factor, .int .i64 zA.free, .int .i64 zA.holder, .int .i64 zA.shadow, .int .i64 zA.cfg.c0, .int .i64 zA.cfg.c1, .int .i64 zA.cfg.c2, .int .i64 zA.cfg.c3, .int .i64 zA.cfg.c4, .int .i64 zA.cfg.c5, .int .i64 zA.cfg.c6, .int .i64 zA.cfg.c7, .int .i64 zA.bound] 50) :: boxA b1 a (.slice Ae a.events.length ce) (.slice As a.job.set.length cs) (.slice Ar a.ranks.length cr) :: boxA (b1 + 1) zA (.slice none 0 0) (.slice none 0 0) (.slice none 0 0) :: L) := HL.setCell H3 1 (.int .i64 a.id)
      go_wp2
      go_meet
      rw [← HR.out]
      exact ⟨none, none, 0, 0, .inr ⟨rfl, rfl, rfl⟩, .inr ⟨rfl, rfl, rfl⟩, s0⟩
    have q1 : (k == 1) = false := by simp [g1]
    by_cases g5 : k = 5
    · skip
      have hk : ownK k a = { zA with id := a.id } := by simp [ownK, g5]
      have q5 : (k == 5) = true := by simp [g5]
      have q9 : (k == 9) = false := by simp [g5]
      have q10 : (k == 10) = false := by simp [g5]
      have q11 : (k == 11) = false := by simp [g5]
      have q12 : (k == 12) = false := by simp [g5]
      have q13 : (k == 13) = false := by simp [g5]
      rw [hk] at hr
      have HR := Lib.hid hr
      clear hr hk g5
      have n1 : W.cell? ⟨b1, 1, none⟩ = some (.int .i64 a.id) := HL.cell H3.tail 1
      have m1 : W.cell? ⟨b1 + 1 + 1, 1, none⟩ = some (.int .i64 zA.id) := HL.cell H3 1
      have z1 : W.frozen? ⟨b1 + 1 + 1, 1, none⟩ = false := HL.frozen H3 1
      have s0 : HL w0 (W.setCell ⟨b1 + 1 + 1, 1, none⟩ (.int .i64 a.id)) (blk (b1 + 1 + 1) (.cells #[.int .i64 zA.code, .int .i64 a.id, .slice none 0 0, .int .i64 zA.job.acc, .int .i64 zA.job.nodes, .int .i64 zA.job.lim, .int .i64 zA.job.sub, .int .i64 zA.job.st, .int .i64 zA.job.start, .int .i64 zA.job.fin, .slice none 0 0, .slice none 0 0, .int .i64 zA.raw, .int .u64 zA.usage, .int .u64 zA.factor, .int .i64 zA.free, .int .i64 zA.holder, .int .i64 zA.shadow, .int .i64 zA.cfg.c0, .int .i64 zA.cfg.c1, .int .i64 zA.cfg.c2, .int .i64 zA.cfg.c3, .int .i64 zA.cfg.c4, .int .i64 zA.cfg.c5, .int .i64 zA.cfg.c6, .int .i64 zA.cfg.c7, .int .i64 zA.bound] 50) :: boxA b1 a (.slice Ae a.events.length ce) (.slice As a.job.set.length cs) (.slice Ar a.ranks.length cr) :: boxA (b1 + 1) zA (.slice none 0 0) (.slice none 0 0) (.slice none 0 0) :: L) := HL.setCell H3 1 (.int .i64 a.id)
      go_wp2
      go_meet
      rw [← HR.out]
      exact ⟨none, none, 0, 0, .inr ⟨rfl, rfl, rfl⟩, .inr ⟨rfl, rfl, rfl⟩, s0⟩
    have q5 : (k == 5) = false := by simp [g5]
    by_cases g9 : k = 9
    · skip
      have hk : ownK k a = { zA with job := a.job } := by simp [ownK, g9]
      have q9 : (k == 9) = true := by simp [g9]
      have q10 : (k == 10) = false := by simp [g9]
      have q11 : (k == 11) = false := by simp [g9]
      have q12 : (k == 12) = false := by simp [g9]
      have q13 : (k == 13) = false := by simp [g9]
      rw [hk] at hr
      have HR := Lib.hid hr
      clear hr hk g9
      have n3 : W.cell? ⟨b1, 3, none⟩ = some (.int .i64 a.job.acc) := HL.cell H3.tail 3
      have m3 : W.cell? ⟨b1 + 1 + 1, 3, none⟩ = some (.int .i64 zA.job.acc) := HL.cell H3 3
      have z3 : W.frozen? ⟨b1 + 1 + 1, 3, none⟩ = false := HL.frozen H3 3
      have n4 : W.cell? ⟨b1, 4, none⟩ = some (.int .i64 a.job.nodes) := HL.cell H3.tail 4
      have m4 : W.cell? ⟨b1 + 1 + 1, 4, none⟩ = some (.int .i64 zA.job.nodes) := HL.cell H3 4
      have z4 : W.frozen? ⟨b1 + 1 + 1, 4, none⟩ = false := HL.frozen H3 4
      have n5 : W.cell? ⟨b1, 5, none⟩ = some (.int .i64 a.job.lim) := HL.cell H3.tail 5
      have m5 : W.cell? ⟨b1 + 1 + 1, 5, none⟩ = some (.int .i64 zA.job.lim) := HL.cell H3 5
      have z5 : W.frozen? ⟨b1 + 1 + 1, 5, none⟩ = false := HL.frozen H3 5
      have n6 : W.cell? ⟨b1, 6, none⟩ = some (.int .i64 a.job.sub) := HL.cell H3.tail 6
      have m6 : W.cell? ⟨b1 + 1 + 1, 6, none⟩ = some (.int .i64 zA.job.sub) := HL.cell H3 6
      have z6 : W.frozen? ⟨b1 + 1 + 1, 6, none⟩ = false := HL.frozen H3 6
      have n7 : W.cell? ⟨b1, 7, none⟩ = some (.int .i64 a.job.st) := HL.cell H3.tail 7
      have m7 : W.cell? ⟨b1 + 1 + 1, 7, none⟩ = some (.int .i64 zA.job.st) := HL.cell H3 7
      have z7 : W.frozen? ⟨b1 + 1 + 1, 7, none⟩ = false := HL.frozen H3 7
      have n8 : W.cell? ⟨b1, 8, none⟩ = some (.int .i64 a.job.start) := HL.cell H3.tail 8
      have m8 : W.cell? ⟨b1 + 1 + 1, 8, none⟩ = some (.int .i64 zA.job.start) := HL.cell H3 8
      have z8 : W.frozen? ⟨b1 + 1 + 1, 8, none⟩ = false := HL.frozen H3 8
      have n9 : W.cell? ⟨b1, 9, none⟩ = some (.int .i64 a.job.fin) := HL.cell H3.tail 9
      have m9 : W.cell? ⟨b1 + 1 + 1, 9, none⟩ = some (.int .i64 zA.job.fin) := HL.cell H3 9
      have z9 : W.frozen? ⟨b1 + 1 + 1, 9, none⟩ = false := HL.frozen H3 9
      have n10 : W.cell? ⟨b1, 10, none⟩ = some (.slice As a.job.set.length cs) := HL.cell H3.tail 10
      have m10 : W.cell? ⟨b1 + 1 + 1, 10, none⟩ = some (.slice none 0 0) := HL.cell H3 10
      have z10 : W.frozen? ⟨b1 + 1 + 1, 10, none⟩ = false := HL.frozen H3 10
      have s0 : HL w0 (W.setCell ⟨b1 + 1 + 1, 3, none⟩ (.int .i64 a.job.acc)) (blk (b1 + 1 + 1) (.cells #[.int .i64 zA.code, .int .i64 zA.id, .slice none 0 0, .int .i64 a.job.acc, .int .i64 zA.job.nodes, .int .i64 zA.job.lim, .int .i64 zA.job.sub, .int .i64 zA.job.st, .int .i64 zA.job.start, .int .i64 zA.job.fin, .slice none 0 0, .slice none 0 0, .int .i64 zA.raw, .int .u64 zA.usage, .int .u64 zA.factor, .int .i64 zA.free, .int .i64 zA.holder, .int .i64 zA.shadow, .int .i64 zA.cfg.c0, .int .i64 zA.cfg.c1, .int .i64 zA.cfg.c2, .int .i64 zA.cfg.c3, .int .i64 zA.cfg.c4, .int .i64 zA.cfg.c5, .int .i64 zA.cfg.c6, .int .i64 zA.cfg.c7, .int .i64 zA.bound] 50) :: boxA b1 a (.slice Ae a.events.length ce) (.slice As a.job.set.length cs) (.slice Ar a.ranks.length cr) :: boxA (b1 + 1) zA (.slice none 0 0) (.slice none 0 0) (.slice none 0 0) :: L) := HL.setCell H3 3 (.int .i64 a.job.acc)
      have s1 : HL w0 ((W.setCell ⟨b1 + 1 + 1, 3, none⟩ (.int .i64 a.job.acc)).setCell ⟨b1 + 1 + 1, 4, none⟩ (.int .i64 a.job.nodes)) (blk (b1 + 1 + 1) (.cells #[.int .i64 zA.code, .int .i64 zA.id, .slice none 0 0, .int .i64 a.job.acc, .int .i64 a.job.nodes, .int .i64 zA.job.lim, .int .i64 zA.job.sub, .int .i64 zA.job.st, .int .i64 zA.job.start, .int .i64 zA.job.fin, .slice none 0 0, .slice none 0 0, .int .i64 zA.raw, .int .u64 zA.usage, .int .u64 zA.factor, .int .i64 zA.free, .int .i64 zA.holder, .int .i64 zA.shadow, .int .i64 zA.cfg.c0, .int .i64 zA.cfg.c1, .int .i64 zA.cfg.c2, .int .i64 zA.cfg.c3, .int .i64 zA.cfg.c4, .int .i64 zA.cfg.c5, .int .i64 zA.cfg.c6, .int .i64 zA.cfg.c7, .int .i64 zA.bound] 50) :: boxA b1 a (.slice Ae a.events.length ce) (.slice As a.job.set.length cs) (.slice Ar a.ranks.length cr) :: boxA (b1 + 1) zA (.slice none 0 0) (.slice none 0 0) (.slice none 0 0) :: L) := HL.setCell s0 4 (.int .i64 a.job.nodes)
      have s2 : HL w0 (((W.setCell ⟨b1 + 1 + 1, 3, none⟩ (.int .i64 a.job.acc)).setCell ⟨b1 + 1 + 1, 4, none⟩ (.int .i64 a.job.nodes)).setCell ⟨b1 + 1 + 1, 5, none⟩ (.int .i64 a.job.lim)) (blk (b1 + 1 + 1) (.cells #[.int .i64 zA.code, .int .i64 zA.id, .slice none 0 0, .int .i64 a.job.acc, .int .i64 a.job.nodes, .int .i64 a.job.lim, .int .i64 zA.job.sub, .int .i64 zA.job.st, .int .i64 zA.job.start, .int .i64 zA.job.fin, .slice none 0 0, .slice none 0 0, .int .i64 zA.raw, .int .u64 zA.usage, .int .u64 zA.factor, .int .i64 zA.free, .int .i64 zA.holder, .int .i64 zA.shadow, .int .i64 zA.cfg.c0, .int .i64 zA.cfg.c1, .int .i64 zA.cfg.c2, .int .i64 zA.cfg.c3, .int .i64 zA.cfg.c4, .int .i64 zA.cfg.c5, .int .i64 zA.cfg.c6, .int .i64 zA.cfg.c7, .int .i64 zA.bound] 50) :: boxA b1 a (.slice Ae a.events.length ce) (.slice As a.job.set.length cs) (.slice Ar a.ranks.length cr) :: boxA (b1 + 1) zA (.slice none 0 0) (.slice none 0 0) (.slice none 0 0) :: L) := HL.setCell s1 5 (.int .i64 a.job.lim)
      have s3 : HL w0 ((((W.setCell ⟨b1 + 1 + 1, 3, none⟩ (.int .i64 a.job.acc)).setCell ⟨b1 + 1 + 1, 4, none⟩ (.int .i64 a.job.nodes)).setCell ⟨b1 + 1 + 1, 5, none⟩ (.int .i64 a.job.lim)).setCell ⟨b1 + 1 + 1, 6, none⟩ (.int .i64 a.job.sub)) (blk (b1 + 1 + 1) (.cells #[.int .i64 zA.code, .int .i64 zA.id, .slice none 0 0, .int .i64 a.job.acc, .int .i64 a.job.nodes, .int .i64 a.job.lim, .int .i64 a.job.sub, .int .i64 zA.job.st, .int .i64 zA.job.start, .int .i64 zA.job.fin, .slice none 0 0, .slice none 0 0, .int .i64 zA.raw, .int .u64 zA.usage, .int .u64 zA.factor, .int .i64 zA.free, .int .i64 zA.holder, .int .i64 zA.shadow, .int .i64 zA.cfg.c0, .int .i64 zA.cfg.c1, .int .i64 zA.cfg.c2, .int .i64 zA.cfg.c3, .int .i64 zA.cfg.c4, .int .i64 zA.cfg.c5, .int .i64 zA.cfg.c6, .int .i64 zA.cfg.c7, .int .i64 zA.bound] 50) :: boxA b1 a (.slice Ae a.events.length ce) (.slice As a.job.set.length cs) (.slice Ar a.ranks.length cr) :: boxA (b1 + 1) zA (.slice none 0 0) (.slice none 0 0) (.slice none 0 0) :: L) := HL.setCell s2 6 (.int .i64 a.job.sub)
      have s4 : HL w0 (((((W.setCell ⟨b1 + 1 + 1, 3, none⟩ (.int .i64 a.job.acc)).setCell ⟨b1 + 1 + 1, 4, none⟩ (.int .i64 a.job.nodes)).setCell ⟨b1 + 1 + 1, 5, none⟩ (.int .i64 a.job.lim)).setCell ⟨b1 + 1 + 1, 6, none⟩ (.int .i64 a.job.sub)).setCell ⟨b1 + 1 + 1, 7, none⟩ (.int .i64 a.job.st)) (blk (b1 + 1 + 1) (.cells #[.int .i64 zA.code, .int .i64 zA.id, .slice none 0 0, .int .i64 a.job.acc, .int .i64 a.job.nodes, .int .i64 a.job.lim, .int .i64 a.job.sub, .int .i64 a.job.st, .int .i64 zA.job.start, .int .i64 zA.job.fin, .slice none 0 0, .slice none 0 0, .int .i64 zA.raw, .int .u64 zA.usage, .int .u64 zA.factor, .int .i64 zA.free, .int .i64 zA.holder, .int .i64 zA.shadow, .int .i64 zA.cfg.c0, .int .i64 zA.cfg.c1, .int .i64 zA.cfg.c2, .int .i64 zA.cfg.c3, .int .i64 zA.cfg.c4, .int .i64 zA.cfg.c5, .int .i64 zA.cfg.c6, .int .i64 zA.cfg.c7, .int .i64 zA.bound] 50) :: boxA b1 a (.slice Ae a.events.length ce) (.slice As a.job.set.length cs) (.slice Ar a.ranks.length cr) :: boxA (b1 + 1) zA (.slice none 0 0) (.slice none 0 0) (.slice none 0 0) :: L) := HL.setCell s3 7 (.int .i64 a.job.st)
      have s5 : HL w0 ((((((W.setCell ⟨b1 + 1 + 1, 3, none⟩ (.int .i64 a.job.acc)).setCell ⟨b1 + 1 + 1, 4, none⟩ (.int .i64 a.job.nodes)).setCell ⟨b1 + 1 + 1, 5, none⟩ (.int .i64 a.job.lim)).setCell ⟨b1 + 1 + 1, 6, none⟩ (.int .i64 a.job.sub)).setCell ⟨b1 + 1 + 1, 7, none⟩ (.int .i64 a.job.st)).setCell ⟨b1 + 1 + 1, 8, none⟩ (.int .i64 a.job.start)) (blk (b1 + 1 + 1) (.cells #[.int .i64 zA.code, .int .i64 zA.id, .slice none 0 0, .int .i64 a.job.acc, .int .i64 a.job.nodes, .int .i64 a.job.lim, .int .i64 a.job.sub, .int .i64 a.job.st, .int .i64 a.job.start, .int .i64 zA.job.fin, .slice none 0 0, .slice none 0 0, .int .i64 zA.raw, .int .u64 zA.usage, .int .u64 zA.factor, .int .i64 zA.free, .int .i64 zA.holder, .int .i64 zA.shadow, .int .i64 zA.cfg.c0, .int .i64 zA.cfg.c1, .int .i64 zA.cfg.c2, .int .i64 zA.cfg.c3, .int .i64 zA.cfg.c4, .int .i64 zA.cfg.c5, .int .i64 zA.cfg.c6, .int .i64 zA.cfg.c7, .int .i64 zA.bound] 50) :: boxA b1 a (.slice Ae a.events.length ce) (.slice As a.job.set.length cs) (.slice Ar a.ranks.length cr) :: boxA (b1 + 1) zA (.slice none 0 0) (.slice none 0 0) (.slice none 0 0) :: L) := HL.setCell s4 8 (.int .i64 a.job.start)
      have s6 : HL w0 (((((((W.setCell ⟨b1 + 1 + 1, 3, none⟩ (.int .i64 a.job.acc)).setCell ⟨b1 + 1 + 1, 4, none⟩ (.int .i64 a.job.nodes)).setCell ⟨b1 + 1 + 1, 5, none⟩ (.int .i64 a.job.lim)).setCell ⟨b1 + 1 + 1, 6, none⟩ (.int .i64 a.job.sub)).setCell ⟨b1 + 1 + 1, 7, none⟩ (.int .i64 a.job.st)).setCell ⟨b1 + 1 + 1, 8, none⟩ (.int .i64 a.job.start)).setCell ⟨b1 + 1 + 1, 9, none⟩ (.int .i64 a.job.fin)) (blk (b1 + 1 + 1) (.cells #[.int .i64 zA.code, .int .i64 zA.id, .slice none 0 0, .int .i64 a.job.acc, .int .i64 a.job.nodes, .int .i64 a.job.lim, .int .i64 a.job.sub, .int .i64 a.job.st, .int .i64 a.job.start, .int .i64 a.job.fin, .slice none 0 0, .slice none 0 0, .int .i64 zA.raw, .int .u64 zA.usage, .int .u64 zA.factor, .int .i64 zA.free, .int .i64 zA.holder, .int .i64 zA.shadow, .int .i64 zA.cfg.c0, .int .i64 zA.cfg.c1, .int .i64 zA.cfg.c2, .int .i64 zA.cfg.c3, .int .i64 zA.cfg.c4, .int .i64 zA.cfg.c5, .int .i64 zA.cfg.c6, .int .i64 zA.cfg.c7, .int .i64 zA.bound] 50) :: boxA b1 a (.slice Ae a.events.length ce) (.slice As a.job.set.length cs) (.slice Ar a.ranks.length cr) :: boxA (b1 + 1) zA (.slice none 0 0) (.slice none 0 0) (.slice none 0 0) :: L) := HL.setCell s5 9 (.int .i64 a.job.fin)
      have s7 : HL w0 ((((((((W.setCell ⟨b1 + 1 + 1, 3, none⟩ (.int .i64 a.job.acc)).setCell ⟨b1 + 1 + 1, 4, none⟩ (.int .i64 a.job.nodes)).setCell ⟨b1 + 1 + 1, 5, none⟩ (.int .i64 a.job.lim)).setCell ⟨b1 + 1 + 1, 6, none⟩ (.int .i64 a.job.sub)).setCell ⟨b1 + 1 + 1, 7, none⟩ (.int .i64 a.job.st)).setCell ⟨b1 + 1 + 1, 8, none⟩ (.int .i64 a.job.start)).setCell ⟨b1 + 1 + 1, 9, none⟩ (.int .i64 a.job.fin)).setCell ⟨b1 + 1 + 1, 10, none⟩ (.slice As a.job.set.length cs)) (blk (b1 + 1 + 1) (.cells #[.int .i64 zA.code, .int .i64 zA.id, .slice none 0 0, .int .i64 a.job.acc, .int .i64 a.job.nodes, .int .i64 a.job.lim, .int .i64 a.job.sub, .int .i64 a.job.st, .int .i64 a.job.start, .int .i64 a.job.fin, .slice As a.job.set.length cs, .slice none 0 0, .int .i64 zA.raw, .int .u64 zA.usage, .int .u64 zA.factor, .int .i64 zA.free, .int .i64 zA.holder, .int .i64 zA.shadow, .int .i64 zA.cfg.c0, .int .i64 zA.cfg.c1, .int .i64 zA.cfg.c2, .int .i64 zA.cfg.c3, .int .i64 zA.cfg.c4, .int .i64 zA.cfg.c5, .int .i64 zA.cfg.c6, .int .i64 zA.cfg.c7, .int .i64 zA.bound] 50) :: boxA b1 a (.slice Ae a.events.length ce) (.slice As a.job.set.length cs) (.slice Ar a.ranks.length cr) :: boxA (b1 + 1) zA (.slice none 0 0) (.slice none 0 0) (.slice none 0 0) :: L) := HL.setCell s6 10 (.slice As a.job.set.length cs)
      go_wp2
      go_meet
      rw [← HR.out]
      exact ⟨As, none, cs, 0, .inl ⟨rfl, rfl, rfl⟩, .inr ⟨rfl, rfl, rfl⟩, s7⟩
    have q9 : (k == 9) = false := by simp [g9]
    by_cases g10 : k = 10
    · skip
      have hk : ownK k a = { zA with ranks := a.ranks, holder := a.holder, shadow := a.shadow } := by simp [ownK, g10]
      have q10 : (k == 10) = true := by simp [g10]
      have q11 : (k == 11) = false := by simp [g10]
      have q12 : (k == 12) = false := by simp [g10]
      have q13 : (k == 13) = false := by simp [g10]
      rw [hk] at hr
      have HR := Lib.hid hr
      clear hr hk g10
      go_upto_region 9 with (fail)
      refine wp_region_held_drew (S := fun w' => w'.cell? ⟨b1, 11, none⟩ = some (.slice Ar a.ranks.length cr) ∧ w'.cell? ⟨b1, 16, none⟩ = some (.int .i64 a.holder) ∧ w'.cell? ⟨b1, 17, none⟩ = some (.int .i64 a.shadow)) (by kernel_rfl) (⟨HL.cell H3.drew.tail 11, HL.cell H3.drew.tail 16, HL.cell H3.drew.tail 17⟩) (fun hHeld => ?_)
      have Hd := H3.drew
      clear H3
      generalize World.drew _ = Wd at *
      have m11 := HL.cell Hd 11
      have z11 := HL.frozen Hd 11
      refine wpAnyH_take (i := 0) (v := ?_) rfl (by kernel_rfl) (by kernel_rfl) (by kernel_rfl) (fun _ _ _ h => h) (Or.inl ⟨by rfl, ?_⟩) (by assumption) ?_
      rotate_left
      · (intro w hSw; (try dsimp only at hSw); (try obtain ⟨n11, n16, n17⟩ := hSw); go_simp; (try rw [if_neg (by (try simp only [ByteArray.size_append]); omega)]); try with_reducible rfl)
      simp only [Act.put, List.getElem_toArray, List.getElem_cons_zero, List.getElem_cons_succ, List.setIfInBounds_toArray, List.set_cons_zero, List.set_cons_succ]
      refine wpAnyH_take (i := 1) (v := ?_) rfl (by kernel_rfl) (by kernel_rfl) (by kernel_rfl) (fun _ _ _ h => h) (Or.inl ⟨by rfl, ?_⟩) (by assumption) ?_
      rotate_left
      · (intro w hSw; (try dsimp only at hSw); (try obtain ⟨n11, n16, n17⟩ := hSw); go_simp; (try rw [if_neg (by (try simp only [ByteArray.size_append]); omega)]); try with_reducible rfl)
      simp only [Act.put, List.getElem_toArray, List.getElem_cons_zero, List.getElem_cons_succ, List.setIfInBounds_toArray, List.set_cons_zero, List.set_cons_succ]
      refine wpAnyH_take (i := 2) (v := ?_) rfl (by kernel_rfl) (by kernel_rfl) (by kernel_rfl) (fun _ _ _ h => h) (Or.inl ⟨by rfl, ?_⟩) (by assumption) ?_
      rotate_left
      · (intro w hSw; (try dsimp only at hSw); (try obtain ⟨n11, n16, n17⟩ := hSw); go_simp; (try rw [if_neg (by (try simp only [ByteArray.size_append]); omega)]); try with_reducible rfl)
      simp only [Act.put, List.getElem_toArray, List.getElem_cons_zero, List.getElem_cons_succ, List.setIfInBounds_toArray, List.set_cons_zero, List.set_cons_succ]
      refine wpAnyH_take (i := 3) (v := ?_) rfl (by kernel_rfl) (by kernel_rfl) (by kernel_rfl) (fun _ _ _ h => h) (Or.inl ⟨by rfl, ?_⟩) (by assumption) ?_
      rotate_left
      · (intro w hSw; (try dsimp only at hSw); (try obtain ⟨n11, n16, n17⟩ := hSw); go_simp; (try rw [if_neg (by (try simp only [ByteArray.size_append]); omega)]); try with_reducible rfl)
      simp only [Act.put, List.getElem_toArray, List.getElem_cons_zero, List.getElem_cons_succ, List.setIfInBounds_toArray, List.set_cons_zero, List.set_cons_succ]
      refine wpAnyH_take (i := 4) (v := ?_) rfl (by kernel_rfl) (by kernel_rfl) (by kernel_rfl) (fun _ _ _ h => h) (Or.inl ⟨by rfl, ?_⟩) (by assumption) ?_
      rotate_left
      · (intro w hSw; (try dsimp only at hSw); (try obtain ⟨n11, n16, n17⟩ := hSw); go_simp; (try rw [if_neg (by (try simp only [ByteArray.size_append]); omega)]); try with_reducible rfl)
      simp only [Act.put, List.getElem_toArray, List.getElem_cons_zero, List.getElem_cons_succ, List.setIfInBounds_toArray, List.set_cons_zero, List.set_cons_succ]
      refine wpAnyH_take (i := 5) (v := ?_) rfl (by kernel_rfl) (by kernel_rfl) (by kernel_rfl) (fun _ _ _ h => h) (Or.inl ⟨by rfl, ?_⟩) (by assumption) ?_
      rotate_left
      · (intro w hSw; (try dsimp only at hSw); (try obtain ⟨n11, n16, n17⟩ := hSw); go_simp; (try rw [if_neg (by (try simp only [ByteArray.size_append]); omega)]); try with_reducible rfl)
      simp only [Act.put, List.getElem_toArray, List.getElem_cons_zero, List.getElem_cons_succ, List.setIfInBounds_toArray, List.set_cons_zero, List.set_cons_succ]
      refine wpAnyH_take (i := 6) (v := ?_) rfl (by kernel_rfl) (by kernel_rfl) (by kernel_rfl) (fun _ _ _ h => h) (Or.inl ⟨by rfl, ?_⟩) (by assumption) ?_
      rotate_left
      · (intro w hSw; (try dsimp only at hSw); (try obtain ⟨n11, n16, n17⟩ := hSw); go_simp; (try rw [if_neg (by (try simp only [ByteArray.size_append]); omega)]); try with_reducible rfl)
      simp only [Act.put, List.getElem_toArray, List.getElem_cons_zero, List.getElem_cons_succ, List.setIfInBounds_toArray, List.set_cons_zero, List.set_cons_succ]
      refine wpAnyH_ready (rs := [7]) (by kernel_rfl) (by simp) ?_
      refine AllReadyH.cons rfl (fun K' hK' => ?_) AllReadyH.nil
      dsimp only [List.getElem_toArray, List.getElem_cons_succ, List.getElem_cons_zero]
      go_simp
      have HT11 : HL w0 (Wd.setCell ⟨b1 + 1 + 1, 11, none⟩ (.slice Ar a.ranks.length cr)) (blk (b1 + 1 + 1) (.cells #[.int .i64 zA.code, .int .i64 zA.id, .slice none 0 0, .int .i64 zA.job.acc, .int .i64 zA.job.nodes, .int .i64 zA.job.lim, .int .i64 zA.job.sub, .int .i64 zA.job.st, .int .i64 zA.job.start, .int .i64 zA.job.fin, .slice none 0 0, .slice Ar a.ranks.length cr, .int .i64 zA.raw, .int .u64 zA.usage, .int .u64 zA.factor, .int .i64 zA.free, .int .i64 zA.holder, .int .i64 zA.shadow, .int .i64 zA.cfg.c0, .int .i64 zA.cfg.c1, .int .i64 zA.cfg.c2, .int .i64 zA.cfg.c3, .int .i64 zA.cfg.c4, .int .i64 zA.cfg.c5, .int .i64 zA.cfg.c6, .int .i64 zA.cfg.c7, .int .i64 zA.bound] 50) :: boxA b1 a (.slice Ae a.events.length ce) (.slice As a.job.set.length cs) (.slice Ar a.ranks.length cr) :: boxA (b1 + 1) zA (.slice none 0 0) (.slice none 0 0) (.slice none 0 0) :: L) := HL.setCell Hd 11 (.slice Ar a.ranks.length cr)
      have m16 := HL.cell HT11 16
      have z16 := HL.frozen HT11 16
      refine hK'.out _ _ (⟨HL.cell HT11.tail 11, HL.cell HT11.tail 16, HL.cell HT11.tail 17⟩) (fun hHeld => ?_)
      clear hK' K'
      try simp only [Act.put, List.getElem_toArray, List.getElem_cons_zero, List.getElem_cons_succ, List.setIfInBounds_toArray, List.set_cons_zero, List.set_cons_succ]
      refine wpAnyH_take (i := 8) (v := ?_) rfl (by kernel_rfl) (by kernel_rfl) (by kernel_rfl) (fun _ _ _ h => h) (Or.inl ⟨by rfl, ?_⟩) (by assumption) ?_
      rotate_left
      · (intro w hSw; (try dsimp only at hSw); (try obtain ⟨n11, n16, n17⟩ := hSw); go_simp; (try rw [if_neg (by (try simp only [ByteArray.size_append]); omega)]); try with_reducible rfl)
      simp only [Act.put, List.getElem_toArray, List.getElem_cons_zero, List.getElem_cons_succ, List.setIfInBounds_toArray, List.set_cons_zero, List.set_cons_succ]
      refine wpAnyH_ready (rs := [9]) (by kernel_rfl) (by simp) ?_
      refine AllReadyH.cons rfl (fun K' hK' => ?_) AllReadyH.nil
      dsimp only [List.getElem_toArray, List.getElem_cons_succ, List.getElem_cons_zero]
      go_simp
      have HT16 : HL w0 ((Wd.setCell ⟨b1 + 1 + 1, 11, none⟩ (.slice Ar a.ranks.length cr)).setCell ⟨b1 + 1 + 1, 16, none⟩ (.int .i64 a.holder)) (blk (b1 + 1 + 1) (.cells #[.int .i64 zA.code, .int .i64 zA.id, .slice none 0 0, .int .i64 zA.job.acc, .int .i64 zA.job.nodes, .int .i64 zA.job.lim, .int .i64 zA.job.sub, .int .i64 zA.job.st, .int .i64 zA.job.start, .int .i64 zA.job.fin, .slice none 0 0, .slice Ar a.ranks.length cr, .int .i64 zA.raw, .int .u64 zA.usage, .int .u64 zA.factor, .int .i64 zA.free, .int .i64 a.holder, .int .i64 zA.shadow, .int .i64 zA.cfg.c0, .int .i64 zA.cfg.c1, .int .i64 zA.cfg.c2, .int .i64 zA.cfg.c3, .int .i64 zA.cfg.c4, .int .i64 zA.cfg.c5, .int .i64 zA.cfg.c6, .int .i64 zA.cfg.c7, .int .i64 zA.bound] 50) :: boxA b1 a (.slice Ae a.events.length ce) (.slice As a.job.set.length cs) (.slice Ar a.ranks.length cr) :: boxA (b1 + 1) zA (.slice none 0 0) (.slice none 0 0) (.slice none 0 0) :: L) := HL.setCell HT11 16 (.int .i64 a.holder)
      have m17 := HL.cell HT16 17
      have z17 := HL.frozen HT16 17
      refine hK'.out _ _ (⟨HL.cell HT16.tail 11, HL.cell HT16.tail 16, HL.cell HT16.tail 17⟩) (fun hHeld => ?_)
      clear hK' K'
      try simp only [Act.put, List.getElem_toArray, List.getElem_cons_zero, List.getElem_cons_succ, List.setIfInBounds_toArray, List.set_cons_zero, List.set_cons_succ]
      refine wpAnyH_take (i := 10) (v := ?_) rfl (by kernel_rfl) (by kernel_rfl) (by kernel_rfl) (fun _ _ _ h => h) (Or.inl ⟨by rfl, ?_⟩) (by assumption) ?_
      rotate_left
      · (intro w hSw; (try dsimp only at hSw); (try obtain ⟨n11, n16, n17⟩ := hSw); go_simp; (try rw [if_neg (by (try simp only [ByteArray.size_append]); omega)]); try with_reducible rfl)
      simp only [Act.put, List.getElem_toArray, List.getElem_cons_zero, List.getElem_cons_succ, List.setIfInBounds_toArray, List.set_cons_zero, List.set_cons_succ]
      refine wpAnyH_ready (rs := [11]) (by kernel_rfl) (by simp) ?_
      refine AllReadyH.cons rfl (fun K' hK' => ?_) AllReadyH.nil
      dsimp only [List.getElem_toArray, List.getElem_cons_succ, List.getElem_cons_zero]
      go_simp
      have HT17 : HL w0 (((Wd.setCell ⟨b1 + 1 + 1, 11, none⟩ (.slice Ar a.ranks.length cr)).setCell ⟨b1 + 1 + 1, 16, none⟩ (.int .i64 a.holder)).setCell ⟨b1 + 1 + 1, 17, none⟩ (.int .i64 a.shadow)) (blk (b1 + 1 + 1) (.cells #[.int .i64 zA.code, .int .i64 zA.id, .slice none 0 0, .int .i64 zA.job.acc, .int .i64 zA.job.nodes, .int .i64 zA.job.lim, .int .i64 zA.job.sub, .int .i64 zA.job.st, .int .i64 zA.job.start, .int .i64 zA.job.fin, .slice none 0 0, .slice Ar a.ranks.length cr, .int .i64 zA.raw, .int .u64 zA.usage, .int .u64 zA.factor, .int .i64 zA.free, .int .i64 a.holder, .int .i64 a.shadow, .int .i64 zA.cfg.c0, .int .i64 zA.cfg.c1, .int .i64 zA.cfg.c2, .int .i64 zA.cfg.c3, .int .i64 zA.cfg.c4, .int .i64 zA.cfg.c5, .int .i64 zA.cfg.c6, .int .i64 zA.cfg.c7, .int .i64 zA.bound] 50) :: boxA b1 a (.slice Ae a.events.length ce) (.slice As a.job.set.length cs) (.slice Ar a.ranks.length cr) :: boxA (b1 + 1) zA (.slice none 0 0) (.slice none 0 0) (.slice none 0 0) :: L) := HL.setCell HT16 17 (.int .i64 a.shadow)
      refine hK'.out _ _ (⟨HL.cell HT17.tail 11, HL.cell HT17.tail 16, HL.cell HT17.tail 17⟩) (fun hHeld => ?_)
      clear hK' K'
      try simp only [Act.put, List.getElem_toArray, List.getElem_cons_zero, List.getElem_cons_succ, List.setIfInBounds_toArray, List.set_cons_zero, List.set_cons_succ]
      refine wpAnyH_done (by kernel_rfl) ?_ _
      go_wp2
      go_meet
      rw [← HR.out]
      exact ⟨none, Ar, 0, cr, .inr ⟨rfl, rfl, rfl⟩, .inl ⟨rfl, rfl, rfl⟩, HT17⟩
    have q10 : (k == 10) = false := by simp [g10]
    by_cases g11 : k = 11
    · skip
      have hk : ownK k a = { zA with raw := a.raw, usage := a.usage, factor := a.factor } := by simp [ownK, g11]
      have q11 : (k == 11) = true := by simp [g11]
      have q12 : (k == 12) = false := by simp [g11]
      have q13 : (k == 13) = false := by simp [g11]
      rw [hk] at hr
      have HR := Lib.hid hr
      clear hr hk g11
      go_upto_region 11 with (fail)
      refine wp_region_held_drew (S := fun w' => w'.cell? ⟨b1, 12, none⟩ = some (.int .i64 a.raw) ∧ w'.cell? ⟨b1, 13, none⟩ = some (.int .u64 a.usage) ∧ w'.cell? ⟨b1, 14, none⟩ = some (.int .u64 a.factor)) (by kernel_rfl) (⟨HL.cell H3.drew.tail 12, HL.cell H3.drew.tail 13, HL.cell H3.drew.tail 14⟩) (fun hHeld => ?_)
      have Hd := H3.drew
      clear H3
      generalize World.drew _ = Wd at *
      have m12 := HL.cell Hd 12
      have z12 := HL.frozen Hd 12
      refine wpAnyH_take (i := 0) (v := ?_) rfl (by kernel_rfl) (by kernel_rfl) (by kernel_rfl) (fun _ _ _ h => h) (Or.inl ⟨by rfl, ?_⟩) (by assumption) ?_
      rotate_left
      · (intro w hSw; (try dsimp only at hSw); (try obtain ⟨n12, n13, n14⟩ := hSw); go_simp; (try rw [if_neg (by (try simp only [ByteArray.size_append]); omega)]); try with_reducible rfl)
      simp only [Act.put, List.getElem_toArray, List.getElem_cons_zero, List.getElem_cons_succ, List.setIfInBounds_toArray, List.set_cons_zero, List.set_cons_succ]
      refine wpAnyH_take (i := 1) (v := ?_) rfl (by kernel_rfl) (by kernel_rfl) (by kernel_rfl) (fun _ _ _ h => h) (Or.inl ⟨by rfl, ?_⟩) (by assumption) ?_
      rotate_left
      · (intro w hSw; (try dsimp only at hSw); (try obtain ⟨n12, n13, n14⟩ := hSw); go_simp; (try rw [if_neg (by (try simp only [ByteArray.size_append]); omega)]); try with_reducible rfl)
      simp only [Act.put, List.getElem_toArray, List.getElem_cons_zero, List.getElem_cons_succ, List.setIfInBounds_toArray, List.set_cons_zero, List.set_cons_succ]
      refine wpAnyH_take (i := 2) (v := ?_) rfl (by kernel_rfl) (by kernel_rfl) (by kernel_rfl) (fun _ _ _ h => h) (Or.inl ⟨by rfl, ?_⟩) (by assumption) ?_
      rotate_left
      · (intro w hSw; (try dsimp only at hSw); (try obtain ⟨n12, n13, n14⟩ := hSw); go_simp; (try rw [if_neg (by (try simp only [ByteArray.size_append]); omega)]); try with_reducible rfl)
      simp only [Act.put, List.getElem_toArray, List.getElem_cons_zero, List.getElem_cons_succ, List.setIfInBounds_toArray, List.set_cons_zero, List.set_cons_succ]
      refine wpAnyH_take (i := 3) (v := ?_) rfl (by kernel_rfl) (by kernel_rfl) (by kernel_rfl) (fun _ _ _ h => h) (Or.inl ⟨by rfl, ?_⟩) (by assumption) ?_
      rotate_left
      · (intro w hSw; (try dsimp only at hSw); (try obtain ⟨n12, n13, n14⟩ := hSw); go_simp; (try rw [if_neg (by (try simp only [ByteArray.size_append]); omega)]); try with_reducible rfl)
      simp only [Act.put, List.getElem_toArray, List.getElem_cons_zero, List.getElem_cons_succ, List.setIfInBounds_toArray, List.set_cons_zero, List.set_cons_succ]
      refine wpAnyH_take (i := 4) (v := ?_) rfl (by kernel_rfl) (by kernel_rfl) (by kernel_rfl) (fun _ _ _ h => h) (Or.inl ⟨by rfl, ?_⟩) (by assumption) ?_
      rotate_left
      · (intro w hSw; (try dsimp only at hSw); (try obtain ⟨n12, n13, n14⟩ := hSw); go_simp; (try rw [if_neg (by (try simp only [ByteArray.size_append]); omega)]); try with_reducible rfl)
      simp only [Act.put, List.getElem_toArray, List.getElem_cons_zero, List.getElem_cons_succ, List.setIfInBounds_toArray, List.set_cons_zero, List.set_cons_succ]
      refine wpAnyH_take (i := 5) (v := ?_) rfl (by kernel_rfl) (by kernel_rfl) (by kernel_rfl) (fun _ _ _ h => h) (Or.inl ⟨by rfl, ?_⟩) (by assumption) ?_
      rotate_left
      · (intro w hSw; (try dsimp only at hSw); (try obtain ⟨n12, n13, n14⟩ := hSw); go_simp; (try rw [if_neg (by (try simp only [ByteArray.size_append]); omega)]); try with_reducible rfl)
      simp only [Act.put, List.getElem_toArray, List.getElem_cons_zero, List.getElem_cons_succ, List.setIfInBounds_toArray, List.set_cons_zero, List.set_cons_succ]
      refine wpAnyH_take (i := 6) (v := ?_) rfl (by kernel_rfl) (by kernel_rfl) (by kernel_rfl) (fun _ _ _ h => h) (Or.inl ⟨by rfl, ?_⟩) (by assumption) ?_
      rotate_left
      · (intro w hSw; (try dsimp only at hSw); (try obtain ⟨n12, n13, n14⟩ := hSw); go_simp; (try rw [if_neg (by (try simp only [ByteArray.size_append]); omega)]); try with_reducible rfl)
      simp only [Act.put, List.getElem_toArray, List.getElem_cons_zero, List.getElem_cons_succ, List.setIfInBounds_toArray, List.set_cons_zero, List.set_cons_succ]
      refine wpAnyH_ready (rs := [7]) (by kernel_rfl) (by simp) ?_
      refine AllReadyH.cons rfl (fun K' hK' => ?_) AllReadyH.nil
      dsimp only [List.getElem_toArray, List.getElem_cons_succ, List.getElem_cons_zero]
      go_simp
      have HT12 : HL w0 (Wd.setCell ⟨b1 + 1 + 1, 12, none⟩ (.int .i64 a.raw)) (blk (b1 + 1 + 1) (.cells #[.int .i64 zA.code, .int .i64 zA.id, .slice none 0 0, .int .i64 zA.job.acc, .int .i64 zA.job.nodes, .int .i64 zA.job.lim, .int .i64 zA.job.sub, .int .i64 zA.job.st, .int .i64 zA.job.start, .int .i64 zA.job.fin, .slice none 0 0, .slice none 0 0, .int .i64 a.raw, .int .u64 zA.usage, .int .u64 zA.factor, .int .i64 zA.free, .int .i64 zA.holder, .int .i64 zA.shadow, .int .i64 zA.cfg.c0, .int .i64 zA.cfg.c1, .int .i64 zA.cfg.c2, .int .i64 zA.cfg.c3, .int .i64 zA.cfg.c4, .int .i64 zA.cfg.c5, .int .i64 zA.cfg.c6, .int .i64 zA.cfg.c7, .int .i64 zA.bound] 50) :: boxA b1 a (.slice Ae a.events.length ce) (.slice As a.job.set.length cs) (.slice Ar a.ranks.length cr) :: boxA (b1 + 1) zA (.slice none 0 0) (.slice none 0 0) (.slice none 0 0) :: L) := HL.setCell Hd 12 (.int .i64 a.raw)
      have m13 := HL.cell HT12 13
      have z13 := HL.frozen HT12 13
      refine hK'.out _ _ (⟨HL.cell HT12.tail 12, HL.cell HT12.tail 13, HL.cell HT12.tail 14⟩) (fun hHeld => ?_)
      clear hK' K'
      try simp only [Act.put, List.getElem_toArray, List.getElem_cons_zero, List.getElem_cons_succ, List.setIfInBounds_toArray, List.set_cons_zero, List.set_cons_succ]
      refine wpAnyH_take (i := 8) (v := ?_) rfl (by kernel_rfl) (by kernel_rfl) (by kernel_rfl) (fun _ _ _ h => h) (Or.inl ⟨by rfl, ?_⟩) (by assumption) ?_
      rotate_left
      · (intro w hSw; (try dsimp only at hSw); (try obtain ⟨n12, n13, n14⟩ := hSw); go_simp; (try rw [if_neg (by (try simp only [ByteArray.size_append]); omega)]); try with_reducible rfl)
      simp only [Act.put, List.getElem_toArray, List.getElem_cons_zero, List.getElem_cons_succ, List.setIfInBounds_toArray, List.set_cons_zero, List.set_cons_succ]
      refine wpAnyH_ready (rs := [9]) (by kernel_rfl) (by simp) ?_
      refine AllReadyH.cons rfl (fun K' hK' => ?_) AllReadyH.nil
      dsimp only [List.getElem_toArray, List.getElem_cons_succ, List.getElem_cons_zero]
      go_simp
      have HT13 : HL w0 ((Wd.setCell ⟨b1 + 1 + 1, 12, none⟩ (.int .i64 a.raw)).setCell ⟨b1 + 1 + 1, 13, none⟩ (.int .u64 a.usage)) (blk (b1 + 1 + 1) (.cells #[.int .i64 zA.code, .int .i64 zA.id, .slice none 0 0, .int .i64 zA.job.acc, .int .i64 zA.job.nodes, .int .i64 zA.job.lim, .int .i64 zA.job.sub, .int .i64 zA.job.st, .int .i64 zA.job.start, .int .i64 zA.job.fin, .slice none 0 0, .slice none 0 0, .int .i64 a.raw, .int .u64 a.usage, .int .u64 zA.factor, .int .i64 zA.free, .int .i64 zA.holder, .int .i64 zA.shadow, .int .i64 zA.cfg.c0, .int .i64 zA.cfg.c1, .int .i64 zA.cfg.c2, .int .i64 zA.cfg.c3, .int .i64 zA.cfg.c4, .int .i64 zA.cfg.c5, .int .i64 zA.cfg.c6, .int .i64 zA.cfg.c7, .int .i64 zA.bound] 50) :: boxA b1 a (.slice Ae a.events.length ce) (.slice As a.job.set.length cs) (.slice Ar a.ranks.length cr) :: boxA (b1 + 1) zA (.slice none 0 0) (.slice none 0 0) (.slice none 0 0) :: L) := HL.setCell HT12 13 (.int .u64 a.usage)
      have m14 := HL.cell HT13 14
      have z14 := HL.frozen HT13 14
      refine hK'.out _ _ (⟨HL.cell HT13.tail 12, HL.cell HT13.tail 13, HL.cell HT13.tail 14⟩) (fun hHeld => ?_)
      clear hK' K'
      try simp only [Act.put, List.getElem_toArray, List.getElem_cons_zero, List.getElem_cons_succ, List.setIfInBounds_toArray, List.set_cons_zero, List.set_cons_succ]
      refine wpAnyH_take (i := 10) (v := ?_) rfl (by kernel_rfl) (by kernel_rfl) (by kernel_rfl) (fun _ _ _ h => h) (Or.inl ⟨by rfl, ?_⟩) (by assumption) ?_
      rotate_left
      · (intro w hSw; (try dsimp only at hSw); (try obtain ⟨n12, n13, n14⟩ := hSw); go_simp; (try rw [if_neg (by (try simp only [ByteArray.size_append]); omega)]); try with_reducible rfl)
      simp only [Act.put, List.getElem_toArray, List.getElem_cons_zero, List.getElem_cons_succ, List.setIfInBounds_toArray, List.set_cons_zero, List.set_cons_succ]
      refine wpAnyH_ready (rs := [11]) (by kernel_rfl) (by simp) ?_
      refine AllReadyH.cons rfl (fun K' hK' => ?_) AllReadyH.nil
      dsimp only [List.getElem_toArray, List.getElem_cons_succ, List.getElem_cons_zero]
      go_simp
      have HT14 : HL w0 (((Wd.setCell ⟨b1 + 1 + 1, 12, none⟩ (.int .i64 a.raw)).setCell ⟨b1 + 1 + 1, 13, none⟩ (.int .u64 a.usage)).setCell ⟨b1 + 1 + 1, 14, none⟩ (.int .u64 a.factor)) (blk (b1 + 1 + 1) (.cells #[.int .i64 zA.code, .int .i64 zA.id, .slice none 0 0, .int .i64 zA.job.acc, .int .i64 zA.job.nodes, .int .i64 zA.job.lim, .int .i64 zA.job.sub, .int .i64 zA.job.st, .int .i64 zA.job.start, .int .i64 zA.job.fin, .slice none 0 0, .slice none 0 0, .int .i64 a.raw, .int .u64 a.usage, .int .u64 a.factor, .int .i64 zA.free, .int .i64 zA.holder, .int .i64 zA.shadow, .int .i64 zA.cfg.c0, .int .i64 zA.cfg.c1, .int .i64 zA.cfg.c2, .int .i64 zA.cfg.c3, .int .i64 zA.cfg.c4, .int .i64 zA.cfg.c5, .int .i64 zA.cfg.c6, .int .i64 zA.cfg.c7, .int .i64 zA.bound] 50) :: boxA b1 a (.slice Ae a.events.length ce) (.slice As a.job.set.length cs) (.slice Ar a.ranks.length cr) :: boxA (b1 + 1) zA (.slice none 0 0) (.slice none 0 0) (.slice none 0 0) :: L) := HL.setCell HT13 14 (.int .u64 a.factor)
      refine hK'.out _ _ (⟨HL.cell HT14.tail 12, HL.cell HT14.tail 13, HL.cell HT14.tail 14⟩) (fun hHeld => ?_)
      clear hK' K'
      try simp only [Act.put, List.getElem_toArray, List.getElem_cons_zero, List.getElem_cons_succ, List.setIfInBounds_toArray, List.set_cons_zero, List.set_cons_succ]
      refine wpAnyH_done (by kernel_rfl) ?_ _
      go_wp2
      go_meet
      rw [← HR.out]
      exact ⟨none, none, 0, 0, .inr ⟨rfl, rfl, rfl⟩, .inr ⟨rfl, rfl, rfl⟩, HT14⟩
    have q11 : (k == 11) = false := by simp [g11]
    by_cases g12 : k = 12
    · skip
      have hk : ownK k a = { zA with free := a.free } := by simp [ownK, g12]
      have q12 : (k == 12) = true := by simp [g12]
      have q13 : (k == 13) = false := by simp [g12]
      rw [hk] at hr
      have HR := Lib.hid hr
      clear hr hk g12
      have n15 : W.cell? ⟨b1, 15, none⟩ = some (.int .i64 a.free) := HL.cell H3.tail 15
      have m15 : W.cell? ⟨b1 + 1 + 1, 15, none⟩ = some (.int .i64 zA.free) := HL.cell H3 15
      have z15 : W.frozen? ⟨b1 + 1 + 1, 15, none⟩ = false := HL.frozen H3 15
      have s0 : HL w0 (W.setCell ⟨b1 + 1 + 1, 15, none⟩ (.int .i64 a.free)) (blk (b1 + 1 + 1) (.cells #[.int .i64 zA.code, .int .i64 zA.id, .slice none 0 0, .int .i64 zA.job.acc, .int .i64 zA.job.nodes, .int .i64 zA.job.lim, .int .i64 zA.job.sub, .int .i64 zA.job.st, .int .i64 zA.job.start, .int .i64 zA.job.fin, .slice none 0 0, .slice none 0 0, .int .i64 zA.raw, .int .u64 zA.usage, .int .u64 zA.factor, .int .i64 a.free, .int .i64 zA.holder, .int .i64 zA.shadow, .int .i64 zA.cfg.c0, .int .i64 zA.cfg.c1, .int .i64 zA.cfg.c2, .int .i64 zA.cfg.c3, .int .i64 zA.cfg.c4, .int .i64 zA.cfg.c5, .int .i64 zA.cfg.c6, .int .i64 zA.cfg.c7, .int .i64 zA.bound] 50) :: boxA b1 a (.slice Ae a.events.length ce) (.slice As a.job.set.length cs) (.slice Ar a.ranks.length cr) :: boxA (b1 + 1) zA (.slice none 0 0) (.slice none 0 0) (.slice none 0 0) :: L) := HL.setCell H3 15 (.int .i64 a.free)
      go_wp2
      go_meet
      rw [← HR.out]
      exact ⟨none, none, 0, 0, .inr ⟨rfl, rfl, rfl⟩, .inr ⟨rfl, rfl, rfl⟩, s0⟩
    have q12 : (k == 12) = false := by simp [g12]
    by_cases g13 : k = 13
    · skip
      have hk : ownK k a = { zA with cfg := a.cfg, bound := a.bound } := by simp [ownK, g13]
      have q13 : (k == 13) = true := by simp [g13]
      rw [hk] at hr
      have HR := Lib.hid hr
      clear hr hk g13
      go_upto_region 15 with (fail)
      refine wp_region_held_drew (S := fun w' => w'.cell? ⟨b1, 18, none⟩ = some (.int .i64 a.cfg.c0) ∧ w'.cell? ⟨b1, 19, none⟩ = some (.int .i64 a.cfg.c1) ∧ w'.cell? ⟨b1, 20, none⟩ = some (.int .i64 a.cfg.c2) ∧ w'.cell? ⟨b1, 21, none⟩ = some (.int .i64 a.cfg.c3) ∧ w'.cell? ⟨b1, 22, none⟩ = some (.int .i64 a.cfg.c4) ∧ w'.cell? ⟨b1, 23, none⟩ = some (.int .i64 a.cfg.c5) ∧ w'.cell? ⟨b1, 24, none⟩ = some (.int .i64 a.cfg.c6) ∧ w'.cell? ⟨b1, 25, none⟩ = some (.int .i64 a.cfg.c7) ∧ w'.cell? ⟨b1, 26, none⟩ = some (.int .i64 a.bound)) (by kernel_rfl) (⟨HL.cell H3.drew.tail 18, HL.cell H3.drew.tail 19, HL.cell H3.drew.tail 20, HL.cell H3.drew.tail 21, HL.cell H3.drew.tail 22, HL.cell H3.drew.tail 23, HL.cell H3.drew.tail 24, HL.cell H3.drew.tail 25, HL.cell H3.drew.tail 26⟩) (fun hHeld => ?_)
      have Hd := H3.drew
      clear H3
      generalize World.drew _ = Wd at *
      have m18 := HL.cell Hd 18
      have z18 := HL.frozen Hd 18
      have m19 := HL.cell Hd 19
      have z19 := HL.frozen Hd 19
      have m20 := HL.cell Hd 20
      have z20 := HL.frozen Hd 20
      have m21 := HL.cell Hd 21
      have z21 := HL.frozen Hd 21
      have m22 := HL.cell Hd 22
      have z22 := HL.frozen Hd 22
      have m23 := HL.cell Hd 23
      have z23 := HL.frozen Hd 23
      have m24 := HL.cell Hd 24
      have z24 := HL.frozen Hd 24
      have m25 := HL.cell Hd 25
      have z25 := HL.frozen Hd 25
      refine wpAnyH_take (i := 0) (v := ?_) rfl (by kernel_rfl) (by kernel_rfl) (by kernel_rfl) (fun _ _ _ h => h) (Or.inl ⟨by rfl, ?_⟩) (by assumption) ?_
      rotate_left
      · (intro w hSw; (try dsimp only at hSw); (try obtain ⟨n18, n19, n20, n21, n22, n23, n24, n25, n26⟩ := hSw); go_simp; (try rw [if_neg (by (try simp only [ByteArray.size_append]); omega)]); try with_reducible rfl)
      simp only [Act.put, List.getElem_toArray, List.getElem_cons_zero, List.getElem_cons_succ, List.setIfInBounds_toArray, List.set_cons_zero, List.set_cons_succ]
      refine wpAnyH_take (i := 1) (v := ?_) rfl (by kernel_rfl) (by kernel_rfl) (by kernel_rfl) (fun _ _ _ h => h) (Or.inl ⟨by rfl, ?_⟩) (by assumption) ?_
      rotate_left
      · (intro w hSw; (try dsimp only at hSw); (try obtain ⟨n18, n19, n20, n21, n22, n23, n24, n25, n26⟩ := hSw); go_simp; (try rw [if_neg (by (try simp only [ByteArray.size_append]); omega)]); try with_reducible rfl)
      simp only [Act.put, List.getElem_toArray, List.getElem_cons_zero, List.getElem_cons_succ, List.setIfInBounds_toArray, List.set_cons_zero, List.set_cons_succ]
      refine wpAnyH_take (i := 2) (v := ?_) rfl (by kernel_rfl) (by kernel_rfl) (by kernel_rfl) (fun _ _ _ h => h) (Or.inl ⟨by rfl, ?_⟩) (by assumption) ?_
      rotate_left
      · (intro w hSw; (try dsimp only at hSw); (try obtain ⟨n18, n19, n20, n21, n22, n23, n24, n25, n26⟩ := hSw); go_simp; (try rw [if_neg (by (try simp only [ByteArray.size_append]); omega)]); try with_reducible rfl)
      simp only [Act.put, List.getElem_toArray, List.getElem_cons_zero, List.getElem_cons_succ, List.setIfInBounds_toArray, List.set_cons_zero, List.set_cons_succ]
      refine wpAnyH_take (i := 3) (v := ?_) rfl (by kernel_rfl) (by kernel_rfl) (by kernel_rfl) (fun _ _ _ h => h) (Or.inl ⟨by rfl, ?_⟩) (by assumption) ?_
      rotate_left
      · (intro w hSw; (try dsimp only at hSw); (try obtain ⟨n18, n19, n20, n21, n22, n23, n24, n25, n26⟩ := hSw); go_simp; (try rw [if_neg (by (try simp only [ByteArray.size_append]); omega)]); try with_reducible rfl)
      simp only [Act.put, List.getElem_toArray, List.getElem_cons_zero, List.getElem_cons_succ, List.setIfInBounds_toArray, List.set_cons_zero, List.set_cons_succ]
      refine wpAnyH_take (i := 4) (v := ?_) rfl (by kernel_rfl) (by kernel_rfl) (by kernel_rfl) (fun _ _ _ h => h) (Or.inl ⟨by rfl, ?_⟩) (by assumption) ?_
      rotate_left
      · (intro w hSw; (try dsimp only at hSw); (try obtain ⟨n18, n19, n20, n21, n22, n23, n24, n25, n26⟩ := hSw); go_simp; (try rw [if_neg (by (try simp only [ByteArray.size_append]); omega)]); try with_reducible rfl)
      simp only [Act.put, List.getElem_toArray, List.getElem_cons_zero, List.getElem_cons_succ, List.setIfInBounds_toArray, List.set_cons_zero, List.set_cons_succ]
      refine wpAnyH_ready (rs := [5]) (by kernel_rfl) (by simp) ?_
      refine AllReadyH.cons rfl (fun K' hK' => ?_) AllReadyH.nil
      dsimp only [List.getElem_toArray, List.getElem_cons_succ, List.getElem_cons_zero]
      go_simp
      have HT18 : HL w0 (Wd.setCell ⟨b1 + 1 + 1, 18, none⟩ (.int .i64 a.cfg.c0)) (blk (b1 + 1 + 1) (.cells #[.int .i64 zA.code, .int .i64 zA.id, .slice none 0 0, .int .i64 zA.job.acc, .int .i64 zA.job.nodes, .int .i64 zA.job.lim, .int .i64 zA.job.sub, .int .i64 zA.job.st, .int .i64 zA.job.start, .int .i64 zA.job.fin, .slice none 0 0, .slice none 0 0, .int .i64 zA.raw, .int .u64 zA.usage, .int .u64 zA.factor, .int .i64 zA.free, .int .i64 zA.holder, .int .i64 zA.shadow, .int .i64 a.cfg.c0, .int .i64 zA.cfg.c1, .int .i64 zA.cfg.c2, .int .i64 zA.cfg.c3, .int .i64 zA.cfg.c4, .int .i64 zA.cfg.c5, .int .i64 zA.cfg.c6, .int .i64 zA.cfg.c7, .int .i64 zA.bound] 50) :: boxA b1 a (.slice Ae a.events.length ce) (.slice As a.job.set.length cs) (.slice Ar a.ranks.length cr) :: boxA (b1 + 1) zA (.slice none 0 0) (.slice none 0 0) (.slice none 0 0) :: L) := HL.setCell Hd 18 (.int .i64 a.cfg.c0)
      have HT19 : HL w0 ((Wd.setCell ⟨b1 + 1 + 1, 18, none⟩ (.int .i64 a.cfg.c0)).setCell ⟨b1 + 1 + 1, 19, none⟩ (.int .i64 a.cfg.c1)) (blk (b1 + 1 + 1) (.cells #[.int .i64 zA.code, .int .i64 zA.id, .slice none 0 0, .int .i64 zA.job.acc, .int .i64 zA.job.nodes, .int .i64 zA.job.lim, .int .i64 zA.job.sub, .int .i64 zA.job.st, .int .i64 zA.job.start, .int .i64 zA.job.fin, .slice none 0 0, .slice none 0 0, .int .i64 zA.raw, .int .u64 zA.usage, .int .u64 zA.factor, .int .i64 zA.free, .int .i64 zA.holder, .int .i64 zA.shadow, .int .i64 a.cfg.c0, .int .i64 a.cfg.c1, .int .i64 zA.cfg.c2, .int .i64 zA.cfg.c3, .int .i64 zA.cfg.c4, .int .i64 zA.cfg.c5, .int .i64 zA.cfg.c6, .int .i64 zA.cfg.c7, .int .i64 zA.bound] 50) :: boxA b1 a (.slice Ae a.events.length ce) (.slice As a.job.set.length cs) (.slice Ar a.ranks.length cr) :: boxA (b1 + 1) zA (.slice none 0 0) (.slice none 0 0) (.slice none 0 0) :: L) := HL.setCell HT18 19 (.int .i64 a.cfg.c1)
      have HT20 : HL w0 (((Wd.setCell ⟨b1 + 1 + 1, 18, none⟩ (.int .i64 a.cfg.c0)).setCell ⟨b1 + 1 + 1, 19, none⟩ (.int .i64 a.cfg.c1)).setCell ⟨b1 + 1 + 1, 20, none⟩ (.int .i64 a.cfg.c2)) (blk (b1 + 1 + 1) (.cells #[.int .i64 zA.code, .int .i64 zA.id, .slice none 0 0, .int .i64 zA.job.acc, .int .i64 zA.job.nodes, .int .i64 zA.job.lim, .int .i64 zA.job.sub, .int .i64 zA.job.st, .int .i64 zA.job.start, .int .i64 zA.job.fin, .slice none 0 0, .slice none 0 0, .int .i64 zA.raw, .int .u64 zA.usage, .int .u64 zA.factor, .int .i64 zA.free, .int .i64 zA.holder, .int .i64 zA.shadow, .int .i64 a.cfg.c0, .int .i64 a.cfg.c1, .int .i64 a.cfg.c2, .int .i64 zA.cfg.c3, .int .i64 zA.cfg.c4, .int .i64 zA.cfg.c5, .int .i64 zA.cfg.c6, .int .i64 zA.cfg.c7, .int .i64 zA.bound] 50) :: boxA b1 a (.slice Ae a.events.length ce) (.slice As a.job.set.length cs) (.slice Ar a.ranks.length cr) :: boxA (b1 + 1) zA (.slice none 0 0) (.slice none 0 0) (.slice none 0 0) :: L) := HL.setCell HT19 20 (.int .i64 a.cfg.c2)
      have HT21 : HL w0 ((((Wd.setCell ⟨b1 + 1 + 1, 18, none⟩ (.int .i64 a.cfg.c0)).setCell ⟨b1 + 1 + 1, 19, none⟩ (.int .i64 a.cfg.c1)).setCell ⟨b1 + 1 + 1, 20, none⟩ (.int .i64 a.cfg.c2)).setCell ⟨b1 + 1 + 1, 21, none⟩ (.int .i64 a.cfg.c3)) (blk (b1 + 1 + 1) (.cells #[.int .i64 zA.code, .int .i64 zA.id, .slice none 0 0, .int .i64 zA.job.acc, .int .i64 zA.job.nodes, .int .i64 zA.job.lim, .int .i64 zA.job.sub, .int .i64 zA.job.st, .int .i64 zA.job.start, .int .i64 zA.job.fin, .slice none 0 0, .slice none 0 0, .int .i64 zA.raw, .int .u64 zA.usage, .int .u64 zA.factor, .int .i64 zA.free, .int .i64 zA.holder, .int .i64 zA.shadow, .int .i64 a.cfg.c0, .int .i64 a.cfg.c1, .int .i64 a.cfg.c2, .int .i64 a.cfg.c3, .int .i64 zA.cfg.c4, .int .i64 zA.cfg.c5, .int .i64 zA.cfg.c6, .int .i64 zA.cfg.c7, .int .i64 zA.bound] 50) :: boxA b1 a (.slice Ae a.events.length ce) (.slice As a.job.set.length cs) (.slice Ar a.ranks.length cr) :: boxA (b1 + 1) zA (.slice none 0 0) (.slice none 0 0) (.slice none 0 0) :: L) := HL.setCell HT20 21 (.int .i64 a.cfg.c3)
      have HT22 : HL w0 (((((Wd.setCell ⟨b1 + 1 + 1, 18, none⟩ (.int .i64 a.cfg.c0)).setCell ⟨b1 + 1 + 1, 19, none⟩ (.int .i64 a.cfg.c1)).setCell ⟨b1 + 1 + 1, 20, none⟩ (.int .i64 a.cfg.c2)).setCell ⟨b1 + 1 + 1, 21, none⟩ (.int .i64 a.cfg.c3)).setCell ⟨b1 + 1 + 1, 22, none⟩ (.int .i64 a.cfg.c4)) (blk (b1 + 1 + 1) (.cells #[.int .i64 zA.code, .int .i64 zA.id, .slice none 0 0, .int .i64 zA.job.acc, .int .i64 zA.job.nodes, .int .i64 zA.job.lim, .int .i64 zA.job.sub, .int .i64 zA.job.st, .int .i64 zA.job.start, .int .i64 zA.job.fin, .slice none 0 0, .slice none 0 0, .int .i64 zA.raw, .int .u64 zA.usage, .int .u64 zA.factor, .int .i64 zA.free, .int .i64 zA.holder, .int .i64 zA.shadow, .int .i64 a.cfg.c0, .int .i64 a.cfg.c1, .int .i64 a.cfg.c2, .int .i64 a.cfg.c3, .int .i64 a.cfg.c4, .int .i64 zA.cfg.c5, .int .i64 zA.cfg.c6, .int .i64 zA.cfg.c7, .int .i64 zA.bound] 50) :: boxA b1 a (.slice Ae a.events.length ce) (.slice As a.job.set.length cs) (.slice Ar a.ranks.length cr) :: boxA (b1 + 1) zA (.slice none 0 0) (.slice none 0 0) (.slice none 0 0) :: L) := HL.setCell HT21 22 (.int .i64 a.cfg.c4)
      have HT23 : HL w0 ((((((Wd.setCell ⟨b1 + 1 + 1, 18, none⟩ (.int .i64 a.cfg.c0)).setCell ⟨b1 + 1 + 1, 19, none⟩ (.int .i64 a.cfg.c1)).setCell ⟨b1 + 1 + 1, 20, none⟩ (.int .i64 a.cfg.c2)).setCell ⟨b1 + 1 + 1, 21, none⟩ (.int .i64 a.cfg.c3)).setCell ⟨b1 + 1 + 1, 22, none⟩ (.int .i64 a.cfg.c4)).setCell ⟨b1 + 1 + 1, 23, none⟩ (.int .i64 a.cfg.c5)) (blk (b1 + 1 + 1) (.cells #[.int .i64 zA.code, .int .i64 zA.id, .slice none 0 0, .int .i64 zA.job.acc, .int .i64 zA.job.nodes, .int .i64 zA.job.lim, .int .i64 zA.job.sub, .int .i64 zA.job.st, .int .i64 zA.job.start, .int .i64 zA.job.fin, .slice none 0 0, .slice none 0 0, .int .i64 zA.raw, .int .u64 zA.usage, .int .u64 zA.factor, .int .i64 zA.free, .int .i64 zA.holder, .int .i64 zA.shadow, .int .i64 a.cfg.c0, .int .i64 a.cfg.c1, .int .i64 a.cfg.c2, .int .i64 a.cfg.c3, .int .i64 a.cfg.c4, .int .i64 a.cfg.c5, .int .i64 zA.cfg.c6, .int .i64 zA.cfg.c7, .int .i64 zA.bound] 50) :: boxA b1 a (.slice Ae a.events.length ce) (.slice As a.job.set.length cs) (.slice Ar a.ranks.length cr) :: boxA (b1 + 1) zA (.slice none 0 0) (.slice none 0 0) (.slice none 0 0) :: L) := HL.setCell HT22 23 (.int .i64 a.cfg.c5)
      have HT24 : HL w0 (((((((Wd.setCell ⟨b1 + 1 + 1, 18, none⟩ (.int .i64 a.cfg.c0)).setCell ⟨b1 + 1 + 1, 19, none⟩ (.int .i64 a.cfg.c1)).setCell ⟨b1 + 1 + 1, 20, none⟩ (.int .i64 a.cfg.c2)).setCell ⟨b1 + 1 + 1, 21, none⟩ (.int .i64 a.cfg.c3)).setCell ⟨b1 + 1 + 1, 22, none⟩ (.int .i64 a.cfg.c4)).setCell ⟨b1 + 1 + 1, 23, none⟩ (.int .i64 a.cfg.c5)).setCell ⟨b1 + 1 + 1, 24, none⟩ (.int .i64 a.cfg.c6)) (blk (b1 + 1 + 1) (.cells #[.int .i64 zA.code, .int .i64 zA.id, .slice none 0 0, .int .i64 zA.job.acc, .int .i64 zA.job.nodes, .int .i64 zA.job.lim, .int .i64 zA.job.sub, .int .i64 zA.job.st, .int .i64 zA.job.start, .int .i64 zA.job.fin, .slice none 0 0, .slice none 0 0, .int .i64 zA.raw, .int .u64 zA.usage, .int .u64 zA.factor, .int .i64 zA.free, .int .i64 zA.holder, .int .i64 zA.shadow, .int .i64 a.cfg.c0, .int .i64 a.cfg.c1, .int .i64 a.cfg.c2, .int .i64 a.cfg.c3, .int .i64 a.cfg.c4, .int .i64 a.cfg.c5, .int .i64 a.cfg.c6, .int .i64 zA.cfg.c7, .int .i64 zA.bound] 50) :: boxA b1 a (.slice Ae a.events.length ce) (.slice As a.job.set.length cs) (.slice Ar a.ranks.length cr) :: boxA (b1 + 1) zA (.slice none 0 0) (.slice none 0 0) (.slice none 0 0) :: L) := HL.setCell HT23 24 (.int .i64 a.cfg.c6)
      have HT25 : HL w0 ((((((((Wd.setCell ⟨b1 + 1 + 1, 18, none⟩ (.int .i64 a.cfg.c0)).setCell ⟨b1 + 1 + 1, 19, none⟩ (.int .i64 a.cfg.c1)).setCell ⟨b1 + 1 + 1, 20, none⟩ (.int .i64 a.cfg.c2)).setCell ⟨b1 + 1 + 1, 21, none⟩ (.int .i64 a.cfg.c3)).setCell ⟨b1 + 1 + 1, 22, none⟩ (.int .i64 a.cfg.c4)).setCell ⟨b1 + 1 + 1, 23, none⟩ (.int .i64 a.cfg.c5)).setCell ⟨b1 + 1 + 1, 24, none⟩ (.int .i64 a.cfg.c6)).setCell ⟨b1 + 1 + 1, 25, none⟩ (.int .i64 a.cfg.c7)) (blk (b1 + 1 + 1) (.cells #[.int .i64 zA.code, .int .i64 zA.id, .slice none 0 0, .int .i64 zA.job.acc, .int .i64 zA.job.nodes, .int .i64 zA.job.lim, .int .i64 zA.job.sub, .int .i64 zA.job.st, .int .i64 zA.job.start, .int .i64 zA.job.fin, .slice none 0 0, .slice none 0 0, .int .i64 zA.raw, .int .u64 zA.usage, .int .u64 zA.factor, .int .i64 zA.free, .int .i64 zA.holder, .int .i64 zA.shadow, .int .i64 a.cfg.c0, .int .i64 a.cfg.c1, .int .i64 a.cfg.c2, .int .i64 a.cfg.c3, .int .i64 a.cfg.c4, .int .i64 a.cfg.c5, .int .i64 a.cfg.c6, .int .i64 a.cfg.c7, .int .i64 zA.bound] 50) :: boxA b1 a (.slice Ae a.events.length ce) (.slice As a.job.set.length cs) (.slice Ar a.ranks.length cr) :: boxA (b1 + 1) zA (.slice none 0 0) (.slice none 0 0) (.slice none 0 0) :: L) := HL.setCell HT24 25 (.int .i64 a.cfg.c7)
      have m26 := HL.cell HT25 26
      have z26 := HL.frozen HT25 26
      refine hK'.out _ _ (⟨HL.cell HT25.tail 18, HL.cell HT25.tail 19, HL.cell HT25.tail 20, HL.cell HT25.tail 21, HL.cell HT25.tail 22, HL.cell HT25.tail 23, HL.cell HT25.tail 24, HL.cell HT25.tail 25, HL.cell HT25.tail 26⟩) (fun hHeld => ?_)
      clear hK' K'
      try simp only [Act.put, List.getElem_toArray, List.getElem_cons_zero, List.getElem_cons_succ, List.setIfInBounds_toArray, List.set_cons_zero, List.set_cons_succ]
      refine wpAnyH_take (i := 6) (v := ?_) rfl (by kernel_rfl) (by kernel_rfl) (by kernel_rfl) (fun _ _ _ h => h) (Or.inl ⟨by rfl, ?_⟩) (by assumption) ?_
      rotate_left
      · (intro w hSw; (try dsimp only at hSw); (try obtain ⟨n18, n19, n20, n21, n22, n23, n24, n25, n26⟩ := hSw); go_simp; (try rw [if_neg (by (try simp only [ByteArray.size_append]); omega)]); try with_reducible rfl)
      simp only [Act.put, List.getElem_toArray, List.getElem_cons_zero, List.getElem_cons_succ, List.setIfInBounds_toArray, List.set_cons_zero, List.set_cons_succ]
      refine wpAnyH_ready (rs := [7]) (by kernel_rfl) (by simp) ?_
      refine AllReadyH.cons rfl (fun K' hK' => ?_) AllReadyH.nil
      dsimp only [List.getElem_toArray, List.getElem_cons_succ, List.getElem_cons_zero]
      go_simp
      have HT26 : HL w0 (((((((((Wd.setCell ⟨b1 + 1 + 1, 18, none⟩ (.int .i64 a.cfg.c0)).setCell ⟨b1 + 1 + 1, 19, none⟩ (.int .i64 a.cfg.c1)).setCell ⟨b1 + 1 + 1, 20, none⟩ (.int .i64 a.cfg.c2)).setCell ⟨b1 + 1 + 1, 21, none⟩ (.int .i64 a.cfg.c3)).setCell ⟨b1 + 1 + 1, 22, none⟩ (.int .i64 a.cfg.c4)).setCell ⟨b1 + 1 + 1, 23, none⟩ (.int .i64 a.cfg.c5)).setCell ⟨b1 + 1 + 1, 24, none⟩ (.int .i64 a.cfg.c6)).setCell ⟨b1 + 1 + 1, 25, none⟩ (.int .i64 a.cfg.c7)).setCell ⟨b1 + 1 + 1, 26, none⟩ (.int .i64 a.bound)) (blk (b1 + 1 + 1) (.cells #[.int .i64 zA.code, .int .i64 zA.id, .slice none 0 0, .int .i64 zA.job.acc, .int .i64 zA.job.nodes, .int .i64 zA.job.lim, .int .i64 zA.job.sub, .int .i64 zA.job.st, .int .i64 zA.job.start, .int .i64 zA.job.fin, .slice none 0 0, .slice none 0 0, .int .i64 zA.raw, .int .u64 zA.usage, .int .u64 zA.factor, .int .i64 zA.free, .int .i64 zA.holder, .int .i64 zA.shadow, .int .i64 a.cfg.c0, .int .i64 a.cfg.c1, .int .i64 a.cfg.c2, .int .i64 a.cfg.c3, .int .i64 a.cfg.c4, .int .i64 a.cfg.c5, .int .i64 a.cfg.c6, .int .i64 a.cfg.c7, .int .i64 a.bound] 50) :: boxA b1 a (.slice Ae a.events.length ce) (.slice As a.job.set.length cs) (.slice Ar a.ranks.length cr) :: boxA (b1 + 1) zA (.slice none 0 0) (.slice none 0 0) (.slice none 0 0) :: L) := HL.setCell HT25 26 (.int .i64 a.bound)
      refine hK'.out _ _ (⟨HL.cell HT26.tail 18, HL.cell HT26.tail 19, HL.cell HT26.tail 20, HL.cell HT26.tail 21, HL.cell HT26.tail 22, HL.cell HT26.tail 23, HL.cell HT26.tail 24, HL.cell HT26.tail 25, HL.cell HT26.tail 26⟩) (fun hHeld => ?_)
      clear hK' K'
      try simp only [Act.put, List.getElem_toArray, List.getElem_cons_zero, List.getElem_cons_succ, List.setIfInBounds_toArray, List.set_cons_zero, List.set_cons_succ]
      refine wpAnyH_done (by kernel_rfl) ?_ _
      go_wp2
      go_meet
      rw [← HR.out]
      exact ⟨none, none, 0, 0, .inr ⟨rfl, rfl, rfl⟩, .inr ⟨rfl, rfl, rfl⟩, HT26⟩
    have q13 : (k == 13) = false := by simp [g13]
    have hk : ownK k a = zA := by simp [ownK, g1, g5, g9, g10, g11, g12, g13]
    rw [hk] at hr
    have HR := Lib.hid hr
    clear hr hk g1 g5 g9 g10 g11 g12 g13
    go_wp2
    go_meet
    rw [← HR.out]
    exact ⟨none, none, 0, 0, .inr ⟨rfl, rfl, rfl⟩, .inr ⟨rfl, rfl, rfl⟩, H3⟩
  case rest =>
    obtain ⟨As', Ar', cs', cr', hsm, hrk, H4⟩ := hcut
    have HSM := Lib.hid hsm; have HRK := Lib.hid hrk
    have hre : r.events = [] := by rw [← hr]; exact ownK_plain k a
    have HRE := Lib.hid hre; have HR := Lib.hid hr
    clear H3 hre hr hsm hrk
    have hha := fun W => has_ok k W
    cases hh : hasB k with
    | false =>
      rw [hh] at hha
      have hx : ownA k a = r := by rw [HRA.out, hh]; rfl
      have HX := Lib.hid hx
      clear hx hh
      go_upto_region 18 with (go_at_call 66; refine (hha _).mono ?_; rintro e w3 ⟨rfl, rfl⟩)
      obtain ⟨r0, r1, r2, r3, r4, r5, r6, r7, r8, r9, r10, r11, r12⟩ := r
      have hr2 : r2 = [] := HRE.out
      subst hr2
      have G1 : _ = some (Obj.cells (ansA ⟨r0, r1, [], r3, r4, r5, r6, r7, r8, r9, r10, r11, r12⟩ (.slice none 0 0) (.slice As' r3.set.length cs') (.slice Ar' r4.length cr')) 50 (0, 0)) := H4.head
      have G3 : _ = some (Obj.cells _ 50 (0, 0)) := H4.tail.tail.head
      have HS := HL.setWhole (cells := ansA ⟨r0, r1, [], r3, r4, r5, r6, r7, r8, r9, r10, r11, r12⟩ (.slice none 0 0) (.slice As' r3.set.length cs') (.slice Ar' r4.length cr')) (H4.sel 3 [2])
      go_wp2_with (first
        | (refine wpList_load_row rfl 50 _ rfl (b1 + 1 + 1) rfl 50 _ (0, 0) _ G1 Tryd.underlying50 rfl (ansA_size _ _ _ _) ?_)
        | (refine wpList_store_row rfl 50 _ _ rfl (b1 + 1) (ansA ⟨r0, r1, [], r3, r4, r5, r6, r7, r8, r9, r10, r11, r12⟩ (.slice none 0 0) (.slice As' r3.set.length cs') (.slice Ar' r4.length cr')) rfl rfl 50 _ G3 (ansA_size _ _ _ _) rfl (ansA_one _ _ _ _ _ _ _ _ _ _) ?_))
      have G5 := HS.head
      refine bodyPost_ret (results_cell_row (by rfl) _ _ (b1 + 1) 50 _ (0, 0) _ (by rfl) G5 Tryd.underlying50 rfl (ansA_size _ _ _ _)) rfl ?_
      rw [HX.out]
      exact ⟨_, As', Ar', _, cs', cr', rfl, .inr ⟨rfl, rfl, rfl⟩, HSM.out, HRK.out, HS.tail⟩
    | true =>
      rw [hh] at hha
      have hx : ownA k a = { r with events := a.events } := by rw [HRA.out, hh]; rfl
      have HX := Lib.hid hx
      have H5 : HL w0 (wc.setCell ⟨b1 + 1 + 1, 2, none⟩ (.slice Ae a.events.length ce)) (boxA (b1 + 1 + 1) { r with events := a.events } (.slice Ae a.events.length ce) (.slice As' r.job.set.length cs') (.slice Ar' r.ranks.length cr') :: boxA b1 a (.slice Ae a.events.length ce) (.slice As a.job.set.length cs) (.slice Ar a.ranks.length cr) :: boxA (b1 + 1) zA (.slice none 0 0) (.slice none 0 0) (.slice none 0 0) :: L) := HL.setCell H4 2 (.slice Ae a.events.length ce)
      have n2 : wc.cell? ⟨b1, 2, none⟩ = some (.slice Ae a.events.length ce) := HL.cell H4.tail 2
      have m2 := HL.cell H4 2
      have y2 : wc.frozen? ⟨b1 + 1 + 1, 2, none⟩ = false := HL.frozen H4 2
      clear hx hh
      go_upto_region 18 with (go_at_call 66; refine (hha _).mono ?_; rintro e w3 ⟨rfl, rfl⟩)
      clear n2 y2 m2 H4
      generalize World.setCell _ _ _ = W5 at *
      have G1 : _ = some (Obj.cells (ansA { r with events := a.events } (.slice Ae a.events.length ce) (.slice As' r.job.set.length cs') (.slice Ar' r.ranks.length cr')) 50 (0, 0)) := H5.head
      have G3 : _ = some (Obj.cells _ 50 (0, 0)) := H5.tail.tail.head
      have HS := HL.setWhole (cells := ansA { r with events := a.events } (.slice Ae a.events.length ce) (.slice As' r.job.set.length cs') (.slice Ar' r.ranks.length cr')) (H5.sel 3 [2])
      go_wp2_with (first
        | (refine wpList_load_row rfl 50 _ rfl (b1 + 1 + 1) rfl 50 _ (0, 0) _ G1 Tryd.underlying50 rfl (ansA_size _ _ _ _) ?_)
        | (refine wpList_store_row rfl 50 _ _ rfl (b1 + 1) (ansA { r with events := a.events } (.slice Ae a.events.length ce) (.slice As' r.job.set.length cs') (.slice Ar' r.ranks.length cr')) rfl rfl 50 _ G3 (ansA_size _ _ _ _) rfl (ansA_one _ _ _ _ _ _ _ _ _ _) ?_))
      have G5 := HS.head
      refine bodyPost_ret (results_cell_row (by rfl) _ _ (b1 + 1) 50 _ (0, 0) _ (by rfl) G5 Tryd.underlying50 rfl (ansA_size _ _ _ _)) rfl ?_
      rw [HX.out]
      exact ⟨_, As', Ar', _, cs', cr', rfl, .inl ⟨rfl, rfl, rfl⟩, HSM.out, HRK.out, HS.tail⟩
end
end Go.Proofs.YtdekbbffoaphhaaDoor

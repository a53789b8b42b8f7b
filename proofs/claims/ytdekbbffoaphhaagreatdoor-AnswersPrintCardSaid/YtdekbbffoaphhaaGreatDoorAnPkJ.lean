/- The fields of an answer that the table names for a kind (the reference's part). -/
import Derived.Test.YtdekbbffoaphhaaGreatDoorAnZipB
import Derived.Test.YtdekbbffoaphhaaGreatDoorAnZip
import Derived.Test.YtdekbbffoaphhaaGreatDoorAnPkH
import Derived.Test.YtdekbbffoaphhaaGreatDoorAnPkB
set_option linter.unusedVariables false
set_option linter.unusedSimpArgs false
set_option maxRecDepth 100000
set_option maxHeartbeats 8000000
namespace Go.Proofs.An
def partK (k : Int) (a : Ans) : Ans :=
 if k = 1 then { zA with code := a.code, id := a.id, events := a.events } else if k = 2 then { zA with code := a.code, events := a.events } else if k = 3 then { zA with code := a.code, events := a.events } else if k = 4 then { zA with code := a.code, events := a.events }
 else if k = 5 then { zA with code := a.code, id := a.id } else if k = 9 then { zA with code := a.code, job := a.job } else if k = 10 then { zA with code := a.code, ranks := a.ranks, holder := a.holder, shadow := a.shadow }
 else if k = 11 then { zA with code := a.code, raw := a.raw, usage := a.usage, factor := a.factor } else if k = 12 then { zA with code := a.code, free := a.free } else if k = 13 then { zA with code := a.code, cfg := a.cfg, bound := a.bound } else { zA with code := a.code }
def partA (k : Int) (a : Ans) : Ans := if a.code = 0 then partK k a else { zA with code := a.code }
end Go.Proofs.An
namespace Go.Proofs.YtdekbbffoaphhaaGreatDoor
open Go.RowKit Go.Proofs.HL Go.Proofs.An
section
variable {w0 w : World} {L : List At}
theorem Ref.part_ok (H : HL w0 w L) (k : Int) (a : Ans) (Ae As Ar : Option Addr) (ce cs cr : Nat) : Calls Tryz.prog 30 #[.int .i64 k, ansV a (.slice Ae a.events.length ce) (.slice As a.job.set.length cs) (.slice Ar a.ranks.length cr)] w (OwnPost w0 L a (partA k a) Ae As Ar ce cs cr) := by
 have H1 := HL.allocA H a (.slice Ae a.events.length ce) (.slice As a.job.set.length cs) (.slice Ar a.ranks.length cr)
 have H2 := HL.bzA H1
 have H3 : HL w0 _ (bxz (World.alloc (World.alloc w _) _).heap.size :: _) := H2.alloc (.cells #[.int .i64 0, .int .i64 0, .slice none 0 0, .int .i64 0, .int .i64 0, .int .i64 0, .int .i64 0, .int .i64 0, .int .i64 0, .int .i64 0, .slice none 0 0, .slice none 0 0, .int .i64 0, .int .u64 0, .int .u64 0, .int .i64 0, .int .i64 0, .int .i64 0, .int .i64 0, .int .i64 0, .int .i64 0, .int .i64 0, .int .i64 0, .int .i64 0, .int .i64 0, .int .i64 0, .int .i64 0] 32)
 rw [World.size_alloc, World.size_alloc] at H3
 have G2 : _ = some (Obj.cells _ 32 (0, 0)) := H3.head
 have HS : HL w0 _ (boxA _ { zA with code := a.code } (.slice none 0 0) (.slice none 0 0) (.slice none 0 0) :: _) := HL.setWhole (cells := ansA { zA with code := a.code } (.slice none 0 0) (.slice none 0 0) (.slice none 0 0)) H3
 have c0 := HL.cell H1 0
 unfold ansV
 have hra : partA k a = if a.code = 0 then partK k a else { zA with code := a.code } := rfl
 have HRA := Lib.hid hra
 generalize hb1 : w.heap.size = b1 at *
 clear H H1 H2 H3 hra
 go_enter Tryz.func30, Tryz.ntmps30
 go_upto_region 2 with (refine wpList_store_row rfl 32 _ _ rfl (b1 + 1 + 1) (ansA { zA with code := a.code } (.slice none 0 0) (.slice none 0 0) (.slice none 0 0)) rfl rfl 32 _ G2 (ansA_size _ _ _ _) rfl (ansA_one _ _ _ _ _ _ _ _ _ _) ?_)
 have HB1 := Lib.hid hb1
 clear hb1 G2 c0
 generalize World.setRow _ _ _ = W at *
 have H3 : HL w0 W (boxA (b1 + 1 + 1) { zA with code := a.code } (.slice none 0 0) (.slice none 0 0) (.slice none 0 0) :: boxA b1 a (.slice Ae a.events.length ce) (.slice As a.job.set.length cs) (.slice Ar a.ranks.length cr) :: bxz (b1 + 1) :: L) := HS.sel 3 [0, 2, 1]
 clear HS
 have c0 : W.cell? ⟨b1, 0, none⟩ = some (.int .i64 a.code) := HL.cell H3.tail 0
 by_cases hcd : a.code = 0
 case neg =>
  have q0 : (a.code != 0) = true := by simp [hcd]
  have hx : partA k a = { zA with code := a.code } := by rw [HRA.out, if_neg hcd]
  have HX := Lib.hid hx
  clear hx hcd
  have G1 : _ = some (Obj.cells (ansA { zA with code := a.code } (.slice none 0 0) (.slice none 0 0) (.slice none 0 0)) 32 (0, 0)) := H3.head
  have G3 : _ = some (Obj.cells _ 32 (0, 0)) := H3.tail.tail.head
  have HS := HL.setWhole (cells := ansA { zA with code := a.code } (.slice none 0 0) (.slice none 0 0) (.slice none 0 0)) (H3.sel 3 [2])
  go_wp2_with (first
   | (refine wpList_load_row rfl 32 _ rfl (b1 + 1 + 1) rfl 32 _ (0, 0) _ G1 Tryz.underlying32 rfl (ansA_size _ _ _ _) ?_)
   | (refine wpList_store_row rfl 32 _ _ rfl (b1 + 1) (ansA { zA with code := a.code } (.slice none 0 0) (.slice none 0 0) (.slice none 0 0)) rfl rfl 32 _ G3 (ansA_size _ _ _ _) rfl (ansA_one _ _ _ _ _ _ _ _ _ _) ?_))
  have G5 := HS.head
  refine bodyPost_ret (results_cell_row (by rfl) _ _ (b1 + 1) 32 _ (0, 0) _ (by rfl) G5 Tryz.underlying32 rfl (ansA_size _ _ _ _)) rfl ?_
  rw [HX.out]
  exact ⟨none, none, none, 0, 0, 0, rfl, .inr ⟨rfl, rfl, rfl⟩, .inr ⟨rfl, rfl, rfl⟩, .inr ⟨rfl, rfl, rfl⟩, HS.tail⟩
 have q0 : (a.code != 0) = false := by simp [hcd]
 have hra := HRA.out
 rw [if_pos hcd] at hra
 replace HRA := Lib.hid hra
 clear hra hcd
 go_upto_block 0 with (fail)
 clear c0
 obtain ⟨r, hr⟩ : ∃ r, partK k a = r := ⟨_, rfl⟩
 rw [hr] at HRA
 go_cut [] (fun wc => ∃ (Ae' As' Ar' : Option Addr) (ce' cs' cr' : Nat), Same a.events r.events Ae Ae' ce ce' ∧ Same a.job.set r.job.set As As' cs cs' ∧ Same a.ranks r.ranks Ar Ar' cr cr' ∧ HL w0 wc (boxA (b1 + 1 + 1) r (.slice Ae' r.events.length ce') (.slice As' r.job.set.length cs') (.slice Ar' r.ranks.length cr') :: boxA b1 a (.slice Ae a.events.length ce) (.slice As a.job.set.length cs) (.slice Ar a.ranks.length cr) :: bxz (b1 + 1) :: L))
 case first =>
  by_cases g1 : k = 1
  ·skip
   have hk : partK k a = { zA with code := a.code, id := a.id, events := a.events } := by simp [partK, g1]
   have q1 : (k == 1) = true := by simp [g1]
   have q2 : (k == 2) = false := by simp [g1]
   have q3 : (k == 3) = false := by simp [g1]
   have q4 : (k == 4) = false := by simp [g1]
   have q5 : (k == 5) = false := by simp [g1]
   have q9 : (k == 9) = false := by simp [g1]
   have q10 : (k == 10) = false := by simp [g1]
   have q11 : (k == 11) = false := by simp [g1]
   have q12 : (k == 12) = false := by simp [g1]
   have q13 : (k == 13) = false := by simp [g1]
   rw [hk] at hr
   have HR := Lib.hid hr
   clear hr hk g1
   go_upto_region 6 with (fail)
   refine wp_region_held_drew (S := fun w' => w'.cell? ⟨b1, 1, none⟩ = some (.int .i64 a.id) ∧ w'.cell? ⟨b1, 2, none⟩ = some (.slice Ae a.events.length ce)) (by kernel_rfl) (⟨HL.cell H3.drew.tail 1, HL.cell H3.drew.tail 2⟩) (fun hHeld => ?_)
   have Hd := H3.drew
   clear H3
   generalize World.drew _ = Wd at *
   have m1 := HL.cell Hd 1
   have z1 := HL.frozen Hd 1
   refine ztk 0 ?_
   simp only [Act.put, zp]
   refine ztk 1 ?_
   simp only [Act.put, zp]
   refine ztk 2 ?_
   simp only [Act.put, zp]
   refine ztk 3 ?_
   simp only [Act.put, zp]
   refine ztk 4 ?_
   simp only [Act.put, zp]
   refine zry 5 (fun K' hK' => ?_)
   dsimp only [zg1, zg3, zg2]
   go_simp
   have HT1 : HL w0 _ (blk (b1 + 1 + 1) (.cells #[.int .i64 a.code, .int .i64 a.id, .slice none 0 0, .int .i64 zA.job.acc, .int .i64 zA.job.nodes, .int .i64 zA.job.lim, .int .i64 zA.job.sub, .int .i64 zA.job.st, .int .i64 zA.job.start, .int .i64 zA.job.fin, .slice none 0 0, .slice none 0 0, .int .i64 zA.raw, .int .u64 zA.usage, .int .u64 zA.factor, .int .i64 zA.free, .int .i64 zA.holder, .int .i64 zA.shadow, .int .i64 zA.cfg.c0, .int .i64 zA.cfg.c1, .int .i64 zA.cfg.c2, .int .i64 zA.cfg.c3, .int .i64 zA.cfg.c4, .int .i64 zA.cfg.c5, .int .i64 zA.cfg.c6, .int .i64 zA.cfg.c7, .int .i64 zA.bound] 32) :: boxA b1 a (.slice Ae a.events.length ce) (.slice As a.job.set.length cs) (.slice Ar a.ranks.length cr) :: bxz (b1 + 1) :: L) := HL.setCell Hd 1 (.int .i64 a.id)
   have m2 := HL.cell HT1 2
   have z2 := HL.frozen HT1 2
   refine hK'.out _ _ (⟨HL.cell HT1.tail 1, HL.cell HT1.tail 2⟩) (fun hHeld => ?_)
   clear hK' K'
   try simp only [Act.put, zp]
   refine ztk 6 ?_
   simp only [Act.put, zp]
   refine zry 7 (fun K' hK' => ?_)
   dsimp only [zg1, zg3, zg2]
   go_simp
   have HT2 : HL w0 _ (blk (b1 + 1 + 1) (.cells #[.int .i64 a.code, .int .i64 a.id, .slice Ae a.events.length ce, .int .i64 zA.job.acc, .int .i64 zA.job.nodes, .int .i64 zA.job.lim, .int .i64 zA.job.sub, .int .i64 zA.job.st, .int .i64 zA.job.start, .int .i64 zA.job.fin, .slice none 0 0, .slice none 0 0, .int .i64 zA.raw, .int .u64 zA.usage, .int .u64 zA.factor, .int .i64 zA.free, .int .i64 zA.holder, .int .i64 zA.shadow, .int .i64 zA.cfg.c0, .int .i64 zA.cfg.c1, .int .i64 zA.cfg.c2, .int .i64 zA.cfg.c3, .int .i64 zA.cfg.c4, .int .i64 zA.cfg.c5, .int .i64 zA.cfg.c6, .int .i64 zA.cfg.c7, .int .i64 zA.bound] 32) :: boxA b1 a (.slice Ae a.events.length ce) (.slice As a.job.set.length cs) (.slice Ar a.ranks.length cr) :: bxz (b1 + 1) :: L) := HL.setCell HT1 2 (.slice Ae a.events.length ce)
   refine hK'.out _ _ (⟨HL.cell HT2.tail 1, HL.cell HT2.tail 2⟩) (fun hHeld => ?_)
   clear hK' K'
   try simp only [Act.put, zp]
   refine wpAnyH_done (by kernel_rfl) ?_ _
   go_wp2
   go_meet
   rw [← HR.out]
   exact ⟨Ae, none, none, ce, 0, 0, .inl ⟨rfl, rfl, rfl⟩, .inr ⟨rfl, rfl, rfl⟩, .inr ⟨rfl, rfl, rfl⟩, HT2⟩
  have q1 : (k == 1) = false := by simp [g1]
  by_cases g2 : k = 2
  ·skip
   have hk : partK k a = { zA with code := a.code, events := a.events } := by simp [partK, g2]
   have q2 : (k == 2) = true := by simp [g2]
   have q3 : (k == 3) = false := by simp [g2]
   have q4 : (k == 4) = false := by simp [g2]
   have q5 : (k == 5) = false := by simp [g2]
   have q9 : (k == 9) = false := by simp [g2]
   have q10 : (k == 10) = false := by simp [g2]
   have q11 : (k == 11) = false := by simp [g2]
   have q12 : (k == 12) = false := by simp [g2]
   have q13 : (k == 13) = false := by simp [g2]
   rw [hk] at hr
   have HR := Lib.hid hr
   clear hr hk g2
   have n2 : W.cell? ⟨b1, 2, none⟩ = some (.slice Ae a.events.length ce) := HL.cell H3.tail 2
   have m2 : W.cell? ⟨b1 + 1 + 1, 2, none⟩ = some (.slice none 0 0) := HL.cell H3 2
   have z2 : W.frozen? ⟨b1 + 1 + 1, 2, none⟩ = false := HL.frozen H3 2
   have s0 : HL w0 _ (blk (b1 + 1 + 1) (.cells #[.int .i64 a.code, .int .i64 zA.id, .slice Ae a.events.length ce, .int .i64 zA.job.acc, .int .i64 zA.job.nodes, .int .i64 zA.job.lim, .int .i64 zA.job.sub, .int .i64 zA.job.st, .int .i64 zA.job.start, .int .i64 zA.job.fin, .slice none 0 0, .slice none 0 0, .int .i64 zA.raw, .int .u64 zA.usage, .int .u64 zA.factor, .int .i64 zA.free, .int .i64 zA.holder, .int .i64 zA.shadow, .int .i64 zA.cfg.c0, .int .i64 zA.cfg.c1, .int .i64 zA.cfg.c2, .int .i64 zA.cfg.c3, .int .i64 zA.cfg.c4, .int .i64 zA.cfg.c5, .int .i64 zA.cfg.c6, .int .i64 zA.cfg.c7, .int .i64 zA.bound] 32) :: boxA b1 a (.slice Ae a.events.length ce) (.slice As a.job.set.length cs) (.slice Ar a.ranks.length cr) :: bxz (b1 + 1) :: L) := HL.setCell H3 2 (.slice Ae a.events.length ce)
   go_wp2
   go_meet
   rw [← HR.out]
   exact ⟨Ae, none, none, ce, 0, 0, .inl ⟨rfl, rfl, rfl⟩, .inr ⟨rfl, rfl, rfl⟩, .inr ⟨rfl, rfl, rfl⟩, s0⟩
  have q2 : (k == 2) = false := by simp [g2]
  by_cases g3 : k = 3
  ·skip
   have hk : partK k a = { zA with code := a.code, events := a.events } := by simp [partK, g3]
   have q3 : (k == 3) = true := by simp [g3]
   have q4 : (k == 4) = false := by simp [g3]
   have q5 : (k == 5) = false := by simp [g3]
   have q9 : (k == 9) = false := by simp [g3]
   have q10 : (k == 10) = false := by simp [g3]
   have q11 : (k == 11) = false := by simp [g3]
   have q12 : (k == 12) = false := by simp [g3]
   have q13 : (k == 13) = false := by simp [g3]
   rw [hk] at hr
   have HR := Lib.hid hr
   clear hr hk g3
   have n2 : W.cell? ⟨b1, 2, none⟩ = some (.slice Ae a.events.length ce) := HL.cell H3.tail 2
   have m2 : W.cell? ⟨b1 + 1 + 1, 2, none⟩ = some (.slice none 0 0) := HL.cell H3 2
   have z2 : W.frozen? ⟨b1 + 1 + 1, 2, none⟩ = false := HL.frozen H3 2
   have s0 : HL w0 _ (blk (b1 + 1 + 1) (.cells #[.int .i64 a.code, .int .i64 zA.id, .slice Ae a.events.length ce, .int .i64 zA.job.acc, .int .i64 zA.job.nodes, .int .i64 zA.job.lim, .int .i64 zA.job.sub, .int .i64 zA.job.st, .int .i64 zA.job.start, .int .i64 zA.job.fin, .slice none 0 0, .slice none 0 0, .int .i64 zA.raw, .int .u64 zA.usage, .int .u64 zA.factor, .int .i64 zA.free, .int .i64 zA.holder, .int .i64 zA.shadow, .int .i64 zA.cfg.c0, .int .i64 zA.cfg.c1, .int .i64 zA.cfg.c2, .int .i64 zA.cfg.c3, .int .i64 zA.cfg.c4, .int .i64 zA.cfg.c5, .int .i64 zA.cfg.c6, .int .i64 zA.cfg.c7, .int .i64 zA.bound] 32) :: boxA b1 a (.slice Ae a.events.length ce) (.slice As a.job.set.length cs) (.slice Ar a.ranks.length cr) :: bxz (b1 + 1) :: L) := HL.setCell H3 2 (.slice Ae a.events.length ce)
   go_wp2
   go_meet
   rw [← HR.out]
   exact ⟨Ae, none, none, ce, 0, 0, .inl ⟨rfl, rfl, rfl⟩, .inr ⟨rfl, rfl, rfl⟩, .inr ⟨rfl, rfl, rfl⟩, s0⟩
  have q3 : (k == 3) = false := by simp [g3]
  by_cases g4 : k = 4
  ·skip
   have hk : partK k a = { zA with code := a.code, events := a.events } := by simp [partK, g4]
   have q4 : (k == 4) = true := by simp [g4]
   have q5 : (k == 5) = false := by simp [g4]
   have q9 : (k == 9) = false := by simp [g4]
   have q10 : (k == 10) = false := by simp [g4]
   have q11 : (k == 11) = false := by simp [g4]
   have q12 : (k == 12) = false := by simp [g4]
   have q13 : (k == 13) = false := by simp [g4]
   rw [hk] at hr
   have HR := Lib.hid hr
   clear hr hk g4
   have n2 : W.cell? ⟨b1, 2, none⟩ = some (.slice Ae a.events.length ce) := HL.cell H3.tail 2
   have m2 : W.cell? ⟨b1 + 1 + 1, 2, none⟩ = some (.slice none 0 0) := HL.cell H3 2
   have z2 : W.frozen? ⟨b1 + 1 + 1, 2, none⟩ = false := HL.frozen H3 2
   have s0 : HL w0 _ (blk (b1 + 1 + 1) (.cells #[.int .i64 a.code, .int .i64 zA.id, .slice Ae a.events.length ce, .int .i64 zA.job.acc, .int .i64 zA.job.nodes, .int .i64 zA.job.lim, .int .i64 zA.job.sub, .int .i64 zA.job.st, .int .i64 zA.job.start, .int .i64 zA.job.fin, .slice none 0 0, .slice none 0 0, .int .i64 zA.raw, .int .u64 zA.usage, .int .u64 zA.factor, .int .i64 zA.free, .int .i64 zA.holder, .int .i64 zA.shadow, .int .i64 zA.cfg.c0, .int .i64 zA.cfg.c1, .int .i64 zA.cfg.c2, .int .i64 zA.cfg.c3, .int .i64 zA.cfg.c4, .int .i64 zA.cfg.c5, .int .i64 zA.cfg.c6, .int .i64 zA.cfg.c7, .int .i64 zA.bound] 32) :: boxA b1 a (.slice Ae a.events.length ce) (.slice As a.job.set.length cs) (.slice Ar a.ranks.length cr) :: bxz (b1 + 1) :: L) := HL.setCell H3 2 (.slice Ae a.events.length ce)
   go_wp2
   go_meet
   rw [← HR.out]
   exact ⟨Ae, none, none, ce, 0, 0, .inl ⟨rfl, rfl, rfl⟩, .inr ⟨rfl, rfl, rfl⟩, .inr ⟨rfl, rfl, rfl⟩, s0⟩
  have q4 : (k == 4) = false := by simp [g4]
  by_cases g5 : k = 5
  ·skip
   have hk : partK k a = { zA with code := a.code, id := a.id } := by simp [partK, g5]
   have q5 : (k == 5) = true := by simp [g5]
   have q9 : (k == 9) = false := by simp [g5]
   have q10 : (k == 10) = false := by simp [g5]
   have q11 : (k == 11) = false := by simp [g5]
   have q12 : (k == 12) = false := by simp [g5]
   have q13 : (k == 13) = false := by simp [g5]
   rw [hk] at hr
   have HR := Lib.hid hr
   clear hr hk g5
   have n1 : W.cell? ⟨b1, 1, none⟩ = some (.int .i64 a.id) := HL.cell H3.tail 1
   have m1 : W.cell? ⟨b1 + 1 + 1, 1, none⟩ = some (.int .i64 zA.id) := HL.cell H3 1
   have z1 : W.frozen? ⟨b1 + 1 + 1, 1, none⟩ = false := HL.frozen H3 1
   have s0 : HL w0 _ (blk (b1 + 1 + 1) (.cells #[.int .i64 a.code, .int .i64 a.id, .slice none 0 0, .int .i64 zA.job.acc, .int .i64 zA.job.nodes, .int .i64 zA.job.lim, .int .i64 zA.job.sub, .int .i64 zA.job.st, .int .i64 zA.job.start, .int .i64 zA.job.fin, .slice none 0 0, .slice none 0 0, .int .i64 zA.raw, .int .u64 zA.usage, .int .u64 zA.factor, .int .i64 zA.free, .int .i64 zA.holder, .int .i64 zA.shadow, .int .i64 zA.cfg.c0, .int .i64 zA.cfg.c1, .int .i64 zA.cfg.c2, .int .i64 zA.cfg.c3, .int .i64 zA.cfg.c4, .int .i64 zA.cfg.c5, .int .i64 zA.cfg.c6, .int .i64 zA.cfg.c7, .int .i64 zA.bound] 32) :: boxA b1 a (.slice Ae a.events.length ce) (.slice As a.job.set.length cs) (.slice Ar a.ranks.length cr) :: bxz (b1 + 1) :: L) := HL.setCell H3 1 (.int .i64 a.id)
   go_wp2
   go_meet
   rw [← HR.out]
   exact ⟨none, none, none, 0, 0, 0, .inr ⟨rfl, rfl, rfl⟩, .inr ⟨rfl, rfl, rfl⟩, .inr ⟨rfl, rfl, rfl⟩, s0⟩
  have q5 : (k == 5) = false := by simp [g5]
  by_cases g9 : k = 9
  ·skip
   have hk : partK k a = { zA with code := a.code, job := a.job } := by simp [partK, g9]
   have q9 : (k == 9) = true := by simp [g9]
   have q10 : (k == 10) = false := by simp [g9]
   have q11 : (k == 11) = false := by simp [g9]
   have q12 : (k == 12) = false := by simp [g9]
   have q13 : (k == 13) = false := by simp [g9]
   rw [hk] at hr
   have HR := Lib.hid hr
   clear hr hk g9
   have n3 : W.cell? ⟨b1, 3, none⟩ = some (.int .i64 a.job.acc) := HL.cell H3.tail 3
   have m3 : W.cell? ⟨b1 + 1 + 1, 3, none⟩ = some (.int .i64 zA.job.acc) := HL.cell H3 3
   have z3 : W.frozen? ⟨b1 + 1 + 1, 3, none⟩ = false := HL.frozen H3 3
   have n4 : W.cell? ⟨b1, 4, none⟩ = some (.int .i64 a.job.nodes) := HL.cell H3.tail 4
   have m4 : W.cell? ⟨b1 + 1 + 1, 4, none⟩ = some (.int .i64 zA.job.nodes) := HL.cell H3 4
   have z4 : W.frozen? ⟨b1 + 1 + 1, 4, none⟩ = false := HL.frozen H3 4
   have n5 : W.cell? ⟨b1, 5, none⟩ = some (.int .i64 a.job.lim) := HL.cell H3.tail 5
   have m5 : W.cell? ⟨b1 + 1 + 1, 5, none⟩ = some (.int .i64 zA.job.lim) := HL.cell H3 5
   have z5 : W.frozen? ⟨b1 + 1 + 1, 5, none⟩ = false := HL.frozen H3 5
   have n6 : W.cell? ⟨b1, 6, none⟩ = some (.int .i64 a.job.sub) := HL.cell H3.tail 6
   have m6 : W.cell? ⟨b1 + 1 + 1, 6, none⟩ = some (.int .i64 zA.job.sub) := HL.cell H3 6
   have z6 : W.frozen? ⟨b1 + 1 + 1, 6, none⟩ = false := HL.frozen H3 6
   have n7 : W.cell? ⟨b1, 7, none⟩ = some (.int .i64 a.job.st) := HL.cell H3.tail 7
   have m7 : W.cell? ⟨b1 + 1 + 1, 7, none⟩ = some (.int .i64 zA.job.st) := HL.cell H3 7
   have z7 : W.frozen? ⟨b1 + 1 + 1, 7, none⟩ = false := HL.frozen H3 7
   have n8 : W.cell? ⟨b1, 8, none⟩ = some (.int .i64 a.job.start) := HL.cell H3.tail 8
   have m8 : W.cell? ⟨b1 + 1 + 1, 8, none⟩ = some (.int .i64 zA.job.start) := HL.cell H3 8
   have z8 : W.frozen? ⟨b1 + 1 + 1, 8, none⟩ = false := HL.frozen H3 8
   have n9 : W.cell? ⟨b1, 9, none⟩ = some (.int .i64 a.job.fin) := HL.cell H3.tail 9
   have m9 : W.cell? ⟨b1 + 1 + 1, 9, none⟩ = some (.int .i64 zA.job.fin) := HL.cell H3 9
   have z9 : W.frozen? ⟨b1 + 1 + 1, 9, none⟩ = false := HL.frozen H3 9
   have n10 : W.cell? ⟨b1, 10, none⟩ = some (.slice As a.job.set.length cs) := HL.cell H3.tail 10
   have m10 : W.cell? ⟨b1 + 1 + 1, 10, none⟩ = some (.slice none 0 0) := HL.cell H3 10
   have z10 : W.frozen? ⟨b1 + 1 + 1, 10, none⟩ = false := HL.frozen H3 10
   have s0 : HL w0 _ (blk (b1 + 1 + 1) (.cells #[.int .i64 a.code, .int .i64 zA.id, .slice none 0 0, .int .i64 a.job.acc, .int .i64 zA.job.nodes, .int .i64 zA.job.lim, .int .i64 zA.job.sub, .int .i64 zA.job.st, .int .i64 zA.job.start, .int .i64 zA.job.fin, .slice none 0 0, .slice none 0 0, .int .i64 zA.raw, .int .u64 zA.usage, .int .u64 zA.factor, .int .i64 zA.free, .int .i64 zA.holder, .int .i64 zA.shadow, .int .i64 zA.cfg.c0, .int .i64 zA.cfg.c1, .int .i64 zA.cfg.c2, .int .i64 zA.cfg.c3, .int .i64 zA.cfg.c4, .int .i64 zA.cfg.c5, .int .i64 zA.cfg.c6, .int .i64 zA.cfg.c7, .int .i64 zA.bound] 32) :: boxA b1 a (.slice Ae a.events.length ce) (.slice As a.job.set.length cs) (.slice Ar a.ranks.length cr) :: bxz (b1 + 1) :: L) := HL.setCell H3 3 (.int .i64 a.job.acc)
   have s1 : HL w0 _ (blk (b1 + 1 + 1) (.cells #[.int .i64 a.code, .int .i64 zA.id, .slice none 0 0, .int .i64 a.job.acc, .int .i64 a.job.nodes, .int .i64 zA.job.lim, .int .i64 zA.job.sub, .int .i64 zA.job.st, .int .i64 zA.job.start, .int .i64 zA.job.fin, .slice none 0 0, .slice none 0 0, .int .i64 zA.raw, .int .u64 zA.usage, .int .u64 zA.factor, .int .i64 zA.free, .int .i64 zA.holder, .int .i64 zA.shadow, .int .i64 zA.cfg.c0, .int .i64 zA.cfg.c1, .int .i64 zA.cfg.c2, .int .i64 zA.cfg.c3, .int .i64 zA.cfg.c4, .int .i64 zA.cfg.c5, .int .i64 zA.cfg.c6, .int .i64 zA.cfg.c7, .int .i64 zA.bound] 32) :: boxA b1 a (.slice Ae a.events.length ce) (.slice As a.job.set.length cs) (.slice Ar a.ranks.length cr) :: bxz (b1 + 1) :: L) := HL.setCell s0 4 (.int .i64 a.job.nodes)
   have s2 : HL w0 _ (blk (b1 + 1 + 1) (.cells #[.int .i64 a.code, .int .i64 zA.id, .slice none 0 0, .int .i64 a.job.acc, .int .i64 a.job.nodes, .int .i64 a.job.lim, .int .i64 zA.job.sub, .int .i64 zA.job.st, .int .i64 zA.job.start, .int .i64 zA.job.fin, .slice none 0 0, .slice none 0 0, .int .i64 zA.raw, .int .u64 zA.usage, .int .u64 zA.factor, .int .i64 zA.free, .int .i64 zA.holder, .int .i64 zA.shadow, .int .i64 zA.cfg.c0, .int .i64 zA.cfg.c1, .int .i64 zA.cfg.c2, .int .i64 zA.cfg.c3, .int .i64 zA.cfg.c4, .int .i64 zA.cfg.c5, .int .i64 zA.cfg.c6, .int .i64 zA.cfg.c7, .int .i64 zA.bound] 32) :: boxA b1 a (.slice Ae a.events.length ce) (.slice As a.job.set.length cs) (.slice Ar a.ranks.length cr) :: bxz (b1 + 1) :: L) := HL.setCell s1 5 (.int .i64 a.job.lim)
   have s3 : HL w0 _ (blk (b1 + 1 + 1) (.cells #[.int .i64 a.code, .int .i64 zA.id, .slice none 0 0, .int .i64 a.job.acc, .int .i64 a.job.nodes, .int .i64 a.job.lim, .int .i64 a.job.sub, .int .i64 zA.job.st, .int .i64 zA.job.start, .int .i64 zA.job.fin, .slice none 0 0, .slice none 0 0, .int .i64 zA.raw, .int .u64 zA.usage, .int .u64 zA.factor, .int .i64 zA.free, .int .i64 zA.holder, .int .i64 zA.shadow, .int .i64 zA.cfg.c0, .int .i64 zA.cfg.c1, .int .i64 zA.cfg.c2, .int .i64 zA.cfg.c3, .int .i64 zA.cfg.c4, .int .i64 zA.cfg.c5, .int .i64 zA.cfg.c6, .int .i64 zA.cfg.c7, .int .i64 zA.bound] 32) :: boxA b1 a (.slice Ae a.events.length ce) (.slice As a.job.set.length cs) (.slice Ar a.ranks.length cr) :: bxz (b1 + 1) :: L) := HL.setCell s2 6 (.int .i64 a.job.sub)
   have s4 : HL w0 _ (blk (b1 + 1 + 1) (.cells #[.int .i64 a.code, .int .i64 zA.id, .slice none 0 0, .int .i64 a.job.acc, .int .i64 a.job.nodes, .int .i64 a.job.lim, .int .i64 a.job.sub, .int .i64 a.job.st, .int .i64 zA.job.start, .int .i64 zA.job.fin, .slice none 0 0, .slice none 0 0, .int .i64 zA.raw, .int .u64 zA.usage, .int .u64 zA.factor, .int .i64 zA.free, .int .i64 zA.holder, .int .i64 zA.shadow, .int .i64 zA.cfg.c0, .int .i64 zA.cfg.c1, .int .i64 zA.cfg.c2, .int .i64 zA.cfg.c3, .int .i64 zA.cfg.c4, .int .i64 zA.cfg.c5, .int .i64 zA.cfg.c6, .int .i64 zA.cfg.c7, .int .i64 zA.bound] 32) :: boxA b1 a (.slice Ae a.events.length ce) (.slice As a.job.set.length cs) (.slice Ar a.ranks.length cr) :: bxz (b1 + 1) :: L) := HL.setCell s3 7 (.int .i64 a.job.st)
   have s5 : HL w0 _ (blk (b1 + 1 + 1) (.cells #[.int .i64 a.code, .int .i64 zA.id, .slice none 0 0, .int .i64 a.job.acc, .int .i64 a.job.nodes, .int .i64 a.job.lim, .int .i64 a.job.sub, .int .i64 a.job.st, .int .i64 a.job.start, .int .i64 zA.job.fin, .slice none 0 0, .slice none 0 0, .int .i64 zA.raw, .int .u64 zA.usage, .int .u64 zA.factor, .int .i64 zA.free, .int .i64 zA.holder, .int .i64 zA.shadow, .int .i64 zA.cfg.c0, .int .i64 zA.cfg.c1, .int .i64 zA.cfg.c2, .int .i64 zA.cfg.c3, .int .i64 zA.cfg.c4, .int .i64 zA.cfg.c5, .int .i64 zA.cfg.c6, .int .i64 zA.cfg.c7, .int .i64 zA.bound] 32) :: boxA b1 a (.slice Ae a.events.length ce) (.slice As a.job.set.length cs) (.slice Ar a.ranks.length cr) :: bxz (b1 + 1) :: L) := HL.setCell s4 8 (.int .i64 a.job.start)
   have s6 : HL w0 _ (blk (b1 + 1 + 1) (.cells #[.int .i64 a.code, .int .i64 zA.id, .slice none 0 0, .int .i64 a.job.acc, .int .i64 a.job.nodes, .int .i64 a.job.lim, .int .i64 a.job.sub, .int .i64 a.job.st, .int .i64 a.job.start, .int .i64 a.job.fin, .slice none 0 0, .slice none 0 0, .int .i64 zA.raw, .int .u64 zA.usage, .int .u64 zA.factor, .int .i64 zA.free, .int .i64 zA.holder, .int .i64 zA.shadow, .int .i64 zA.cfg.c0, .int .i64 zA.cfg.c1, .int .i64 zA.cfg.c2, .int .i64 zA.cfg.c3, .int .i64 zA.cfg.c4, .int .i64 zA.cfg.c5, .int .i64 zA.cfg.c6, .int .i64 zA.cfg.c7, .int .i64 zA.bound] 32) :: boxA b1 a (.slice Ae a.events.length ce) (.slice As a.job.set.length cs) (.slice Ar a.ranks.length cr) :: bxz (b1 + 1) :: L) := HL.setCell s5 9 (.int .i64 a.job.fin)
   have s7 : HL w0 _ (blk (b1 + 1 + 1) (.cells #[.int .i64 a.code, .int .i64 zA.id, .slice none 0 0, .int .i64 a.job.acc, .int .i64 a.job.nodes, .int .i64 a.job.lim, .int .i64 a.job.sub, .int .i64 a.job.st, .int .i64 a.job.start, .int .i64 a.job.fin, .slice As a.job.set.length cs, .slice none 0 0, .int .i64 zA.raw, .int .u64 zA.usage, .int .u64 zA.factor, .int .i64 zA.free, .int .i64 zA.holder, .int .i64 zA.shadow, .int .i64 zA.cfg.c0, .int .i64 zA.cfg.c1, .int .i64 zA.cfg.c2, .int .i64 zA.cfg.c3, .int .i64 zA.cfg.c4, .int .i64 zA.cfg.c5, .int .i64 zA.cfg.c6, .int .i64 zA.cfg.c7, .int .i64 zA.bound] 32) :: boxA b1 a (.slice Ae a.events.length ce) (.slice As a.job.set.length cs) (.slice Ar a.ranks.length cr) :: bxz (b1 + 1) :: L) := HL.setCell s6 10 (.slice As a.job.set.length cs)
   go_wp2
   go_meet
   rw [← HR.out]
   exact ⟨none, As, none, 0, cs, 0, .inr ⟨rfl, rfl, rfl⟩, .inl ⟨rfl, rfl, rfl⟩, .inr ⟨rfl, rfl, rfl⟩, s7⟩
  have q9 : (k == 9) = false := by simp [g9]
  by_cases g10 : k = 10
  ·skip
   have hk : partK k a = { zA with code := a.code, ranks := a.ranks, holder := a.holder, shadow := a.shadow } := by simp [partK, g10]
   have q10 : (k == 10) = true := by simp [g10]
   have q11 : (k == 11) = false := by simp [g10]
   have q12 : (k == 12) = false := by simp [g10]
   have q13 : (k == 13) = false := by simp [g10]
   rw [hk] at hr
   have HR := Lib.hid hr
   clear hr hk g10
   go_upto_region 16 with (fail)
   refine wp_region_held_drew (S := fun w' => w'.cell? ⟨b1, 11, none⟩ = some (.slice Ar a.ranks.length cr) ∧ w'.cell? ⟨b1, 16, none⟩ = some (.int .i64 a.holder) ∧ w'.cell? ⟨b1, 17, none⟩ = some (.int .i64 a.shadow)) (by kernel_rfl) (⟨HL.cell H3.drew.tail 11, HL.cell H3.drew.tail 16, HL.cell H3.drew.tail 17⟩) (fun hHeld => ?_)
   have Hd := H3.drew
   clear H3
   generalize World.drew _ = Wd at *
   have m11 := HL.cell Hd 11
   have z11 := HL.frozen Hd 11
   refine ztk 0 ?_
   simp only [Act.put, zp]
   refine ztk 1 ?_
   simp only [Act.put, zp]
   refine ztk 2 ?_
   simp only [Act.put, zp]
   refine ztk 3 ?_
   simp only [Act.put, zp]
   refine ztk 4 ?_
   simp only [Act.put, zp]
   refine ztk 5 ?_
   simp only [Act.put, zp]
   refine ztk 6 ?_
   simp only [Act.put, zp]
   refine zry 7 (fun K' hK' => ?_)
   dsimp only [zg1, zg3, zg2]
   go_simp
   have HT11 : HL w0 _ (blk (b1 + 1 + 1) (.cells #[.int .i64 a.code, .int .i64 zA.id, .slice none 0 0, .int .i64 zA.job.acc, .int .i64 zA.job.nodes, .int .i64 zA.job.lim, .int .i64 zA.job.sub, .int .i64 zA.job.st, .int .i64 zA.job.start, .int .i64 zA.job.fin, .slice none 0 0, .slice Ar a.ranks.length cr, .int .i64 zA.raw, .int .u64 zA.usage, .int .u64 zA.factor, .int .i64 zA.free, .int .i64 zA.holder, .int .i64 zA.shadow, .int .i64 zA.cfg.c0, .int .i64 zA.cfg.c1, .int .i64 zA.cfg.c2, .int .i64 zA.cfg.c3, .int .i64 zA.cfg.c4, .int .i64 zA.cfg.c5, .int .i64 zA.cfg.c6, .int .i64 zA.cfg.c7, .int .i64 zA.bound] 32) :: boxA b1 a (.slice Ae a.events.length ce) (.slice As a.job.set.length cs) (.slice Ar a.ranks.length cr) :: bxz (b1 + 1) :: L) := HL.setCell Hd 11 (.slice Ar a.ranks.length cr)
   have m16 := HL.cell HT11 16
   have z16 := HL.frozen HT11 16
   refine hK'.out _ _ (⟨HL.cell HT11.tail 11, HL.cell HT11.tail 16, HL.cell HT11.tail 17⟩) (fun hHeld => ?_)
   clear hK' K'
   try simp only [Act.put, zp]
   refine ztk 8 ?_
   simp only [Act.put, zp]
   refine zry 9 (fun K' hK' => ?_)
   dsimp only [zg1, zg3, zg2]
   go_simp
   have HT16 : HL w0 _ (blk (b1 + 1 + 1) (.cells #[.int .i64 a.code, .int .i64 zA.id, .slice none 0 0, .int .i64 zA.job.acc, .int .i64 zA.job.nodes, .int .i64 zA.job.lim, .int .i64 zA.job.sub, .int .i64 zA.job.st, .int .i64 zA.job.start, .int .i64 zA.job.fin, .slice none 0 0, .slice Ar a.ranks.length cr, .int .i64 zA.raw, .int .u64 zA.usage, .int .u64 zA.factor, .int .i64 zA.free, .int .i64 a.holder, .int .i64 zA.shadow, .int .i64 zA.cfg.c0, .int .i64 zA.cfg.c1, .int .i64 zA.cfg.c2, .int .i64 zA.cfg.c3, .int .i64 zA.cfg.c4, .int .i64 zA.cfg.c5, .int .i64 zA.cfg.c6, .int .i64 zA.cfg.c7, .int .i64 zA.bound] 32) :: boxA b1 a (.slice Ae a.events.length ce) (.slice As a.job.set.length cs) (.slice Ar a.ranks.length cr) :: bxz (b1 + 1) :: L) := HL.setCell HT11 16 (.int .i64 a.holder)
   have m17 := HL.cell HT16 17
   have z17 := HL.frozen HT16 17
   refine hK'.out _ _ (⟨HL.cell HT16.tail 11, HL.cell HT16.tail 16, HL.cell HT16.tail 17⟩) (fun hHeld => ?_)
   clear hK' K'
   try simp only [Act.put, zp]
   refine ztk 10 ?_
   simp only [Act.put, zp]
   refine zry 11 (fun K' hK' => ?_)
   dsimp only [zg1, zg3, zg2]
   go_simp
   have HT17 : HL w0 _ (blk (b1 + 1 + 1) (.cells #[.int .i64 a.code, .int .i64 zA.id, .slice none 0 0, .int .i64 zA.job.acc, .int .i64 zA.job.nodes, .int .i64 zA.job.lim, .int .i64 zA.job.sub, .int .i64 zA.job.st, .int .i64 zA.job.start, .int .i64 zA.job.fin, .slice none 0 0, .slice Ar a.ranks.length cr, .int .i64 zA.raw, .int .u64 zA.usage, .int .u64 zA.factor, .int .i64 zA.free, .int .i64 a.holder, .int .i64 a.shadow, .int .i64 zA.cfg.c0, .int .i64 zA.cfg.c1, .int .i64 zA.cfg.c2, .int .i64 zA.cfg.c3, .int .i64 zA.cfg.c4, .int .i64 zA.cfg.c5, .int .i64 zA.cfg.c6, .int .i64 zA.cfg.c7, .int .i64 zA.bound] 32) :: boxA b1 a (.slice Ae a.events.length ce) (.slice As a.job.set.length cs) (.slice Ar a.ranks.length cr) :: bxz (b1 + 1) :: L) := HL.setCell HT16 17 (.int .i64 a.shadow)
   refine hK'.out _ _ (⟨HL.cell HT17.tail 11, HL.cell HT17.tail 16, HL.cell HT17.tail 17⟩) (fun hHeld => ?_)
   clear hK' K'
   try simp only [Act.put, zp]
   refine wpAnyH_done (by kernel_rfl) ?_ _
   go_wp2
   go_meet
   rw [← HR.out]
   exact ⟨none, none, Ar, 0, 0, cr, .inr ⟨rfl, rfl, rfl⟩, .inr ⟨rfl, rfl, rfl⟩, .inl ⟨rfl, rfl, rfl⟩, HT17⟩
  have q10 : (k == 10) = false := by simp [g10]
  by_cases g11 : k = 11
  ·skip
   have hk : partK k a = { zA with code := a.code, raw := a.raw, usage := a.usage, factor := a.factor } := by simp [partK, g11]
   have q11 : (k == 11) = true := by simp [g11]
   have q12 : (k == 12) = false := by simp [g11]
   have q13 : (k == 13) = false := by simp [g11]
   rw [hk] at hr
   have HR := Lib.hid hr
   clear hr hk g11
   go_upto_region 18 with (fail)
   refine wp_region_held_drew (S := fun w' => w'.cell? ⟨b1, 12, none⟩ = some (.int .i64 a.raw) ∧ w'.cell? ⟨b1, 13, none⟩ = some (.int .u64 a.usage) ∧ w'.cell? ⟨b1, 14, none⟩ = some (.int .u64 a.factor)) (by kernel_rfl) (⟨HL.cell H3.drew.tail 12, HL.cell H3.drew.tail 13, HL.cell H3.drew.tail 14⟩) (fun hHeld => ?_)
   have Hd := H3.drew
   clear H3
   generalize World.drew _ = Wd at *
   have m12 := HL.cell Hd 12
   have z12 := HL.frozen Hd 12
   refine ztk 0 ?_
   simp only [Act.put, zp]
   refine ztk 1 ?_
   simp only [Act.put, zp]
   refine ztk 2 ?_
   simp only [Act.put, zp]
   refine ztk 3 ?_
   simp only [Act.put, zp]
   refine ztk 4 ?_
   simp only [Act.put, zp]
   refine ztk 5 ?_
   simp only [Act.put, zp]
   refine ztk 6 ?_
   simp only [Act.put, zp]
   refine zry 7 (fun K' hK' => ?_)
   dsimp only [zg1, zg3, zg2]
   go_simp
   have HT12 : HL w0 _ (blk (b1 + 1 + 1) (.cells #[.int .i64 a.code, .int .i64 zA.id, .slice none 0 0, .int .i64 zA.job.acc, .int .i64 zA.job.nodes, .int .i64 zA.job.lim, .int .i64 zA.job.sub, .int .i64 zA.job.st, .int .i64 zA.job.start, .int .i64 zA.job.fin, .slice none 0 0, .slice none 0 0, .int .i64 a.raw, .int .u64 zA.usage, .int .u64 zA.factor, .int .i64 zA.free, .int .i64 zA.holder, .int .i64 zA.shadow, .int .i64 zA.cfg.c0, .int .i64 zA.cfg.c1, .int .i64 zA.cfg.c2, .int .i64 zA.cfg.c3, .int .i64 zA.cfg.c4, .int .i64 zA.cfg.c5, .int .i64 zA.cfg.c6, .int .i64 zA.cfg.c7, .int .i64 zA.bound] 32) :: boxA b1 a (.slice Ae a.events.length ce) (.slice As a.job.set.length cs) (.slice Ar a.ranks.length cr) :: bxz (b1 + 1) :: L) := HL.setCell Hd 12 (.int .i64 a.raw)
   have m13 := HL.cell HT12 13
   have z13 := HL.frozen HT12 13
   refine hK'.out _ _ (⟨HL.cell HT12.tail 12, HL.cell HT12.tail 13, HL.cell HT12.tail 14⟩) (fun hHeld => ?_)
   clear hK' K'
   try simp only [Act.put, zp]
   refine ztk 8 ?_
   simp only [Act.put, zp]
   refine zry 9 (fun K' hK' => ?_)
   dsimp only [zg1, zg3, zg2]
   go_simp
   have HT13 : HL w0 _ (blk (b1 + 1 + 1) (.cells #[.int .i64 a.code, .int .i64 zA.id, .slice none 0 0, .int .i64 zA.job.acc, .int .i64 zA.job.nodes, .int .i64 zA.job.lim, .int .i64 zA.job.sub, .int .i64 zA.job.st, .int .i64 zA.job.start, .int .i64 zA.job.fin, .slice none 0 0, .slice none 0 0, .int .i64 a.raw, .int .u64 a.usage, .int .u64 zA.factor, .int .i64 zA.free, .int .i64 zA.holder, .int .i64 zA.shadow, .int .i64 zA.cfg.c0, .int .i64 zA.cfg.c1, .int .i64 zA.cfg.c2, .int .i64 zA.cfg.c3, .int .i64 zA.cfg.c4, .int .i64 zA.cfg.c5, .int .i64 zA.cfg.c6, .int .i64 zA.cfg.c7, .int .i64 zA.bound] 32) :: boxA b1 a (.slice Ae a.events.length ce) (.slice As a.job.set.length cs) (.slice Ar a.ranks.length cr) :: bxz (b1 + 1) :: L) := HL.setCell HT12 13 (.int .u64 a.usage)
   have m14 := HL.cell HT13 14
   have z14 := HL.frozen HT13 14
   refine hK'.out _ _ (⟨HL.cell HT13.tail 12, HL.cell HT13.tail 13, HL.cell HT13.tail 14⟩) (fun hHeld => ?_)
   clear hK' K'
   try simp only [Act.put, zp]
   refine ztk 10 ?_
   simp only [Act.put, zp]
   refine zry 11 (fun K' hK' => ?_)
   dsimp only [zg1, zg3, zg2]
   go_simp
   have HT14 : HL w0 _ (blk (b1 + 1 + 1) (.cells #[.int .i64 a.code, .int .i64 zA.id, .slice none 0 0, .int .i64 zA.job.acc, .int .i64 zA.job.nodes, .int .i64 zA.job.lim, .int .i64 zA.job.sub, .int .i64 zA.job.st, .int .i64 zA.job.start, .int .i64 zA.job.fin, .slice none 0 0, .slice none 0 0, .int .i64 a.raw, .int .u64 a.usage, .int .u64 a.factor, .int .i64 zA.free, .int .i64 zA.holder, .int .i64 zA.shadow, .int .i64 zA.cfg.c0, .int .i64 zA.cfg.c1, .int .i64 zA.cfg.c2, .int .i64 zA.cfg.c3, .int .i64 zA.cfg.c4, .int .i64 zA.cfg.c5, .int .i64 zA.cfg.c6, .int .i64 zA.cfg.c7, .int .i64 zA.bound] 32) :: boxA b1 a (.slice Ae a.events.length ce) (.slice As a.job.set.length cs) (.slice Ar a.ranks.length cr) :: bxz (b1 + 1) :: L) := HL.setCell HT13 14 (.int .u64 a.factor)
   refine hK'.out _ _ (⟨HL.cell HT14.tail 12, HL.cell HT14.tail 13, HL.cell HT14.tail 14⟩) (fun hHeld => ?_)
   clear hK' K'
   try simp only [Act.put, zp]
   refine wpAnyH_done (by kernel_rfl) ?_ _
   go_wp2
   go_meet
   rw [← HR.out]
   exact ⟨none, none, none, 0, 0, 0, .inr ⟨rfl, rfl, rfl⟩, .inr ⟨rfl, rfl, rfl⟩, .inr ⟨rfl, rfl, rfl⟩, HT14⟩
  have q11 : (k == 11) = false := by simp [g11]
  by_cases g12 : k = 12
  ·skip
   have hk : partK k a = { zA with code := a.code, free := a.free } := by simp [partK, g12]
   have q12 : (k == 12) = true := by simp [g12]
   have q13 : (k == 13) = false := by simp [g12]
   rw [hk] at hr
   have HR := Lib.hid hr
   clear hr hk g12
   have n15 : W.cell? ⟨b1, 15, none⟩ = some (.int .i64 a.free) := HL.cell H3.tail 15
   have m15 : W.cell? ⟨b1 + 1 + 1, 15, none⟩ = some (.int .i64 zA.free) := HL.cell H3 15
   have z15 : W.frozen? ⟨b1 + 1 + 1, 15, none⟩ = false := HL.frozen H3 15
   have s0 : HL w0 _ (blk (b1 + 1 + 1) (.cells #[.int .i64 a.code, .int .i64 zA.id, .slice none 0 0, .int .i64 zA.job.acc, .int .i64 zA.job.nodes, .int .i64 zA.job.lim, .int .i64 zA.job.sub, .int .i64 zA.job.st, .int .i64 zA.job.start, .int .i64 zA.job.fin, .slice none 0 0, .slice none 0 0, .int .i64 zA.raw, .int .u64 zA.usage, .int .u64 zA.factor, .int .i64 a.free, .int .i64 zA.holder, .int .i64 zA.shadow, .int .i64 zA.cfg.c0, .int .i64 zA.cfg.c1, .int .i64 zA.cfg.c2, .int .i64 zA.cfg.c3, .int .i64 zA.cfg.c4, .int .i64 zA.cfg.c5, .int .i64 zA.cfg.c6, .int .i64 zA.cfg.c7, .int .i64 zA.bound] 32) :: boxA b1 a (.slice Ae a.events.length ce) (.slice As a.job.set.length cs) (.slice Ar a.ranks.length cr) :: bxz (b1 + 1) :: L) := HL.setCell H3 15 (.int .i64 a.free)
   go_wp2
   go_meet
   rw [← HR.out]
   exact ⟨none, none, none, 0, 0, 0, .inr ⟨rfl, rfl, rfl⟩, .inr ⟨rfl, rfl, rfl⟩, .inr ⟨rfl, rfl, rfl⟩, s0⟩
  have q12 : (k == 12) = false := by simp [g12]
  by_cases g13 : k = 13
  ·skip
   have hk : partK k a = { zA with code := a.code, cfg := a.cfg, bound := a.bound } := by simp [partK, g13]
   have q13 : (k == 13) = true := by simp [g13]
   rw [hk] at hr
   have HR := Lib.hid hr
   clear hr hk g13
   go_upto_region 22 with (fail)
   refine wp_region_held_drew (S := fun w' => w'.cell? ⟨b1, 18, none⟩ = some (.int .i64 a.cfg.c0) ∧ w'.cell? ⟨b1, 19, none⟩ = some (.int .i64 a.cfg.c1) ∧ w'.cell? ⟨b1, 20, none⟩ = some (.int .i64 a.cfg.c2) ∧ w'.cell? ⟨b1, 21, none⟩ = some (.int .i64 a.cfg.c3) ∧ w'.cell? ⟨b1, 22, none⟩ = some (.int .i64 a.cfg.c4) ∧ w'.cell? ⟨b1, 23, none⟩ = some (.int .i64 a.cfg.c5) ∧ w'.cell? ⟨b1, 24, none⟩ = some (.int .i64 a.cfg.c6) ∧ w'.cell? ⟨b1, 25, none⟩ = some (.int .i64 a.cfg.c7) ∧ w'.cell? ⟨b1, 26, none⟩ = some (.int .i64 a.bound)) (by kernel_rfl) (boxA_cf H3.drew.tail) (fun hHeld => ?_)
   have Hd := H3.drew
   clear H3
   generalize World.drew _ = Wd at *
   have m18 := HL.cell Hd 18
   have z18 := HL.frozen Hd 18
   have m19 := HL.cell Hd 19
   have z19 := HL.frozen Hd 19
   have m20 := HL.cell Hd 20
   have z20 := HL.frozen Hd 20
   have m21 := HL.cell Hd 21
   have z21 := HL.frozen Hd 21
   have m22 := HL.cell Hd 22
   have z22 := HL.frozen Hd 22
   have m23 := HL.cell Hd 23
   have z23 := HL.frozen Hd 23
   have m24 := HL.cell Hd 24
   have z24 := HL.frozen Hd 24
   have m25 := HL.cell Hd 25
   have z25 := HL.frozen Hd 25
   refine ztk 0 ?_
   simp only [Act.put, zp]
   refine ztk 1 ?_
   simp only [Act.put, zp]
   refine ztk 2 ?_
   simp only [Act.put, zp]
   refine ztk 3 ?_
   simp only [Act.put, zp]
   refine ztk 4 ?_
   simp only [Act.put, zp]
   refine zry 5 (fun K' hK' => ?_)
   dsimp only [zg1, zg3, zg2]
   go_simp
   have HT18 : HL w0 _ (blk (b1 + 1 + 1) (.cells #[.int .i64 a.code, .int .i64 zA.id, .slice none 0 0, .int .i64 zA.job.acc, .int .i64 zA.job.nodes, .int .i64 zA.job.lim, .int .i64 zA.job.sub, .int .i64 zA.job.st, .int .i64 zA.job.start, .int .i64 zA.job.fin, .slice none 0 0, .slice none 0 0, .int .i64 zA.raw, .int .u64 zA.usage, .int .u64 zA.factor, .int .i64 zA.free, .int .i64 zA.holder, .int .i64 zA.shadow, .int .i64 a.cfg.c0, .int .i64 zA.cfg.c1, .int .i64 zA.cfg.c2, .int .i64 zA.cfg.c3, .int .i64 zA.cfg.c4, .int .i64 zA.cfg.c5, .int .i64 zA.cfg.c6, .int .i64 zA.cfg.c7, .int .i64 zA.bound] 32) :: boxA b1 a (.slice Ae a.events.length ce) (.slice As a.job.set.length cs) (.slice Ar a.ranks.length cr) :: bxz (b1 + 1) :: L) := HL.setCell Hd 18 (.int .i64 a.cfg.c0)
   have HT19 : HL w0 _ (blk (b1 + 1 + 1) (.cells #[.int .i64 a.code, .int .i64 zA.id, .slice none 0 0, .int .i64 zA.job.acc, .int .i64 zA.job.nodes, .int .i64 zA.job.lim, .int .i64 zA.job.sub, .int .i64 zA.job.st, .int .i64 zA.job.start, .int .i64 zA.job.fin, .slice none 0 0, .slice none 0 0, .int .i64 zA.raw, .int .u64 zA.usage, .int .u64 zA.factor, .int .i64 zA.free, .int .i64 zA.holder, .int .i64 zA.shadow, .int .i64 a.cfg.c0, .int .i64 a.cfg.c1, .int .i64 zA.cfg.c2, .int .i64 zA.cfg.c3, .int .i64 zA.cfg.c4, .int .i64 zA.cfg.c5, .int .i64 zA.cfg.c6, .int .i64 zA.cfg.c7, .int .i64 zA.bound] 32) :: boxA b1 a (.slice Ae a.events.length ce) (.slice As a.job.set.length cs) (.slice Ar a.ranks.length cr) :: bxz (b1 + 1) :: L) := HL.setCell HT18 19 (.int .i64 a.cfg.c1)
   have HT20 : HL w0 _ (blk (b1 + 1 + 1) (.cells #[.int .i64 a.code, .int .i64 zA.id, .slice none 0 0, .int .i64 zA.job.acc, .int .i64 zA.job.nodes, .int .i64 zA.job.lim, .int .i64 zA.job.sub, .int .i64 zA.job.st, .int .i64 zA.job.start, .int .i64 zA.job.fin, .slice none 0 0, .slice none 0 0, .int .i64 zA.raw, .int .u64 zA.usage, .int .u64 zA.factor, .int .i64 zA.free, .int .i64 zA.holder, .int .i64 zA.shadow, .int .i64 a.cfg.c0, .int .i64 a.cfg.c1, .int .i64 a.cfg.c2, .int .i64 zA.cfg.c3, .int .i64 zA.cfg.c4, .int .i64 zA.cfg.c5, .int .i64 zA.cfg.c6, .int .i64 zA.cfg.c7, .int .i64 zA.bound] 32) :: boxA b1 a (.slice Ae a.events.length ce) (.slice As a.job.set.length cs) (.slice Ar a.ranks.length cr) :: bxz (b1 + 1) :: L) := HL.setCell HT19 20 (.int .i64 a.cfg.c2)
   have HT21 : HL w0 _ (blk (b1 + 1 + 1) (.cells #[.int .i64 a.code, .int .i64 zA.id, .slice none 0 0, .int .i64 zA.job.acc, .int .i64 zA.job.nodes, .int .i64 zA.job.lim, .int .i64 zA.job.sub, .int .i64 zA.job.st, .int .i64 zA.job.start, .int .i64 zA.job.fin, .slice none 0 0, .slice none 0 0, .int .i64 zA.raw, .int .u64 zA.usage, .int .u64 zA.factor, .int .i64 zA.free, .int .i64 zA.holder, .int .i64 zA.shadow, .int .i64 a.cfg.c0, .int .i64 a.cfg.c1, .int .i64 a.cfg.c2, .int .i64 a.cfg.c3, .int .i64 zA.cfg.c4, .int .i64 zA.cfg.c5, .int .i64 zA.cfg.c6, .int .i64 zA.cfg.c7, .int .i64 zA.bound] 32) :: boxA b1 a (.slice Ae a.events.length ce) (.slice As a.job.set.length cs) (.slice Ar a.ranks.length cr) :: bxz (b1 + 1) :: L) := HL.setCell HT20 21 (.int .i64 a.cfg.c3)
   have HT22 : HL w0 _ (blk (b1 + 1 + 1) (.cells #[.int .i64 a.code, .int .i64 zA.id, .slice none 0 0, .int .i64 zA.job.acc, .int .i64 zA.job.nodes, .int .i64 zA.job.lim, .int .i64 zA.job.sub, .int .i64 zA.job.st, .int .i64 zA.job.start, .int .i64 zA.job.fin, .slice none 0 0, .slice none 0 0, .int .i64 zA.raw, .int .u64 zA.usage, .int .u64 zA.factor, .int .i64 zA.free, .int .i64 zA.holder, .int .i64 zA.shadow, .int .i64 a.cfg.c0, .int .i64 a.cfg.c1, .int .i64 a.cfg.c2, .int .i64 a.cfg.c3, .int .i64 a.cfg.c4, .int .i64 zA.cfg.c5, .int .i64 zA.cfg.c6, .int .i64 zA.cfg.c7, .int .i64 zA.bound] 32) :: boxA b1 a (.slice Ae a.events.length ce) (.slice As a.job.set.length cs) (.slice Ar a.ranks.length cr) :: bxz (b1 + 1) :: L) := HL.setCell HT21 22 (.int .i64 a.cfg.c4)
   have HT23 : HL w0 _ (blk (b1 + 1 + 1) (.cells #[.int .i64 a.code, .int .i64 zA.id, .slice none 0 0, .int .i64 zA.job.acc, .int .i64 zA.job.nodes, .int .i64 zA.job.lim, .int .i64 zA.job.sub, .int .i64 zA.job.st, .int .i64 zA.job.start, .int .i64 zA.job.fin, .slice none 0 0, .slice none 0 0, .int .i64 zA.raw, .int .u64 zA.usage, .int .u64 zA.factor, .int .i64 zA.free, .int .i64 zA.holder, .int .i64 zA.shadow, .int .i64 a.cfg.c0, .int .i64 a.cfg.c1, .int .i64 a.cfg.c2, .int .i64 a.cfg.c3, .int .i64 a.cfg.c4, .int .i64 a.cfg.c5, .int .i64 zA.cfg.c6, .int .i64 zA.cfg.c7, .int .i64 zA.bound] 32) :: boxA b1 a (.slice Ae a.events.length ce) (.slice As a.job.set.length cs) (.slice Ar a.ranks.length cr) :: bxz (b1 + 1) :: L) := HL.setCell HT22 23 (.int .i64 a.cfg.c5)
   have HT24 : HL w0 _ (blk (b1 + 1 + 1) (.cells #[.int .i64 a.code, .int .i64 zA.id, .slice none 0 0, .int .i64 zA.job.acc, .int .i64 zA.job.nodes, .int .i64 zA.job.lim, .int .i64 zA.job.sub, .int .i64 zA.job.st, .int .i64 zA.job.start, .int .i64 zA.job.fin, .slice none 0 0, .slice none 0 0, .int .i64 zA.raw, .int .u64 zA.usage, .int .u64 zA.factor, .int .i64 zA.free, .int .i64 zA.holder, .int .i64 zA.shadow, .int .i64 a.cfg.c0, .int .i64 a.cfg.c1, .int .i64 a.cfg.c2, .int .i64 a.cfg.c3, .int .i64 a.cfg.c4, .int .i64 a.cfg.c5, .int .i64 a.cfg.c6, .int .i64 zA.cfg.c7, .int .i64 zA.bound] 32) :: boxA b1 a (.slice Ae a.events.length ce) (.slice As a.job.set.length cs) (.slice Ar a.ranks.length cr) :: bxz (b1 + 1) :: L) := HL.setCell HT23 24 (.int .i64 a.cfg.c6)
   have HT25 : HL w0 _ (blk (b1 + 1 + 1) (.cells #[.int .i64 a.code, .int .i64 zA.id, .slice none 0 0, .int .i64 zA.job.acc, .int .i64 zA.job.nodes, .int .i64 zA.job.lim, .int .i64 zA.job.sub, .int .i64 zA.job.st, .int .i64 zA.job.start, .int .i64 zA.job.fin, .slice none 0 0, .slice none 0 0, .int .i64 zA.raw, .int .u64 zA.usage, .int .u64 zA.factor, .int .i64 zA.free, .int .i64 zA.holder, .int .i64 zA.shadow, .int .i64 a.cfg.c0, .int .i64 a.cfg.c1, .int .i64 a.cfg.c2, .int .i64 a.cfg.c3, .int .i64 a.cfg.c4, .int .i64 a.cfg.c5, .int .i64 a.cfg.c6, .int .i64 a.cfg.c7, .int .i64 zA.bound] 32) :: boxA b1 a (.slice Ae a.events.length ce) (.slice As a.job.set.length cs) (.slice Ar a.ranks.length cr) :: bxz (b1 + 1) :: L) := HL.setCell HT24 25 (.int .i64 a.cfg.c7)
   have m26 := HL.cell HT25 26
   have z26 := HL.frozen HT25 26
   refine hK'.out _ _ (boxA_cf HT25.tail) (fun hHeld => ?_)
   clear hK' K'
   try simp only [Act.put, zp]
   refine ztk 6 ?_
   simp only [Act.put, zp]
   refine zry 7 (fun K' hK' => ?_)
   dsimp only [zg1, zg3, zg2]
   go_simp
   have HT26 : HL w0 _ (blk (b1 + 1 + 1) (.cells #[.int .i64 a.code, .int .i64 zA.id, .slice none 0 0, .int .i64 zA.job.acc, .int .i64 zA.job.nodes, .int .i64 zA.job.lim, .int .i64 zA.job.sub, .int .i64 zA.job.st, .int .i64 zA.job.start, .int .i64 zA.job.fin, .slice none 0 0, .slice none 0 0, .int .i64 zA.raw, .int .u64 zA.usage, .int .u64 zA.factor, .int .i64 zA.free, .int .i64 zA.holder, .int .i64 zA.shadow, .int .i64 a.cfg.c0, .int .i64 a.cfg.c1, .int .i64 a.cfg.c2, .int .i64 a.cfg.c3, .int .i64 a.cfg.c4, .int .i64 a.cfg.c5, .int .i64 a.cfg.c6, .int .i64 a.cfg.c7, .int .i64 a.bound] 32) :: boxA b1 a (.slice Ae a.events.length ce) (.slice As a.job.set.length cs) (.slice Ar a.ranks.length cr) :: bxz (b1 + 1) :: L) := HL.setCell HT25 26 (.int .i64 a.bound)
   refine hK'.out _ _ (boxA_cf HT26.tail) (fun hHeld => ?_)
   clear hK' K'
   try simp only [Act.put, zp]
   refine wpAnyH_done (by kernel_rfl) ?_ _
   go_wp2
   go_meet
   rw [← HR.out]
   exact ⟨none, none, none, 0, 0, 0, .inr ⟨rfl, rfl, rfl⟩, .inr ⟨rfl, rfl, rfl⟩, .inr ⟨rfl, rfl, rfl⟩, HT26⟩
  have q13 : (k == 13) = false := by simp [g13]
  have hk : partK k a = { zA with code := a.code } := by simp [partK, g1, g2, g3, g4, g5, g9, g10, g11, g12, g13]
  rw [hk] at hr
  have HR := Lib.hid hr
  clear hr hk g1 g2 g3 g4 g5 g9 g10 g11 g12 g13
  go_wp2
  go_meet
  rw [← HR.out]
  exact ⟨none, none, none, 0, 0, 0, .inr ⟨rfl, rfl, rfl⟩, .inr ⟨rfl, rfl, rfl⟩, .inr ⟨rfl, rfl, rfl⟩, H3⟩
 case rest =>
  obtain ⟨Ae', As', Ar', ce', cs', cr', hse, hsm, hrk, H4⟩ := hcut
  have HSE := Lib.hid hse; have HSM := Lib.hid hsm; have HRK := Lib.hid hrk
  clear H3 hr hse hsm hrk
  have G1 : _ = some (Obj.cells (ansA r (.slice Ae' r.events.length ce') (.slice As' r.job.set.length cs') (.slice Ar' r.ranks.length cr')) 32 (0, 0)) := H4.head
  have G3 : _ = some (Obj.cells _ 32 (0, 0)) := H4.tail.tail.head
  have HS := HL.setWhole (cells := ansA r (.slice Ae' r.events.length ce') (.slice As' r.job.set.length cs') (.slice Ar' r.ranks.length cr')) (H4.sel 3 [2])
  go_wp2_with (first
   | (refine wpList_load_row rfl 32 _ rfl (b1 + 1 + 1) rfl 32 _ (0, 0) _ G1 Tryz.underlying32 rfl (ansA_size _ _ _ _) ?_)
   | (refine wpList_store_row rfl 32 _ _ rfl (b1 + 1) (ansA r (.slice Ae' r.events.length ce') (.slice As' r.job.set.length cs') (.slice Ar' r.ranks.length cr')) rfl rfl 32 _ G3 (ansA_size _ _ _ _) rfl (ansA_one _ _ _ _ _ _ _ _ _ _) ?_))
  have G5 := HS.head
  refine bodyPost_ret (results_cell_row (by rfl) _ _ (b1 + 1) 32 _ (0, 0) _ (by rfl) G5 Tryz.underlying32 rfl (ansA_size _ _ _ _)) rfl ?_
  rw [HRA.out]
  exact ⟨Ae', As', Ar', ce', cs', cr', rfl, HSE.out, HSM.out, HRK.out, HS.tail⟩
end
end Go.Proofs.YtdekbbffoaphhaaGreatDoor
namespace Go.Proofs.An
def hold3 (h : Int) : Int := if h < -1 ∨ h = 9223372036854775807 then h else h + 1
def ckL (a : Ans) : List Int := [a.id, a.raw, a.free, hold3 a.holder, a.shadow, a.bound, a.job.acc, a.job.nodes, a.job.lim, a.job.sub, a.job.start, a.job.fin]
def rkL (rs : List Rk) : List Int := rs.flatMap fun r => [r.job, r.prio]
def cfL (c : Cf) : List Int := [c.c0, c.c1, c.c2, c.c3, c.c4, c.c5, c.c6, c.c7]
def numsOkB (k : Int) (a : Ans) : Bool := sgn (ckL a ++ rkL a.ranks) && sgn (cfL a.cfg) && ris a.job.set && !(k == 9 && decide (stW a.job.st = ⟨#[]⟩))
def refCk (k : Int) (a : Ans) : Int :=
 if k < 1 ∨ 13 < k then 90
 else if partA k a ≠ a then 90
 else if a.code ≠ 0 then (if a.code < 1 ∨ 999 < a.code then 90 else 0)
 else if numsOkB k a = false then 90
 else if a.events.all right then 0 else 90
theorem sgn_app (l m : List Int) : sgn (l ++ m) = (sgn l && sgn m) := by simp [sgn, List.all_append]
theorem sgn_rkL : ∀ (rs : List Rk), sgn (rkL rs) = rs.all rkB
 | [] => rfl
 | r :: rs => by
  have ih := sgn_rkL rs
  have e : rkL (r :: rs) = [r.job, r.prio] ++ rkL rs := by simp [rkL]
  rw [e, sgn_app, ih, List.all_cons]
  rfl
theorem hold3_sgn (h : Int) : decide (0 ≤ hold3 h) = decide (-1 ≤ h) := by
 unfold hold3
 rw [Bool.eq_iff_iff]
 simp only [decide_eq_true_eq]
 split
 ·rename_i g
  rcases g with g | g <;> omega
 ·omega
theorem part_code {k : Int} {a : Ans} (h : a.code ≠ 0) : (partA k a = a ↔ blankB a = true) := by
 unfold partA
 rw [if_neg h]
 constructor
 ·intro e
  rw [← e]
  rfl
 ·intro e
  exact (blank_eq e).symm
theorem partK_own {k : Int} {a : Ans} (hk : ¬ (k < 1 ∨ 13 < k)) (hc : a.code = 0) : partK k a = ownA k a := by
 obtain ⟨c, i, es, j, rs, q0, q1, q2, q3, q4, q5, cf, bd⟩ := a
 simp only at hc
 subst hc
 have : k = 1 ∨ k = 2 ∨ k = 3 ∨ k = 4 ∨ k = 5 ∨ k = 6 ∨ k = 7 ∨ k = 8 ∨ k = 9 ∨ k = 10 ∨ k = 11 ∨ k = 12 ∨ k = 13 := by omega
 rcases this with rfl | rfl | rfl | rfl | rfl | rfl | rfl | rfl | rfl | rfl | rfl | rfl | rfl <;> rfl
theorem own_rest {k : Int} {a : Ans} (h : ownA k a = a) : blankB (restA k a) = true := by
 have e : restA k a = restA k (ownA k a) := by rw [h]
 rw [e]
 unfold restA ownA
 by_cases h1 : k = 1 ∨ k = 5
 ·cases hasB k <;> simp [restK, ownK, h1, blankB, bareJ, zA, zJ, zC]
 by_cases h9 : k = 9
 ·cases hasB k <;> simp [restK, ownK, h1, h9, blankB, bareJ, zA, zJ, zC]
 by_cases h10 : k = 10
 ·cases hasB k <;> simp [restK, ownK, h1, h9, h10, blankB, bareJ, zA, zJ, zC]
 by_cases h11 : k = 11
 ·cases hasB k <;> simp [restK, ownK, h1, h9, h10, h11, blankB, bareJ, zA, zJ, zC]
 by_cases h12 : k = 12
 ·cases hasB k <;> simp [restK, ownK, h1, h9, h10, h11, h12, blankB, bareJ, zA, zJ, zC]
 by_cases h13 : k = 13
 ·cases hasB k <;> simp [restK, ownK, h1, h9, h10, h11, h12, h13, blankB, bareJ, zA, zJ, zC]
 cases hasB k <;> simp [restK, ownK, h1, h9, h10, h11, h12, h13, blankB, bareJ, zA, zJ, zC]
theorem part_blank {k : Int} {a : Ans} (hk : ¬ (k < 1 ∨ 13 < k)) (hc : a.code = 0) : (partA k a = a ↔ blankB (restA k a) = true) := by
 unfold partA
 rw [if_pos hc, partK_own hk hc]
 exact ⟨own_rest, rest_own hc⟩
theorem own_job {k : Int} {a : Ans} (h9 : k ≠ 9) (h : ownA k a = a) : a.job = zJ := by
 rw [← h]
 unfold ownA ownK
 repeat' split
 all_goals first | rfl | (exfalso; omega) | contradiction
theorem ck_okA {k : Int} {a : Ans} (hk : ¬ (k < 1 ∨ 13 < k)) (hc : a.code = 0) (h : partA k a = a) : (numsOkB k a && a.events.all right) = okA k a := by
 have hb := (part_blank hk hc).1 h
 have hown : ownA k a = a := rest_own hc hb
 unfold numsOkB okA
 rw [hb, sgn_app, sgn_rkL]
 have h3 : sgn (ckL a) = (sgn [a.id, a.raw, a.free, a.shadow, a.bound] && decide (-1 ≤ a.holder) && sgn [a.job.acc, a.job.nodes, a.job.lim, a.job.sub, a.job.start, a.job.fin]) := by
  have hh := hold3_sgn a.holder
  simp only [ckL, sgn, List.all_cons, List.all_nil, Bool.and_true]
  rw [hh]
  generalize decide (0 ≤ a.id) = b1; generalize decide (0 ≤ a.raw) = b2; generalize decide (0 ≤ a.free) = b3; generalize decide (-1 ≤ a.holder) = b4; generalize decide (0 ≤ a.shadow) = b5; generalize decide (0 ≤ a.bound) = b6
  generalize decide (0 ≤ a.job.acc) = c1; generalize decide (0 ≤ a.job.nodes) = c2; generalize decide (0 ≤ a.job.lim) = c3; generalize decide (0 ≤ a.job.sub) = c4; generalize decide (0 ≤ a.job.start) = c5; generalize decide (0 ≤ a.job.fin) = c6
  cases b1 <;> cases b2 <;> cases b3 <;> cases b4 <;> cases b5 <;> cases b6 <;> simp
 rw [h3]
 generalize sgn [a.id, a.raw, a.free, a.shadow, a.bound] = b1
 generalize decide (-1 ≤ a.holder) = b2
 generalize a.ranks.all rkB = b3
 generalize a.events.all right = b4
 have hcf : sgn (cfL a.cfg) = sgn [a.cfg.c0, a.cfg.c1, a.cfg.c2, a.cfg.c3, a.cfg.c4, a.cfg.c5, a.cfg.c6, a.cfg.c7] := rfl
 rw [hcf]
 generalize sgn [a.cfg.c0, a.cfg.c1, a.cfg.c2, a.cfg.c3, a.cfg.c4, a.cfg.c5, a.cfg.c6, a.cfg.c7] = b5
 by_cases h9 : k = 9
 ·rw [if_pos h9]
  have e9 : (k == 9) = true := by simp [h9]
  rw [e9]
  have e : decide (stW a.job.st ≠ ⟨#[]⟩) = !decide (stW a.job.st = ⟨#[]⟩) := by simp
  rw [e]
  generalize decide (stW a.job.st = ⟨#[]⟩) = b6
  generalize sgn [a.job.acc, a.job.nodes, a.job.lim, a.job.sub, a.job.start, a.job.fin] = b7
  generalize ris a.job.set = b8
  cases b1 <;> cases b2 <;> cases b3 <;> cases b4 <;> cases b5 <;> cases b6 <;> cases b7 <;> cases b8 <;> rfl
 ·rw [if_neg h9]
  have e9 : (k == 9) = false := by simp [h9]
  rw [e9, own_job h9 hown]
  have e1 : sgn [zJ.acc, zJ.nodes, zJ.lim, zJ.sub, zJ.start, zJ.fin] = true := by decide
  have e2 : ris zJ.set = true := by decide
  rw [e1, e2]
  cases b1 <;> cases b2 <;> cases b3 <;> cases b4 <;> cases b5 <;> rfl
theorem refCk_eq (k : Int) (a : Ans) : refCk k a = checkA k a := by
 unfold refCk checkA
 by_cases hk : k < 1 ∨ 13 < k
 ·rw [if_pos hk, if_pos hk]
 ·rw [if_neg hk, if_neg hk]
  by_cases hc : a.code = 0
  ·rw [if_neg (show ¬ a.code ≠ 0 by simp [hc]), if_neg (show ¬ a.code ≠ 0 by simp [hc])]
   by_cases hp : partA k a = a
   ·rw [if_neg (by simp [hp]), ← ck_okA hk hc hp]
    cases numsOkB k a <;> simp
   ·rw [if_pos hp]
    have : okA k a = false := by
     cases ho : okA k a with
     | false => rfl
     | true =>
      unfold okA at ho
      simp only [Bool.and_eq_true] at ho
      exact absurd ((part_blank hk hc).2 ho.1.1.1.1.1.1) hp
    rw [this]
    rfl
  ·rw [if_pos (show a.code ≠ 0 from hc), if_pos (show a.code ≠ 0 from hc)]
   by_cases hp : partA k a = a
   ·rw [if_neg (by simp [hp])]
    have hb := (part_code hc).1 hp
    by_cases h1 : 1 ≤ a.code ∧ a.code ≤ 999
    ·rw [if_neg (show ¬ (a.code < 1 ∨ 999 < a.code) by omega), if_pos ⟨h1.1, h1.2, hb⟩]
    ·rw [if_pos (show a.code < 1 ∨ 999 < a.code by omega), if_neg (fun g => h1 ⟨g.1, g.2.1⟩)]
   ·rw [if_pos hp, if_neg (fun g => hp ((part_code hc).2 g.2.2))]
end Go.Proofs.An

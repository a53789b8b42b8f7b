/- Answers in memory; whether one is blank; one without a kind's fields. -/
import Derived.Test.YtdekbbffoaphhaaGreatDoorAnPkG
import Derived.Test.YtdekbbffoaphhaaGreatDoorAnAns
import Derived.Laws.StructEq
set_option linter.unusedVariables false
set_option linter.unusedSimpArgs false
set_option maxRecDepth 100000
set_option maxHeartbeats 8000000
namespace Go.Proofs.YtdekbbffoaphhaaGreatDoor
open Go.RowKit Go.Proofs.HL Go.Proofs.An
def jbV (j : Jb) (vs : Value) : Value := .agg #[.int .i64 j.acc, .int .i64 j.nodes, .int .i64 j.lim, .int .i64 j.sub, .int .i64 j.st, .int .i64 j.start, .int .i64 j.fin, vs]
def cfV (c : Cf) : Value := .agg #[.int .i64 c.c0, .int .i64 c.c1, .int .i64 c.c2, .int .i64 c.c3, .int .i64 c.c4, .int .i64 c.c5, .int .i64 c.c6, .int .i64 c.c7]
def ansV (a : Ans) (ve vs vr : Value) : Value := .agg #[.int .i64 a.code, .int .i64 a.id, ve, .int .i64 a.job.acc, .int .i64 a.job.nodes, .int .i64 a.job.lim, .int .i64 a.job.sub, .int .i64 a.job.st, .int .i64 a.job.start, .int .i64 a.job.fin, vs, vr, .int .i64 a.raw, .int .u64 a.usage, .int .u64 a.factor, .int .i64 a.free, .int .i64 a.holder, .int .i64 a.shadow, .int .i64 a.cfg.c0, .int .i64 a.cfg.c1, .int .i64 a.cfg.c2, .int .i64 a.cfg.c3, .int .i64 a.cfg.c4, .int .i64 a.cfg.c5, .int .i64 a.cfg.c6, .int .i64 a.cfg.c7, .int .i64 a.bound]
def boxJ (b : Nat) (j : Jb) (vs : Value) : At := blk b (.cells #[.int .i64 j.acc, .int .i64 j.nodes, .int .i64 j.lim, .int .i64 j.sub, .int .i64 j.st, .int .i64 j.start, .int .i64 j.fin, vs] 26)
def boxF (b : Nat) (c : Cf) : At := blk b (.cells #[.int .i64 c.c0, .int .i64 c.c1, .int .i64 c.c2, .int .i64 c.c3, .int .i64 c.c4, .int .i64 c.c5, .int .i64 c.c6, .int .i64 c.c7] 30)
def boxA (b : Nat) (a : Ans) (ve vs vr : Value) : At := blk b (.cells #[.int .i64 a.code, .int .i64 a.id, ve, .int .i64 a.job.acc, .int .i64 a.job.nodes, .int .i64 a.job.lim, .int .i64 a.job.sub, .int .i64 a.job.st, .int .i64 a.job.start, .int .i64 a.job.fin, vs, vr, .int .i64 a.raw, .int .u64 a.usage, .int .u64 a.factor, .int .i64 a.free, .int .i64 a.holder, .int .i64 a.shadow, .int .i64 a.cfg.c0, .int .i64 a.cfg.c1, .int .i64 a.cfg.c2, .int .i64 a.cfg.c3, .int .i64 a.cfg.c4, .int .i64 a.cfg.c5, .int .i64 a.cfg.c6, .int .i64 a.cfg.c7, .int .i64 a.bound] 32)
theorem cf_eql (c d : Cf) (w : World) : (binOp .eql 30 (cfV c) (cfV d)).run Tryz.prog w = .ok (.bool (decide (c = d))) w := by
 have hu : Tryz.prog.underlying 30 = some (.struct (Tryz.prog.fieldsOf 30)) := by kernel_rfl
 have hp : Tryz.prog.stoodInHeld 30 = false := by kernel_rfl
 unfold cfV
 rw [run_eql_struct, run_equalIn_agg _ _ _ _ _ hu hp]
 clear hu hp
 simp [go_sem]
 obtain ⟨x0, x1, x2, x3, x4, x5, x6, x7⟩ := c
 obtain ⟨y0, y1, y2, y3, y4, y5, y6, y7⟩ := d
 by_cases h0 : x0 = y0 <;> by_cases h1 : x1 = y1 <;> by_cases h2 : x2 = y2 <;> by_cases h3 : x3 = y3 <;> by_cases h4 : x4 = y4 <;> by_cases h5 : x5 = y5 <;> by_cases h6 : x6 = y6 <;> by_cases h7 : x7 = y7 <;> simp [h0, h1, h2, h3, h4, h5, h6, h7]
section
variable {w0 w : World} {L : List At}
theorem HL.allocJ (H : HL w0 w L) (j : Jb) (vs : Value) : HL w0 (w.alloc (.cells #[.int .i64 j.acc, .int .i64 j.nodes, .int .i64 j.lim, .int .i64 j.sub, .int .i64 j.st, .int .i64 j.start, .int .i64 j.fin, vs] 26)) (boxJ w.heap.size j vs :: L) := H.alloc _
theorem HL.allocF (H : HL w0 w L) (c : Cf) : HL w0 (w.alloc (.cells #[.int .i64 c.c0, .int .i64 c.c1, .int .i64 c.c2, .int .i64 c.c3, .int .i64 c.c4, .int .i64 c.c5, .int .i64 c.c6, .int .i64 c.c7] 30)) (boxF w.heap.size c :: L) := H.alloc _
theorem HL.allocA (H : HL w0 w L) (a : Ans) (ve vs vr : Value) : HL w0 (w.alloc (.cells #[.int .i64 a.code, .int .i64 a.id, ve, .int .i64 a.job.acc, .int .i64 a.job.nodes, .int .i64 a.job.lim, .int .i64 a.job.sub, .int .i64 a.job.st, .int .i64 a.job.start, .int .i64 a.job.fin, vs, vr, .int .i64 a.raw, .int .u64 a.usage, .int .u64 a.factor, .int .i64 a.free, .int .i64 a.holder, .int .i64 a.shadow, .int .i64 a.cfg.c0, .int .i64 a.cfg.c1, .int .i64 a.cfg.c2, .int .i64 a.cfg.c3, .int .i64 a.cfg.c4, .int .i64 a.cfg.c5, .int .i64 a.cfg.c6, .int .i64 a.cfg.c7, .int .i64 a.bound] 32)) (boxA w.heap.size a ve vs vr :: L) := H.alloc _
theorem boxJ_cells {b : Nat} {j : Jb} {vs : Value} (H : HL w0 w (boxJ b j vs :: L)) : w.cell? ⟨b, 0, none⟩ = some (.int .i64 j.acc) ∧ w.cell? ⟨b, 1, none⟩ = some (.int .i64 j.nodes) ∧ w.cell? ⟨b, 2, none⟩ = some (.int .i64 j.lim) ∧ w.cell? ⟨b, 3, none⟩ = some (.int .i64 j.sub) ∧ w.cell? ⟨b, 4, none⟩ = some (.int .i64 j.st) ∧ w.cell? ⟨b, 5, none⟩ = some (.int .i64 j.start) ∧ w.cell? ⟨b, 6, none⟩ = some (.int .i64 j.fin) ∧ w.cell? ⟨b, 7, none⟩ = some (vs) :=
 ⟨HL.cell H 0, HL.cell H 1, HL.cell H 2, HL.cell H 3, HL.cell H 4, HL.cell H 5, HL.cell H 6, HL.cell H 7⟩
theorem boxF_cells {b : Nat} {c : Cf} (H : HL w0 w (boxF b c :: L)) : w.cell? ⟨b, 0, none⟩ = some (.int .i64 c.c0) ∧ w.cell? ⟨b, 1, none⟩ = some (.int .i64 c.c1) ∧ w.cell? ⟨b, 2, none⟩ = some (.int .i64 c.c2) ∧ w.cell? ⟨b, 3, none⟩ = some (.int .i64 c.c3) ∧ w.cell? ⟨b, 4, none⟩ = some (.int .i64 c.c4) ∧ w.cell? ⟨b, 5, none⟩ = some (.int .i64 c.c5) ∧ w.cell? ⟨b, 6, none⟩ = some (.int .i64 c.c6) ∧ w.cell? ⟨b, 7, none⟩ = some (.int .i64 c.c7) :=
 ⟨HL.cell H 0, HL.cell H 1, HL.cell H 2, HL.cell H 3, HL.cell H 4, HL.cell H 5, HL.cell H 6, HL.cell H 7⟩
theorem boxA_cells {b : Nat} {a : Ans} {ve vs vr : Value} (H : HL w0 w (boxA b a ve vs vr :: L)) : w.cell? ⟨b, 0, none⟩ = some (.int .i64 a.code) ∧ w.cell? ⟨b, 1, none⟩ = some (.int .i64 a.id) ∧ w.cell? ⟨b, 2, none⟩ = some (ve) ∧ w.cell? ⟨b, 3, none⟩ = some (.int .i64 a.job.acc) ∧ w.cell? ⟨b, 4, none⟩ = some (.int .i64 a.job.nodes) ∧ w.cell? ⟨b, 5, none⟩ = some (.int .i64 a.job.lim) ∧ w.cell? ⟨b, 6, none⟩ = some (.int .i64 a.job.sub) ∧ w.cell? ⟨b, 7, none⟩ = some (.int .i64 a.job.st) ∧ w.cell? ⟨b, 8, none⟩ = some (.int .i64 a.job.start) ∧ w.cell? ⟨b, 9, none⟩ = some (.int .i64 a.job.fin) ∧ w.cell? ⟨b, 10, none⟩ = some (vs) ∧ w.cell? ⟨b, 11, none⟩ = some (vr) ∧ w.cell? ⟨b, 12, none⟩ = some (.int .i64 a.raw) ∧ w.cell? ⟨b, 13, none⟩ = some (.int .u64 a.usage) ∧ w.cell? ⟨b, 14, none⟩ = some (.int .u64 a.factor) ∧ w.cell? ⟨b, 15, none⟩ = some (.int .i64 a.free) ∧ w.cell? ⟨b, 16, none⟩ = some (.int .i64 a.holder) ∧ w.cell? ⟨b, 17, none⟩ = some (.int .i64 a.shadow) ∧ w.cell? ⟨b, 18, none⟩ = some (.int .i64 a.cfg.c0) ∧ w.cell? ⟨b, 19, none⟩ = some (.int .i64 a.cfg.c1) ∧ w.cell? ⟨b, 20, none⟩ = some (.int .i64 a.cfg.c2) ∧ w.cell? ⟨b, 21, none⟩ = some (.int .i64 a.cfg.c3) ∧ w.cell? ⟨b, 22, none⟩ = some (.int .i64 a.cfg.c4) ∧ w.cell? ⟨b, 23, none⟩ = some (.int .i64 a.cfg.c5) ∧ w.cell? ⟨b, 24, none⟩ = some (.int .i64 a.cfg.c6) ∧ w.cell? ⟨b, 25, none⟩ = some (.int .i64 a.cfg.c7) ∧ w.cell? ⟨b, 26, none⟩ = some (.int .i64 a.bound) :=
 ⟨HL.cell H 0, HL.cell H 1, HL.cell H 2, HL.cell H 3, HL.cell H 4, HL.cell H 5, HL.cell H 6, HL.cell H 7, HL.cell H 8, HL.cell H 9, HL.cell H 10, HL.cell H 11, HL.cell H 12, HL.cell H 13, HL.cell H 14, HL.cell H 15, HL.cell H 16, HL.cell H 17, HL.cell H 18, HL.cell H 19, HL.cell H 20, HL.cell H 21, HL.cell H 22, HL.cell H 23, HL.cell H 24, HL.cell H 25, HL.cell H 26⟩
theorem boxA_froz {b : Nat} {a : Ans} {ve vs vr : Value} (H : HL w0 w (boxA b a ve vs vr :: L)) : w.frozen? ⟨b, 0, none⟩ = false ∧ w.frozen? ⟨b, 1, none⟩ = false ∧ w.frozen? ⟨b, 2, none⟩ = false ∧ w.frozen? ⟨b, 3, none⟩ = false ∧ w.frozen? ⟨b, 4, none⟩ = false ∧ w.frozen? ⟨b, 5, none⟩ = false ∧ w.frozen? ⟨b, 6, none⟩ = false ∧ w.frozen? ⟨b, 7, none⟩ = false ∧ w.frozen? ⟨b, 8, none⟩ = false ∧ w.frozen? ⟨b, 9, none⟩ = false ∧ w.frozen? ⟨b, 10, none⟩ = false ∧ w.frozen? ⟨b, 11, none⟩ = false ∧ w.frozen? ⟨b, 12, none⟩ = false ∧ w.frozen? ⟨b, 13, none⟩ = false ∧ w.frozen? ⟨b, 14, none⟩ = false ∧ w.frozen? ⟨b, 15, none⟩ = false ∧ w.frozen? ⟨b, 16, none⟩ = false ∧ w.frozen? ⟨b, 17, none⟩ = false ∧ w.frozen? ⟨b, 18, none⟩ = false ∧ w.frozen? ⟨b, 19, none⟩ = false ∧ w.frozen? ⟨b, 20, none⟩ = false ∧ w.frozen? ⟨b, 21, none⟩ = false ∧ w.frozen? ⟨b, 22, none⟩ = false ∧ w.frozen? ⟨b, 23, none⟩ = false ∧ w.frozen? ⟨b, 24, none⟩ = false ∧ w.frozen? ⟨b, 25, none⟩ = false ∧ w.frozen? ⟨b, 26, none⟩ = false :=
 ⟨HL.frozen H 0, HL.frozen H 1, HL.frozen H 2, HL.frozen H 3, HL.frozen H 4, HL.frozen H 5, HL.frozen H 6, HL.frozen H 7, HL.frozen H 8, HL.frozen H 9, HL.frozen H 10, HL.frozen H 11, HL.frozen H 12, HL.frozen H 13, HL.frozen H 14, HL.frozen H 15, HL.frozen H 16, HL.frozen H 17, HL.frozen H 18, HL.frozen H 19, HL.frozen H 20, HL.frozen H 21, HL.frozen H 22, HL.frozen H 23, HL.frozen H 24, HL.frozen H 25, HL.frozen H 26⟩
theorem bare_ok (H : HL w0 w L) (j : Jb) (As : Option Addr) (cs : Nat) : Calls Tryz.prog 56 #[jbV j (.slice As j.set.length cs)] w fun r w' => r = .returned (.bool (bareJ j)) ∧ HL w0 w' L := by
 have H1 := HL.allocJ H j (.slice As j.set.length cs)
 obtain ⟨n0, n1, n2, n3, n4, n5, n6, n7⟩ := boxJ_cells H1
 obtain ⟨S, hS1, hS2⟩ : ∃ S, ((j.set.length : Int) == 0) = S ∧ (j.set.length == 0) = S := ⟨(j.set.length == 0), by rw [Bool.eq_iff_iff]; simp, rfl⟩
 have hd : bareJ j = (j.acc == 0 && j.nodes == 0 && j.lim == 0 && j.sub == 0 && j.st == 0 && j.start == 0 && j.fin == 0 && S) := by unfold bareJ; rw [hS2]
 unfold jbV
 generalize hb1 : w.heap.size = b1 at *
 clear H hS2
 go_enter Tryz.func56, Tryz.ntmps56
 go_upto_region 1 with (fail)
 generalize World.alloc _ _ = W at *
 have HB1 := Lib.hid hb1
 clear hb1
 cases g0 : (j.acc == 0)
 ·rw [g0] at hd
  have HD := Lib.hid hd
  clear hd
  go_wp2
  go_ret
  exact ⟨retBo (by rw [HD.out]; rfl), H1.tail⟩
 ·skip
  cases g1 : (j.nodes == 0)
  ·rw [g0, g1] at hd
   have HD := Lib.hid hd
   clear hd
   go_wp2
   go_ret
   exact ⟨retBo (by rw [HD.out]; rfl), H1.tail⟩
  ·skip
   cases g2 : (j.lim == 0)
   ·rw [g0, g1, g2] at hd
    have HD := Lib.hid hd
    clear hd
    go_wp2
    go_ret
    exact ⟨retBo (by rw [HD.out]; rfl), H1.tail⟩
   ·skip
    cases g3 : (j.sub == 0)
    ·rw [g0, g1, g2, g3] at hd
     have HD := Lib.hid hd
     clear hd
     go_wp2
     go_ret
     exact ⟨retBo (by rw [HD.out]; rfl), H1.tail⟩
    ·skip
     cases g4 : (j.st == 0)
     ·rw [g0, g1, g2, g3, g4] at hd
      have HD := Lib.hid hd
      clear hd
      go_wp2
      go_ret
      exact ⟨retBo (by rw [HD.out]; rfl), H1.tail⟩
     ·skip
      cases g5 : (j.start == 0)
      ·rw [g0, g1, g2, g3, g4, g5] at hd
       have HD := Lib.hid hd
       clear hd
       go_wp2
       go_ret
       exact ⟨retBo (by rw [HD.out]; rfl), H1.tail⟩
      ·skip
       cases g6 : (j.fin == 0)
       ·rw [g0, g1, g2, g3, g4, g5, g6] at hd
        have HD := Lib.hid hd
        clear hd
        go_wp2
        go_ret
        exact ⟨retBo (by rw [HD.out]; rfl), H1.tail⟩
       ·skip
        cases S
        ·rw [g0, g1, g2, g3, g4, g5, g6] at hd
         have HD := Lib.hid hd
         clear hd
         go_wp2
         go_ret
         exact ⟨retBo (by rw [HD.out]; rfl), H1.tail⟩
        ·skip
         rw [g0, g1, g2, g3, g4, g5, g6] at hd
         have HD := Lib.hid hd
         clear hd
         go_wp2
         go_ret
         exact ⟨retBo (by rw [HD.out]; rfl), H1.tail⟩
theorem blank_ok (H : HL w0 w L) (a : Ans) (Ae As Ar : Option Addr) (ce cs cr : Nat) : Calls Tryz.prog 24 #[ansV a (.slice Ae a.events.length ce) (.slice As a.job.set.length cs) (.slice Ar a.ranks.length cr)] w fun r w' => r = .returned (.bool (blankB a)) ∧ HL w0 w' L := by
 have H1 := HL.allocA H a (.slice Ae a.events.length ce) (.slice As a.job.set.length cs) (.slice Ar a.ranks.length cr)
 have hba := bare_ok H1 a.job As cs
 unfold jbV at hba
 obtain ⟨n0, n1, n2, n3, n4, n5, n6, n7, n8, n9, n10, n11, n12, n13, n14, n15, n16, n17, n18, n19, n20, n21, n22, n23, n24, n25, n26⟩ := boxA_cells H1
 obtain ⟨E, hE1, hE2⟩ : ∃ E, ((a.events.length : Int) == 0) = E ∧ (a.events.length == 0) = E := ⟨(a.events.length == 0), by rw [Bool.eq_iff_iff]; simp, rfl⟩
 obtain ⟨R, hR1, hR2⟩ : ∃ R, ((a.ranks.length : Int) == 0) = R ∧ (a.ranks.length == 0) = R := ⟨(a.ranks.length == 0), by rw [Bool.eq_iff_iff]; simp, rfl⟩
 obtain ⟨C, hC⟩ : ∃ C, decide (a.cfg = zC) = C := ⟨_, rfl⟩
 have hcf := fun W => cf_eql a.cfg zC W
 rw [hC] at hcf
 unfold cfV at hcf
 simp only [zC] at hcf
 have hd : blankB a = (a.id == 0 && E && bareJ a.job && R && a.raw == 0 && a.usage == 0 && a.factor == 0 && a.free == 0 && a.holder == 0 && a.shadow == 0 && C && a.bound == 0) := by unfold blankB; rw [hE2, hR2, hC]
 generalize bareJ a.job = B at *
 unfold ansV
 generalize hb1 : w.heap.size = b1 at *
 clear H hE2 hR2 hC
 go_enter Tryz.func24, Tryz.ntmps24
 go_upto_region 1 with (fail)
 generalize World.alloc _ _ = W at *
 have HB1 := Lib.hid hb1
 clear hb1
 cases g0 : (a.id == 0)
 ·rw [g0] at hd
  have HD := Lib.hid hd
  clear hd
  go_wp2
  go_ret
  exact ⟨retBo (by rw [HD.out]; rfl), H1.tail⟩
 ·skip
  cases E
  ·rw [g0] at hd
   have HD := Lib.hid hd
   clear hd
   go_wp2
   go_ret
   exact ⟨retBo (by rw [HD.out]; rfl), H1.tail⟩
  ·skip
   cases B
   ·rw [g0] at hd
    have HD := Lib.hid hd
    clear hd
    go_wp2_with (go_at_call 56; refine hba.mono ?_; rintro r w3 ⟨rfl, H3⟩; obtain ⟨m0, m1, m2, m3, m4, m5, m6, m7, m8, m9, m10, m11, m12, m13, m14, m15, m16, m17, m18, m19, m20, m21, m22, m23, m24, m25, m26⟩ := boxA_cells H3)
    go_ret
    exact ⟨retBo (by rw [HD.out]; rfl), H3.tail⟩
   ·skip
    cases R
    ·rw [g0] at hd
     have HD := Lib.hid hd
     clear hd
     go_wp2_with (go_at_call 56; refine hba.mono ?_; rintro r w3 ⟨rfl, H3⟩; obtain ⟨m0, m1, m2, m3, m4, m5, m6, m7, m8, m9, m10, m11, m12, m13, m14, m15, m16, m17, m18, m19, m20, m21, m22, m23, m24, m25, m26⟩ := boxA_cells H3)
     go_ret
     exact ⟨retBo (by rw [HD.out]; rfl), H3.tail⟩
    ·skip
     cases g1 : (a.raw == 0)
     ·rw [g0, g1] at hd
      have HD := Lib.hid hd
      clear hd
      go_wp2_with (go_at_call 56; refine hba.mono ?_; rintro r w3 ⟨rfl, H3⟩; obtain ⟨m0, m1, m2, m3, m4, m5, m6, m7, m8, m9, m10, m11, m12, m13, m14, m15, m16, m17, m18, m19, m20, m21, m22, m23, m24, m25, m26⟩ := boxA_cells H3)
      go_ret
      exact ⟨retBo (by rw [HD.out]; rfl), H3.tail⟩
     ·skip
      cases g2 : (a.usage == 0)
      ·rw [g0, g1, g2] at hd
       have HD := Lib.hid hd
       clear hd
       go_wp2_with (go_at_call 56; refine hba.mono ?_; rintro r w3 ⟨rfl, H3⟩; obtain ⟨m0, m1, m2, m3, m4, m5, m6, m7, m8, m9, m10, m11, m12, m13, m14, m15, m16, m17, m18, m19, m20, m21, m22, m23, m24, m25, m26⟩ := boxA_cells H3)
       go_ret
       exact ⟨retBo (by rw [HD.out]; rfl), H3.tail⟩
      ·skip
       cases g3 : (a.factor == 0)
       ·rw [g0, g1, g2, g3] at hd
        have HD := Lib.hid hd
        clear hd
        go_wp2_with (go_at_call 56; refine hba.mono ?_; rintro r w3 ⟨rfl, H3⟩; obtain ⟨m0, m1, m2, m3, m4, m5, m6, m7, m8, m9, m10, m11, m12, m13, m14, m15, m16, m17, m18, m19, m20, m21, m22, m23, m24, m25, m26⟩ := boxA_cells H3)
        go_ret
        exact ⟨retBo (by rw [HD.out]; rfl), H3.tail⟩
       ·skip
        cases g4 : (a.free == 0)
        ·rw [g0, g1, g2, g3, g4] at hd
         have HD := Lib.hid hd
         clear hd
         go_wp2_with (go_at_call 56; refine hba.mono ?_; rintro r w3 ⟨rfl, H3⟩; obtain ⟨m0, m1, m2, m3, m4, m5, m6, m7, m8, m9, m10, m11, m12, m13, m14, m15, m16, m17, m18, m19, m20, m21, m22, m23, m24, m25, m26⟩ := boxA_cells H3)
         go_ret
         exact ⟨retBo (by rw [HD.out]; rfl), H3.tail⟩
        ·skip
         cases g5 : (a.holder == 0)
         ·rw [g0, g1, g2, g3, g4, g5] at hd
          have HD := Lib.hid hd
          clear hd
          go_wp2_with (go_at_call 56; refine hba.mono ?_; rintro r w3 ⟨rfl, H3⟩; obtain ⟨m0, m1, m2, m3, m4, m5, m6, m7, m8, m9, m10, m11, m12, m13, m14, m15, m16, m17, m18, m19, m20, m21, m22, m23, m24, m25, m26⟩ := boxA_cells H3)
          go_ret
          exact ⟨retBo (by rw [HD.out]; rfl), H3.tail⟩
         ·skip
          cases g6 : (a.shadow == 0)
          ·rw [g0, g1, g2, g3, g4, g5, g6] at hd
           have HD := Lib.hid hd
           clear hd
           go_wp2_with (go_at_call 56; refine hba.mono ?_; rintro r w3 ⟨rfl, H3⟩; obtain ⟨m0, m1, m2, m3, m4, m5, m6, m7, m8, m9, m10, m11, m12, m13, m14, m15, m16, m17, m18, m19, m20, m21, m22, m23, m24, m25, m26⟩ := boxA_cells H3)
           go_ret
           exact ⟨retBo (by rw [HD.out]; rfl), H3.tail⟩
          ·skip
           cases C
           ·rw [g0, g1, g2, g3, g4, g5, g6] at hd
            have HD := Lib.hid hd
            clear hd
            go_wp2_with (go_at_call 56; refine hba.mono ?_; rintro r w3 ⟨rfl, H3⟩; obtain ⟨m0, m1, m2, m3, m4, m5, m6, m7, m8, m9, m10, m11, m12, m13, m14, m15, m16, m17, m18, m19, m20, m21, m22, m23, m24, m25, m26⟩ := boxA_cells H3)
            go_ret
            exact ⟨retBo (by rw [HD.out]; rfl), H3.tail⟩
           ·skip
            cases g9 : (a.bound == 0)
            ·rw [g0, g1, g2, g3, g4, g5, g6, g9] at hd
             have HD := Lib.hid hd
             clear hd
             go_wp2_with (go_at_call 56; refine hba.mono ?_; rintro r w3 ⟨rfl, H3⟩; obtain ⟨m0, m1, m2, m3, m4, m5, m6, m7, m8, m9, m10, m11, m12, m13, m14, m15, m16, m17, m18, m19, m20, m21, m22, m23, m24, m25, m26⟩ := boxA_cells H3)
             go_ret
             exact ⟨retBo (by rw [HD.out]; rfl), H3.tail⟩
            ·skip
             rw [g0, g1, g2, g3, g4, g5, g6, g9] at hd
             have HD := Lib.hid hd
             clear hd
             go_wp2_with (go_at_call 56; refine hba.mono ?_; rintro r w3 ⟨rfl, H3⟩; obtain ⟨m0, m1, m2, m3, m4, m5, m6, m7, m8, m9, m10, m11, m12, m13, m14, m15, m16, m17, m18, m19, m20, m21, m22, m23, m24, m25, m26⟩ := boxA_cells H3)
             go_ret
             exact ⟨retBo (by rw [HD.out]; rfl), H3.tail⟩
theorem has_ok (k : Int) (w : World) : Calls Tryz.prog 41 #[.int .i64 k] w fun r w' => r = .returned (.bool (hasB k)) ∧ w = w' := by
 have hd : hasB k = (k == 1 || k == 2 || k == 3 || k == 4) := rfl
 cases g1 : (k == 1)
 ·cases g2 : (k == 2)
  ·cases g3 : (k == 3)
   ·rw [g1, g2, g3] at hd
    have HD := Lib.hid hd
    clear hd
    go_enter Tryz.func41, Tryz.ntmps41
    go_wp2
    go_ret
    exact ⟨retBo (by rw [HD.out]; rfl), rfl⟩
   ·rw [g1, g2, g3] at hd
    have HD := Lib.hid hd
    clear hd
    go_enter Tryz.func41, Tryz.ntmps41
    go_wp2
    go_ret
    exact ⟨retBo (by rw [HD.out]; rfl), rfl⟩
  ·rw [g1, g2] at hd
   have HD := Lib.hid hd
   clear hd
   go_enter Tryz.func41, Tryz.ntmps41
   go_wp2
   go_ret
   exact ⟨retBo (by rw [HD.out]; rfl), rfl⟩
 ·rw [g1] at hd
  have HD := Lib.hid hd
  clear hd
  go_enter Tryz.func41, Tryz.ntmps41
  go_wp2
  go_ret
  exact ⟨retBo (by rw [HD.out]; rfl), rfl⟩
end
end Go.Proofs.YtdekbbffoaphhaaGreatDoor

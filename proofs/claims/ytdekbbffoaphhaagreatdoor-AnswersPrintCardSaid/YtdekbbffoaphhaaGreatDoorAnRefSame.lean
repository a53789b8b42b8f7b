/- Whether two answers are alike: the reference's way. -/
import Derived.Test.YtdekbbffoaphhaaGreatDoorAnPkA
import Derived.Test.YtdekbbffoaphhaaGreatDoorAnCheck
set_option linter.unusedVariables false
set_option linter.unusedSimpArgs false
set_option maxRecDepth 100000
set_option maxHeartbeats 8000000
namespace Go.Proofs.An
theorem sameB_eq (e f : Ev) : sameB e f = decide (e = f) := by
 obtain ⟨a1, a2, a3, a4, a5, a6⟩ := e
 obtain ⟨b1, b2, b3, b4, b5, b6⟩ := f
 rw [Bool.eq_iff_iff]
 simp [sameB, and_assoc]
def jobsB (j i : Jb) : Bool := j.acc == i.acc && j.nodes == i.nodes && j.lim == i.lim && j.sub == i.sub && j.st == i.st && j.start == i.start && j.fin == i.fin && decide (j.set = i.set)
theorem jobsB_eq (j i : Jb) : jobsB j i = decide (j = i) := by
 obtain ⟨a1, a2, a3, a4, a5, a6, a7, a8⟩ := j
 obtain ⟨b1, b2, b3, b4, b5, b6, b7, b8⟩ := i
 rw [Bool.eq_iff_iff]
 simp [jobsB, and_assoc]
theorem jobsB_last {j i : Jb} (h0 : (j.acc == i.acc) = true) (h1 : (j.nodes == i.nodes) = true) (h2 : (j.lim == i.lim) = true) (h3 : (j.sub == i.sub) = true) (h4 : (j.st == i.st) = true) (h5 : (j.start == i.start) = true) (h6 : (j.fin == i.fin) = true) : jobsB j i = decide (j.set = i.set) := by
 simp only [jobsB, h0, h1, h2, h3, h4, h5, h6, Bool.true_and]
/-- Two answers alike, field by field. -/
def sameA (a b : Ans) : Bool := a.code == b.code && a.id == b.id && a.raw == b.raw && a.usage == b.usage && a.factor == b.factor && a.free == b.free && a.holder == b.holder && a.shadow == b.shadow && decide (a.cfg = b.cfg) && a.bound == b.bound && jobsB a.job b.job && decide (a.ranks = b.ranks) && decide (a.events = b.events)
theorem sameA_eq (a b : Ans) : sameA a b = decide (a = b) := by
 obtain ⟨a1, a2, a3, a4, a5, a6, a7, a8, a9, a10, a11, a12, a13⟩ := a
 obtain ⟨b1, b2, b3, b4, b5, b6, b7, b8, b9, b10, b11, b12, b13⟩ := b
 rw [Bool.eq_iff_iff]
 simp only [sameA, jobsB_eq, Bool.and_eq_true, beq_iff_eq, decide_eq_true_eq, Ans.mk.injEq]
 constructor
 ·rintro ⟨⟨⟨⟨⟨⟨⟨⟨⟨⟨⟨⟨h1, h2⟩, h3⟩, h4⟩, h5⟩, h6⟩, h7⟩, h8⟩, h9⟩, h10⟩, h11⟩, h12⟩, h13⟩
  exact ⟨h1, h2, h13, h11, h12, h3, h4, h5, h6, h7, h8, h9, h10⟩
 ·rintro ⟨h1, h2, h13, h11, h12, h3, h4, h5, h6, h7, h8, h9, h10⟩
  exact ⟨⟨⟨⟨⟨⟨⟨⟨⟨⟨⟨⟨h1, h2⟩, h3⟩, h4⟩, h5⟩, h6⟩, h7⟩, h8⟩, h9⟩, h10⟩, h11⟩, h12⟩, h13⟩
theorem takeG_step {α : Type} {l m : List α} {k : Nat} {x y : α} (hx : l[k]? = some x) (hy : m[k]? = some y) (h : l.take k = m.take k) (e : x = y) : l.take (k + 1) = m.take (k + 1) := by
 rw [List.take_add_one, List.take_add_one, hx, hy, h, e]
theorem takeG_no {α : Type} {l m : List α} {k : Nat} {x y : α} (hx : l[k]? = some x) (hy : m[k]? = some y) (e : x ≠ y) : l ≠ m := by
 rintro rfl
 rw [hx] at hy
 exact e (Option.some.inj hy)
theorem takeG_all {α : Type} {l m : List α} {k : Nat} (hk : l.length ≤ k) (hlm : l.length = m.length) (h : l.take k = m.take k) : l = m := by
 rwa [List.take_of_length_le hk, List.take_of_length_le (by omega)] at h
theorem sameA_code {a b : Ans} (h : (a.code == b.code) = false) : sameA a b = false := by simp [sameA, h]
theorem sameA_id {a b : Ans} (h : (a.id == b.id) = false) : sameA a b = false := by simp [sameA, h]
theorem sameA_raw {a b : Ans} (h : (a.raw == b.raw) = false) : sameA a b = false := by simp [sameA, h]
theorem sameA_usage {a b : Ans} (h : (a.usage == b.usage) = false) : sameA a b = false := by simp [sameA, h]
theorem sameA_factor {a b : Ans} (h : (a.factor == b.factor) = false) : sameA a b = false := by simp [sameA, h]
theorem sameA_free {a b : Ans} (h : (a.free == b.free) = false) : sameA a b = false := by simp [sameA, h]
theorem sameA_holder {a b : Ans} (h : (a.holder == b.holder) = false) : sameA a b = false := by simp [sameA, h]
theorem sameA_shadow {a b : Ans} (h : (a.shadow == b.shadow) = false) : sameA a b = false := by simp [sameA, h]
theorem sameA_bound {a b : Ans} (h : (a.bound == b.bound) = false) : sameA a b = false := by simp [sameA, h]
theorem sameA_cfg {a b : Ans} (h : decide (a.cfg = b.cfg) = false) : sameA a b = false := by simp only [sameA, h, Bool.and_false, Bool.false_and]
theorem sameA_job {a b : Ans} (h : jobsB a.job b.job = false) : sameA a b = false := by simp only [sameA, h, Bool.and_false, Bool.false_and]
theorem sameA_ranks {a b : Ans} (h : a.ranks ≠ b.ranks) : sameA a b = false := by simp [sameA, h]
theorem sameA_events {a b : Ans} (h : a.events ≠ b.events) : sameA a b = false := by simp [sameA, h]
theorem jobsB_acc {j i : Jb} (h : (j.acc == i.acc) = false) : jobsB j i = false := by simp [jobsB, h]
theorem jobsB_nodes {j i : Jb} (h : (j.nodes == i.nodes) = false) : jobsB j i = false := by simp [jobsB, h]
theorem jobsB_lim {j i : Jb} (h : (j.lim == i.lim) = false) : jobsB j i = false := by simp [jobsB, h]
theorem jobsB_sub {j i : Jb} (h : (j.sub == i.sub) = false) : jobsB j i = false := by simp [jobsB, h]
theorem jobsB_st {j i : Jb} (h : (j.st == i.st) = false) : jobsB j i = false := by simp [jobsB, h]
theorem jobsB_start {j i : Jb} (h : (j.start == i.start) = false) : jobsB j i = false := by simp [jobsB, h]
theorem jobsB_fin {j i : Jb} (h : (j.fin == i.fin) = false) : jobsB j i = false := by simp [jobsB, h]
theorem sameA_last {a b : Ans} (h0 : (a.code == b.code) = true) (h1 : (a.id == b.id) = true) (h2 : (a.raw == b.raw) = true) (h3 : (a.usage == b.usage) = true) (h4 : (a.factor == b.factor) = true) (h5 : (a.free == b.free) = true) (h6 : (a.holder == b.holder) = true) (h7 : (a.shadow == b.shadow) = true) (h8 : decide (a.cfg = b.cfg) = true) (h9 : (a.bound == b.bound) = true) (h10 : jobsB a.job b.job = true) (h11 : a.ranks = b.ranks) (h12 : a.events = b.events) : sameA a b = true := by
 simp only [sameA, h0, h1, h2, h3, h4, h5, h6, h7, h8, h9, h10, h11, h12, decide_true, Bool.true_and]
end Go.Proofs.An
namespace Go.Proofs.YtdekbbffoaphhaaGreatDoor
open Go.RowKit Go.Proofs.HL Go.Proofs.An
theorem cf_neq (c d : Cf) (w : World) : (binOp .neq 30 (cfV c) (cfV d)).run Tryz.prog w = .ok (.bool (!decide (c = d))) w := by
 have h := cf_eql c d w
 unfold cfV at h ⊢
 rw [run_eql_struct] at h
 rw [run_neq_struct]
 revert h
 generalize (Op.equalIn 10000 _ _ _).run Tryz.prog w = r
 cases r with
 | ok b w2 => intro h; simp only [Result.andThen_ok, Result.ok.injEq, Value.bool.injEq] at h ⊢; obtain ⟨rfl, rfl⟩ := h; exact ⟨rfl, rfl⟩
 | halt x w2 => intro h; simp [Result.andThen] at h
theorem rk_neq (c d : Rk) (w : World) : (binOp .neq 62 (.agg #[.int .i64 c.job, .int .i64 c.prio]) (.agg #[.int .i64 d.job, .int .i64 d.prio])).run Tryz.prog w = .ok (.bool (!decide (c = d))) w := by
 have hu : Tryz.prog.underlying 62 = some (.struct (Tryz.prog.fieldsOf 62)) := by kernel_rfl
 have hp : Tryz.prog.stoodInHeld 62 = false := by kernel_rfl
 rw [run_neq_struct, run_equalIn_agg _ _ _ _ _ hu hp]
 clear hu hp
 simp [go_sem]
 obtain ⟨x0, x1⟩ := c
 obtain ⟨y0, y1⟩ := d
 by_cases h0 : x0 = y0 <;> by_cases h1 : x1 = y1 <;> simp [h0, h1]
section
variable {w0 w : World} {L : List At}
theorem Ref.jobs_ok (H : HL w0 w L) (j i : Jb) (v v' : Value) (h : Ints w0 L v j.set) (h' : Ints w0 L v' i.set) :
  Calls Tryz.prog 36 #[jbV j v, jbV i v'] w fun r w' => r = .returned (.bool (jobsB j i)) ∧ HL w0 w' L := by
 obtain ⟨A, c, rfl, hc1, hc2⟩ := rd_shape (h w H)
 obtain ⟨A', c', rfl, hc1', hc2'⟩ := rd_shape (h' w H)
 unfold maxLen at hc2 hc2'
 have H1 := HL.allocJ H j (.slice A j.set.length c)
 have H2 := HL.allocJ H1 i (.slice A' i.set.length c')
 rw [World.size_alloc] at H2
 obtain ⟨n0, n1, n2, n3, n4, n5, n6, n7⟩ := boxJ_cells H2.tail
 obtain ⟨m0, m1, m2, m3, m4, m5, m6, m7⟩ := boxJ_cells H2
 unfold jbV
 have g := (h.cons (boxJ w.heap.size j (.slice A j.set.length c))).cons (boxJ (w.heap.size + 1) i (.slice A' i.set.length c'))
 have g' := (h'.cons (boxJ w.heap.size j (.slice A j.set.length c))).cons (boxJ (w.heap.size + 1) i (.slice A' i.set.length c'))
 clear h h' H H1
 go_enter Tryz.func36, Tryz.ntmps36
 go_upto_region 1 with (fail)
 generalize World.alloc (World.alloc _ _) _ = W at *
 generalize w.heap.size = b at *
 cases h0 : (j.acc == i.acc)
 case false =>
  have HB := Lib.hid (jobsB_acc h0)
  clear g g'
  go_wp2
  go_ret
  exact ⟨retBo HB.out, H2.tail.tail⟩
 cases h1 : (j.nodes == i.nodes)
 case false =>
  have HB := Lib.hid (jobsB_nodes h1)
  clear g g'
  go_wp2
  go_ret
  exact ⟨retBo HB.out, H2.tail.tail⟩
 cases h2 : (j.lim == i.lim)
 case false =>
  have HB := Lib.hid (jobsB_lim h2)
  clear g g'
  go_wp2
  go_ret
  exact ⟨retBo HB.out, H2.tail.tail⟩
 cases h3 : (j.sub == i.sub)
 case false =>
  have HB := Lib.hid (jobsB_sub h3)
  clear g g'
  go_wp2
  go_ret
  exact ⟨retBo HB.out, H2.tail.tail⟩
 cases h4 : (j.st == i.st)
 case false =>
  have HB := Lib.hid (jobsB_st h4)
  clear g g'
  go_wp2
  go_ret
  exact ⟨retBo HB.out, H2.tail.tail⟩
 cases h5 : (j.start == i.start)
 case false =>
  have HB := Lib.hid (jobsB_start h5)
  clear g g'
  go_wp2
  go_ret
  exact ⟨retBo HB.out, H2.tail.tail⟩
 cases h6 : (j.fin == i.fin)
 case false =>
  have HB := Lib.hid (jobsB_fin h6)
  clear g g'
  go_wp2
  go_ret
  exact ⟨retBo HB.out, H2.tail.tail⟩
 have HB := Lib.hid (jobsB_last h0 h1 h2 h3 h4 h5 h6)
 have hcall := Ref.numbers_ok H2 g g'
 clear g g' H2
 go_wp2_with (go_at_call 58; refine hcall.mono ?_; rintro r wr ⟨rfl, HK⟩)
 go_ret
 exact ⟨retBo HB.out, HK.tail.tail⟩
theorem Ref.Same_ok (H : HL w0 w L) (a d : Ans) (Ae As Ar Ae' As' Ar' : Option Addr) (ce cs cr ce' cs' cr' : Nat) {ps qs : List (Ev × Value)} (hps : a.events = ps.map (·.1)) (hqs : d.events = qs.map (·.1))
  (hE : Evs w0 L (.slice Ae a.events.length ce) ps) (hI : Ints w0 L (.slice As a.job.set.length cs) a.job.set) (hR : Rks w0 L (.slice Ar a.ranks.length cr) a.ranks)
  (hE' : Evs w0 L (.slice Ae' d.events.length ce') qs) (hI' : Ints w0 L (.slice As' d.job.set.length cs') d.job.set) (hR' : Rks w0 L (.slice Ar' d.ranks.length cr') d.ranks) :
  Calls Tryz.prog 12 #[ansV a (.slice Ae a.events.length ce) (.slice As a.job.set.length cs) (.slice Ar a.ranks.length cr), ansV d (.slice Ae' d.events.length ce') (.slice As' d.job.set.length cs') (.slice Ar' d.ranks.length cr')] w fun r w' => r = .returned (.bool (sameA a d)) ∧ HL w0 w' L := by
 have H1 := HL.allocA H a (.slice Ae a.events.length ce) (.slice As a.job.set.length cs) (.slice Ar a.ranks.length cr)
 have H2 := HL.allocA H1 d (.slice Ae' d.events.length ce') (.slice As' d.job.set.length cs') (.slice Ar' d.ranks.length cr')
 rw [World.size_alloc] at H2
 have hE2 := (hE.cons (boxA w.heap.size a (.slice Ae a.events.length ce) (.slice As a.job.set.length cs) (.slice Ar a.ranks.length cr))).cons (boxA (w.heap.size + 1) d (.slice Ae' d.events.length ce') (.slice As' d.job.set.length cs') (.slice Ar' d.ranks.length cr'))
 have hI2 := (hI.cons (boxA w.heap.size a (.slice Ae a.events.length ce) (.slice As a.job.set.length cs) (.slice Ar a.ranks.length cr))).cons (boxA (w.heap.size + 1) d (.slice Ae' d.events.length ce') (.slice As' d.job.set.length cs') (.slice Ar' d.ranks.length cr'))
 have hR2 := (hR.cons (boxA w.heap.size a (.slice Ae a.events.length ce) (.slice As a.job.set.length cs) (.slice Ar a.ranks.length cr))).cons (boxA (w.heap.size + 1) d (.slice Ae' d.events.length ce') (.slice As' d.job.set.length cs') (.slice Ar' d.ranks.length cr'))
 have gE2 := (hE'.cons (boxA w.heap.size a (.slice Ae a.events.length ce) (.slice As a.job.set.length cs) (.slice Ar a.ranks.length cr))).cons (boxA (w.heap.size + 1) d (.slice Ae' d.events.length ce') (.slice As' d.job.set.length cs') (.slice Ar' d.ranks.length cr'))
 have gI2 := (hI'.cons (boxA w.heap.size a (.slice Ae a.events.length ce) (.slice As a.job.set.length cs) (.slice Ar a.ranks.length cr))).cons (boxA (w.heap.size + 1) d (.slice Ae' d.events.length ce') (.slice As' d.job.set.length cs') (.slice Ar' d.ranks.length cr'))
 have gR2 := (hR'.cons (boxA w.heap.size a (.slice Ae a.events.length ce) (.slice As a.job.set.length cs) (.slice Ar a.ranks.length cr))).cons (boxA (w.heap.size + 1) d (.slice Ae' d.events.length ce') (.slice As' d.job.set.length cs') (.slice Ar' d.ranks.length cr'))
 have hjb := Ref.jobs_ok H2 a.job d.job _ _ hI2 gI2
 obtain ⟨-, -, ad1, cc1, hv1, hcc1, hcc2, -, -⟩ := hR2 _ H2
 simp only [Value.slice.injEq] at hv1
 obtain ⟨rfl, -, rfl⟩ := hv1
 obtain ⟨-, -, ad1, cc1, hv1, hcc3, hcc4, -, -⟩ := gR2 _ H2
 simp only [Value.slice.injEq] at hv1
 obtain ⟨rfl, -, rfl⟩ := hv1
 obtain ⟨-, -, ad1, cc1, hv1, hcc5, hcc6, -, -⟩ := hE2.rd _ H2
 simp only [Value.slice.injEq] at hv1
 obtain ⟨rfl, hpl, rfl⟩ := hv1
 obtain ⟨-, -, ad1, cc1, hv1, hcc7, hcc8, -, -⟩ := gE2.rd _ H2
 simp only [Value.slice.injEq] at hv1
 obtain ⟨rfl, hql, rfl⟩ := hv1
 unfold maxLen at hcc2 hcc4 hcc6 hcc8
 rw [← hpl] at hcc5
 rw [← hql] at hcc7
 have HPS := Lib.hid hps; have HQS := Lib.hid hqs; have HE := Lib.hid hE2; have HR := Lib.hid hR2; have GE := Lib.hid gE2; have GR := Lib.hid gR2; have HPL := Lib.hid hpl; have HQL := Lib.hid hql
 clear hps hqs hE hI hR hE' hI' hR' hE2 hI2 hR2 gE2 gI2 gR2 H H1 hpl hql
 obtain ⟨n0, n1, n2, n3, n4, n5, n6, n7, n8, n9, n10, n11, n12, n13, n14, n15, n16, n17, n18, n19, n20, n21, n22, n23, n24, n25, n26⟩ := boxA_cells H2.tail
 obtain ⟨m0, m1, m2, m3, m4, m5, m6, m7, m8, m9, m10, m11, m12, m13, m14, m15, m16, m17, m18, m19, m20, m21, m22, m23, m24, m25, m26⟩ := boxA_cells H2
 obtain ⟨C, hC⟩ : ∃ C, decide (a.cfg = d.cfg) = C := ⟨_, rfl⟩
 have hcf := fun W => cf_neq a.cfg d.cfg W
 rw [hC] at hcf
 have HC := Lib.hid hC
 unfold cfV at hcf
 unfold jbV at hjb
 unfold ansV
 clear hC
 go_enter Tryz.func12, Tryz.ntmps12
 go_upto_region 1 with (fail)
 generalize World.alloc (World.alloc _ _) _ = W at *
 generalize w.heap.size = b at *
 cases q0 : (a.code != d.code)
 case true =>
  have HB := Lib.hid (sameA_code (a := a) (b := d) (by simpa [bne] using q0))
  clear hjb
  go_wp2
  go_ret
  exact ⟨retBo HB.out, H2.tail.tail⟩
 have E0 := Lib.hid (show (a.code == d.code) = true by simpa [bne] using q0)
 cases q1 : (a.id != d.id)
 case true =>
  have HB := Lib.hid (sameA_id (a := a) (b := d) (by simpa [bne] using q1))
  clear hjb
  go_wp2
  go_ret
  exact ⟨retBo HB.out, H2.tail.tail⟩
 have E1 := Lib.hid (show (a.id == d.id) = true by simpa [bne] using q1)
 cases q2 : (a.raw != d.raw)
 case true =>
  have HB := Lib.hid (sameA_raw (a := a) (b := d) (by simpa [bne] using q2))
  clear hjb
  go_wp2
  go_ret
  exact ⟨retBo HB.out, H2.tail.tail⟩
 have E2 := Lib.hid (show (a.raw == d.raw) = true by simpa [bne] using q2)
 cases q3 : (a.usage != d.usage)
 case true =>
  have HB := Lib.hid (sameA_usage (a := a) (b := d) (by simpa [bne] using q3))
  clear hjb
  go_wp2
  go_ret
  exact ⟨retBo HB.out, H2.tail.tail⟩
 have E3 := Lib.hid (show (a.usage == d.usage) = true by simpa [bne] using q3)
 cases q4 : (a.factor != d.factor)
 case true =>
  have HB := Lib.hid (sameA_factor (a := a) (b := d) (by simpa [bne] using q4))
  clear hjb
  go_wp2
  go_ret
  exact ⟨retBo HB.out, H2.tail.tail⟩
 have E4 := Lib.hid (show (a.factor == d.factor) = true by simpa [bne] using q4)
 cases q5 : (a.free != d.free)
 case true =>
  have HB := Lib.hid (sameA_free (a := a) (b := d) (by simpa [bne] using q5))
  clear hjb
  go_wp2
  go_ret
  exact ⟨retBo HB.out, H2.tail.tail⟩
 have E5 := Lib.hid (show (a.free == d.free) = true by simpa [bne] using q5)
 cases q6 : (a.holder != d.holder)
 case true =>
  have HB := Lib.hid (sameA_holder (a := a) (b := d) (by simpa [bne] using q6))
  clear hjb
  go_wp2
  go_ret
  exact ⟨retBo HB.out, H2.tail.tail⟩
 have E6 := Lib.hid (show (a.holder == d.holder) = true by simpa [bne] using q6)
 cases q7 : (a.shadow != d.shadow)
 case true =>
  have HB := Lib.hid (sameA_shadow (a := a) (b := d) (by simpa [bne] using q7))
  clear hjb
  go_wp2
  go_ret
  exact ⟨retBo HB.out, H2.tail.tail⟩
 have E7 := Lib.hid (show (a.shadow == d.shadow) = true by simpa [bne] using q7)
 cases C
 case false =>
  have HB := Lib.hid (sameA_cfg (a := a) (b := d) HC.out)
  clear hjb
  go_wp2
  go_ret
  exact ⟨retBo HB.out, H2.tail.tail⟩
 have E8 := HC
 cases q9 : (a.bound != d.bound)
 case true =>
  have HB := Lib.hid (sameA_bound (a := a) (b := d) (by simpa [bne] using q9))
  clear hjb
  go_wp2
  go_ret
  exact ⟨retBo HB.out, H2.tail.tail⟩
 have E9 := Lib.hid (show (a.bound == d.bound) = true by simpa [bne] using q9)
 clear HC
 go_upto_region 3 with (fail)
 obtain ⟨B, hB⟩ : ∃ B, jobsB a.job d.job = B := ⟨_, rfl⟩
 rw [hB] at hjb
 have HJ := Lib.hid hB
 clear hB
 have hc2 := fun W' (HW : HL w0 W' (boxA (b + 1) d (.slice Ae' d.events.length ce') (.slice As' d.job.set.length cs') (.slice Ar' d.ranks.length cr') :: boxA b a (.slice Ae a.events.length ce) (.slice As a.job.set.length cs) (.slice Ar a.ranks.length cr) :: L)) => HL.cell HW 2
 have hc11 := fun W' (HW : HL w0 W' (boxA (b + 1) d (.slice Ae' d.events.length ce') (.slice As' d.job.set.length cs') (.slice Ar' d.ranks.length cr') :: boxA b a (.slice Ae a.events.length ce) (.slice As a.job.set.length cs) (.slice Ar a.ranks.length cr) :: L)) => HL.cell HW 11
 have gc2 := fun W' (HW : HL w0 W' (boxA (b + 1) d (.slice Ae' d.events.length ce') (.slice As' d.job.set.length cs') (.slice Ar' d.ranks.length cr') :: boxA b a (.slice Ae a.events.length ce) (.slice As a.job.set.length cs) (.slice Ar a.ranks.length cr) :: L)) => HL.cell HW.tail 2
 have gc11 := fun W' (HW : HL w0 W' (boxA (b + 1) d (.slice Ae' d.events.length ce') (.slice As' d.job.set.length cs') (.slice Ar' d.ranks.length cr') :: boxA b a (.slice Ae a.events.length ce) (.slice As a.job.set.length cs) (.slice Ar a.ranks.length cr) :: L)) => HL.cell HW.tail 11
 have HC2 := Lib.hid hc2; have HC11 := Lib.hid hc11; have GC2 := Lib.hid gc2; have GC11 := Lib.hid gc11
 clear hc2 hc11 gc2 gc11
 cases B
 case false =>
  have HB := Lib.hid (sameA_job (a := a) (b := d) HJ.out)
  go_wp2_with (go_at_call 36; refine hjb.mono ?_; rintro r w3 ⟨rfl, H3⟩; clear hjb H2 n0 n1 n2 n3 n4 n5 n6 n7 n8 n9 n10 n11 n12 n13 n14 n15 n16 n17 n18 n19 n20 n21 n22 n23 n24 n25 n26 m0 m1 m2 m3 m4 m5 m6 m7 m8 m9 m10 m11 m12 m13 m14 m15 m16 m17 m18 m19 m20 m21 m22 m23 m24 m25 m26; have c2 : w3.cell? ⟨b + 1, 2, none⟩ = some (.slice Ae' d.events.length ce') := HC2.out _ H3; have c11 : w3.cell? ⟨b + 1, 11, none⟩ = some (.slice Ar' d.ranks.length cr') := HC11.out _ H3; have g2 : w3.cell? ⟨b, 2, none⟩ = some (.slice Ae a.events.length ce) := GC2.out _ H3; have g11 : w3.cell? ⟨b, 11, none⟩ = some (.slice Ar a.ranks.length cr) := GC11.out _ H3)
  go_ret
  exact ⟨retBo HB.out, H3.tail.tail⟩
 by_cases hrl : a.ranks.length = d.ranks.length
 case neg =>
  have q10 : ((a.ranks.length : Int) != (d.ranks.length : Int)) = true := by simp; omega
  have HB := Lib.hid (sameA_ranks (a := a) (b := d) (fun e => hrl (by rw [e])))
  go_wp2_with (go_at_call 36; refine hjb.mono ?_; rintro r w3 ⟨rfl, H3⟩; clear hjb H2 n0 n1 n2 n3 n4 n5 n6 n7 n8 n9 n10 n11 n12 n13 n14 n15 n16 n17 n18 n19 n20 n21 n22 n23 n24 n25 n26 m0 m1 m2 m3 m4 m5 m6 m7 m8 m9 m10 m11 m12 m13 m14 m15 m16 m17 m18 m19 m20 m21 m22 m23 m24 m25 m26; have c2 : w3.cell? ⟨b + 1, 2, none⟩ = some (.slice Ae' d.events.length ce') := HC2.out _ H3; have c11 : w3.cell? ⟨b + 1, 11, none⟩ = some (.slice Ar' d.ranks.length cr') := HC11.out _ H3; have g2 : w3.cell? ⟨b, 2, none⟩ = some (.slice Ae a.events.length ce) := GC2.out _ H3; have g11 : w3.cell? ⟨b, 11, none⟩ = some (.slice Ar a.ranks.length cr) := GC11.out _ H3)
  go_ret
  exact ⟨retBo HB.out, H3.tail.tail⟩
 have q10 : ((a.ranks.length : Int) != (d.ranks.length : Int)) = false := by simp [hrl]
 have HRL := Lib.hid hrl
 by_cases hel : a.events.length = d.events.length
 case neg =>
  have q11 : ((a.events.length : Int) != (d.events.length : Int)) = true := by simp; omega
  have HB := Lib.hid (sameA_events (a := a) (b := d) (fun e => hel (by rw [e])))
  go_wp2_with (go_at_call 36; refine hjb.mono ?_; rintro r w3 ⟨rfl, H3⟩; clear hjb H2 n0 n1 n2 n3 n4 n5 n6 n7 n8 n9 n10 n11 n12 n13 n14 n15 n16 n17 n18 n19 n20 n21 n22 n23 n24 n25 n26 m0 m1 m2 m3 m4 m5 m6 m7 m8 m9 m10 m11 m12 m13 m14 m15 m16 m17 m18 m19 m20 m21 m22 m23 m24 m25 m26; have c2 : w3.cell? ⟨b + 1, 2, none⟩ = some (.slice Ae' d.events.length ce') := HC2.out _ H3; have c11 : w3.cell? ⟨b + 1, 11, none⟩ = some (.slice Ar' d.ranks.length cr') := HC11.out _ H3; have g2 : w3.cell? ⟨b, 2, none⟩ = some (.slice Ae a.events.length ce) := GC2.out _ H3; have g11 : w3.cell? ⟨b, 11, none⟩ = some (.slice Ar a.ranks.length cr) := GC11.out _ H3)
  go_ret
  exact ⟨retBo HB.out, H3.tail.tail⟩
 have q11 : ((a.events.length : Int) != (d.events.length : Int)) = false := by simp [hel]
 have HEL := Lib.hid hel
 clear hel hrl
 go_upto_block 0 with (go_at_call 36; refine hjb.mono ?_; rintro r w3 ⟨rfl, H3⟩; clear hjb H2 n0 n1 n2 n3 n4 n5 n6 n7 n8 n9 n10 n11 n12 n13 n14 n15 n16 n17 n18 n19 n20 n21 n22 n23 n24 n25 n26 m0 m1 m2 m3 m4 m5 m6 m7 m8 m9 m10 m11 m12 m13 m14 m15 m16 m17 m18 m19 m20 m21 m22 m23 m24 m25 m26; have c2 : w3.cell? ⟨b + 1, 2, none⟩ = some (.slice Ae' d.events.length ce') := HC2.out _ H3; have c11 : w3.cell? ⟨b + 1, 11, none⟩ = some (.slice Ar' d.ranks.length cr') := HC11.out _ H3; have g2 : w3.cell? ⟨b, 2, none⟩ = some (.slice Ae a.events.length ce) := GC2.out _ H3; have g11 : w3.cell? ⟨b, 11, none⟩ = some (.slice Ar a.ranks.length cr) := GC11.out _ H3)
 clear c2 c11 g2 g11 q10 q11
 go_wp2
 go_loopg [102] a.ranks.length (fun g i wr => ∃ k : Nat, i = .int .i64 k ∧ k + g = a.ranks.length ∧ a.ranks.take k = d.ranks.take k ∧ HL w0 wr (boxA (b + 1) d (.slice Ae' d.events.length ce') (.slice As' d.job.set.length cs') (.slice Ar' d.ranks.length cr') :: boxA b a (.slice Ae a.events.length ce) (.slice As a.job.set.length cs) (.slice Ar a.ranks.length cr) :: L))
 case atStart => exact ⟨0, rfl, by omega, rfl, H3⟩
 case round =>
  obtain ⟨k, rfl, hk, hno, HK⟩ := hrel
  have HNO := Lib.hid hno
  clear hno H3
  by_cases hlt : k < a.ranks.length
  ·obtain ⟨x, hx⟩ : ∃ x, a.ranks[k]? = some x := ⟨_, List.getElem?_eq_getElem hlt⟩
   obtain ⟨y, hy⟩ : ∃ y, d.ranks[k]? = some y := ⟨_, List.getElem?_eq_getElem (by rw [← HRL.out]; exact hlt)⟩
   obtain ⟨b1, o1, c1, hv, d0, d1⟩ := rk_at (HR.out _ HK) hx
   obtain ⟨b2, o2, c2, hv2, e0, e1⟩ := rk_at (GR.out _ HK) hy
   simp only [Value.slice.injEq] at hv hv2
   obtain ⟨rfl, -, rfl⟩ := hv
   obtain ⟨rfl, -, rfl⟩ := hv2
   have hlt' : k < d.ranks.length := by rw [← HRL.out]; exact hlt
   have c11 : wr.cell? ⟨b + 1, 11, none⟩ = some (.slice (some ⟨b2, o2, none⟩) d.ranks.length cr') := HL.cell HK 11
   have g11 : wr.cell? ⟨b, 11, none⟩ = some (.slice (some ⟨b1, o1, none⟩) a.ranks.length cr) := HL.cell HK.tail 11
   by_cases hn : x = y
   ·have HN := Lib.hid (takeG_step hx hy HNO.out hn)
    have hxy := fun W => rk_neq x y W
    rw [decide_eq_true hn, Bool.not_true] at hxy
    clear hx hy hn
    go_wp2
    go_quiet (fail)
    go_wp2
    go_roundg (gk - 1)
    case measure => omega
    case rel => exact ⟨k + 1, by go_num, by omega, HN.out, HK.drewN _⟩
   ·have HN := Lib.hid (sameA_ranks (a := a) (b := d) (takeG_no hx hy hn))
    have hxy := fun W => rk_neq x y W
    rw [decide_eq_false hn, Bool.not_false] at hxy
    clear hx hy hn
    go_wp2
    go_quiet (fail)
    go_wp2
    go_ret
    exact ⟨retBo HN.out, (HK.drewN _).tail.tail⟩
  ·have HRK := Lib.hid (takeG_all (by omega) HRL.out HNO.out)
   have c2 : wr.cell? ⟨b + 1, 2, none⟩ = some (.slice Ae' d.events.length ce') := HL.cell HK 2
   have g2 : wr.cell? ⟨b, 2, none⟩ = some (.slice Ae a.events.length ce) := HL.cell HK.tail 2
   go_wp2
   clear c2 g2
   go_loopg [120] a.events.length (fun g i wq => ∃ k : Nat, i = .int .i64 k ∧ k + g = a.events.length ∧ a.events.take k = d.events.take k ∧ HL w0 wq (boxA (b + 1) d (.slice Ae' d.events.length ce') (.slice As' d.job.set.length cs') (.slice Ar' d.ranks.length cr') :: boxA b a (.slice Ae a.events.length ce) (.slice As a.job.set.length cs) (.slice Ar a.ranks.length cr) :: L))
   case atStart => exact ⟨0, rfl, by omega, rfl, HK⟩
   case round =>
    obtain ⟨n, rfl, hn1, hno, HQ⟩ := hrel
    have HN1 := Lib.hid hno
    clear hno HK
    by_cases hlt2 : n < a.events.length
    ·obtain ⟨⟨x, v⟩, hx⟩ : ∃ x, ps[n]? = some x := ⟨_, List.getElem?_eq_getElem (by rw [← HPL.out]; exact hlt2)⟩
     obtain ⟨⟨y, v'⟩, hy⟩ : ∃ y, qs[n]? = some y := ⟨_, List.getElem?_eq_getElem (by rw [← HQL.out, ← HEL.out]; exact hlt2)⟩
     have hax : a.events[n]? = some x := by rw [HPS.out, List.getElem?_map, hx]; rfl
     have hdy : d.events[n]? = some y := by rw [HQS.out, List.getElem?_map, hy]; rfl
     obtain ⟨b1, o1, c1, hv, d0, d1, d2, d3, d4, d5⟩ := ev_at (HE.out.rd _ HQ) hx
     obtain ⟨b2, o2, c2, hv2, e0, e1, e2, e3, e4, e5⟩ := ev_at (GE.out.rd _ HQ) hy
     simp only [Value.slice.injEq] at hv hv2
     obtain ⟨rfl, -, rfl⟩ := hv
     obtain ⟨rfl, -, rfl⟩ := hv2
     dsimp only at d0 d1 d2 d3 d4 d5 e0 e1 e2 e3 e4 e5
     have hlt2' : n < d.events.length := by rw [← HEL.out]; exact hlt2
     have c2 : wr.cell? ⟨b + 1, 2, none⟩ = some (.slice (some ⟨b2, o2, none⟩) d.events.length ce') := HL.cell HQ 2
     have g2 : wr.cell? ⟨b, 2, none⟩ = some (.slice (some ⟨b1, o1, none⟩) a.events.length ce) := HL.cell HQ.tail 2
     have hoa := HE.out.own (x, v) (List.mem_of_getElem? hx)
     have hod := GE.out.own (y, v') (List.mem_of_getElem? hy)
     dsimp only at hoa hod
     obtain ⟨Ax, cx, rfl, -, -⟩ := rd_shape (hoa _ HQ)
     obtain ⟨Ay, cy, rfl, -, -⟩ := rd_shape (hod _ HQ)
     have hsm := fun W' HW => Ref.same_ok (w := W') HW x y _ _ hoa hod
     rw [sameB_eq] at hsm
     have HAX := Lib.hid hax; have HDY := Lib.hid hdy
     unfold evV at hsm
     clear hx hy hax hdy hoa hod
     obtain ⟨B, hB⟩ : ∃ B, decide (x = y) = B := ⟨_, rfl⟩
     rw [hB] at hsm
     have HBD := Lib.hid hB
     clear hB
     go_upto_region 14 with (fail)
     refine wp_region_cut 10 (by kernel_rfl) (by kernel_rfl) ?_
     simp only [List.take_succ_cons, List.take_zero, List.drop_succ_cons, List.drop_zero]
     repeat (go_big_quiet_step ((fail)))
     refine wpQuiet_nil ?_
     intro nq
     have Hd := HQ.drewN nq
     clear HQ c2 g2 d0 d1 d2 d3 d4 d5 e0 e1 e2 e3 e4 e5
     generalize World.drewN _ nq = Wd at *
     cases B
     case false =>
      have HN := Lib.hid (sameA_events (a := a) (b := d) (takeG_no HAX.out HDY.out (of_decide_eq_false HBD.out)))
      go_wp2_with (go_at_call 37; refine (hsm _ Hd).mono ?_; rintro r w7 ⟨rfl, H7⟩)
      go_ret
      exact ⟨retBo HN.out, H7.tail.tail⟩
     case true =>
      have HN := Lib.hid (takeG_step HAX.out HDY.out HN1.out (of_decide_eq_true HBD.out))
      go_wp2_with (go_at_call 37; refine (hsm _ Hd).mono ?_; rintro r w7 ⟨rfl, H7⟩; clear Hd)
      go_roundg (gk - 1)
      case measure => omega
      case rel => exact ⟨n + 1, by go_num, by omega, HN.out, H7⟩
    ·have HEV := Lib.hid (takeG_all (by omega) HEL.out HN1.out)
     have HY := Lib.hid (sameA_last (a := a) (b := d) E0.out E1.out E2.out E3.out E4.out E5.out E6.out E7.out E8.out E9.out HJ.out HRK.out HEV.out)
     go_wp2
     go_ret
     exact ⟨retBo HY.out, HQ.tail.tail⟩
end
end Go.Proofs.YtdekbbffoaphhaaGreatDoor

/- Which answers may be. -/
import Derived.Test.YtdekbbffoaphhaaGreatDoorAnZip
import Derived.Test.YtdekbbffoaphhaaGreatDoorAnRest
import Derived.Deep.RegionHeld3
import Derived.OrdersHeld
set_option linter.unusedVariables false
set_option linter.unusedSimpArgs false
set_option maxRecDepth 100000
set_option maxHeartbeats 8000000
namespace Go.Proofs.HL
open Go.RowKit
/-- A whole struct loaded where a guard lets it be. -/
theorem wpList_load_if {P : Program} {ops : Array Oper} {rest : List Oper} {o : Oper} {a : Act} {w : World} {Q : Exit → Act → World → Prop} (hw : Region.wanted o (yielded ops a.tmps) = true) (ty : TypeId) (x : Operand) (ho : o.op = .load ty x)
  (g : Nat) (hx : a.eval x = .pointer (some ⟨g, 0, none⟩)) (t : TypeId) (cs : Array Value) (fr : Nat × Nat) (d : TypeDesc) (hg : w.heap[g]? = some (.cells cs t fr))
  (hu : P.underlying ty = some d) (hd : (match d with | .struct _ | .array _ _ => true | _ => false) = true) (hi : (P.info? ty).map (·.size) = some cs.size)
  (h : wpList P ops Q rest (a.put o.dst (.agg cs)) w) : wpList P ops Q (o :: rest) a w := by
 unfold wpList
 rw [if_pos hw]
 exact .inl (wp_load_row ty x ho g hx t cs fr d hg hu hd hi h)
end Go.Proofs.HL
namespace Go.Proofs.YtdekbbffoaphhaaGreatDoor
open Go.RowKit Go.Proofs.HL Go.Proofs.An
def jbA (j : Jb) (vs : Value) : Array Value := #[.int .i64 j.acc, .int .i64 j.nodes, .int .i64 j.lim, .int .i64 j.sub, .int .i64 j.st, .int .i64 j.start, .int .i64 j.fin, vs]
def cfA (c : Cf) : Array Value := #[.int .i64 c.c0, .int .i64 c.c1, .int .i64 c.c2, .int .i64 c.c3, .int .i64 c.c4, .int .i64 c.c5, .int .i64 c.c6, .int .i64 c.c7]
theorem jbA_size (j : Jb) (vs : Value) : (Tryz.prog.info? 26).map (·.size) = some (jbA j vs).size := by
 rw [show (jbA j vs).size = 8 from rfl]
 kernel_rfl
theorem cfA_size (c : Cf) : (Tryz.prog.info? 30).map (·.size) = some (cfA c).size := by
 rw [show (cfA c).size = 8 from rfl]
 kernel_rfl
theorem jbA_one (j : Jb) (As : Option Addr) (ns cs : Nat) : (jbA j (.slice As ns cs)).all (·.oneCell') = true := by simp [jbA, Value.oneCell']
theorem cfA_one (c : Cf) : (cfA c).all (·.oneCell') = true := by simp [cfA, Value.oneCell']
section
variable {w0 w : World} {L : List At}
theorem isEmpty_str (s : ByteArray) : s.toList.isEmpty = !decide (s ≠ ⟨#[]⟩) := by
 by_cases h : s = ⟨#[]⟩
 ·rw [h]; decide +kernel
 ·rw [decide_eq_true h]
  have : s.toList ≠ [] := fun e => h (bytesSame (e.trans (by decide +kernel)))
  cases hs : s.toList with
  | nil => exact absurd hs this
  | cons x r => rfl
def rkC (r : Rk) : List Value := [.int .i64 r.job, .int .i64 r.prio]
abbrev Rks (w0 : World) (L : List At) (v : Value) (rs : List Rk) : Prop := Ent w0 L (Rd 2 v rs.length (rs.flatMap rkC))
def evC2 (p : Ev × Value) : List Value := [.int .i64 p.1.kind, .int .i64 p.1.job, .int .i64 p.1.tm, .int .i64 p.1.nd, .int .i64 p.1.lm, p.2]
/-- A list of events: their cells; each one's own list. -/
structure Evs (w0 : World) (L : List At) (v : Value) (ps : List (Ev × Value)) : Prop where
 rd : Ent w0 L (Rd 6 v ps.length (ps.flatMap evC2))
 own : ∀ p ∈ ps, Ints w0 L p.2 p.1.list
theorem Evs.cons {v : Value} {ps : List (Ev × Value)} (h : Evs w0 L v ps) (A : At) : Evs w0 (A :: L) v ps := ⟨Ent.cons h.rd A, fun p hp => Ent.cons (h.own p hp) A⟩
theorem rk_at {w : World} {v : Value} {l : List Rk} (h : Rd 2 v l.length (l.flatMap rkC) w) {k : Nat} {x : Rk} (hx : l[k]? = some x) :
  ∃ b o c, v = .slice (some ⟨b, o, none⟩) l.length c ∧ w.cell? ⟨b, o + k * 2, none⟩ = some (.int .i64 x.job) ∧ w.cell? ⟨b, o + k * 2 + 1, none⟩ = some (.int .i64 x.prio) := by
 obtain ⟨b, o, c, h1, -, -, h2⟩ := rd_elem rkC 2 (fun _ => rfl) (by decide) h hx
 exact ⟨b, o, c, h1, h2 0 _ rfl, h2 1 _ rfl⟩
theorem ev_at {w : World} {v : Value} {l : List (Ev × Value)} (h : Rd 6 v l.length (l.flatMap evC2) w) {k : Nat} {x : Ev × Value} (hx : l[k]? = some x) :
  ∃ b o c, v = .slice (some ⟨b, o, none⟩) l.length c ∧ w.cell? ⟨b, o + k * 6, none⟩ = some (.int .i64 x.1.kind) ∧ w.cell? ⟨b, o + k * 6 + 1, none⟩ = some (.int .i64 x.1.job) ∧ w.cell? ⟨b, o + k * 6 + 2, none⟩ = some (.int .i64 x.1.tm) ∧
   w.cell? ⟨b, o + k * 6 + 3, none⟩ = some (.int .i64 x.1.nd) ∧ w.cell? ⟨b, o + k * 6 + 4, none⟩ = some (.int .i64 x.1.lm) ∧ w.cell? ⟨b, o + k * 6 + 5, none⟩ = some x.2 := by
 obtain ⟨b, o, c, h1, -, -, h2⟩ := rd_elem evC2 6 (fun _ => rfl) (by decide) h hx
 exact ⟨b, o, c, h1, h2 0 _ rfl, h2 1 _ rfl, h2 2 _ rfl, h2 3 _ rfl, h2 4 _ rfl, h2 5 _ rfl⟩
theorem check_out (H : HL w0 w L) (k : Int) (a : Ans) (hk : k < 1 ∨ 13 < k) (Ae As Ar : Option Addr) (ce cs cr : Nat) {ps : List (Ev × Value)} (hps : a.events = ps.map (·.1)) (hE : Evs w0 L (.slice Ae a.events.length ce) ps) (hI : Ints w0 L (.slice As a.job.set.length cs) a.job.set) (hR : Rks w0 L (.slice Ar a.ranks.length cr) a.ranks) :
  Calls Tryz.prog 10 #[.int .i64 k, ansV a (.slice Ae a.events.length ce) (.slice As a.job.set.length cs) (.slice Ar a.ranks.length cr)] w fun r w' => r = .returned (.int .i64 (checkA k a)) ∧ HL w0 w' L := by
 have H1 := HL.allocA H a (.slice Ae a.events.length ce) (.slice As a.job.set.length cs) (.slice Ar a.ranks.length cr)
 have hbl := blank_ok H1 a Ae As Ar ce cs cr
 unfold ansV at *
 generalize hb1 : w.heap.size = b1 at *
 have HPS := Lib.hid hps
 clear H hps
 have hc : checkA k a = 90 := by unfold checkA; rw [if_pos hk]
 have HC := Lib.hid hc
 clear hc
 rcases hk with hk | hk
 ·go_enter Tryz.func10, Tryz.ntmps10
  go_wp2
  go_ret
  exact ⟨retIn HC.out, H1.tail⟩
 ·go_enter Tryz.func10, Tryz.ntmps10
  go_wp2
  go_ret
  exact ⟨retIn HC.out, H1.tail⟩
theorem check_err (H : HL w0 w L) (k : Int) (a : Ans) (hk : ¬ (k < 1 ∨ 13 < k)) (hcd : a.code ≠ 0) (Ae As Ar : Option Addr) (ce cs cr : Nat) {ps : List (Ev × Value)} (hps : a.events = ps.map (·.1)) (hE : Evs w0 L (.slice Ae a.events.length ce) ps) (hI : Ints w0 L (.slice As a.job.set.length cs) a.job.set) (hR : Rks w0 L (.slice Ar a.ranks.length cr) a.ranks) :
  Calls Tryz.prog 10 #[.int .i64 k, ansV a (.slice Ae a.events.length ce) (.slice As a.job.set.length cs) (.slice Ar a.ranks.length cr)] w fun r w' => r = .returned (.int .i64 (checkA k a)) ∧ HL w0 w' L := by
 have H1 := HL.allocA H a (.slice Ae a.events.length ce) (.slice As a.job.set.length cs) (.slice Ar a.ranks.length cr)
 have hbl := blank_ok H1 a Ae As Ar ce cs cr
 unfold ansV at *
 generalize hb1 : w.heap.size = b1 at *
 have HPS := Lib.hid hps
 clear H hps
 have hq : (a.code != 0) = true := by simp [hcd]
 have hk1 : ¬ k < 1 := fun h => hk (.inl h)
 have hk2 : ¬ 13 < k := fun h => hk (.inr h)
 have hc : checkA k a = if 1 ≤ a.code ∧ a.code ≤ 999 ∧ blankB a = true then 0 else 90 := by unfold checkA; rw [if_neg hk, if_pos hcd]
 have n0 := HL.cell H1 0
 have G1 : _ = some (Obj.cells (ansA a (.slice Ae a.events.length ce) (.slice As a.job.set.length cs) (.slice Ar a.ranks.length cr)) 32 (0, 0)) := H1.head
 have hbl2 : Calls Tryz.prog 24 #[.agg (ansA a (.slice Ae a.events.length ce) (.slice As a.job.set.length cs) (.slice Ar a.ranks.length cr))] _ _ := hbl
 obtain ⟨B, hB⟩ : ∃ B, blankB a = B := ⟨_, rfl⟩
 rw [hB] at hbl2 hc
 by_cases m1 : a.code < 1
 ·rw [if_neg (by omega)] at hc
  have HC := Lib.hid hc
  clear hc hk hcd hbl hbl2 hB G1
  go_enter Tryz.func10, Tryz.ntmps10
  go_wp2
  go_ret
  exact ⟨retIn HC.out, H1.tail⟩
 ·by_cases m2 : 999 < a.code
  ·rw [if_neg (by omega)] at hc
   have HC := Lib.hid hc
   clear hc hk hcd hbl hbl2 hB G1
   go_enter Tryz.func10, Tryz.ntmps10
   go_wp2
   go_ret
   exact ⟨retIn HC.out, H1.tail⟩
  ·cases B
   ·rw [if_neg (by simp)] at hc
    have HC := Lib.hid hc
    clear hc hk hcd hB hbl
    go_enter Tryz.func10, Tryz.ntmps10
    go_wp2_with (first
    | (have g1 := G1; refine wpList_load_if (by rfl) 32 _ rfl b1 rfl 32 _ (0, 0) _ g1 Tryz.underlying32 rfl (ansA_size _ _ _ _) ?_; clear g1 G1)
    | (go_at_call 24; (with_reducible refine hbl2.mono ?_); rintro r w3 ⟨rfl, H3⟩))
    go_ret
    exact ⟨retIn HC.out, H3.tail⟩
   ·rw [if_pos ⟨by omega, by omega, rfl⟩] at hc
    have HC := Lib.hid hc
    clear hc hk hcd hB hbl
    go_enter Tryz.func10, Tryz.ntmps10
    go_wp2_with (first
    | (have g1 := G1; refine wpList_load_if (by rfl) 32 _ rfl b1 rfl 32 _ (0, 0) _ g1 Tryz.underlying32 rfl (ansA_size _ _ _ _) ?_; clear g1 G1)
    | (go_at_call 24; (with_reducible refine hbl2.mono ?_); rintro r w3 ⟨rfl, H3⟩))
    go_ret
    exact ⟨retIn HC.out, H3.tail⟩
theorem check_main (H : HL w0 w L) (k : Int) (a : Ans) (hk : ¬ (k < 1 ∨ 13 < k)) (hcd : a.code = 0) (Ae As Ar : Option Addr) (ce cs cr : Nat) {ps : List (Ev × Value)} (hps : a.events = ps.map (·.1)) (hE : Evs w0 L (.slice Ae a.events.length ce) ps) (hI : Ints w0 L (.slice As a.job.set.length cs) a.job.set) (hR : Rks w0 L (.slice Ar a.ranks.length cr) a.ranks) :
  Calls Tryz.prog 10 #[.int .i64 k, ansV a (.slice Ae a.events.length ce) (.slice As a.job.set.length cs) (.slice Ar a.ranks.length cr)] w fun r w' => r = .returned (.int .i64 (checkA k a)) ∧ HL w0 w' L := by
 have H1 := HL.allocA H a (.slice Ae a.events.length ce) (.slice As a.job.set.length cs) (.slice Ar a.ranks.length cr)
 have hbl := blank_ok H1 a Ae As Ar ce cs cr
 unfold ansV at *
 generalize hb1 : w.heap.size = b1 at *
 have HPS := Lib.hid hps
 clear H hps
 have hq : (a.code != 0) = false := by simp [hcd]
 have hc : checkA k a = if okA k a then 0 else 90 := by unfold checkA; rw [if_neg hk, if_neg (by simp [hcd])]
 have HC := Lib.hid hc
 have hk1 : ¬ k < 1 := fun h => hk (.inl h)
 have hk2 : ¬ 13 < k := fun h => hk (.inr h)
 clear hc hk hcd
 go_enter Tryz.func10, Tryz.ntmps10
 have n0 := HL.cell H1 0
 go_upto_region 7 with (fail)
 clear n0 hbl
 have HB1 := Lib.hid hb1
 clear hb1
 generalize World.alloc _ _ = W at *
 obtain ⟨B1, hB1⟩ : ∃ B, blankB (restA k a) = B := ⟨_, rfl⟩
 obtain ⟨B2, hB2⟩ : ∃ B, sgn [a.id, a.raw, a.free, a.shadow, a.bound] = B := ⟨_, rfl⟩
 obtain ⟨B3, hB3⟩ : ∃ B, sgn [a.cfg.c0, a.cfg.c1, a.cfg.c2, a.cfg.c3, a.cfg.c4, a.cfg.c5, a.cfg.c6, a.cfg.c7] = B := ⟨_, rfl⟩
 obtain ⟨B4, hB4⟩ : ∃ B, decide (-1 ≤ a.holder) = B := ⟨_, rfl⟩
 obtain ⟨J, hJ⟩ : ∃ J, (if k = 9 then sgn [a.job.acc, a.job.nodes, a.job.lim, a.job.sub, a.job.start, a.job.fin] && decide (stW a.job.st ≠ ⟨#[]⟩) && ris a.job.set else true) = J := ⟨_, rfl⟩
 have hC1 : okA k a = (B1 && B2 && B3 && B4 && J && a.ranks.all rkB && a.events.all right) := by unfold okA; rw [hB1, hB2, hB3, hB4, hJ]
 go_cut [5, 6] (fun t5 t6 wc => ∃ b5 b6, t5 = .pointer (some ⟨b5, 0, none⟩) ∧ t6 = .pointer (some ⟨b6, 0, none⟩) ∧ HL w0 wc (boxJ b5 a.job (.slice As a.job.set.length cs) :: boxF b6 a.cfg :: boxA b1 a (.slice Ae a.events.length ce) (.slice As a.job.set.length cs) (.slice Ar a.ranks.length cr) :: L))
 case first =>
  have hS : ∀ W' L', HL w0 W' (boxA b1 a (.slice Ae a.events.length ce) (.slice As a.job.set.length cs) (.slice Ar a.ranks.length cr) :: L') → W'.cell? ⟨b1, 3, none⟩ = some (.int .i64 a.job.acc) ∧ W'.cell? ⟨b1, 4, none⟩ = some (.int .i64 a.job.nodes) ∧ W'.cell? ⟨b1, 5, none⟩ = some (.int .i64 a.job.lim) ∧ W'.cell? ⟨b1, 6, none⟩ = some (.int .i64 a.job.sub) ∧ W'.cell? ⟨b1, 7, none⟩ = some (.int .i64 a.job.st) ∧ W'.cell? ⟨b1, 8, none⟩ = some (.int .i64 a.job.start) ∧ W'.cell? ⟨b1, 9, none⟩ = some (.int .i64 a.job.fin) ∧ W'.cell? ⟨b1, 10, none⟩ = some (.slice As a.job.set.length cs) ∧ W'.cell? ⟨b1, 18, none⟩ = some (.int .i64 a.cfg.c0) ∧ W'.cell? ⟨b1, 19, none⟩ = some (.int .i64 a.cfg.c1) ∧ W'.cell? ⟨b1, 20, none⟩ = some (.int .i64 a.cfg.c2) ∧ W'.cell? ⟨b1, 21, none⟩ = some (.int .i64 a.cfg.c3) ∧ W'.cell? ⟨b1, 22, none⟩ = some (.int .i64 a.cfg.c4) ∧ W'.cell? ⟨b1, 23, none⟩ = some (.int .i64 a.cfg.c5) ∧ W'.cell? ⟨b1, 24, none⟩ = some (.int .i64 a.cfg.c6) ∧ W'.cell? ⟨b1, 25, none⟩ = some (.int .i64 a.cfg.c7) := fun W' L' HW => ⟨HL.cell HW 3, HL.cell HW 4, HL.cell HW 5, HL.cell HW 6, HL.cell HW 7, HL.cell HW 8, HL.cell HW 9, HL.cell HW 10, HL.cell HW 18, HL.cell HW 19, HL.cell HW 20, HL.cell HW 21, HL.cell HW 22, HL.cell HW 23, HL.cell HW 24, HL.cell HW 25⟩
  refine wp_region_held_drew (S := fun w' => w'.cell? ⟨b1, 3, none⟩ = some (.int .i64 a.job.acc) ∧ w'.cell? ⟨b1, 4, none⟩ = some (.int .i64 a.job.nodes) ∧ w'.cell? ⟨b1, 5, none⟩ = some (.int .i64 a.job.lim) ∧ w'.cell? ⟨b1, 6, none⟩ = some (.int .i64 a.job.sub) ∧ w'.cell? ⟨b1, 7, none⟩ = some (.int .i64 a.job.st) ∧ w'.cell? ⟨b1, 8, none⟩ = some (.int .i64 a.job.start) ∧ w'.cell? ⟨b1, 9, none⟩ = some (.int .i64 a.job.fin) ∧ w'.cell? ⟨b1, 10, none⟩ = some (.slice As a.job.set.length cs) ∧ w'.cell? ⟨b1, 18, none⟩ = some (.int .i64 a.cfg.c0) ∧ w'.cell? ⟨b1, 19, none⟩ = some (.int .i64 a.cfg.c1) ∧ w'.cell? ⟨b1, 20, none⟩ = some (.int .i64 a.cfg.c2) ∧ w'.cell? ⟨b1, 21, none⟩ = some (.int .i64 a.cfg.c3) ∧ w'.cell? ⟨b1, 22, none⟩ = some (.int .i64 a.cfg.c4) ∧ w'.cell? ⟨b1, 23, none⟩ = some (.int .i64 a.cfg.c5) ∧ w'.cell? ⟨b1, 24, none⟩ = some (.int .i64 a.cfg.c6) ∧ w'.cell? ⟨b1, 25, none⟩ = some (.int .i64 a.cfg.c7)) (by kernel_rfl) (hS _ _ H1.drew) (fun hHeld => ?_)
  have Hd := H1.drew
  clear H1
  generalize W.drew = Wd at *
  refine ztk 0 ?_
  simp only [Act.put, zp]
  refine ztk 1 ?_
  simp only [Act.put, zp]
  refine ztk 2 ?_
  simp only [Act.put, zp]
  refine ztk 3 ?_
  simp only [Act.put, zp]
  refine wpAnyH_ready (rs := [4, 5]) (by kernel_rfl) (by simp) ?_
  refine AllReadyH.cons rfl (fun K' hK' => ?_) (AllReadyH.cons rfl (fun K' hK' => ?_) AllReadyH.nil)
  ·skip
   dsimp only [zg1, zg3, zg2]
   go_simp
   have Ha := Hd.alloc (.cells #[.int .i64 0, .int .i64 0, .int .i64 0, .int .i64 0, .int .i64 0, .int .i64 0, .int .i64 0, .slice none 0 0] 26)
   refine hK'.out _ _ (hS _ _ (Ha.sel 2 [1])) (fun hHeld => ?_)
   clear hK' K'
   try simp only [Act.put, zp]
   refine zry 5 (fun K' hK' => ?_)
   dsimp only [zg1, zg3, zg2]
   go_simp
   have Hb := Ha.alloc (.cells #[.int .i64 0, .int .i64 0, .int .i64 0, .int .i64 0, .int .i64 0, .int .i64 0, .int .i64 0, .int .i64 0] 30)
   rw [World.size_alloc] at Hb
   refine hK'.out _ _ (hS _ _ (Hb.sel 3 [2])) (fun hHeld => ?_)
   clear hK' K'
   try simp only [Act.put, zp]
   refine zry 6 (fun K' hK' => ?_)
   dsimp only [zg1, zg3, zg2]
   have G6 : _ = some (Obj.cells _ 26 (0, 0)) := Hb.tail.head
   rw [if_pos (by rfl)]
   refine wp_store_row 26 _ _ rfl Wd.heap.size (jbA a.job (.slice As a.job.set.length cs)) rfl rfl 26 _ G6 (jbA_size _ _) rfl (jbA_one _ _ _ _) ?_
   clear G6
   have Hc := HL.setWhole (cells := jbA a.job (.slice As a.job.set.length cs)) (Hb.sel 3 [1, 0, 2])
   refine hK'.out _ _ (hS _ _ (Hc.sel 3 [2])) (fun hHeld => ?_)
   clear hK' K'
   try simp only [Act.put, zp]
   refine zry 7 (fun K' hK' => ?_)
   dsimp only [zg1, zg3, zg2]
   have G7 : _ = some (Obj.cells _ 30 (0, 0)) := Hc.tail.head
   rw [if_pos (by rfl)]
   refine wp_store_row 30 _ _ rfl (Wd.heap.size + 1) (cfA a.cfg) rfl rfl 30 _ G7 (cfA_size _) rfl (cfA_one _) ?_
   clear G7
   have He := HL.setWhole (cells := cfA a.cfg) (Hc.sel 3 [1, 0, 2])
   refine hK'.out _ _ (hS _ _ (He.sel 3 [2])) (fun hHeld => ?_)
   clear hK' K'
   try simp only [Act.put, zp]
   refine wpAnyH_done (by kernel_rfl) ?_ _
   go_wp2
   go_meet
   exact ⟨Wd.heap.size, Wd.heap.size + 1, rfl, rfl, He.sel 3 [1, 0, 2]⟩
  ·skip
   dsimp only [zg1, zg3, zg2]
   go_simp
   have Ha := Hd.alloc (.cells #[.int .i64 0, .int .i64 0, .int .i64 0, .int .i64 0, .int .i64 0, .int .i64 0, .int .i64 0, .int .i64 0] 30)
   refine hK'.out _ _ (hS _ _ (Ha.sel 2 [1])) (fun hHeld => ?_)
   clear hK' K'
   try simp only [Act.put, zp]
   refine zry 4 (fun K' hK' => ?_)
   dsimp only [zg1, zg3, zg2]
   go_simp
   have Hb := Ha.alloc (.cells #[.int .i64 0, .int .i64 0, .int .i64 0, .int .i64 0, .int .i64 0, .int .i64 0, .int .i64 0, .slice none 0 0] 26)
   rw [World.size_alloc] at Hb
   refine hK'.out _ _ (hS _ _ (Hb.sel 3 [2])) (fun hHeld => ?_)
   clear hK' K'
   try simp only [Act.put, zp]
   refine zry 6 (fun K' hK' => ?_)
   dsimp only [zg1, zg3, zg2]
   have G6 : _ = some (Obj.cells _ 26 (0, 0)) := Hb.head
   rw [if_pos (by rfl)]
   refine wp_store_row 26 _ _ rfl (Wd.heap.size + 1) (jbA a.job (.slice As a.job.set.length cs)) rfl rfl 26 _ G6 (jbA_size _ _) rfl (jbA_one _ _ _ _) ?_
   clear G6
   have Hc := HL.setWhole (cells := jbA a.job (.slice As a.job.set.length cs)) (Hb)
   refine hK'.out _ _ (hS _ _ (Hc.sel 3 [2])) (fun hHeld => ?_)
   clear hK' K'
   try simp only [Act.put, zp]
   refine zry 7 (fun K' hK' => ?_)
   dsimp only [zg1, zg3, zg2]
   have G7 : _ = some (Obj.cells _ 30 (0, 0)) := Hc.tail.head
   rw [if_pos (by rfl)]
   refine wp_store_row 30 _ _ rfl Wd.heap.size (cfA a.cfg) rfl rfl 30 _ G7 (cfA_size _) rfl (cfA_one _) ?_
   clear G7
   have He := HL.setWhole (cells := cfA a.cfg) (Hc.sel 3 [1, 0, 2])
   refine hK'.out _ _ (hS _ _ (He.sel 3 [2])) (fun hHeld => ?_)
   clear hK' K'
   try simp only [Act.put, zp]
   refine wpAnyH_done (by kernel_rfl) ?_ _
   go_wp2
   go_meet
   exact ⟨Wd.heap.size + 1, Wd.heap.size, rfl, rfl, He.sel 3 [1, 0, 2]⟩
 case rest =>
  obtain ⟨b5, b6, rfl, rfl, H2⟩ := hcut
  have HC1 := Lib.hid hC1
  clear H1 hC1
  go_upto_region 8 with (fail)
  go_cut [7] (fun t7 wd => t7 = .bool (B1 && B2 && B3 && B4) ∧ HL w0 wd (boxJ b5 a.job (.slice As a.job.set.length cs) :: boxF b6 a.cfg :: boxA b1 a (.slice Ae a.events.length ce) (.slice As a.job.set.length cs) (.slice Ar a.ranks.length cr) :: L))
  case first =>
   have G1 : _ = some (Obj.cells (ansA a (.slice Ae a.events.length ce) (.slice As a.job.set.length cs) (.slice Ar a.ranks.length cr)) 32 (0, 0)) := (H2.sel 3 [2]).head
   have hrs : Calls Tryz.prog 25 #[.int .i64 k, .agg (ansA a (.slice Ae a.events.length ce) (.slice As a.job.set.length cs) (.slice Ar a.ranks.length cr))] wc (RestPost w0 _ (restA k a)) := rest_ok H2 k a Ae As Ar ce cs cr
   have hb := fun W (HH : HL w0 W (boxJ b5 a.job (.slice As a.job.set.length cs) :: boxF b6 a.cfg :: boxA b1 a (.slice Ae a.events.length ce) (.slice As a.job.set.length cs) (.slice Ar a.ranks.length cr) :: L)) x1 x2 x3 y1 y2 y3 => blank_ok HH (restA k a) x1 x2 x3 y1 y2 y3
   rw [hB1] at hb
   have h5 : ∀ W : World, Calls Tryz.prog 26 #[.slice (some ⟨W.heap.size, 0, none⟩) 5 5] (W.alloc (.cells #[.int .i64 a.id, .int .i64 a.raw, .int .i64 a.free, .int .i64 a.shadow, .int .i64 a.bound] 3)) (fun e w' => e = .returned (.bool B2) ∧ W.alloc (.cells #[.int .i64 a.id, .int .i64 a.raw, .int .i64 a.free, .int .i64 a.shadow, .int .i64 a.bound] 3) = w') := fun W => by
    have := signs_ok (w := W.alloc (.cells #[.int .i64 a.id, .int .i64 a.raw, .int .i64 a.free, .int .i64 a.shadow, .int .i64 a.bound] 3)) (l := [a.id, a.raw, a.free, a.shadow, a.bound]) (rd_new (cs := intC [a.id, a.raw, a.free, a.shadow, a.bound]) (b := W.heap.size) rfl rfl (by unfold maxLen; simp))
    rw [hB2] at this
    exact this
   have h8 : ∀ W : World, Calls Tryz.prog 26 #[.slice (some ⟨W.heap.size, 0, none⟩) 8 8] (W.alloc (.cells #[.int .i64 a.cfg.c0, .int .i64 a.cfg.c1, .int .i64 a.cfg.c2, .int .i64 a.cfg.c3, .int .i64 a.cfg.c4, .int .i64 a.cfg.c5, .int .i64 a.cfg.c6, .int .i64 a.cfg.c7] 3)) (fun e w' => e = .returned (.bool B3) ∧ W.alloc (.cells #[.int .i64 a.cfg.c0, .int .i64 a.cfg.c1, .int .i64 a.cfg.c2, .int .i64 a.cfg.c3, .int .i64 a.cfg.c4, .int .i64 a.cfg.c5, .int .i64 a.cfg.c6, .int .i64 a.cfg.c7] 3) = w') := fun W => by
    have := signs_ok (w := W.alloc (.cells #[.int .i64 a.cfg.c0, .int .i64 a.cfg.c1, .int .i64 a.cfg.c2, .int .i64 a.cfg.c3, .int .i64 a.cfg.c4, .int .i64 a.cfg.c5, .int .i64 a.cfg.c6, .int .i64 a.cfg.c7] 3)) (l := [a.cfg.c0, a.cfg.c1, a.cfg.c2, a.cfg.c3, a.cfg.c4, a.cfg.c5, a.cfg.c6, a.cfg.c7]) (rd_new (cs := intC [a.cfg.c0, a.cfg.c1, a.cfg.c2, a.cfg.c3, a.cfg.c4, a.cfg.c5, a.cfg.c6, a.cfg.c7]) (b := W.heap.size) rfl rfl (by unfold maxLen; simp))
    rw [hB3] at this
    exact this
   have h8' : ∀ (W : World) (o : Obj), Calls Tryz.prog 26 #[.slice (some ⟨W.heap.size + 1, 0, none⟩) 8 8] ((W.alloc o).alloc (.cells #[.int .i64 a.cfg.c0, .int .i64 a.cfg.c1, .int .i64 a.cfg.c2, .int .i64 a.cfg.c3, .int .i64 a.cfg.c4, .int .i64 a.cfg.c5, .int .i64 a.cfg.c6, .int .i64 a.cfg.c7] 3)) (fun e w' => e = .returned (.bool B3) ∧ (W.alloc o).alloc (.cells #[.int .i64 a.cfg.c0, .int .i64 a.cfg.c1, .int .i64 a.cfg.c2, .int .i64 a.cfg.c3, .int .i64 a.cfg.c4, .int .i64 a.cfg.c5, .int .i64 a.cfg.c6, .int .i64 a.cfg.c7] 3) = w') := fun W o => by
    have := h8 (W.alloc o)
    rw [World.size_alloc] at this
    exact this
   have D1 := Lib.hid hB1; have D2 := Lib.hid hB2; have D3 := Lib.hid hB3; have D4 := Lib.hid hB4
   clear hB1 hB2 hB3
   cases B1
   ·go_wp2_with (first
     | (have g1 := G1; refine wpList_load_row rfl 32 _ rfl b1 rfl 32 _ (0, 0) _ g1 Tryz.underlying32 rfl (ansA_size _ _ _ _) ?_; clear g1 G1)
     | (go_at_call 25; (with_reducible refine hrs.mono ?_); rintro r w3 ⟨Ae', As', Ar', ce', cs', cr', rfl, H3⟩; clear hrs)
     | (go_at_call 24; (with_reducible refine (hb _ H3 _ _ _ _ _ _).mono ?_); rintro r w4 ⟨rfl, H4⟩; clear H3 H2 hb; have e1 : w4.cell? ⟨b1, 1, none⟩ = some (.int .i64 a.id) := HL.cell (H4.sel 3 [2]) 1; have e12 : w4.cell? ⟨b1, 12, none⟩ = some (.int .i64 a.raw) := HL.cell (H4.sel 3 [2]) 12; have e15 : w4.cell? ⟨b1, 15, none⟩ = some (.int .i64 a.free) := HL.cell (H4.sel 3 [2]) 15; have e16 : w4.cell? ⟨b1, 16, none⟩ = some (.int .i64 a.holder) := HL.cell (H4.sel 3 [2]) 16; have e17 : w4.cell? ⟨b1, 17, none⟩ = some (.int .i64 a.shadow) := HL.cell (H4.sel 3 [2]) 17; have e26 : w4.cell? ⟨b1, 26, none⟩ = some (.int .i64 a.bound) := HL.cell (H4.sel 3 [2]) 26; obtain ⟨f0, f1, f2, f3, f4, f5, f6, f7⟩ := boxF_cells (H4.sel 3 [1]))
     | (go_at_call 26; first | ((with_reducible refine (h5 _).mono ?_); rintro r w5 ⟨rfl, rfl⟩; have H5 := H4.alloc' (.cells #[.int .i64 a.id, .int .i64 a.raw, .int .i64 a.free, .int .i64 a.shadow, .int .i64 a.bound] 3); clear e1 e12 e15 e16 e17 e26 f0 f1 f2 f3 f4 f5 f6 f7; obtain ⟨f0, f1, f2, f3, f4, f5, f6, f7⟩ := boxF_cells (H5.sel 3 [1])) | ((with_reducible refine (h8' _ _).mono ?_); rintro r w5 ⟨rfl, rfl⟩; have H6 := H5.alloc' (.cells #[.int .i64 a.cfg.c0, .int .i64 a.cfg.c1, .int .i64 a.cfg.c2, .int .i64 a.cfg.c3, .int .i64 a.cfg.c4, .int .i64 a.cfg.c5, .int .i64 a.cfg.c6, .int .i64 a.cfg.c7] 3); clear f0 f1 f2 f3 f4 f5 f6 f7; have e16 := HL.cell (H6.sel 3 [2]) 16)))
    go_meet
    exact ⟨rfl, H4⟩
   ·cases B2
    ·go_wp2_with (first
      | (have g1 := G1; refine wpList_load_row rfl 32 _ rfl b1 rfl 32 _ (0, 0) _ g1 Tryz.underlying32 rfl (ansA_size _ _ _ _) ?_; clear g1 G1)
      | (go_at_call 25; (with_reducible refine hrs.mono ?_); rintro r w3 ⟨Ae', As', Ar', ce', cs', cr', rfl, H3⟩; clear hrs)
      | (go_at_call 24; (with_reducible refine (hb _ H3 _ _ _ _ _ _).mono ?_); rintro r w4 ⟨rfl, H4⟩; clear H3 H2 hb; have e1 : w4.cell? ⟨b1, 1, none⟩ = some (.int .i64 a.id) := HL.cell (H4.sel 3 [2]) 1; have e12 : w4.cell? ⟨b1, 12, none⟩ = some (.int .i64 a.raw) := HL.cell (H4.sel 3 [2]) 12; have e15 : w4.cell? ⟨b1, 15, none⟩ = some (.int .i64 a.free) := HL.cell (H4.sel 3 [2]) 15; have e16 : w4.cell? ⟨b1, 16, none⟩ = some (.int .i64 a.holder) := HL.cell (H4.sel 3 [2]) 16; have e17 : w4.cell? ⟨b1, 17, none⟩ = some (.int .i64 a.shadow) := HL.cell (H4.sel 3 [2]) 17; have e26 : w4.cell? ⟨b1, 26, none⟩ = some (.int .i64 a.bound) := HL.cell (H4.sel 3 [2]) 26; obtain ⟨f0, f1, f2, f3, f4, f5, f6, f7⟩ := boxF_cells (H4.sel 3 [1]))
      | (go_at_call 26; first | ((with_reducible refine (h5 _).mono ?_); rintro r w5 ⟨rfl, rfl⟩; have H5 := H4.alloc' (.cells #[.int .i64 a.id, .int .i64 a.raw, .int .i64 a.free, .int .i64 a.shadow, .int .i64 a.bound] 3); clear e1 e12 e15 e16 e17 e26 f0 f1 f2 f3 f4 f5 f6 f7; obtain ⟨f0, f1, f2, f3, f4, f5, f6, f7⟩ := boxF_cells (H5.sel 3 [1])) | ((with_reducible refine (h8' _ _).mono ?_); rintro r w5 ⟨rfl, rfl⟩; have H6 := H5.alloc' (.cells #[.int .i64 a.cfg.c0, .int .i64 a.cfg.c1, .int .i64 a.cfg.c2, .int .i64 a.cfg.c3, .int .i64 a.cfg.c4, .int .i64 a.cfg.c5, .int .i64 a.cfg.c6, .int .i64 a.cfg.c7] 3); clear f0 f1 f2 f3 f4 f5 f6 f7; have e16 := HL.cell (H6.sel 3 [2]) 16)))
     go_meet
     exact ⟨rfl, H5⟩
    ·cases B3
     ·go_wp2_with (first
       | (have g1 := G1; refine wpList_load_row rfl 32 _ rfl b1 rfl 32 _ (0, 0) _ g1 Tryz.underlying32 rfl (ansA_size _ _ _ _) ?_; clear g1 G1)
       | (go_at_call 25; (with_reducible refine hrs.mono ?_); rintro r w3 ⟨Ae', As', Ar', ce', cs', cr', rfl, H3⟩; clear hrs)
       | (go_at_call 24; (with_reducible refine (hb _ H3 _ _ _ _ _ _).mono ?_); rintro r w4 ⟨rfl, H4⟩; clear H3 H2 hb; have e1 : w4.cell? ⟨b1, 1, none⟩ = some (.int .i64 a.id) := HL.cell (H4.sel 3 [2]) 1; have e12 : w4.cell? ⟨b1, 12, none⟩ = some (.int .i64 a.raw) := HL.cell (H4.sel 3 [2]) 12; have e15 : w4.cell? ⟨b1, 15, none⟩ = some (.int .i64 a.free) := HL.cell (H4.sel 3 [2]) 15; have e16 : w4.cell? ⟨b1, 16, none⟩ = some (.int .i64 a.holder) := HL.cell (H4.sel 3 [2]) 16; have e17 : w4.cell? ⟨b1, 17, none⟩ = some (.int .i64 a.shadow) := HL.cell (H4.sel 3 [2]) 17; have e26 : w4.cell? ⟨b1, 26, none⟩ = some (.int .i64 a.bound) := HL.cell (H4.sel 3 [2]) 26; obtain ⟨f0, f1, f2, f3, f4, f5, f6, f7⟩ := boxF_cells (H4.sel 3 [1]))
       | (go_at_call 26; first | ((with_reducible refine (h5 _).mono ?_); rintro r w5 ⟨rfl, rfl⟩; have H5 := H4.alloc' (.cells #[.int .i64 a.id, .int .i64 a.raw, .int .i64 a.free, .int .i64 a.shadow, .int .i64 a.bound] 3); clear e1 e12 e15 e16 e17 e26 f0 f1 f2 f3 f4 f5 f6 f7; obtain ⟨f0, f1, f2, f3, f4, f5, f6, f7⟩ := boxF_cells (H5.sel 3 [1])) | ((with_reducible refine (h8' _ _).mono ?_); rintro r w5 ⟨rfl, rfl⟩; have H6 := H5.alloc' (.cells #[.int .i64 a.cfg.c0, .int .i64 a.cfg.c1, .int .i64 a.cfg.c2, .int .i64 a.cfg.c3, .int .i64 a.cfg.c4, .int .i64 a.cfg.c5, .int .i64 a.cfg.c6, .int .i64 a.cfg.c7] 3); clear f0 f1 f2 f3 f4 f5 f6 f7; have e16 := HL.cell (H6.sel 3 [2]) 16)))
      go_meet
      exact ⟨rfl, H6⟩
     ·go_wp2_with (first
       | (have g1 := G1; refine wpList_load_row rfl 32 _ rfl b1 rfl 32 _ (0, 0) _ g1 Tryz.underlying32 rfl (ansA_size _ _ _ _) ?_; clear g1 G1)
       | (go_at_call 25; (with_reducible refine hrs.mono ?_); rintro r w3 ⟨Ae', As', Ar', ce', cs', cr', rfl, H3⟩; clear hrs)
       | (go_at_call 24; (with_reducible refine (hb _ H3 _ _ _ _ _ _).mono ?_); rintro r w4 ⟨rfl, H4⟩; clear H3 H2 hb; have e1 : w4.cell? ⟨b1, 1, none⟩ = some (.int .i64 a.id) := HL.cell (H4.sel 3 [2]) 1; have e12 : w4.cell? ⟨b1, 12, none⟩ = some (.int .i64 a.raw) := HL.cell (H4.sel 3 [2]) 12; have e15 : w4.cell? ⟨b1, 15, none⟩ = some (.int .i64 a.free) := HL.cell (H4.sel 3 [2]) 15; have e16 : w4.cell? ⟨b1, 16, none⟩ = some (.int .i64 a.holder) := HL.cell (H4.sel 3 [2]) 16; have e17 : w4.cell? ⟨b1, 17, none⟩ = some (.int .i64 a.shadow) := HL.cell (H4.sel 3 [2]) 17; have e26 : w4.cell? ⟨b1, 26, none⟩ = some (.int .i64 a.bound) := HL.cell (H4.sel 3 [2]) 26; obtain ⟨f0, f1, f2, f3, f4, f5, f6, f7⟩ := boxF_cells (H4.sel 3 [1]))
       | (go_at_call 26; first | ((with_reducible refine (h5 _).mono ?_); rintro r w5 ⟨rfl, rfl⟩; have H5 := H4.alloc' (.cells #[.int .i64 a.id, .int .i64 a.raw, .int .i64 a.free, .int .i64 a.shadow, .int .i64 a.bound] 3); clear e1 e12 e15 e16 e17 e26 f0 f1 f2 f3 f4 f5 f6 f7; obtain ⟨f0, f1, f2, f3, f4, f5, f6, f7⟩ := boxF_cells (H5.sel 3 [1])) | ((with_reducible refine (h8' _ _).mono ?_); rintro r w5 ⟨rfl, rfl⟩; have H6 := H5.alloc' (.cells #[.int .i64 a.cfg.c0, .int .i64 a.cfg.c1, .int .i64 a.cfg.c2, .int .i64 a.cfg.c3, .int .i64 a.cfg.c4, .int .i64 a.cfg.c5, .int .i64 a.cfg.c6, .int .i64 a.cfg.c7] 3); clear f0 f1 f2 f3 f4 f5 f6 f7; have e16 := HL.cell (H6.sel 3 [2]) 16)))
      go_meet
      exact ⟨by rw [← hB4]; rfl, H6⟩
  case rest =>
   obtain ⟨rfl, H3⟩ := hcut
   obtain ⟨T, hT⟩ : ∃ T, (B1 && B2 && B3 && B4) = T := ⟨_, rfl⟩
   obtain ⟨K9, hK9⟩ : ∃ K9, (k == 9) = K9 := ⟨_, rfl⟩
   rw [hT]
   have hC2 : okA k a = (T && J && a.ranks.all rkB && a.events.all right) := by rw [HC1.out, hT]
   have HC2 := Lib.hid hC2
   have hJ9 : J = if K9 then sgn [a.job.acc, a.job.nodes, a.job.lim, a.job.sub, a.job.start, a.job.fin] && decide (stW a.job.st ≠ ⟨#[]⟩) && ris a.job.set else true := by
    rw [← hJ, ← hK9]
    by_cases h : k = 9 <;> simp [h]
   clear hJ hT hC2 H2 hB1 hB2 hB3 hB4
   go_upto_if 82 with (fail)
   have HJ9 := Lib.hid hJ9; have HK9 := Lib.hid hK9
   clear hJ9 hK9
   go_cut [7] (fun t7 we => t7 = .bool (T && J) ∧ HL w0 we (boxJ b5 a.job (.slice As a.job.set.length cs) :: boxF b6 a.cfg :: boxA b1 a (.slice Ae a.events.length ce) (.slice As a.job.set.length cs) (.slice Ar a.ranks.length cr) :: L))
   case first =>
    cases K9
    ·have hj := HJ9.out
     rw [if_neg Bool.false_ne_true] at hj
     subst hj
     go_wp2
     go_meet
     exact ⟨by rw [Bool.and_true], H3⟩
    ·have hj := HJ9.out
     rw [if_pos rfl] at hj
     obtain ⟨S6, hS6⟩ : ∃ B, sgn [a.job.acc, a.job.nodes, a.job.lim, a.job.sub, a.job.start, a.job.fin] = B := ⟨_, rfl⟩
     obtain ⟨R9, hR9⟩ : ∃ B, ris a.job.set = B := ⟨_, rfl⟩
     obtain ⟨E, hE⟩ : ∃ B, decide (stW a.job.st ≠ ⟨#[]⟩) = B := ⟨_, rfl⟩
     rw [hS6, hR9, hE] at hj
     have h6 : ∀ W : World, Calls Tryz.prog 26 #[.slice (some ⟨W.heap.size, 0, none⟩) 6 6] (W.alloc (.cells #[.int .i64 a.job.acc, .int .i64 a.job.nodes, .int .i64 a.job.lim, .int .i64 a.job.sub, .int .i64 a.job.start, .int .i64 a.job.fin] 3)) (fun e w' => e = .returned (.bool S6) ∧ W.alloc (.cells #[.int .i64 a.job.acc, .int .i64 a.job.nodes, .int .i64 a.job.lim, .int .i64 a.job.sub, .int .i64 a.job.start, .int .i64 a.job.fin] 3) = w') := fun W => by
      have := signs_ok (w := W.alloc (.cells #[.int .i64 a.job.acc, .int .i64 a.job.nodes, .int .i64 a.job.lim, .int .i64 a.job.sub, .int .i64 a.job.start, .int .i64 a.job.fin] 3)) (l := [a.job.acc, a.job.nodes, a.job.lim, a.job.sub, a.job.start, a.job.fin]) (rd_new (cs := intC [a.job.acc, a.job.nodes, a.job.lim, a.job.sub, a.job.start, a.job.fin]) (b := W.heap.size) rfl rfl (by unfold maxLen; simp))
      rw [hS6] at this
      exact this
     have hri := fun W (HH : HL w0 W (boxJ b5 a.job (.slice As a.job.set.length cs) :: boxF b6 a.cfg :: boxA b1 a (.slice Ae a.events.length ce) (.slice As a.job.set.length cs) (.slice Ar a.ranks.length cr) :: L)) => rises_ok (((hI.cons _).cons _).cons _ W HH)
     rw [hR9] at hri
     have hst := fun W => state_ok a.job.st W
     obtain ⟨f0, f1, f2, f3, f4, f5, f6, f7⟩ := boxJ_cells H3
     have q1 : (stW a.job.st).toList.isEmpty = !E := by rw [← hE]; exact isEmpty_str _
     have HS := Lib.hid hS6; have HR9 := Lib.hid hR9; have HE := Lib.hid hE
     generalize stW a.job.st = ST at *
     subst hj
     clear hS6 hR9 hE HJ9
     cases T
     ·go_wp2
      go_meet
      exact ⟨rfl, H3⟩
     ·cases S6
      ·go_wp2_with (first
         | (go_at_call 26; (with_reducible refine (h6 _).mono ?_); rintro r w5 ⟨rfl, rfl⟩; have H5 := H3.alloc' (.cells #[.int .i64 a.job.acc, .int .i64 a.job.nodes, .int .i64 a.job.lim, .int .i64 a.job.sub, .int .i64 a.job.start, .int .i64 a.job.fin] 3); clear f0 f1 f2 f3 f4 f5 f6 f7; obtain ⟨f0, f1, f2, f3, f4, f5, f6, f7⟩ := boxJ_cells H5)
         | (go_at_call 27; (with_reducible refine (hst _).mono ?_); rintro r w6 ⟨rfl, rfl⟩)
         | (go_at_call 28; (with_reducible refine (hri _ H5).mono ?_); rintro r w7 ⟨rfl, rfl⟩))
       go_meet
       exact ⟨rfl, H5⟩
      ·cases E
       ·have q2 : ST.toList.isEmpty = true := q1
        go_wp2_with (first
         | (go_at_call 26; (with_reducible refine (h6 _).mono ?_); rintro r w5 ⟨rfl, rfl⟩; have H5 := H3.alloc' (.cells #[.int .i64 a.job.acc, .int .i64 a.job.nodes, .int .i64 a.job.lim, .int .i64 a.job.sub, .int .i64 a.job.start, .int .i64 a.job.fin] 3); clear f0 f1 f2 f3 f4 f5 f6 f7; obtain ⟨f0, f1, f2, f3, f4, f5, f6, f7⟩ := boxJ_cells H5)
         | (go_at_call 27; (with_reducible refine (hst _).mono ?_); rintro r w6 ⟨rfl, rfl⟩)
         | (go_at_call 28; (with_reducible refine (hri _ H5).mono ?_); rintro r w7 ⟨rfl, rfl⟩))
        go_meet
        exact ⟨rfl, H5⟩
       ·have q2 : ST.toList.isEmpty = false := q1
        go_wp2_with (first
         | (go_at_call 26; (with_reducible refine (h6 _).mono ?_); rintro r w5 ⟨rfl, rfl⟩; have H5 := H3.alloc' (.cells #[.int .i64 a.job.acc, .int .i64 a.job.nodes, .int .i64 a.job.lim, .int .i64 a.job.sub, .int .i64 a.job.start, .int .i64 a.job.fin] 3); clear f0 f1 f2 f3 f4 f5 f6 f7; obtain ⟨f0, f1, f2, f3, f4, f5, f6, f7⟩ := boxJ_cells H5)
         | (go_at_call 27; (with_reducible refine (hst _).mono ?_); rintro r w6 ⟨rfl, rfl⟩)
         | (go_at_call 28; (with_reducible refine (hri _ H5).mono ?_); rintro r w7 ⟨rfl, rfl⟩))
        go_meet
        exact ⟨rfl, H5⟩
   case rest =>
    obtain ⟨rfl, H4⟩ := hcut
    obtain ⟨T2, hT2⟩ : ∃ T2, (T && J) = T2 := ⟨_, rfl⟩
    rw [hT2]
    have hC3 : okA k a = (T2 && a.ranks.all rkB && a.events.all right) := by rw [HC2.out, hT2]
    have HC3 := Lib.hid hC3
    clear hT2 hC3 H3
    have f4 : _ = some (Value.slice Ar a.ranks.length cr) := HL.cell (H4.sel 3 [2]) 11
    have hRk := fun W (HH : HL w0 W (boxJ b5 a.job (.slice As a.job.set.length cs) :: boxF b6 a.cfg :: boxA b1 a (.slice Ae a.events.length ce) (.slice As a.job.set.length cs) (.slice Ar a.ranks.length cr) :: L)) => ((hR.cons _).cons _).cons _ W HH
    have HRK := Lib.hid hRk
    have hEv := fun W (HH : HL w0 W (boxJ b5 a.job (.slice As a.job.set.length cs) :: boxF b6 a.cfg :: boxA b1 a (.slice Ae a.events.length ce) (.slice As a.job.set.length cs) (.slice Ar a.ranks.length cr) :: L)) => (((hE.cons _).cons _).cons _).rd W HH
    have hEo := fun p hp A1 A2 A3 A4 => ((((hE.own p hp).cons A1).cons A2).cons A3).cons A4
    have HEV := Lib.hid hEv; have HEO := Lib.hid hEo
    obtain ⟨-, -, aR, cR, hvR, hR1, hR2, -, -⟩ := hRk _ H4
    obtain ⟨-, -, aE, cE, hvE, hE1, hE2, -, -⟩ := hE.cons _ |>.cons _ |>.cons _ |>.rd _ H4
    simp only [Value.slice.injEq] at hvR hvE
    obtain ⟨rfl, -, rfl⟩ := hvR
    obtain ⟨rfl, hlE, rfl⟩ := hvE
    unfold maxLen at hR2 hE2
    rw [← hlE] at hE1
    have HLE := Lib.hid hlE
    clear hRk hEv hEo hR hI hE hlE
    go_wp2
    clear f4
    go_loopg [7, 114] a.ranks.length (fun g t7 i wr => ∃ n : Nat, i = .int .i64 n ∧ n + g = a.ranks.length ∧ t7 = .bool (T2 && (a.ranks.take n).all rkB) ∧ HL w0 wr (boxJ b5 a.job (.slice As a.job.set.length cs) :: boxF b6 a.cfg :: boxA b1 a (.slice Ae a.events.length ce) (.slice As a.job.set.length cs) (.slice Ar a.ranks.length cr) :: L))
    case atStart => exact ⟨0, rfl, by omega, by simp, H4⟩
    case round =>
     obtain ⟨n, rfl, hn, rfl, HK⟩ := hrel
     clear H4
     obtain ⟨C, hC⟩ : ∃ C, (T2 && (a.ranks.take n).all rkB) = C := ⟨_, rfl⟩
     rw [hC]
     have HCC := Lib.hid hC
     clear hC
     by_cases hlt : n < a.ranks.length
     ·obtain ⟨x, hx⟩ : ∃ x, a.ranks[n]? = some x := ⟨_, List.getElem?_eq_getElem hlt⟩
      obtain ⟨b', o', c', hv, d0, d1⟩ := rk_at (HRK.out _ HK) hx
      simp only [Value.slice.injEq] at hv
      obtain ⟨rfl, -, rfl⟩ := hv
      obtain ⟨R, hRx⟩ : ∃ R, rkB x = R := ⟨_, rfl⟩
      have hnx : (T2 && (a.ranks.take (n + 1)).all rkB) = (C && R) := by rw [List.take_add_one, hx, ← HCC.out, ← hRx]; simp [Bool.and_assoc]
      have HA := HK.alloc (.cells #[.int .i64 x.job, .int .i64 x.prio] 62)
      have h2 := signs_ok (w := (wr.alloc (.cells #[.int .i64 x.job, .int .i64 x.prio] 62)).alloc (.cells #[.int .i64 x.job, .int .i64 x.prio] 3)) (l := [x.job, x.prio]) (rd_new (cs := intC [x.job, x.prio]) (b := wr.heap.size + 1) (by rw [World.size_alloc]) rfl (by unfold maxLen; simp))
      rw [show sgn [x.job, x.prio] = R from hRx] at h2
      have HN := Lib.hid hnx; have HX := Lib.hid hx; have HRX := Lib.hid hRx
      clear hnx hx hRx
      cases C
      ·go_wp2
       go_roundg (gk - 1)
       case measure => omega
       case rel => exact ⟨n + 1, by go_num, by omega, by rw [HN.out]; rfl, HA.tail⟩
      ·go_wp2_with (go_at_call 26; refine h2.mono ?_; rintro r w3 ⟨rfl, rfl⟩)
       go_roundg (gk - 1)
       case measure => omega
       case rel => exact ⟨n + 1, by go_num, by omega, by rw [HN.out]; rfl, HA.tail.alloc' _⟩
     ·have hC4 : okA k a = (C && a.events.all right) := by rw [HC3.out, ← HCC.out, List.take_of_length_le (by omega)]
      have HC4 := Lib.hid hC4
      have f4 : wr.cell? ⟨b1, 2, none⟩ = some (.slice Ae a.events.length ce) := HL.cell (HK.sel 3 [2]) 2
      clear hC4
      go_wp2
      clear f4
      go_loopg [7, 131] a.events.length (fun g t7 i wq => ∃ n : Nat, i = .int .i64 n ∧ n + g = a.events.length ∧ t7 = .bool (C && (a.events.take n).all right) ∧ HL w0 wq (boxJ b5 a.job (.slice As a.job.set.length cs) :: boxF b6 a.cfg :: boxA b1 a (.slice Ae a.events.length ce) (.slice As a.job.set.length cs) (.slice Ar a.ranks.length cr) :: L))
      case atStart => exact ⟨0, rfl, by omega, by simp, HK⟩
      case round =>
       obtain ⟨n, rfl, hn, rfl, HQ⟩ := hrel
       clear HK
       obtain ⟨D, hD⟩ : ∃ D, (C && (a.events.take n).all right) = D := ⟨_, rfl⟩
       rw [hD]
       have HDD := Lib.hid hD
       clear hD
       by_cases hlt2 : n < a.events.length
       ·obtain ⟨⟨e, u⟩, hp⟩ : ∃ p, ps[n]? = some p := ⟨_, List.getElem?_eq_getElem (by rw [← HLE.out]; exact hlt2)⟩
        have hev : a.events[n]? = some e := by rw [HPS.out, List.getElem?_map, hp]; rfl
        obtain ⟨b', o', c', hv, d0, d1, d2, d3, d4, d5⟩ := ev_at (HEV.out _ HQ) hp
        simp only [Value.slice.injEq] at hv
        obtain ⟨rfl, -, rfl⟩ := hv
        have ho := HEO.out (e, u) (List.mem_of_getElem? hp)
        dsimp only at ho d0 d1 d2 d3 d4 d5
        have HA := HL.allocE HQ e u
        obtain ⟨Au, cu, rfl, -, -⟩ := rd_shape (ho _ _ _ _ _ HA)
        obtain ⟨R, hRx⟩ : ∃ R, right e = R := ⟨_, rfl⟩
        have hnx : (C && (a.events.take (n + 1)).all right) = (D && R) := by rw [List.take_add_one, hev, ← HDD.out, ← hRx]; simp [Bool.and_assoc]
        have hri := right_ok HA e (ho _ _ _ _)
        rw [hRx] at hri
        unfold evV at hri
        obtain ⟨m0, m1, m2, m3, m4, m5⟩ := boxE_cells HA
        have HN := Lib.hid hnx; have HX := Lib.hid hev; have HRX := Lib.hid hRx; have HP2 := Lib.hid hp
        clear hnx hev hRx hp ho
        cases D
        ·go_wp2
         go_roundg (gk - 1)
         case measure => omega
         case rel => exact ⟨n + 1, by go_num, by omega, by rw [HN.out]; rfl, HA.tail⟩
        ·go_wp2_with (go_at_call 29; refine hri.mono ?_; rintro r w3 ⟨rfl, H3⟩)
         go_roundg (gk - 1)
         case measure => omega
         case rel => exact ⟨n + 1, by go_num, by omega, by rw [HN.out]; rfl, H3.tail⟩
       ·have hC5 : okA k a = D := by rw [HC4.out, ← HDD.out, List.take_of_length_le (l := a.events) (by omega)]
        have hC6 : checkA k a = if D then 0 else 90 := by rw [HC.out, hC5]
        have HC6 := Lib.hid hC6
        clear hC5 hC6
        cases D
        ·go_wp2
         go_ret
         exact ⟨retIn (by rw [HC6.out]; rfl), HQ.tail.tail.tail⟩
        ·go_wp2
         go_ret
         exact ⟨retIn (by rw [HC6.out]; rfl), HQ.tail.tail.tail⟩
theorem check_ok (H : HL w0 w L) (k : Int) (a : Ans) (Ae As Ar : Option Addr) (ce cs cr : Nat) {ps : List (Ev × Value)} (hps : a.events = ps.map (·.1)) (hE : Evs w0 L (.slice Ae a.events.length ce) ps) (hI : Ints w0 L (.slice As a.job.set.length cs) a.job.set) (hR : Rks w0 L (.slice Ar a.ranks.length cr) a.ranks) :
  Calls Tryz.prog 10 #[.int .i64 k, ansV a (.slice Ae a.events.length ce) (.slice As a.job.set.length cs) (.slice Ar a.ranks.length cr)] w fun r w' => r = .returned (.int .i64 (checkA k a)) ∧ HL w0 w' L := by
 by_cases hk : k < 1 ∨ 13 < k
 ·exact check_out H k a hk Ae As Ar ce cs cr hps hE hI hR
 ·by_cases hcd : a.code = 0
  ·exact check_main H k a hk hcd Ae As Ar ce cs cr hps hE hI hR
  ·exact check_err H k a hk hcd Ae As Ar ce cs cr hps hE hI hR
end
end Go.Proofs.YtdekbbffoaphhaaGreatDoor

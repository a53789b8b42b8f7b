/- Which answers may be: the reference's way, walked. -/
import Derived.Test.YtdekbbffoaphhaaGreatDoorAnZip
import Derived.Test.YtdekbbffoaphhaaGreatDoorAnPkJ
import Derived.Test.YtdekbbffoaphhaaGreatDoorAnRefSame
import Derived.Test.YtdekbbffoaphhaaGreatDoorAnRefEv
set_option linter.unusedVariables false
set_option linter.unusedSimpArgs false
set_option maxRecDepth 100000
set_option maxHeartbeats 8000000
namespace Go.Proofs.YtdekbbffoaphhaaGreatDoor
open Go.RowKit Go.Proofs.HL Go.Proofs.An
section
variable {w0 w : World} {L : List At}
theorem Same.evs {a r : Ans} {Ae Ae' : Option Addr} {ce ce' : Nat} {ps : List (Ev × Value)} (hps : a.events = ps.map (·.1)) (hE : Evs w0 L (.slice Ae a.events.length ce) ps) (h : Same a.events r.events Ae Ae' ce ce') : ∃ qs, r.events = qs.map (·.1) ∧ Evs w0 L (.slice Ae' r.events.length ce') qs := by
 rcases h with ⟨e, rfl, rfl⟩ | ⟨e, rfl, rfl⟩
 ·exact ⟨ps, by rw [e]; exact hps, by rw [e]; exact hE⟩
 ·exact ⟨[], by rw [e]; rfl, by rw [e]; exact ⟨fun W _ => rd_nil, fun p hp => by simp at hp⟩⟩
theorem Same.ints {l m : List Int} {A A' : Option Addr} {c c' : Nat} (hI : Ints w0 L (.slice A l.length c) l) (h : Same l m A A' c c') : Ints w0 L (.slice A' m.length c') m := by
 rcases h with ⟨e, rfl, rfl⟩ | ⟨e, rfl, rfl⟩
 ·rw [e]; exact hI
 ·rw [e]; exact fun W _ => rd_nil
theorem Same.rks {l m : List Rk} {A A' : Option Addr} {c c' : Nat} (hI : Rks w0 L (.slice A l.length c) l) (h : Same l m A A' c c') : Rks w0 L (.slice A' m.length c') m := by
 rcases h with ⟨e, rfl, rfl⟩ | ⟨e, rfl, rfl⟩
 ·rw [e]; exact hI
 ·rw [e]; exact fun W _ => rd_nil
theorem append_ints {ops : Array Oper} {rest : List Oper} {o : Oper} {a : Act} {Q : Exit → Act → World → Prop} {xs ys : List Int} {v xv : Value} (hgd : o.guard = none) (s x : Operand) (ho : o.op = .call { callee := .builtin .append, args := #[s, x], argTypes := #[24, 24] })
  (H : HL w0 w (intsR w0.heap.size v xs :: L)) (hs : a.eval s = v) (hx : a.eval x = xv) (hr : Rd 1 xv ys.length (intC ys) w) (hb : xs.length + ys.length ≤ 17592186044416)
  (h : ∀ v' w', HL w0 w' (intsR w0.heap.size v' (xs ++ ys) :: L) → wpList Tryz.prog ops Q rest (a.put o.dst v') w') : wpList Tryz.prog ops Q (o :: rest) a w :=
 wpList_append_hl sliceI hgd s x ho (n := xs.length) (m := ys.length) (xs := intC xs) (news := intC ys) H hs hx hr (by simp [intC, Value.oneCell']) (by unfold maxLen; omega) (by omega) (fun v' w' H' _ => h v' w' (by
  unfold intsR; rw [List.length_append, intC, List.map_append]; exact H'))
theorem ckL_len (a : Ans) : (ckL a).length = 12 := rfl
theorem rkL_len : ∀ (rs : List Rk), (rkL rs).length = 2 * rs.length
 | [] => rfl
 | r :: rs => by
  have ih := rkL_len rs
  simp only [rkL, List.flatMap_cons, List.length_append, List.length_cons, List.length_nil] at ih ⊢
  omega
theorem rkL_snoc (rs : List Rk) (r : Rk) : rkL (rs ++ [r]) = rkL rs ++ [r.job, r.prio] := by simp [rkL, List.flatMap_append]
theorem Ref.config_ok (H : HL w0 w L) (c : Cf) : Calls Tryz.prog 32 #[cfV c] w fun e w' => ∃ v, e = .returned v ∧ HL w0 w' (intsR w0.heap.size v (cfL c) :: L) := by
 have H1 := HL.allocF H c
 have H2 := (H1.alloc (.cells #[.int .i64 c.c0, .int .i64 c.c1, .int .i64 c.c2, .int .i64 c.c3, .int .i64 c.c4, .int .i64 c.c5, .int .i64 c.c6, .int .i64 c.c7] 3)).rowOf (k := 1) (n := 8) (cs := intC (cfL c)) rfl (by decide)
 rw [World.size_alloc] at H2
 obtain ⟨n0, n1, n2, n3, n4, n5, n6, n7⟩ := boxF_cells H1
 unfold cfV
 have H3 := H2.sel 2 [0]
 clear H H1 H2
 go_enter Tryz.func32, Tryz.ntmps32
 go_wp2
 go_ret
 exact ⟨_, rfl, H3⟩
theorem Ref.check_ok (hD : Doors w0) (H : HL w0 w L) (k : Int) (a : Ans) (Ae As Ar : Option Addr) (ce cs cr : Nat) {ps : List (Ev × Value)} (hps : a.events = ps.map (·.1)) (hE : Evs w0 L (.slice Ae a.events.length ce) ps) (hI : Ints w0 L (.slice As a.job.set.length cs) a.job.set) (hR : Rks w0 L (.slice Ar a.ranks.length cr) a.ranks) (hok : AnsOk a) (hfw : ∀ e ∈ a.events, e.list.length ≤ 4294967200) :
  Calls Tryz.prog 11 #[.int .i64 k, ansV a (.slice Ae a.events.length ce) (.slice As a.job.set.length cs) (.slice Ar a.ranks.length cr)] w fun r w' => r = .returned (.int .i64 (checkA k a)) ∧ HL w0 w' L := by
 have H1 := HL.allocA H a (.slice Ae a.events.length ce) (.slice As a.job.set.length cs) (.slice Ar a.ranks.length cr)
 have hc : checkA k a = refCk k a := (refCk_eq k a).symm
 unfold ansV
 generalize hb1 : w.heap.size = b1 at *
 by_cases hk : k < 1 ∨ 13 < k
 ·have HC := Lib.hid (show checkA k a = 90 by rw [hc]; unfold refCk; rw [if_pos hk])
  clear hc hok hE hI hR hps H hfw
  rcases hk with hk | hk
  ·have d1 : decide (k < 1) = true := decide_eq_true hk
   go_enter Tryz.func11, Tryz.ntmps11
   go_upto_region 1 with (fail)
   refine wp_region_held_drew (S := fun _ => True) (by kernel_rfl) (trivial) (fun hHeld => ?_)
   refine ztk 0 ?_
   simp only [Act.put, zp]
   refine ztk 1 ?_
   simp only [Act.put, zp]
   refine ztk 2 ?_
   simp only [Act.put, zp]
   refine wpAnyH_take (i := 3) (v := _) rfl (by kernel_rfl) (by kernel_rfl) (by kernel_rfl) (fun _ _ _ h => h) (Or.inr ⟨by rfl, rfl⟩) (by assumption) ?_
   simp only [Act.put, zp]
   refine wpAnyH_take (i := 4) (v := _) rfl (by kernel_rfl) (by kernel_rfl) (by kernel_rfl) (fun _ _ _ h => h) (Or.inr ⟨by rfl, rfl⟩) (by assumption) ?_
   simp only [Act.put, zp]
   refine ztk 5 ?_
   simp only [Act.put, zp]
   refine ztk 6 ?_
   simp only [Act.put, zp]
   refine wpAnyH_take (i := 7) (v := _) rfl (by kernel_rfl) (by kernel_rfl) (by kernel_rfl) (fun _ _ _ h => h) (Or.inr ⟨by rfl, rfl⟩) (by assumption) ?_
   simp only [Act.put, zp]
   refine wpAnyH_take (i := 8) (v := _) rfl (by kernel_rfl) (by kernel_rfl) (by kernel_rfl) (fun _ _ _ h => h) (Or.inr ⟨by rfl, rfl⟩) (by assumption) ?_
   simp only [Act.put, zp]
   refine wpAnyH_take (i := 10) (v := _) rfl (by kernel_rfl) (by kernel_rfl) (by kernel_rfl) (fun _ _ _ h => h) (Or.inr ⟨by rfl, rfl⟩) (by assumption) ?_
   simp only [Act.put, zp]
   refine zry 9 (fun K' hK' => ?_)
   dsimp only [zg1, zg3, zg2]
   go_simp
   (first | rw [if_neg (by decide)] | skip)
   refine hK'.out _ _ (trivial) (fun hHeld => ?_)
   clear hK' K'
   try simp only [Act.put, zp]
   refine zry 11 (fun K' hK' => ?_)
   dsimp only [zg1, zg3, zg2]
   go_simp
   (first | rw [if_neg (by decide)] | skip)
   refine hK'.out _ _ (trivial) (fun hHeld => ?_)
   clear hK' K'
   try simp only [Act.put, zp]
   refine wpAnyH_take (i := 12) (v := _) rfl (by kernel_rfl) (by kernel_rfl) (by kernel_rfl) (fun _ _ _ h => h) (Or.inr ⟨by rfl, rfl⟩) (by assumption) ?_
   simp only [Act.put, zp]
   refine ztk 13 ?_
   simp only [Act.put, zp]
   refine wpAnyH_done (by kernel_rfl) ?_ _
   have H2 := H1.drew
   go_wp2
   go_ret
   exact ⟨retIn HC.out, H2.tail⟩
  ·have d1 : decide (k < 1) = false := decide_eq_false (by omega)
   have d2 : decide (13 < k) = true := decide_eq_true hk
   go_enter Tryz.func11, Tryz.ntmps11
   go_upto_region 1 with (fail)
   refine wp_region_held_drew (S := fun _ => True) (by kernel_rfl) (trivial) (fun hHeld => ?_)
   refine ztk 0 ?_
   simp only [Act.put, zp]
   refine ztk 1 ?_
   simp only [Act.put, zp]
   refine ztk 2 ?_
   simp only [Act.put, zp]
   refine ztk 3 ?_
   simp only [Act.put, zp]
   refine ztk 4 ?_
   simp only [Act.put, zp]
   refine ztk 5 ?_
   simp only [Act.put, zp]
   refine ztk 6 ?_
   simp only [Act.put, zp]
   refine wpAnyH_take (i := 7) (v := _) rfl (by kernel_rfl) (by kernel_rfl) (by kernel_rfl) (fun _ _ _ h => h) (Or.inr ⟨by rfl, rfl⟩) (by assumption) ?_
   simp only [Act.put, zp]
   refine wpAnyH_take (i := 8) (v := _) rfl (by kernel_rfl) (by kernel_rfl) (by kernel_rfl) (fun _ _ _ h => h) (Or.inr ⟨by rfl, rfl⟩) (by assumption) ?_
   simp only [Act.put, zp]
   refine wpAnyH_take (i := 10) (v := _) rfl (by kernel_rfl) (by kernel_rfl) (by kernel_rfl) (fun _ _ _ h => h) (Or.inr ⟨by rfl, rfl⟩) (by assumption) ?_
   simp only [Act.put, zp]
   refine zry 9 (fun K' hK' => ?_)
   dsimp only [zg1, zg3, zg2]
   go_simp
   (first | rw [if_neg (by decide)] | skip)
   refine hK'.out _ _ (trivial) (fun hHeld => ?_)
   clear hK' K'
   try simp only [Act.put, zp]
   refine zry 11 (fun K' hK' => ?_)
   dsimp only [zg1, zg3, zg2]
   go_simp
   (first | rw [if_neg (by decide)] | skip)
   refine hK'.out _ _ (trivial) (fun hHeld => ?_)
   clear hK' K'
   try simp only [Act.put, zp]
   refine wpAnyH_take (i := 12) (v := _) rfl (by kernel_rfl) (by kernel_rfl) (by kernel_rfl) (fun _ _ _ h => h) (Or.inr ⟨by rfl, rfl⟩) (by assumption) ?_
   simp only [Act.put, zp]
   refine ztk 13 ?_
   simp only [Act.put, zp]
   refine wpAnyH_done (by kernel_rfl) ?_ _
   have H2 := H1.drew
   go_wp2
   go_ret
   exact ⟨retIn HC.out, H2.tail⟩
 have hk1 : ¬ k < 1 := fun h => hk (.inl h)
 have hk2 : ¬ 13 < k := fun h => hk (.inr h)
 have hc1 : checkA k a = if partA k a ≠ a then 90 else if a.code ≠ 0 then (if a.code < 1 ∨ 999 < a.code then 90 else 0) else if numsOkB k a = false then 90 else if a.events.all right then 0 else 90 := by rw [hc]; unfold refCk; rw [if_neg hk]
 obtain ⟨B, hB⟩ : ∃ B, decide (partA k a = a) = B := ⟨_, rfl⟩
 have HPS := Lib.hid hps; have HE := Lib.hid hE; have HI := Lib.hid hI; have HR := Lib.hid hR; have HC1 := Lib.hid hc1; have HB := Lib.hid hB; have HOK := Lib.hid hok; have HFW := Lib.hid hfw; have HD := Lib.hid hD
 clear hk hc hc1 hps hE hI hR hB hok hfw H
 go_enter Tryz.func11, Tryz.ntmps11
 go_upto_region 1 with (fail)
 have HB1 := Lib.hid hb1
 clear hb1 hD
 generalize World.alloc _ _ = W at *
 go_cut [26] (fun t26 wc => t26 = .bool (!B) ∧ HL w0 wc (boxA b1 a (.slice Ae a.events.length ce) (.slice As a.job.set.length cs) (.slice Ar a.ranks.length cr) :: L))
 case first =>
  refine wp_region_held_drew (S := fun w' => w'.heap[b1]? = some (Obj.cells (ansA a (.slice Ae a.events.length ce) (.slice As a.job.set.length cs) (.slice Ar a.ranks.length cr)) 32 (0, 0))) (by kernel_rfl) (H1.drew.head) (fun hHeld => ?_)
  have Hd := H1.drew
  clear H1
  generalize World.drew _ = Wd at *
  have Gd : Wd.heap[b1]? = some (Obj.cells (ansA a (.slice Ae a.events.length ce) (.slice As a.job.set.length cs) (.slice Ar a.ranks.length cr)) 32 (0, 0)) := Hd.head
  refine ztk 0 ?_
  simp only [Act.put, zp]
  refine ztk 1 ?_
  simp only [Act.put, zp]
  refine ztk 2 ?_
  simp only [Act.put, zp]
  refine ztk 3 ?_
  simp only [Act.put, zp]
  refine ztk 4 ?_
  simp only [Act.put, zp]
  refine ztk 5 ?_
  simp only [Act.put, zp]
  refine ztk 6 ?_
  simp only [Act.put, zp]
  refine ztk 7 ?_
  simp only [Act.put, zp]
  refine wpAnyH_ready (rs := [8, 10]) (by kernel_rfl) (by simp) ?_
  refine AllReadyH.cons rfl (fun K' hK' => ?_) (AllReadyH.cons rfl (fun K' hK' => ?_) AllReadyH.nil)
  ·skip
   dsimp only [zg1, zg3, zg2]
   rw [if_pos (by rfl)]
   refine wp_load_row 32 _ rfl b1 rfl 32 _ (0, 0) _ Gd Tryz.underlying32 rfl (ansA_size _ _ _ _) ?_
   refine hK'.out _ _ (Gd) (fun hHeld => ?_)
   clear hK' K'
   try simp only [Act.put, zp]
   refine wpAnyH_ready (rs := [9, 10]) (by kernel_rfl) (by simp) ?_
   refine AllReadyH.cons rfl (fun K' hK' => ?_) (AllReadyH.cons rfl (fun K' hK' => ?_) AllReadyH.nil)
   ·skip
    dsimp only [zg1, zg3, zg2]
    have hpart : Calls Tryz.prog 30 #[.int .i64 k, .agg (ansA a (.slice Ae a.events.length ce) (.slice As a.job.set.length cs) (.slice Ar a.ranks.length cr))] Wd _ := Ref.part_ok Hd k a Ae As Ar ce cs cr
    go_simp
    go_at_call 30
    (with_reducible refine hpart.mono ?_)
    rintro r w3 ⟨Ae', As', Ar', ce', cs', cr', rfl, hse, hss, hsr, H9⟩
    clear hpart
    have G9 : w3.heap[b1]? = some (Obj.cells (ansA a (.slice Ae a.events.length ce) (.slice As a.job.set.length cs) (.slice Ar a.ranks.length cr)) 32 (0, 0)) := H9.head
    dsimp only
    go_simp
    refine hK'.out _ _ (G9) (fun hHeld => ?_)
    clear hK' K'
    try simp only [Act.put, zp]
    refine zry 10 (fun K' hK' => ?_)
    dsimp only [zg1, zg3, zg2]
    rw [if_pos (by rfl)]
    refine wp_load_row 32 _ rfl b1 rfl 32 _ (0, 0) _ G9 Tryz.underlying32 rfl (ansA_size _ _ _ _) ?_
    refine hK'.out _ _ (G9) (fun hHeld => ?_)
    clear hK' K'
    try simp only [Act.put, zp]
    refine zry 11 (fun K' hK' => ?_)
    dsimp only [zg1, zg3, zg2]
    obtain ⟨qs, hqs, hE'⟩ := Same.evs HPS.out (HE.out.cons _) hse
    have hsm : Calls Tryz.prog 12 #[ansV (partA k a) (.slice Ae' (partA k a).events.length ce') (.slice As' (partA k a).job.set.length cs') (.slice Ar' (partA k a).ranks.length cr'), .agg (ansA a (.slice Ae a.events.length ce) (.slice As a.job.set.length cs) (.slice Ar a.ranks.length cr))] w3 _ := Ref.Same_ok H9 (partA k a) a Ae' As' Ar' Ae As Ar ce' cs' cr' ce cs cr hqs HPS.out hE' (Same.ints (HI.out.cons _) hss) (Same.rks (HR.out.cons _) hsr) (HE.out.cons _) (HI.out.cons _) (HR.out.cons _)
    rw [sameA_eq, HB.out] at hsm
    clear hqs hE'
    go_simp
    go_at_call 12
    (with_reducible refine hsm.mono ?_)
    rintro r w4 ⟨rfl, H11⟩
    clear hsm
    dsimp only
    go_simp
    refine hK'.out _ _ (H11.head) (fun hHeld => ?_)
    clear hK' K'
    try simp only [Act.put, zp]
    refine ztk 12 ?_
    simp only [Act.put, zp]
    refine ztk 13 ?_
    simp only [Act.put, zp]
    refine wpAnyH_done (by kernel_rfl) ?_ _
    go_wp2
    go_meet
    exact ⟨rfl, H11⟩
   ·skip
    dsimp only [zg1, zg3, zg2]
    rw [if_pos (by rfl)]
    refine wp_load_row 32 _ rfl b1 rfl 32 _ (0, 0) _ Gd Tryz.underlying32 rfl (ansA_size _ _ _ _) ?_
    refine hK'.out _ _ (Gd) (fun hHeld => ?_)
    clear hK' K'
    try simp only [Act.put, zp]
    refine zry 9 (fun K' hK' => ?_)
    dsimp only [zg1, zg3, zg2]
    have hpart : Calls Tryz.prog 30 #[.int .i64 k, .agg (ansA a (.slice Ae a.events.length ce) (.slice As a.job.set.length cs) (.slice Ar a.ranks.length cr))] Wd _ := Ref.part_ok Hd k a Ae As Ar ce cs cr
    go_simp
    go_at_call 30
    (with_reducible refine hpart.mono ?_)
    rintro r w3 ⟨Ae', As', Ar', ce', cs', cr', rfl, hse, hss, hsr, H9⟩
    clear hpart
    have G9 : w3.heap[b1]? = some (Obj.cells (ansA a (.slice Ae a.events.length ce) (.slice As a.job.set.length cs) (.slice Ar a.ranks.length cr)) 32 (0, 0)) := H9.head
    dsimp only
    go_simp
    refine hK'.out _ _ (G9) (fun hHeld => ?_)
    clear hK' K'
    try simp only [Act.put, zp]
    refine zry 11 (fun K' hK' => ?_)
    dsimp only [zg1, zg3, zg2]
    obtain ⟨qs, hqs, hE'⟩ := Same.evs HPS.out (HE.out.cons _) hse
    have hsm : Calls Tryz.prog 12 #[ansV (partA k a) (.slice Ae' (partA k a).events.length ce') (.slice As' (partA k a).job.set.length cs') (.slice Ar' (partA k a).ranks.length cr'), .agg (ansA a (.slice Ae a.events.length ce) (.slice As a.job.set.length cs) (.slice Ar a.ranks.length cr))] w3 _ := Ref.Same_ok H9 (partA k a) a Ae' As' Ar' Ae As Ar ce' cs' cr' ce cs cr hqs HPS.out hE' (Same.ints (HI.out.cons _) hss) (Same.rks (HR.out.cons _) hsr) (HE.out.cons _) (HI.out.cons _) (HR.out.cons _)
    rw [sameA_eq, HB.out] at hsm
    clear hqs hE'
    go_simp
    go_at_call 12
    (with_reducible refine hsm.mono ?_)
    rintro r w4 ⟨rfl, H11⟩
    clear hsm
    dsimp only
    go_simp
    refine hK'.out _ _ (H11.head) (fun hHeld => ?_)
    clear hK' K'
    try simp only [Act.put, zp]
    refine ztk 12 ?_
    simp only [Act.put, zp]
    refine ztk 13 ?_
    simp only [Act.put, zp]
    refine wpAnyH_done (by kernel_rfl) ?_ _
    go_wp2
    go_meet
    exact ⟨rfl, H11⟩
  ·skip
   dsimp only [zg1, zg3, zg2]
   rw [if_pos (by rfl)]
   refine wp_load_row 32 _ rfl b1 rfl 32 _ (0, 0) _ Gd Tryz.underlying32 rfl (ansA_size _ _ _ _) ?_
   refine hK'.out _ _ (Gd) (fun hHeld => ?_)
   clear hK' K'
   try simp only [Act.put, zp]
   refine zry 8 (fun K' hK' => ?_)
   dsimp only [zg1, zg3, zg2]
   rw [if_pos (by rfl)]
   refine wp_load_row 32 _ rfl b1 rfl 32 _ (0, 0) _ Gd Tryz.underlying32 rfl (ansA_size _ _ _ _) ?_
   refine hK'.out _ _ (Gd) (fun hHeld => ?_)
   clear hK' K'
   try simp only [Act.put, zp]
   refine zry 9 (fun K' hK' => ?_)
   dsimp only [zg1, zg3, zg2]
   have hpart : Calls Tryz.prog 30 #[.int .i64 k, .agg (ansA a (.slice Ae a.events.length ce) (.slice As a.job.set.length cs) (.slice Ar a.ranks.length cr))] Wd _ := Ref.part_ok Hd k a Ae As Ar ce cs cr
   go_simp
   go_at_call 30
   (with_reducible refine hpart.mono ?_)
   rintro r w3 ⟨Ae', As', Ar', ce', cs', cr', rfl, hse, hss, hsr, H9⟩
   clear hpart
   have G9 : w3.heap[b1]? = some (Obj.cells (ansA a (.slice Ae a.events.length ce) (.slice As a.job.set.length cs) (.slice Ar a.ranks.length cr)) 32 (0, 0)) := H9.head
   dsimp only
   go_simp
   refine hK'.out _ _ (G9) (fun hHeld => ?_)
   clear hK' K'
   try simp only [Act.put, zp]
   refine zry 11 (fun K' hK' => ?_)
   dsimp only [zg1, zg3, zg2]
   obtain ⟨qs, hqs, hE'⟩ := Same.evs HPS.out (HE.out.cons _) hse
   have hsm : Calls Tryz.prog 12 #[ansV (partA k a) (.slice Ae' (partA k a).events.length ce') (.slice As' (partA k a).job.set.length cs') (.slice Ar' (partA k a).ranks.length cr'), .agg (ansA a (.slice Ae a.events.length ce) (.slice As a.job.set.length cs) (.slice Ar a.ranks.length cr))] w3 _ := Ref.Same_ok H9 (partA k a) a Ae' As' Ar' Ae As Ar ce' cs' cr' ce cs cr hqs HPS.out hE' (Same.ints (HI.out.cons _) hss) (Same.rks (HR.out.cons _) hsr) (HE.out.cons _) (HI.out.cons _) (HR.out.cons _)
   rw [sameA_eq, HB.out] at hsm
   clear hqs hE'
   go_simp
   go_at_call 12
   (with_reducible refine hsm.mono ?_)
   rintro r w4 ⟨rfl, H11⟩
   clear hsm
   dsimp only
   go_simp
   refine hK'.out _ _ (H11.head) (fun hHeld => ?_)
   clear hK' K'
   try simp only [Act.put, zp]
   refine ztk 12 ?_
   simp only [Act.put, zp]
   refine ztk 13 ?_
   simp only [Act.put, zp]
   refine wpAnyH_done (by kernel_rfl) ?_ _
   go_wp2
   go_meet
   exact ⟨rfl, H11⟩
 case rest =>
  obtain ⟨rfl, H2⟩ := hcut
  clear H1
  cases B
  ·have HC := Lib.hid (show checkA k a = 90 by rw [HC1.out, if_pos (of_decide_eq_false HB.out)])
   go_wp2
   go_ret
   exact ⟨retIn HC.out, H2.tail⟩
  have hc2 := HC1.out
  rw [if_neg (fun h => h (of_decide_eq_true HB.out))] at hc2
  have n0 := HL.cell H2 0
  by_cases hcd : a.code = 0
  case neg =>
   have q0 : (a.code != 0) = true := by simp [hcd]
   rw [if_pos hcd] at hc2
   by_cases m1 : a.code < 1
   ·rw [if_pos (.inl m1)] at hc2
    have HC := Lib.hid hc2
    clear hc2 hcd
    go_wp2
    go_ret
    exact ⟨retIn HC.out, H2.tail⟩
   ·by_cases m2 : 999 < a.code
    ·rw [if_pos (.inr m2)] at hc2
     have HC := Lib.hid hc2
     clear hc2 hcd
     go_wp2
     go_ret
     exact ⟨retIn HC.out, H2.tail⟩
    ·rw [if_neg (by omega)] at hc2
     have HC := Lib.hid hc2
     clear hc2 hcd
     go_wp2
     go_ret
     exact ⟨retIn HC.out, H2.tail⟩
  have q0 : (a.code != 0) = false := by simp [hcd]
  rw [if_neg (by simp [hcd])] at hc2
  have HC2 := Lib.hid hc2
  clear hc2 hcd HC1
  go_upto_region 7 with (fail)
  clear n0 q0
  obtain ⟨c0, c1, c2, c3, c4, c5, c6, c7, c8, c9, c10, c11, c12, c13, c14, c15, c16, c17, c18, c19, c20, c21, c22, c23, c24, c25, c26⟩ := boxA_cells H2
  have HJ : HL w0 (wc.alloc (.cells #[.int .i64 0, .int .i64 0, .int .i64 0, .int .i64 0, .int .i64 0, .int .i64 0, .int .i64 0, .slice none 0 0] 26)) (boxJ wc.heap.size zJ (.slice none 0 0) :: _) := H2.alloc _
  have GJ : _ = some (Obj.cells _ 26 (0, 0)) := HJ.head
  have HS : HL w0 _ (boxJ wc.heap.size a.job (.slice As a.job.set.length cs) :: _) := HL.setWhole (cells := jbA a.job (.slice As a.job.set.length cs)) HJ
  go_upto_region 8 with (refine wpList_store_row rfl 26 _ _ rfl wc.heap.size (jbA a.job (.slice As a.job.set.length cs)) rfl rfl 26 _ GJ (jbA_size _ _) rfl (jbA_one _ _ _ _) ?_)
  clear GJ HJ H2 c0 c1 c2 c3 c4 c5 c6 c7 c8 c9 c10 c11 c12 c13 c14 c15 c16 c17 c18 c19 c20 c21 c22 c23 c24 c25 c26
  generalize World.setRow _ _ _ = W2 at *
  generalize wc.heap.size = bj at *
  obtain ⟨c0, c1, c2, c3, c4, c5, c6, c7, c8, c9, c10, c11, c12, c13, c14, c15, c16, c17, c18, c19, c20, c21, c22, c23, c24, c25, c26⟩ := boxA_cells HS.tail
  obtain ⟨j0, j1, j2, j3, j4, j5, j6, j7⟩ := boxJ_cells HS
  obtain ⟨h1, hh1⟩ : ∃ x, IntKind.i64.wrap (a.holder + 1) = x := ⟨_, rfl⟩
  have HH1 := Lib.hid hh1
  have H3 := HS.alloc (.cells #[.int .i64 a.id, .int .i64 a.raw, .int .i64 a.free, .int .i64 h1, .int .i64 a.shadow, .int .i64 a.bound, .int .i64 a.job.acc, .int .i64 a.job.nodes, .int .i64 a.job.lim, .int .i64 a.job.sub, .int .i64 a.job.start, .int .i64 a.job.fin] 3)
  clear HS
  go_upto_region 9 with (fail)
  have HW := Lib.hid hh1
  clear hh1 c0 c1 c2 c3 c4 c5 c6 c7 c8 c9 c10 c11 c12 c13 c14 c15 c16 c17 c18 c19 c20 c21 c22 c23 c24 c25 c26 j0 j1 j2 j3 j4 j5 j6 j7
  generalize World.alloc W2 _ = W3 at *
  generalize W2.heap.size = b6 at *
  have g16 : W3.cell? ⟨b1, 16, none⟩ = some (.int .i64 a.holder) := HL.cell H3.tail.tail 16
  obtain ⟨T, hT⟩ : ∃ T : Bool, decide (a.holder < -1 ∨ a.holder = 9223372036854775807) = T := ⟨_, rfl⟩
  have HT := Lib.hid hT
  clear hT
  go_cut [73] (fun t73 wd => t73 = .bool T ∧ W3 = wd)
  case first =>
   by_cases u1 : a.holder < -1
   ·have ht := HT.out
    rw [decide_eq_true (.inl u1)] at ht
    subst ht
    go_wp2
    go_meet
    exact ⟨rfl, rfl⟩
   ·by_cases u2 : a.holder = 9223372036854775807
    ·have ht := HT.out
     rw [decide_eq_true (.inr u2)] at ht
     subst ht
     have u3 : (a.holder == 9223372036854775807) = true := by simp [u2]
     clear u2
     go_wp2
     go_meet
     exact ⟨rfl, rfl⟩
    ·have ht := HT.out
     rw [decide_eq_false (by omega)] at ht
     subst ht
     have u3 : (a.holder == 9223372036854775807) = false := by simp [u2]
     clear u2
     go_wp2
     go_meet
     exact ⟨rfl, rfl⟩
  case rest =>
   obtain ⟨rfl, rfl⟩ := hcut
   go_upto_if 73 with (fail)
   go_cut [] (fun we => HL w0 we (intsR w0.heap.size (.slice (some ⟨b6, 0, none⟩) 12 12) (ckL a) :: boxJ bj a.job (.slice As a.job.set.length cs) :: boxA b1 a (.slice Ae a.events.length ce) (.slice As a.job.set.length cs) (.slice Ar a.ranks.length cr) :: L))
   case first =>
    cases T
    ·have hl : intC (ckL a) = [.int .i64 a.id, .int .i64 a.raw, .int .i64 a.free, .int .i64 h1, .int .i64 a.shadow, .int .i64 a.bound, .int .i64 a.job.acc, .int .i64 a.job.nodes, .int .i64 a.job.lim, .int .i64 a.job.sub, .int .i64 a.job.start, .int .i64 a.job.fin] := by
      have ht := of_decide_eq_false HT.out
      have h3 : h1 = a.holder + 1 := by
       rw [← HH1.out]
       have := HOK.out.holder
       unfold An.Int64 at this
       rw [IntWalk.i64_in] <;> omega
      unfold ckL hold3
      rw [if_neg ht, h3]; rfl
     have H4 := H3.rowOf (k := 1) (n := 12) (cs := [.int .i64 a.id, .int .i64 a.raw, .int .i64 a.free, .int .i64 h1, .int .i64 a.shadow, .int .i64 a.bound, .int .i64 a.job.acc, .int .i64 a.job.nodes, .int .i64 a.job.lim, .int .i64 a.job.sub, .int .i64 a.job.start, .int .i64 a.job.fin]) rfl (by decide)
     rw [← hl] at H4
     have H5 : HL w0 W3 (intsR w0.heap.size (.slice (some ⟨b6, 0, none⟩) 12 12) (ckL a) :: _) := H4
     clear hl H4
     go_wp2
     go_meet
     exact H5
    ·have hl : intC (ckL a) = [.int .i64 a.id, .int .i64 a.raw, .int .i64 a.free, .int .i64 a.holder, .int .i64 a.shadow, .int .i64 a.bound, .int .i64 a.job.acc, .int .i64 a.job.nodes, .int .i64 a.job.lim, .int .i64 a.job.sub, .int .i64 a.job.start, .int .i64 a.job.fin] := by
      have ht := of_decide_eq_true HT.out
      unfold ckL hold3
      rw [if_pos ht]; rfl
     have m3 : W3.cell? ⟨b6, 3, none⟩ = some (.int .i64 h1) := HL.cell H3 3
     have y3 : W3.frozen? ⟨b6, 3, none⟩ = false := HL.frozen H3 3
     have H3' : HL w0 (W3.setCell ⟨b6, 3, none⟩ (.int .i64 a.holder)) (blk b6 (.cells #[.int .i64 a.id, .int .i64 a.raw, .int .i64 a.free, .int .i64 a.holder, .int .i64 a.shadow, .int .i64 a.bound, .int .i64 a.job.acc, .int .i64 a.job.nodes, .int .i64 a.job.lim, .int .i64 a.job.sub, .int .i64 a.job.start, .int .i64 a.job.fin] 3) :: _) := HL.setCell H3 3 (.int .i64 a.holder)
     have H4 := H3'.rowOf (k := 1) (n := 12) (cs := [.int .i64 a.id, .int .i64 a.raw, .int .i64 a.free, .int .i64 a.holder, .int .i64 a.shadow, .int .i64 a.bound, .int .i64 a.job.acc, .int .i64 a.job.nodes, .int .i64 a.job.lim, .int .i64 a.job.sub, .int .i64 a.job.start, .int .i64 a.job.fin]) rfl (by decide)
     rw [← hl] at H4
     have H5 : HL w0 _ (intsR w0.heap.size (.slice (some ⟨b6, 0, none⟩) 12 12) (ckL a) :: _) := H4
     clear hl H4 H3'
     go_wp2
     go_meet
     exact H5
   case rest =>
    have H5 := hcut
    clear hcut H3 g16
    have f11 : World.cell? _ ⟨b1, 11, none⟩ = some (.slice Ar a.ranks.length cr) := HL.cell H5.tail.tail 11
    have hRk := fun W' v l (HH : HL w0 W' (intsR w0.heap.size v l :: boxJ bj a.job (.slice As a.job.set.length cs) :: boxA b1 a (.slice Ae a.events.length ce) (.slice As a.job.set.length cs) (.slice Ar a.ranks.length cr) :: L)) => (((HR.out.cons _).cons _).cons _) W' HH
    have HRK := Lib.hid hRk
    obtain ⟨-, -, aR, cR, hvR, hR1, hR2, -, -⟩ := hRk _ _ _ H5
    simp only [Value.slice.injEq] at hvR
    obtain ⟨rfl, -, rfl⟩ := hvR
    unfold maxLen at hR2
    clear hRk
    go_wp2
    clear f11
    go_loopg [6, 81] a.ranks.length (fun g t6 i wr => ∃ (n : Nat) (v : Value), i = .int .i64 n ∧ n + g = a.ranks.length ∧ t6 = v ∧ HL w0 wr (intsR w0.heap.size v (ckL a ++ rkL (a.ranks.take n)) :: boxJ bj a.job (.slice As a.job.set.length cs) :: boxA b1 a (.slice Ae a.events.length ce) (.slice As a.job.set.length cs) (.slice Ar a.ranks.length cr) :: L))
    case atStart => exact ⟨0, _, rfl, by omega, rfl, by rw [List.take_zero, show rkL [] = [] from rfl, List.append_nil]; exact H5⟩
    case round =>
     obtain ⟨n, v, rfl, hn, rfl, HK⟩ := hrel
     clear H5
     by_cases hlt : n < a.ranks.length
     ·obtain ⟨x, hx⟩ : ∃ x, a.ranks[n]? = some x := ⟨_, List.getElem?_eq_getElem hlt⟩
      obtain ⟨b', o', c', hv, d0, d1⟩ := rk_at (HRK.out _ _ _ HK) hx
      simp only [Value.slice.injEq] at hv
      obtain ⟨rfl, -, rfl⟩ := hv
      have hnx : ckL a ++ rkL (a.ranks.take (n + 1)) = (ckL a ++ rkL (a.ranks.take n)) ++ [x.job, x.prio] := by rw [List.take_add_one, hx]; simp only [Option.toList_some]; rw [rkL_snoc, List.append_assoc]
      have hln : (ckL a ++ rkL (a.ranks.take n)).length ≤ 17592186044000 := by
       rw [List.length_append, ckL_len, rkL_len, List.length_take]
       have := HOK.out.fewR
       omega
      have HN := Lib.hid hnx; have HX := Lib.hid hx
      generalize ckL a ++ rkL (a.ranks.take n) = l at *
      obtain ⟨A6, z6, rfl, hc1, hc2⟩ := rd_shape (entRow _ HK)
      unfold maxLen at hc2
      have HA := HK.alloc' (.cells #[.int .i64 x.job, .int .i64 x.prio] 62)
      have HA2 := HA.alloc' (.cells #[.int .i64 x.job, .int .i64 x.prio] 3)
      have hr4 : Rd 1 (.slice (some ⟨wr.heap.size + 1, 0, none⟩) 2 2) 2 (intC [x.job, x.prio]) ((wr.alloc (.cells #[.int .i64 x.job, .int .i64 x.prio] 62)).alloc (.cells #[.int .i64 x.job, .int .i64 x.prio] 3)) := rd_new (cs := intC [x.job, x.prio]) (b := wr.heap.size + 1) (by rw [World.size_alloc]) rfl (by unfold maxLen; simp)
      clear hnx hx
      go_wp2_with (at_builtin; refine append_ints (v := .slice A6 l.length z6) (xs := l) (ys := [x.job, x.prio]) rfl _ _ rfl HA2 rfl rfl hr4 (by simp only [List.length_cons, List.length_nil]; omega) ?_; intro z5 w8 H8; clear HA HA2 hr4 HK)
      go_roundg (gk - 1)
      case measure => omega
      case rel => exact ⟨n + 1, _, by go_num, by omega, rfl, by rw [HN.out]; exact H8⟩
     ·rw [List.take_of_length_le (by omega)] at HK
      obtain ⟨S1, hS1⟩ : ∃ B, sgn (ckL a ++ rkL a.ranks) = B := ⟨_, rfl⟩
      obtain ⟨S2, hS2⟩ : ∃ B, sgn (cfL a.cfg) = B := ⟨_, rfl⟩
      obtain ⟨S3, hS3⟩ : ∃ B, ris a.job.set = B := ⟨_, rfl⟩
      obtain ⟨S4, hS4⟩ : ∃ B, decide (stW a.job.st = ⟨#[]⟩) = B := ⟨_, rfl⟩
      obtain ⟨K9, hK9⟩ : ∃ B, (k == 9) = B := ⟨_, rfl⟩
      have hc3 : checkA k a = if (S1 && S2 && S3 && !(K9 && S4)) = false then 90 else if a.events.all right then 0 else 90 := by rw [HC2.out]; unfold numsOkB; rw [hS1, hS2, hS3, hS4, hK9]
      have hln : (ckL a ++ rkL a.ranks).length ≤ 17592186044000 := by
       rw [List.length_append, ckL_len, rkL_len]
       have := HOK.out.fewR
       omega
      have hfr := Ref.from0_ok (entRow _ HK)
      rw [hS1] at hfr
      generalize ckL a ++ rkL a.ranks = l at *
      obtain ⟨A6, z6, rfl, hc1, hc2⟩ := rd_shape (entRow _ HK)
      have hcfg := Ref.config_ok HK a.cfg
      unfold cfV at hcfg
      have hf2 := fun W' v (HH : HL w0 W' (intsR w0.heap.size v (cfL a.cfg) :: intsR w0.heap.size (.slice A6 l.length z6) l :: boxJ bj a.job (.slice As a.job.set.length cs) :: boxA b1 a (.slice Ae a.events.length ce) (.slice As a.job.set.length cs) (.slice Ar a.ranks.length cr) :: L)) => Ref.from0_ok (entRow W' HH)
      rw [hS2] at hf2
      have hri := fun W' v (HH : HL w0 W' (intsR w0.heap.size v (cfL a.cfg) :: intsR w0.heap.size (.slice A6 l.length z6) l :: boxJ bj a.job (.slice As a.job.set.length cs) :: boxA b1 a (.slice Ae a.events.length ce) (.slice As a.job.set.length cs) (.slice Ar a.ranks.length cr) :: L)) => Ref.rises_ok (((((HI.out.cons _).cons _).cons _).cons _) W' HH)
      rw [hS3] at hri
      have hst := fun W => Ref.state_ok a.job.st W
      have q1 : (stW a.job.st).toList.isEmpty = S4 := by rw [isEmpty_str, ← hS4]; simp
      have HC3 := Lib.hid hc3; have HS4 := Lib.hid hS4
      generalize stW a.job.st = ST at *
      have hjc := fun W' v (HH : HL w0 W' (intsR w0.heap.size v (cfL a.cfg) :: intsR w0.heap.size (.slice A6 l.length z6) l :: boxJ bj a.job (.slice As a.job.set.length cs) :: boxA b1 a (.slice Ae a.events.length ce) (.slice As a.job.set.length cs) (.slice Ar a.ranks.length cr) :: L)) => boxJ_cells HH.tail.tail
      have HJC := Lib.hid hjc
      clear hc3 hS1 hS2 hS3 hS4 hjc
      go_upto_region 16 with (fail)
      obtain ⟨c0, c1, c2, c3, c4, c5, c6, c7, c8, c9, c10, c11, c12, c13, c14, c15, c16, c17, c18, c19, c20, c21, c22, c23, c24, c25, c26⟩ := boxA_cells HK.tail.tail
      cases S1
      ·have HC := Lib.hid (show checkA k a = 90 by rw [HC3.out]; rfl)
       go_wp2_with (first
        | (go_at_call 32; (with_reducible refine hcfg.mono ?_); rintro r w5 ⟨v, rfl, H7⟩; clear hcfg HK c0 c1 c2 c3 c4 c5 c6 c7 c8 c9 c10 c11 c12 c13 c14 c15 c16 c17 c18 c19 c20 c21 c22 c23 c24 c25 c26; obtain ⟨A8, z8, rfl, -, -⟩ := rd_shape (entRow _ H7); have g2 := hf2 _ _ H7; have g3 := hri _ _ H7; obtain ⟨j0, j1, j2, j3, j4, j5, j6, j7⟩ := HJC.out _ _ H7)
        | (go_at_call 31; first | (refine hfr.mono ?_; rintro r w5 ⟨rfl, rfl⟩; clear hfr) | (refine g2.mono ?_; rintro r w6 ⟨rfl, rfl⟩; clear g2))
        | (go_at_call 33; refine g3.mono ?_; rintro r w6 ⟨rfl, rfl⟩; clear g3)
        | (go_at_call 34; refine (hst _).mono ?_; rintro r w6 ⟨rfl, rfl⟩))
       go_ret
       exact ⟨retIn HC.out, HK.tail.tail.tail⟩
      cases S2
      ·have HC := Lib.hid (show checkA k a = 90 by rw [HC3.out]; rfl)
       go_wp2_with (first
        | (go_at_call 32; (with_reducible refine hcfg.mono ?_); rintro r w5 ⟨v, rfl, H7⟩; clear hcfg HK c0 c1 c2 c3 c4 c5 c6 c7 c8 c9 c10 c11 c12 c13 c14 c15 c16 c17 c18 c19 c20 c21 c22 c23 c24 c25 c26; obtain ⟨A8, z8, rfl, -, -⟩ := rd_shape (entRow _ H7); have g2 := hf2 _ _ H7; have g3 := hri _ _ H7; obtain ⟨j0, j1, j2, j3, j4, j5, j6, j7⟩ := HJC.out _ _ H7)
        | (go_at_call 31; first | (refine hfr.mono ?_; rintro r w5 ⟨rfl, rfl⟩; clear hfr) | (refine g2.mono ?_; rintro r w6 ⟨rfl, rfl⟩; clear g2))
        | (go_at_call 33; refine g3.mono ?_; rintro r w6 ⟨rfl, rfl⟩; clear g3)
        | (go_at_call 34; refine (hst _).mono ?_; rintro r w6 ⟨rfl, rfl⟩))
       go_ret
       exact ⟨retIn HC.out, H7.tail.tail.tail.tail⟩
      cases S3
      ·have HC := Lib.hid (show checkA k a = 90 by rw [HC3.out]; rfl)
       go_wp2_with (first
        | (go_at_call 32; (with_reducible refine hcfg.mono ?_); rintro r w5 ⟨v, rfl, H7⟩; clear hcfg HK c0 c1 c2 c3 c4 c5 c6 c7 c8 c9 c10 c11 c12 c13 c14 c15 c16 c17 c18 c19 c20 c21 c22 c23 c24 c25 c26; obtain ⟨A8, z8, rfl, -, -⟩ := rd_shape (entRow _ H7); have g2 := hf2 _ _ H7; have g3 := hri _ _ H7; obtain ⟨j0, j1, j2, j3, j4, j5, j6, j7⟩ := HJC.out _ _ H7)
        | (go_at_call 31; first | (refine hfr.mono ?_; rintro r w5 ⟨rfl, rfl⟩; clear hfr) | (refine g2.mono ?_; rintro r w6 ⟨rfl, rfl⟩; clear g2))
        | (go_at_call 33; refine g3.mono ?_; rintro r w6 ⟨rfl, rfl⟩; clear g3)
        | (go_at_call 34; refine (hst _).mono ?_; rintro r w6 ⟨rfl, rfl⟩))
       go_ret
       exact ⟨retIn HC.out, H7.tail.tail.tail.tail⟩
      cases K9
      ·have HC4 := Lib.hid (show checkA k a = if a.events.all right then 0 else 90 by rw [HC3.out]; rfl)
       go_upto_region 18 with (first
        | (go_at_call 32; (with_reducible refine hcfg.mono ?_); rintro r w5 ⟨v, rfl, H7⟩; clear hcfg HK c0 c1 c2 c3 c4 c5 c6 c7 c8 c9 c10 c11 c12 c13 c14 c15 c16 c17 c18 c19 c20 c21 c22 c23 c24 c25 c26; obtain ⟨A8, z8, rfl, -, -⟩ := rd_shape (entRow _ H7); have g2 := hf2 _ _ H7; have g3 := hri _ _ H7; obtain ⟨j0, j1, j2, j3, j4, j5, j6, j7⟩ := HJC.out _ _ H7)
        | (go_at_call 31; first | (refine hfr.mono ?_; rintro r w5 ⟨rfl, rfl⟩; clear hfr) | (refine g2.mono ?_; rintro r w6 ⟨rfl, rfl⟩; clear g2))
        | (go_at_call 33; refine g3.mono ?_; rintro r w6 ⟨rfl, rfl⟩; clear g3)
        | (go_at_call 34; refine (hst _).mono ?_; rintro r w6 ⟨rfl, rfl⟩))
       generalize (Value.slice A8 (cfL a.cfg).length z8) = v at *
       have hev := fun e he (W' : World) v L' (HH : HL w0 W' L') (h : Ints w0 L' v e.list) => Ref.event_ok HD.out HH e h (HOK.out.events e he) (HFW.out e he)
       have HEV := Lib.hid hev
       have hEr := fun W' (HH : HL w0 W' (intsR w0.heap.size v (cfL a.cfg) :: intsR w0.heap.size (.slice A6 l.length z6) l :: boxJ bj a.job (.slice As a.job.set.length cs) :: boxA b1 a (.slice Ae a.events.length ce) (.slice As a.job.set.length cs) (.slice Ar a.ranks.length cr) :: L)) => (((((HE.out.cons _).cons _).cons _).cons _)).rd W' HH
       have hEo := fun p hp A5 => (((((HE.out.own p hp).cons (boxA b1 a (.slice Ae a.events.length ce) (.slice As a.job.set.length cs) (.slice Ar a.ranks.length cr))).cons (boxJ bj a.job (.slice As a.job.set.length cs))).cons (intsR w0.heap.size (.slice A6 l.length z6) l)).cons (intsR w0.heap.size v (cfL a.cfg))).cons A5
       have HER := Lib.hid hEr; have HEO := Lib.hid hEo
       obtain ⟨-, -, aE, cE, hvE, hE1, hE2, -, -⟩ := hEr _ H7
       simp only [Value.slice.injEq] at hvE
       obtain ⟨rfl, hlE, rfl⟩ := hvE
       unfold maxLen at hE2
       rw [← hlE] at hE1
       have HLE := Lib.hid hlE
       have f2 : World.cell? _ ⟨b1, 2, none⟩ = some (.slice Ae a.events.length ce) := HL.cell H7.tail.tail.tail 2
       clear hev hEr hEo hlE
       go_wp2
       clear f2
       go_loopg [122] a.events.length (fun g i wq => ∃ n : Nat, i = .int .i64 n ∧ n + g = a.events.length ∧ (a.events.take n).all right = true ∧ HL w0 wq (intsR w0.heap.size v (cfL a.cfg) :: intsR w0.heap.size (.slice A6 l.length z6) l :: boxJ bj a.job (.slice As a.job.set.length cs) :: boxA b1 a (.slice Ae a.events.length ce) (.slice As a.job.set.length cs) (.slice Ar a.ranks.length cr) :: L))
       case atStart => exact ⟨0, rfl, by omega, by simp, H7⟩
       case round =>
        obtain ⟨n2, rfl, hn2, hal, HQ⟩ := hrel
        have HAL := Lib.hid hal
        clear H7 hal
        by_cases hlt2 : n2 < a.events.length
        ·obtain ⟨⟨e, u⟩, hp⟩ : ∃ p, ps[n2]? = some p := ⟨_, List.getElem?_eq_getElem (by rw [← HLE.out]; exact hlt2)⟩
         have hev : a.events[n2]? = some e := by rw [HPS.out, List.getElem?_map, hp]; rfl
         obtain ⟨b', o', c', hv, d0, d1, d2, d3, d4, d5⟩ := ev_at (HER.out _ HQ) hp
         simp only [Value.slice.injEq] at hv
         obtain ⟨rfl, -, rfl⟩ := hv
         have ho := HEO.out (e, u) (List.mem_of_getElem? hp)
         dsimp only at ho d0 d1 d2 d3 d4 d5
         have HA := HL.allocE HQ e u
         obtain ⟨Au, cu, rfl, -, -⟩ := rd_shape (ho _ _ HA)
         have hnx : (a.events.take (n2 + 1)).all right = ((a.events.take n2).all right && right e) := by rw [List.take_add_one, hev]; simp
         have hri := HEV.out e (List.mem_of_getElem? hev) _ _ _ HA (ho _)
         unfold evV at hri
         obtain ⟨m0, m1, m2, m3, m4, m5⟩ := boxE_cells HA
         have hbad : right e = false → checkA k a = 90 := fun hr => by
          rw [HC4.out, if_neg]
          intro hall
          have := List.all_eq_true.1 hall e (List.mem_of_getElem? hev)
          rw [hr] at this
          cases this
         have HN := Lib.hid hnx; have HP2 := Lib.hid hp
         cases hr : right e with
         | true =>
          rw [(evN_yes hr).1] at hri
          have HN2 := Lib.hid (show (a.events.take (n2 + 1)).all right = true by rw [HN.out, HAL.out, hr]; rfl)
          clear hnx hev hp ho hbad hr
          go_wp2_with (go_at_call 35; refine hri.mono ?_; rintro r w3 ⟨rfl, H3⟩; clear HA)
          go_roundg (gk - 1)
          case measure => omega
          case rel => exact ⟨n2 + 1, by go_num, by omega, HN2.out, H3.tail⟩
         | false =>
          rw [(evN_no hr).1] at hri
          have HBAD := Lib.hid (hbad hr)
          clear hnx hev hp ho hbad hr
          go_wp2_with (go_at_call 35; refine hri.mono ?_; rintro r w3 ⟨rfl, H3⟩; clear HA)
          go_ret
          exact ⟨retIn HBAD.out, H3.tail.tail.tail.tail.tail⟩
        ·have hfin : checkA k a = 0 := by
          have h := HAL.out
          rw [List.take_of_length_le (by omega)] at h
          rw [HC4.out, h]; rfl
         have HFIN := Lib.hid hfin
         clear hfin
         go_wp2
         go_ret
         exact ⟨retIn HFIN.out, HQ.tail.tail.tail.tail⟩
      cases S4
      ·have HC4 := Lib.hid (show checkA k a = if a.events.all right then 0 else 90 by rw [HC3.out]; rfl)
       go_upto_region 18 with (first
        | (go_at_call 32; (with_reducible refine hcfg.mono ?_); rintro r w5 ⟨v, rfl, H7⟩; clear hcfg HK c0 c1 c2 c3 c4 c5 c6 c7 c8 c9 c10 c11 c12 c13 c14 c15 c16 c17 c18 c19 c20 c21 c22 c23 c24 c25 c26; obtain ⟨A8, z8, rfl, -, -⟩ := rd_shape (entRow _ H7); have g2 := hf2 _ _ H7; have g3 := hri _ _ H7; obtain ⟨j0, j1, j2, j3, j4, j5, j6, j7⟩ := HJC.out _ _ H7)
        | (go_at_call 31; first | (refine hfr.mono ?_; rintro r w5 ⟨rfl, rfl⟩; clear hfr) | (refine g2.mono ?_; rintro r w6 ⟨rfl, rfl⟩; clear g2))
        | (go_at_call 33; refine g3.mono ?_; rintro r w6 ⟨rfl, rfl⟩; clear g3)
        | (go_at_call 34; refine (hst _).mono ?_; rintro r w6 ⟨rfl, rfl⟩))
       generalize (Value.slice A8 (cfL a.cfg).length z8) = v at *
       have hev := fun e he (W' : World) v L' (HH : HL w0 W' L') (h : Ints w0 L' v e.list) => Ref.event_ok HD.out HH e h (HOK.out.events e he) (HFW.out e he)
       have HEV := Lib.hid hev
       have hEr := fun W' (HH : HL w0 W' (intsR w0.heap.size v (cfL a.cfg) :: intsR w0.heap.size (.slice A6 l.length z6) l :: boxJ bj a.job (.slice As a.job.set.length cs) :: boxA b1 a (.slice Ae a.events.length ce) (.slice As a.job.set.length cs) (.slice Ar a.ranks.length cr) :: L)) => (((((HE.out.cons _).cons _).cons _).cons _)).rd W' HH
       have hEo := fun p hp A5 => (((((HE.out.own p hp).cons (boxA b1 a (.slice Ae a.events.length ce) (.slice As a.job.set.length cs) (.slice Ar a.ranks.length cr))).cons (boxJ bj a.job (.slice As a.job.set.length cs))).cons (intsR w0.heap.size (.slice A6 l.length z6) l)).cons (intsR w0.heap.size v (cfL a.cfg))).cons A5
       have HER := Lib.hid hEr; have HEO := Lib.hid hEo
       obtain ⟨-, -, aE, cE, hvE, hE1, hE2, -, -⟩ := hEr _ H7
       simp only [Value.slice.injEq] at hvE
       obtain ⟨rfl, hlE, rfl⟩ := hvE
       unfold maxLen at hE2
       rw [← hlE] at hE1
       have HLE := Lib.hid hlE
       have f2 : World.cell? _ ⟨b1, 2, none⟩ = some (.slice Ae a.events.length ce) := HL.cell H7.tail.tail.tail 2
       clear hev hEr hEo hlE
       go_wp2
       clear f2
       go_loopg [122] a.events.length (fun g i wq => ∃ n : Nat, i = .int .i64 n ∧ n + g = a.events.length ∧ (a.events.take n).all right = true ∧ HL w0 wq (intsR w0.heap.size v (cfL a.cfg) :: intsR w0.heap.size (.slice A6 l.length z6) l :: boxJ bj a.job (.slice As a.job.set.length cs) :: boxA b1 a (.slice Ae a.events.length ce) (.slice As a.job.set.length cs) (.slice Ar a.ranks.length cr) :: L))
       case atStart => exact ⟨0, rfl, by omega, by simp, H7⟩
       case round =>
        obtain ⟨n2, rfl, hn2, hal, HQ⟩ := hrel
        have HAL := Lib.hid hal
        clear H7 hal
        by_cases hlt2 : n2 < a.events.length
        ·obtain ⟨⟨e, u⟩, hp⟩ : ∃ p, ps[n2]? = some p := ⟨_, List.getElem?_eq_getElem (by rw [← HLE.out]; exact hlt2)⟩
         have hev : a.events[n2]? = some e := by rw [HPS.out, List.getElem?_map, hp]; rfl
         obtain ⟨b', o', c', hv, d0, d1, d2, d3, d4, d5⟩ := ev_at (HER.out _ HQ) hp
         simp only [Value.slice.injEq] at hv
         obtain ⟨rfl, -, rfl⟩ := hv
         have ho := HEO.out (e, u) (List.mem_of_getElem? hp)
         dsimp only at ho d0 d1 d2 d3 d4 d5
         have HA := HL.allocE HQ e u
         obtain ⟨Au, cu, rfl, -, -⟩ := rd_shape (ho _ _ HA)
         have hnx : (a.events.take (n2 + 1)).all right = ((a.events.take n2).all right && right e) := by rw [List.take_add_one, hev]; simp
         have hri := HEV.out e (List.mem_of_getElem? hev) _ _ _ HA (ho _)
         unfold evV at hri
         obtain ⟨m0, m1, m2, m3, m4, m5⟩ := boxE_cells HA
         have hbad : right e = false → checkA k a = 90 := fun hr => by
          rw [HC4.out, if_neg]
          intro hall
          have := List.all_eq_true.1 hall e (List.mem_of_getElem? hev)
          rw [hr] at this
          cases this
         have HN := Lib.hid hnx; have HP2 := Lib.hid hp
         cases hr : right e with
         | true =>
          rw [(evN_yes hr).1] at hri
          have HN2 := Lib.hid (show (a.events.take (n2 + 1)).all right = true by rw [HN.out, HAL.out, hr]; rfl)
          clear hnx hev hp ho hbad hr
          go_wp2_with (go_at_call 35; refine hri.mono ?_; rintro r w3 ⟨rfl, H3⟩; clear HA)
          go_roundg (gk - 1)
          case measure => omega
          case rel => exact ⟨n2 + 1, by go_num, by omega, HN2.out, H3.tail⟩
         | false =>
          rw [(evN_no hr).1] at hri
          have HBAD := Lib.hid (hbad hr)
          clear hnx hev hp ho hbad hr
          go_wp2_with (go_at_call 35; refine hri.mono ?_; rintro r w3 ⟨rfl, H3⟩; clear HA)
          go_ret
          exact ⟨retIn HBAD.out, H3.tail.tail.tail.tail.tail⟩
        ·have hfin : checkA k a = 0 := by
          have h := HAL.out
          rw [List.take_of_length_le (by omega)] at h
          rw [HC4.out, h]; rfl
         have HFIN := Lib.hid hfin
         clear hfin
         go_wp2
         go_ret
         exact ⟨retIn HFIN.out, HQ.tail.tail.tail.tail⟩
      have HC := Lib.hid (show checkA k a = 90 by rw [HC3.out]; rfl)
      go_wp2_with (first
       | (go_at_call 32; (with_reducible refine hcfg.mono ?_); rintro r w5 ⟨v, rfl, H7⟩; clear hcfg HK c0 c1 c2 c3 c4 c5 c6 c7 c8 c9 c10 c11 c12 c13 c14 c15 c16 c17 c18 c19 c20 c21 c22 c23 c24 c25 c26; obtain ⟨A8, z8, rfl, -, -⟩ := rd_shape (entRow _ H7); have g2 := hf2 _ _ H7; have g3 := hri _ _ H7; obtain ⟨j0, j1, j2, j3, j4, j5, j6, j7⟩ := HJC.out _ _ H7)
       | (go_at_call 31; first | (refine hfr.mono ?_; rintro r w5 ⟨rfl, rfl⟩; clear hfr) | (refine g2.mono ?_; rintro r w6 ⟨rfl, rfl⟩; clear g2))
       | (go_at_call 33; refine g3.mono ?_; rintro r w6 ⟨rfl, rfl⟩; clear g3)
       | (go_at_call 34; refine (hst _).mono ?_; rintro r w6 ⟨rfl, rfl⟩))
      go_ret
      exact ⟨retIn HC.out, H7.tail.tail.tail.tail⟩

end
end Go.Proofs.YtdekbbffoaphhaaGreatDoor

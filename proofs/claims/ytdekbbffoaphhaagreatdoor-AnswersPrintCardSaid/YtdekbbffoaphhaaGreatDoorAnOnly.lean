/- The reference's only. -/
import Derived.Test.YtdekbbffoaphhaaGreatDoorAnZip
import Derived.Test.YtdekbbffoaphhaaGreatDoorAnPkA
import Derived.Test.YtdekbbffoaphhaaGreatDoorAnOf
set_option linter.unusedVariables false
set_option linter.unusedSimpArgs false
set_option maxRecDepth 100000
set_option maxHeartbeats 8000000
namespace Go.Proofs.YtdekbbffoaphhaaGreatDoor
open Go.RowKit Go.Proofs.HL Go.Proofs.An
section
variable {w0 w : World} {L : List At} {v : Value}
def onlyU (e : Ev) (v : Value) : Value := if e.kind = 2 ∨ e.kind = 5 then v else .slice none 0 0
theorem onlyU_ints {e : Ev} {L' : List At} (h : Ints w0 L' v e.list) : Ints w0 L' (onlyU e v) (onlyE e).list := by
 unfold onlyU
 by_cases h2 : e.kind = 2
 ·rw [if_pos (.inl h2)]; simp only [onlyE, h2]; exact h
 by_cases h5 : e.kind = 5
 ·rw [if_pos (.inr h5)]; simp only [onlyE, h5]; exact h
 rw [if_neg (by simp [h2, h5])]
 have : (onlyE e).list = [] := by
  unfold onlyE
  rw [if_neg h2, if_neg h5]
  repeat (first | rfl | split)
 rw [this]
 exact fun W _ => rd_nil
def OnlyPost (w0 : World) (L : List At) (v : Value) (e : Ev) (r : Ending) (w' : World) : Prop := ∃ s X, r = .returned (.tuple #[evV (onlyE e) (onlyU e v), s]) ∧ HL w0 w' (X :: L) ∧ Strs w0 (X :: L) s (onlyW e)
theorem Ref.only_ok (hD : Doors w0) (H : HL w0 w L) (e : Ev) (h : Ints w0 L v e.list) (hok : EvOk e) (hfew : e.list.length ≤ 4294967200) :
  Calls Tryz.prog 57 #[evV e v] w (OnlyPost w0 L v e) := by
 obtain ⟨A, c, hv, -, -⟩ := rd_shape (h w H)
 have hU9 : ∃ A' n' c', onlyU e v = .slice A' n' c' := by
  unfold onlyU
  split
  ·exact ⟨_, _, _, hv⟩
  ·exact ⟨_, _, _, rfl⟩
 have HU9 := Lib.hid hU9; have HV := Lib.hid hv
 clear hU9 hv
 have H1 := HL.allocE H e v
 have H2 := HL.allocE H1 zE (.slice none 0 0)
 have HB := HL.allocE H2 ⟨e.kind, 0, e.tm, 0, 0, []⟩ (.slice none 0 0)
 simp only [World.size_alloc] at H2 HB
 obtain ⟨m0, m1, m2, m3, m4, m5⟩ := boxE_cells H2.tail
 unfold evV zE at *
 dsimp only at *
 generalize hb : w.heap.size = b at *
 go_enter Tryz.func57, Tryz.ntmps57
 go_upto_block 0 with (fail)
 clear m0 m1 m2 m3 m4 m5 H1 H2
 generalize World.alloc (World.alloc (World.alloc _ _) _) _ = W at *
 have HBW := Lib.hid HB
 obtain ⟨n0, n1, n2, n3, n4, n5⟩ := boxE_cells HB.tail.tail
 obtain ⟨z0, z1, z2, z3, z4, z5⟩ := boxE_froz HB
 obtain ⟨m0, m1, m2, m3, m4, m5⟩ := boxE_cells HB
 go_cut [5] (fun s wc => ∃ X, HL w0 wc (X :: boxE (b + 1 + 1) (onlyE e) (onlyU e v) :: boxE (b + 1) ⟨0, 0, 0, 0, 0, []⟩ (.slice none 0 0) :: boxE b e v :: L) ∧ Strs w0 (X :: L) s (onlyW e))
 case first =>
  by_cases h1 : e.kind = 1
  ·have hk := h1
   have hE := Lib.hid (show onlyE e = ⟨e.kind, e.job, e.tm, e.nd, e.lm, []⟩ by simp [onlyE, hk])
   have hU := Lib.hid (show onlyU e v = .slice none 0 0 by simp [onlyU, hk])
   have hW := Lib.hid (show onlyW e = submitB :: allW [e.job, e.tm, e.nd, e.lm] by simp [onlyW, hk])
   have q1 : (e.kind == 1) = true := by simp [hk]
   have q2 : (e.kind == 2) = false := by simp [hk]
   have q3 : (e.kind == 3) = false := by simp [hk]
   have q4 : (e.kind == 4) = false := by simp [hk]
   have q5 : (e.kind == 5) = false := by simp [hk]
   have q6 : (e.kind == 6) = false := by simp [hk]
   have q7 : (e.kind == 7) = false := by simp [hk]
   clear hk h1
   go_wp2
   refine wp_region_held_drew (S := fun w' => w'.cell? ⟨b, 0, none⟩ = some (.int .i64 e.kind) ∧ w'.cell? ⟨b, 1, none⟩ = some (.int .i64 e.job) ∧ w'.cell? ⟨b, 2, none⟩ = some (.int .i64 e.tm) ∧ w'.cell? ⟨b, 3, none⟩ = some (.int .i64 e.nd) ∧ w'.cell? ⟨b, 4, none⟩ = some (.int .i64 e.lm) ∧ w'.cell? ⟨b, 5, none⟩ = some v) (by kernel_rfl) (boxE_cells HB.drew.tail.tail) (fun hHeld => ?_)
   have Hd := HB.drew
   clear HB n0 n1 n2 n3 n4 n5 m0 m1 m2 m3 m4 m5 z0 z1 z2 z3 z4 z5
   generalize World.drew _ = Wd at *
   obtain ⟨m0, m1, m2, m3, m4, m5⟩ := boxE_cells Hd
   obtain ⟨z0, z1, z2, z3, z4, z5⟩ := boxE_froz Hd
   refine ztk 0 ?_
   simp only [Act.put, zp]
   refine ztk 1 ?_
   simp only [Act.put, zp]
   refine ztk 2 ?_
   simp only [Act.put, zp]
   refine ztk 3 ?_
   simp only [Act.put, zp]
   refine ztk 4 ?_
   simp only [Act.put, zp]
   refine ztk 5 ?_
   simp only [Act.put, zp]
   refine ztk 6 ?_
   simp only [Act.put, zp]
   refine zry 7 (fun K' hK' => ?_)
   dsimp only [zg1, zg3, zg2]
   go_simp
   have HT0 : HL w0 _ (boxE (b + 1 + 1) ⟨e.kind, e.job, e.tm, 0, 0, []⟩ (.slice none 0 0) :: boxE (b + 1) ⟨0, 0, 0, 0, 0, []⟩ (.slice none 0 0) :: boxE b e v :: L) := HL.setCell Hd 1 (.int .i64 e.job)
   obtain ⟨m0, m1, m2, m3, m4, m5⟩ := boxE_cells HT0
   obtain ⟨z0, z1, z2, z3, z4, z5⟩ := boxE_froz HT0
   refine hK'.out _ _ (boxE_cells HT0.tail.tail) (fun hHeld => ?_)
   clear hK' K'
   try simp only [Act.put, zp]
   refine ztk 8 ?_
   simp only [Act.put, zp]
   refine zry 9 (fun K' hK' => ?_)
   dsimp only [zg1, zg3, zg2]
   go_simp
   have HT1 : HL w0 _ (boxE (b + 1 + 1) ⟨e.kind, e.job, e.tm, e.nd, 0, []⟩ (.slice none 0 0) :: boxE (b + 1) ⟨0, 0, 0, 0, 0, []⟩ (.slice none 0 0) :: boxE b e v :: L) := HL.setCell HT0 3 (.int .i64 e.nd)
   obtain ⟨m0, m1, m2, m3, m4, m5⟩ := boxE_cells HT1
   obtain ⟨z0, z1, z2, z3, z4, z5⟩ := boxE_froz HT1
   refine hK'.out _ _ (boxE_cells HT1.tail.tail) (fun hHeld => ?_)
   clear hK' K'
   try simp only [Act.put, zp]
   refine ztk 10 ?_
   simp only [Act.put, zp]
   refine zry 11 (fun K' hK' => ?_)
   dsimp only [zg1, zg3, zg2]
   go_simp
   have HT2 : HL w0 _ (boxE (b + 1 + 1) ⟨e.kind, e.job, e.tm, e.nd, e.lm, []⟩ (.slice none 0 0) :: boxE (b + 1) ⟨0, 0, 0, 0, 0, []⟩ (.slice none 0 0) :: boxE b e v :: L) := HL.setCell HT1 4 (.int .i64 e.lm)
   obtain ⟨m0, m1, m2, m3, m4, m5⟩ := boxE_cells HT2
   obtain ⟨z0, z1, z2, z3, z4, z5⟩ := boxE_froz HT2
   refine hK'.out _ _ (boxE_cells HT2.tail.tail) (fun hHeld => ?_)
   clear hK' K'
   try simp only [Act.put, zp]
   refine wpAnyH_done (by kernel_rfl) ?_ _
   have HS := HT2
   clear m0 m1 m2 m3 m4 m5 z0 z1 z2 z3 z4 z5 Hd hHeld HT0 HT1 HT2
   generalize World.setCell _ _ _ = Ws at *
   go_wp2
   refine wp_region_held_drew (S := fun w' => w'.cell? ⟨b, 0, none⟩ = some (.int .i64 e.kind) ∧ w'.cell? ⟨b, 1, none⟩ = some (.int .i64 e.job) ∧ w'.cell? ⟨b, 2, none⟩ = some (.int .i64 e.tm) ∧ w'.cell? ⟨b, 3, none⟩ = some (.int .i64 e.nd) ∧ w'.cell? ⟨b, 4, none⟩ = some (.int .i64 e.lm) ∧ w'.cell? ⟨b, 5, none⟩ = some v) (by kernel_rfl) (boxE_cells HS.drew.tail.tail) (fun hHeld => ?_)
   have Hd := HS.drew
   clear HS
   generalize World.drew _ = Wd at *
   refine ztk 0 ?_
   simp only [Act.put, zp]
   refine ztk 1 ?_
   simp only [Act.put, zp]
   refine ztk 3 ?_
   simp only [Act.put, zp]
   refine ztk 4 ?_
   simp only [Act.put, zp]
   refine ztk 6 ?_
   simp only [Act.put, zp]
   refine ztk 7 ?_
   simp only [Act.put, zp]
   refine ztk 9 ?_
   simp only [Act.put, zp]
   refine ztk 10 ?_
   simp only [Act.put, zp]
   refine zry 2 (fun K' hK' => ?_)
   dsimp only [zg1, zg3, zg2]
   go_simp
   go_at_call 53
   refine (Ref.digits9_ok hD Hd e.job hok.job.1 hok.job.2).mono ?_
   rintro r w4 ⟨rfl, H4⟩
   dsimp only
   go_simp
   refine hK'.out _ _ (boxE_cells H4.tail.tail) (fun hHeld => ?_)
   clear hK' K'
   try simp only [Act.put, zp]
   refine zry 5 (fun K' hK' => ?_)
   dsimp only [zg1, zg3, zg2]
   go_simp
   go_at_call 53
   refine (Ref.digits9_ok hD H4 e.tm hok.tm.1 hok.tm.2).mono ?_
   rintro r w5 ⟨rfl, H5⟩
   dsimp only
   go_simp
   refine hK'.out _ _ (boxE_cells H5.tail.tail) (fun hHeld => ?_)
   clear hK' K'
   try simp only [Act.put, zp]
   refine zry 8 (fun K' hK' => ?_)
   dsimp only [zg1, zg3, zg2]
   go_simp
   go_at_call 53
   refine (Ref.digits9_ok hD H5 e.nd hok.nd.1 hok.nd.2).mono ?_
   rintro r w6 ⟨rfl, H6⟩
   dsimp only
   go_simp
   refine hK'.out _ _ (boxE_cells H6.tail.tail) (fun hHeld => ?_)
   clear hK' K'
   try simp only [Act.put, zp]
   refine zry 11 (fun K' hK' => ?_)
   dsimp only [zg1, zg3, zg2]
   go_simp
   go_at_call 53
   refine (Ref.digits9_ok hD H6 e.lm hok.lm.1 hok.lm.2).mono ?_
   rintro r w7 ⟨rfl, H7⟩
   dsimp only
   go_simp
   refine hK'.out _ _ (boxE_cells H7.tail.tail) (fun hHeld => ?_)
   clear hK' K'
   try simp only [Act.put, zp]
   refine zry 12 (fun K' hK' => ?_)
   dsimp only [zg1, zg3, zg2]
   go_simp
   have H8 := H7.alloc (.cells #[.string submitB, .string (itB e.job), .string (itB e.tm), .string (itB e.nd), .string (itB e.lm)] 9)
   refine hK'.out _ _ (boxE_cells H8.tail.tail.tail) (fun hHeld => ?_)
   clear hK' K'
   try simp only [Act.put, zp]
   refine ztk 13 ?_
   simp only [Act.put, zp]
   refine wpAnyH_done (by kernel_rfl) ?_ _
   go_wp2
   go_meet
   rw [hE.out, hU.out, hW.out]
   exact ⟨_, H8, entBlk (k := 1) (n := 5) (cs := strC [submitB, itB e.job, itB e.tm, itB e.nd, itB e.lm]) rfl (by unfold maxLen; simp)⟩
  by_cases h2 : e.kind = 2
  ·have hk := h2
   have hE := Lib.hid (show onlyE e = ⟨e.kind, e.job, e.tm, 0, 0, e.list⟩ by simp [onlyE, hk])
   have hU := Lib.hid (show onlyU e v = v by simp [onlyU, hk])
   have hW := Lib.hid (show onlyW e = startB :: allW ([e.job, e.tm] ++ e.list) by simp [onlyW, hk])
   have q1 : (e.kind == 1) = false := by simp [hk]
   have q2 : (e.kind == 2) = true := by simp [hk]
   have q3 : (e.kind == 3) = false := by simp [hk]
   have q4 : (e.kind == 4) = false := by simp [hk]
   have q5 : (e.kind == 5) = false := by simp [hk]
   have q6 : (e.kind == 6) = false := by simp [hk]
   have q7 : (e.kind == 7) = false := by simp [hk]
   clear hk h2
   have hv := HV.out
   subst hv
   clear HV
   go_wp2
   refine wp_region_held_drew (S := fun w' => w'.cell? ⟨b, 0, none⟩ = some (.int .i64 e.kind) ∧ w'.cell? ⟨b, 1, none⟩ = some (.int .i64 e.job) ∧ w'.cell? ⟨b, 2, none⟩ = some (.int .i64 e.tm) ∧ w'.cell? ⟨b, 3, none⟩ = some (.int .i64 e.nd) ∧ w'.cell? ⟨b, 4, none⟩ = some (.int .i64 e.lm) ∧ w'.cell? ⟨b, 5, none⟩ = some (.slice A e.list.length c)) (by kernel_rfl) (boxE_cells HB.drew.tail.tail) (fun hHeld => ?_)
   have Hd := HB.drew
   clear HB n0 n1 n2 n3 n4 n5 m0 m1 m2 m3 m4 m5 z0 z1 z2 z3 z4 z5
   generalize World.drew _ = Wd at *
   obtain ⟨m0, m1, m2, m3, m4, m5⟩ := boxE_cells Hd
   obtain ⟨z0, z1, z2, z3, z4, z5⟩ := boxE_froz Hd
   refine ztk 0 ?_
   simp only [Act.put, zp]
   refine ztk 1 ?_
   simp only [Act.put, zp]
   refine ztk 2 ?_
   simp only [Act.put, zp]
   refine ztk 3 ?_
   simp only [Act.put, zp]
   refine ztk 4 ?_
   simp only [Act.put, zp]
   refine zry 5 (fun K' hK' => ?_)
   dsimp only [zg1, zg3, zg2]
   go_simp
   have HT0 : HL w0 _ (boxE (b + 1 + 1) ⟨e.kind, e.job, e.tm, 0, 0, []⟩ (.slice none 0 0) :: boxE (b + 1) ⟨0, 0, 0, 0, 0, []⟩ (.slice none 0 0) :: boxE b e (.slice A e.list.length c) :: L) := HL.setCell Hd 1 (.int .i64 e.job)
   obtain ⟨m0, m1, m2, m3, m4, m5⟩ := boxE_cells HT0
   obtain ⟨z0, z1, z2, z3, z4, z5⟩ := boxE_froz HT0
   refine hK'.out _ _ (boxE_cells HT0.tail.tail) (fun hHeld => ?_)
   clear hK' K'
   try simp only [Act.put, zp]
   refine ztk 6 ?_
   simp only [Act.put, zp]
   refine zry 7 (fun K' hK' => ?_)
   dsimp only [zg1, zg3, zg2]
   go_simp
   have HT1 : HL w0 _ (boxE (b + 1 + 1) ⟨e.kind, e.job, e.tm, 0, 0, e.list⟩ (.slice A e.list.length c) :: boxE (b + 1) ⟨0, 0, 0, 0, 0, []⟩ (.slice none 0 0) :: boxE b e (.slice A e.list.length c) :: L) := HL.setCell HT0 5 (.slice A e.list.length c)
   refine hK'.out _ _ (boxE_cells HT1.tail.tail) (fun hHeld => ?_)
   clear hK' K'
   try simp only [Act.put, zp]
   refine wpAnyH_done (by kernel_rfl) ?_ _
   have HS := HT1
   clear m0 m1 m2 m3 m4 m5 z0 z1 z2 z3 z4 z5 Hd hHeld HT0 HT1
   generalize World.setCell _ _ _ = Ws at *
   go_wp2
   refine wp_region_held_drew (S := fun w' => w'.cell? ⟨b, 0, none⟩ = some (.int .i64 e.kind) ∧ w'.cell? ⟨b, 1, none⟩ = some (.int .i64 e.job) ∧ w'.cell? ⟨b, 2, none⟩ = some (.int .i64 e.tm) ∧ w'.cell? ⟨b, 3, none⟩ = some (.int .i64 e.nd) ∧ w'.cell? ⟨b, 4, none⟩ = some (.int .i64 e.lm) ∧ w'.cell? ⟨b, 5, none⟩ = some (.slice A e.list.length c)) (by kernel_rfl) (boxE_cells HS.drew.tail.tail) (fun hHeld => ?_)
   have Hd := HS.drew
   clear HS
   generalize World.drew _ = Wd at *
   refine ztk 0 ?_
   simp only [Act.put, zp]
   refine ztk 1 ?_
   simp only [Act.put, zp]
   refine ztk 3 ?_
   simp only [Act.put, zp]
   refine ztk 4 ?_
   simp only [Act.put, zp]
   refine ztk 7 ?_
   simp only [Act.put, zp]
   refine ztk 8 ?_
   simp only [Act.put, zp]
   refine zry 2 (fun K' hK' => ?_)
   dsimp only [zg1, zg3, zg2]
   go_simp
   go_at_call 53
   refine (Ref.digits9_ok hD Hd e.job hok.job.1 hok.job.2).mono ?_
   rintro r w4 ⟨rfl, H4⟩
   dsimp only
   go_simp
   refine hK'.out _ _ (boxE_cells H4.tail.tail) (fun hHeld => ?_)
   clear hK' K'
   try simp only [Act.put, zp]
   refine zry 5 (fun K' hK' => ?_)
   dsimp only [zg1, zg3, zg2]
   go_simp
   go_at_call 53
   refine (Ref.digits9_ok hD H4 e.tm hok.tm.1 hok.tm.2).mono ?_
   rintro r w5 ⟨rfl, H5⟩
   dsimp only
   go_simp
   refine hK'.out _ _ (boxE_cells H5.tail.tail) (fun hHeld => ?_)
   clear hK' K'
   try simp only [Act.put, zp]
   refine wpAnyH_ready (rs := [6, 9]) (by kernel_rfl) (by simp) ?_
   refine AllReadyH.cons rfl (fun K' hK' => ?_) (AllReadyH.cons rfl (fun K' hK' => ?_) AllReadyH.nil)
   ·skip
    dsimp only [zg1, zg3, zg2]
    go_simp
    have HBu := H5.alloc (.cells #[.string startB, .string (itB e.job), .string (itB e.tm)] 9)
    refine hK'.out _ _ (boxE_cells HBu.tail.tail.tail) (fun hHeld => ?_)
    clear hK' K'
    try simp only [Act.put, zp]
    refine zry 9 (fun K' hK' => ?_)
    dsimp only [zg1, zg3, zg2]
    go_simp
    go_at_call 54
    refine (Ref.all_ok hD HBu ((((h.cons _).cons _).cons _).cons _) hok.fits hfew).mono ?_
    rintro r w9 ⟨u9, rfl, HA⟩
    dsimp only
    go_simp
    refine hK'.out _ _ (boxE_cells HA.tail.tail.tail.tail) (fun hHeld => ?_)
    clear hK' K'
    try simp only [Act.put, zp]
    refine zry 10 (fun K' hK' => ?_)
    have HR := HL.rowOf (cs := strC [startB, itB e.job, itB e.tm]) (k := 1) (n := 3) HA.swap rfl (by unfold maxLen; omega)
    have hrA : Rd 1 u9 (allW e.list).length (strC (allW e.list)) _ := rd_row HR.tail.head
    have hln : (allW e.list).length ≤ 4294967200 := by rw [allW_len]; exact hfew
    refine step_append_hl (ys := #[]) sliceS rfl _ _ rfl (v := .slice (some ⟨w5.heap.size, 0, none⟩) 3 3) (xv := u9) (n := 3) (m := (allW e.list).length) (xs := strC [startB, itB e.job, itB e.tm]) (news := strC (allW e.list)) HR rfl rfl hrA (by simp [Value.oneCell']) (by unfold maxLen; omega) (by omega) ?_
    intro v10 w10 H10
    refine hK'.out _ _ (boxE_cells H10.tail.tail.tail.tail) (fun hHeld => ?_)
    clear hK' K'
    try simp only [Act.put, zp]
    refine ztk 11 ?_
    simp only [Act.put, zp]
    refine wpAnyH_done (by kernel_rfl) ?_ _
    go_wp2
    go_meet
    rw [hE.out, hU.out, hW.out]
    refine ⟨_, H10.swap.tail, fun W' HW' => ?_⟩
    have := rd_row HW'.head
    simpa [allW, strC, List.map_append, Nat.add_comm, Nat.add_left_comm] using this
   ·skip
    dsimp only [zg1, zg3, zg2]
    go_simp
    go_at_call 54
    refine (Ref.all_ok hD H5 (((h.cons _).cons _).cons _) hok.fits hfew).mono ?_
    rintro r w9 ⟨u9, rfl, HA⟩
    dsimp only
    go_simp
    refine hK'.out _ _ (boxE_cells HA.tail.tail.tail) (fun hHeld => ?_)
    clear hK' K'
    try simp only [Act.put, zp]
    refine zry 6 (fun K' hK' => ?_)
    dsimp only [zg1, zg3, zg2]
    go_simp
    have HBu := HA.alloc (.cells #[.string startB, .string (itB e.job), .string (itB e.tm)] 9)
    refine hK'.out _ _ (boxE_cells HBu.tail.tail.tail.tail) (fun hHeld => ?_)
    clear hK' K'
    try simp only [Act.put, zp]
    refine zry 10 (fun K' hK' => ?_)
    have HR := HL.rowOf (cs := strC [startB, itB e.job, itB e.tm]) (k := 1) (n := 3) HBu rfl (by unfold maxLen; omega)
    have hrA : Rd 1 u9 (allW e.list).length (strC (allW e.list)) _ := rd_row HR.tail.head
    have hln : (allW e.list).length ≤ 4294967200 := by rw [allW_len]; exact hfew
    refine step_append_hl (ys := #[]) sliceS rfl _ _ rfl (v := .slice (some ⟨w9.heap.size, 0, none⟩) 3 3) (xv := u9) (n := 3) (m := (allW e.list).length) (xs := strC [startB, itB e.job, itB e.tm]) (news := strC (allW e.list)) HR rfl rfl hrA (by simp [Value.oneCell']) (by unfold maxLen; omega) (by omega) ?_
    intro v10 w10 H10
    refine hK'.out _ _ (boxE_cells H10.tail.tail.tail.tail) (fun hHeld => ?_)
    clear hK' K'
    try simp only [Act.put, zp]
    refine ztk 11 ?_
    simp only [Act.put, zp]
    refine wpAnyH_done (by kernel_rfl) ?_ _
    go_wp2
    go_meet
    rw [hE.out, hU.out, hW.out]
    refine ⟨_, H10.swap.tail, fun W' HW' => ?_⟩
    have := rd_row HW'.head
    simpa [allW, strC, List.map_append, Nat.add_comm, Nat.add_left_comm] using this
  by_cases h3 : e.kind = 3
  ·have hk := h3
   have hE := Lib.hid (show onlyE e = ⟨e.kind, e.job, e.tm, e.nd, 0, []⟩ by simp [onlyE, hk])
   have hU := Lib.hid (show onlyU e v = .slice none 0 0 by simp [onlyU, hk])
   have hW := Lib.hid (show onlyW e = endB :: (allW [e.job, e.tm] ++ [stW e.nd]) by simp [onlyW, hk])
   have q1 : (e.kind == 1) = false := by simp [hk]
   have q2 : (e.kind == 2) = false := by simp [hk]
   have q3 : (e.kind == 3) = true := by simp [hk]
   have q4 : (e.kind == 4) = false := by simp [hk]
   have q5 : (e.kind == 5) = false := by simp [hk]
   have q6 : (e.kind == 6) = false := by simp [hk]
   have q7 : (e.kind == 7) = false := by simp [hk]
   clear hk h3
   go_wp2
   refine wp_region_held_drew (S := fun w' => w'.cell? ⟨b, 0, none⟩ = some (.int .i64 e.kind) ∧ w'.cell? ⟨b, 1, none⟩ = some (.int .i64 e.job) ∧ w'.cell? ⟨b, 2, none⟩ = some (.int .i64 e.tm) ∧ w'.cell? ⟨b, 3, none⟩ = some (.int .i64 e.nd) ∧ w'.cell? ⟨b, 4, none⟩ = some (.int .i64 e.lm) ∧ w'.cell? ⟨b, 5, none⟩ = some v) (by kernel_rfl) (boxE_cells HB.drew.tail.tail) (fun hHeld => ?_)
   have Hd := HB.drew
   clear HB n0 n1 n2 n3 n4 n5 m0 m1 m2 m3 m4 m5 z0 z1 z2 z3 z4 z5
   generalize World.drew _ = Wd at *
   obtain ⟨m0, m1, m2, m3, m4, m5⟩ := boxE_cells Hd
   obtain ⟨z0, z1, z2, z3, z4, z5⟩ := boxE_froz Hd
   refine ztk 0 ?_
   simp only [Act.put, zp]
   refine ztk 1 ?_
   simp only [Act.put, zp]
   refine ztk 2 ?_
   simp only [Act.put, zp]
   refine ztk 3 ?_
   simp only [Act.put, zp]
   refine ztk 4 ?_
   simp only [Act.put, zp]
   refine zry 5 (fun K' hK' => ?_)
   dsimp only [zg1, zg3, zg2]
   go_simp
   have HT0 : HL w0 _ (boxE (b + 1 + 1) ⟨e.kind, e.job, e.tm, 0, 0, []⟩ (.slice none 0 0) :: boxE (b + 1) ⟨0, 0, 0, 0, 0, []⟩ (.slice none 0 0) :: boxE b e v :: L) := HL.setCell Hd 1 (.int .i64 e.job)
   obtain ⟨m0, m1, m2, m3, m4, m5⟩ := boxE_cells HT0
   obtain ⟨z0, z1, z2, z3, z4, z5⟩ := boxE_froz HT0
   refine hK'.out _ _ (boxE_cells HT0.tail.tail) (fun hHeld => ?_)
   clear hK' K'
   try simp only [Act.put, zp]
   refine ztk 6 ?_
   simp only [Act.put, zp]
   refine zry 7 (fun K' hK' => ?_)
   dsimp only [zg1, zg3, zg2]
   go_simp
   have HT1 : HL w0 _ (boxE (b + 1 + 1) ⟨e.kind, e.job, e.tm, e.nd, 0, []⟩ (.slice none 0 0) :: boxE (b + 1) ⟨0, 0, 0, 0, 0, []⟩ (.slice none 0 0) :: boxE b e v :: L) := HL.setCell HT0 3 (.int .i64 e.nd)
   obtain ⟨m0, m1, m2, m3, m4, m5⟩ := boxE_cells HT1
   obtain ⟨z0, z1, z2, z3, z4, z5⟩ := boxE_froz HT1
   refine hK'.out _ _ (boxE_cells HT1.tail.tail) (fun hHeld => ?_)
   clear hK' K'
   try simp only [Act.put, zp]
   refine wpAnyH_done (by kernel_rfl) ?_ _
   have HS := HT1
   clear m0 m1 m2 m3 m4 m5 z0 z1 z2 z3 z4 z5 Hd hHeld HT0 HT1
   generalize World.setCell _ _ _ = Ws at *
   go_wp2
   refine wp_region_held_drew (S := fun w' => w'.cell? ⟨b, 0, none⟩ = some (.int .i64 e.kind) ∧ w'.cell? ⟨b, 1, none⟩ = some (.int .i64 e.job) ∧ w'.cell? ⟨b, 2, none⟩ = some (.int .i64 e.tm) ∧ w'.cell? ⟨b, 3, none⟩ = some (.int .i64 e.nd) ∧ w'.cell? ⟨b, 4, none⟩ = some (.int .i64 e.lm) ∧ w'.cell? ⟨b, 5, none⟩ = some v) (by kernel_rfl) (boxE_cells HS.drew.tail.tail) (fun hHeld => ?_)
   have Hd := HS.drew
   clear HS
   generalize World.drew _ = Wd at *
   refine ztk 0 ?_
   simp only [Act.put, zp]
   refine ztk 1 ?_
   simp only [Act.put, zp]
   refine ztk 3 ?_
   simp only [Act.put, zp]
   refine ztk 4 ?_
   simp only [Act.put, zp]
   refine ztk 6 ?_
   simp only [Act.put, zp]
   refine ztk 7 ?_
   simp only [Act.put, zp]
   refine zry 2 (fun K' hK' => ?_)
   dsimp only [zg1, zg3, zg2]
   go_simp
   go_at_call 53
   refine (Ref.digits9_ok hD Hd e.job hok.job.1 hok.job.2).mono ?_
   rintro r w4 ⟨rfl, H4⟩
   dsimp only
   go_simp
   refine hK'.out _ _ (boxE_cells H4.tail.tail) (fun hHeld => ?_)
   clear hK' K'
   try simp only [Act.put, zp]
   refine zry 5 (fun K' hK' => ?_)
   dsimp only [zg1, zg3, zg2]
   go_simp
   go_at_call 53
   refine (Ref.digits9_ok hD H4 e.tm hok.tm.1 hok.tm.2).mono ?_
   rintro r w5 ⟨rfl, H5⟩
   dsimp only
   go_simp
   refine hK'.out _ _ (boxE_cells H5.tail.tail) (fun hHeld => ?_)
   clear hK' K'
   try simp only [Act.put, zp]
   refine zry 8 (fun K' hK' => ?_)
   dsimp only [zg1, zg3, zg2]
   go_simp
   go_at_call 34
   refine (Ref.state_ok e.nd _).mono ?_
   rintro r w6 ⟨rfl, rfl⟩
   dsimp only
   go_simp
   refine hK'.out _ _ (boxE_cells H5.tail.tail) (fun hHeld => ?_)
   clear hK' K'
   try simp only [Act.put, zp]
   refine zry 9 (fun K' hK' => ?_)
   dsimp only [zg1, zg3, zg2]
   go_simp
   have H6 := H5.alloc (.cells #[.string endB, .string (itB e.job), .string (itB e.tm), .string (stW e.nd)] 9)
   refine hK'.out _ _ (boxE_cells H6.tail.tail.tail) (fun hHeld => ?_)
   clear hK' K'
   try simp only [Act.put, zp]
   refine ztk 10 ?_
   simp only [Act.put, zp]
   refine wpAnyH_done (by kernel_rfl) ?_ _
   go_wp2
   go_meet
   rw [hE.out, hU.out, hW.out]
   exact ⟨_, H6, entBlk (k := 1) (n := 4) (cs := strC [endB, itB e.job, itB e.tm, stW e.nd]) rfl (by unfold maxLen; simp)⟩
  by_cases h4 : e.kind = 4
  ·have hk := h4
   have hE := Lib.hid (show onlyE e = ⟨e.kind, e.job, e.tm, 0, 0, []⟩ by simp [onlyE, hk])
   have hU := Lib.hid (show onlyU e v = .slice none 0 0 by simp [onlyU, hk])
   have hW := Lib.hid (show onlyW e = pinB :: allW [e.job, e.tm] by simp [onlyW, hk])
   have q1 : (e.kind == 1) = false := by simp [hk]
   have q2 : (e.kind == 2) = false := by simp [hk]
   have q3 : (e.kind == 3) = false := by simp [hk]
   have q4 : (e.kind == 4) = true := by simp [hk]
   have q5 : (e.kind == 5) = false := by simp [hk]
   have q6 : (e.kind == 6) = false := by simp [hk]
   have q7 : (e.kind == 7) = false := by simp [hk]
   clear hk h4
   have HS : HL w0 _ (boxE (b + 1 + 1) ⟨e.kind, e.job, e.tm, 0, 0, []⟩ (.slice none 0 0) :: boxE (b + 1) ⟨0, 0, 0, 0, 0, []⟩ (.slice none 0 0) :: boxE b e v :: L) := HL.setCell HB 1 (.int .i64 e.job)
   go_wp2
   clear HB n0 n1 n2 n3 n4 n5 m0 m1 m2 m3 m4 m5 z0 z1 z2 z3 z4 z5
   generalize World.setCell _ _ _ = Ws at *
   refine wp_region_held_drew (S := fun w' => w'.cell? ⟨b, 0, none⟩ = some (.int .i64 e.kind) ∧ w'.cell? ⟨b, 1, none⟩ = some (.int .i64 e.job) ∧ w'.cell? ⟨b, 2, none⟩ = some (.int .i64 e.tm) ∧ w'.cell? ⟨b, 3, none⟩ = some (.int .i64 e.nd) ∧ w'.cell? ⟨b, 4, none⟩ = some (.int .i64 e.lm) ∧ w'.cell? ⟨b, 5, none⟩ = some v) (by kernel_rfl) (boxE_cells HS.drew.tail.tail) (fun hHeld => ?_)
   have Hd := HS.drew
   clear HS
   generalize World.drew _ = Wd at *
   refine ztk 0 ?_
   simp only [Act.put, zp]
   refine ztk 1 ?_
   simp only [Act.put, zp]
   refine ztk 3 ?_
   simp only [Act.put, zp]
   refine ztk 4 ?_
   simp only [Act.put, zp]
   refine zry 2 (fun K' hK' => ?_)
   dsimp only [zg1, zg3, zg2]
   go_simp
   go_at_call 53
   refine (Ref.digits9_ok hD Hd e.job hok.job.1 hok.job.2).mono ?_
   rintro r w4 ⟨rfl, H4⟩
   dsimp only
   go_simp
   refine hK'.out _ _ (boxE_cells H4.tail.tail) (fun hHeld => ?_)
   clear hK' K'
   try simp only [Act.put, zp]
   refine zry 5 (fun K' hK' => ?_)
   dsimp only [zg1, zg3, zg2]
   go_simp
   go_at_call 53
   refine (Ref.digits9_ok hD H4 e.tm hok.tm.1 hok.tm.2).mono ?_
   rintro r w5 ⟨rfl, H5⟩
   dsimp only
   go_simp
   refine hK'.out _ _ (boxE_cells H5.tail.tail) (fun hHeld => ?_)
   clear hK' K'
   try simp only [Act.put, zp]
   refine zry 6 (fun K' hK' => ?_)
   dsimp only [zg1, zg3, zg2]
   go_simp
   have H6 := H5.alloc (.cells #[.string pinB, .string (itB e.job), .string (itB e.tm)] 9)
   refine hK'.out _ _ (boxE_cells H6.tail.tail.tail) (fun hHeld => ?_)
   clear hK' K'
   try simp only [Act.put, zp]
   refine ztk 7 ?_
   simp only [Act.put, zp]
   refine wpAnyH_done (by kernel_rfl) ?_ _
   go_wp2
   go_meet
   rw [hE.out, hU.out, hW.out]
   exact ⟨_, H6, entBlk (k := 1) (n := 3) (cs := strC [pinB, itB e.job, itB e.tm]) rfl (by unfold maxLen; simp)⟩
  by_cases h5 : e.kind = 5
  ·have hk := h5
   have hE := Lib.hid (show onlyE e = ⟨e.kind, 0, e.tm, 0, 0, e.list⟩ by simp [onlyE, hk])
   have hU := Lib.hid (show onlyU e v = v by simp [onlyU, hk])
   have hW := Lib.hid (show onlyW e = passB :: allW ([e.tm] ++ e.list) by simp [onlyW, hk])
   have q1 : (e.kind == 1) = false := by simp [hk]
   have q2 : (e.kind == 2) = false := by simp [hk]
   have q3 : (e.kind == 3) = false := by simp [hk]
   have q4 : (e.kind == 4) = false := by simp [hk]
   have q5 : (e.kind == 5) = true := by simp [hk]
   have q6 : (e.kind == 6) = false := by simp [hk]
   have q7 : (e.kind == 7) = false := by simp [hk]
   clear hk h5
   have hv := HV.out
   subst hv
   clear HV
   have HS : HL w0 _ (boxE (b + 1 + 1) ⟨e.kind, 0, e.tm, 0, 0, e.list⟩ (.slice A e.list.length c) :: boxE (b + 1) ⟨0, 0, 0, 0, 0, []⟩ (.slice none 0 0) :: boxE b e (.slice A e.list.length c) :: L) := HL.setCell HB 5 (.slice A e.list.length c)
   go_wp2
   clear HB n0 n1 n2 n3 n4 n5 m0 m1 m2 m3 m4 m5 z0 z1 z2 z3 z4 z5
   generalize World.setCell _ _ _ = Ws at *
   refine wp_region_held_drew (S := fun w' => w'.cell? ⟨b, 0, none⟩ = some (.int .i64 e.kind) ∧ w'.cell? ⟨b, 1, none⟩ = some (.int .i64 e.job) ∧ w'.cell? ⟨b, 2, none⟩ = some (.int .i64 e.tm) ∧ w'.cell? ⟨b, 3, none⟩ = some (.int .i64 e.nd) ∧ w'.cell? ⟨b, 4, none⟩ = some (.int .i64 e.lm) ∧ w'.cell? ⟨b, 5, none⟩ = some (.slice A e.list.length c)) (by kernel_rfl) (boxE_cells HS.drew.tail.tail) (fun hHeld => ?_)
   have Hd := HS.drew
   clear HS
   generalize World.drew _ = Wd at *
   refine ztk 0 ?_
   simp only [Act.put, zp]
   refine ztk 1 ?_
   simp only [Act.put, zp]
   refine ztk 4 ?_
   simp only [Act.put, zp]
   refine ztk 5 ?_
   simp only [Act.put, zp]
   refine zry 2 (fun K' hK' => ?_)
   dsimp only [zg1, zg3, zg2]
   go_simp
   go_at_call 53
   refine (Ref.digits9_ok hD Hd e.tm hok.tm.1 hok.tm.2).mono ?_
   rintro r w4 ⟨rfl, H4⟩
   dsimp only
   go_simp
   refine hK'.out _ _ (boxE_cells H4.tail.tail) (fun hHeld => ?_)
   clear hK' K'
   try simp only [Act.put, zp]
   refine wpAnyH_ready (rs := [3, 6]) (by kernel_rfl) (by simp) ?_
   refine AllReadyH.cons rfl (fun K' hK' => ?_) (AllReadyH.cons rfl (fun K' hK' => ?_) AllReadyH.nil)
   ·skip
    dsimp only [zg1, zg3, zg2]
    go_simp
    have HBu := H4.alloc (.cells #[.string passB, .string (itB e.tm)] 9)
    refine hK'.out _ _ (boxE_cells HBu.tail.tail.tail) (fun hHeld => ?_)
    clear hK' K'
    try simp only [Act.put, zp]
    refine zry 6 (fun K' hK' => ?_)
    dsimp only [zg1, zg3, zg2]
    go_simp
    go_at_call 54
    refine (Ref.all_ok hD HBu ((((h.cons _).cons _).cons _).cons _) hok.fits hfew).mono ?_
    rintro r w9 ⟨u9, rfl, HA⟩
    dsimp only
    go_simp
    refine hK'.out _ _ (boxE_cells HA.tail.tail.tail.tail) (fun hHeld => ?_)
    clear hK' K'
    try simp only [Act.put, zp]
    refine zry 7 (fun K' hK' => ?_)
    have HR := HL.rowOf (cs := strC [passB, itB e.tm]) (k := 1) (n := 2) HA.swap rfl (by unfold maxLen; omega)
    have hrA : Rd 1 u9 (allW e.list).length (strC (allW e.list)) _ := rd_row HR.tail.head
    have hln : (allW e.list).length ≤ 4294967200 := by rw [allW_len]; exact hfew
    refine step_append_hl (ys := #[]) sliceS rfl _ _ rfl (v := .slice (some ⟨w4.heap.size, 0, none⟩) 2 2) (xv := u9) (n := 2) (m := (allW e.list).length) (xs := strC [passB, itB e.tm]) (news := strC (allW e.list)) HR rfl rfl hrA (by simp [Value.oneCell']) (by unfold maxLen; omega) (by omega) ?_
    intro v10 w10 H10
    refine hK'.out _ _ (boxE_cells H10.tail.tail.tail.tail) (fun hHeld => ?_)
    clear hK' K'
    try simp only [Act.put, zp]
    refine ztk 8 ?_
    simp only [Act.put, zp]
    refine wpAnyH_done (by kernel_rfl) ?_ _
    go_wp2
    go_meet
    rw [hE.out, hU.out, hW.out]
    refine ⟨_, H10.swap.tail, fun W' HW' => ?_⟩
    have := rd_row HW'.head
    simpa [allW, strC, List.map_append, Nat.add_comm, Nat.add_left_comm] using this
   ·skip
    dsimp only [zg1, zg3, zg2]
    go_simp
    go_at_call 54
    refine (Ref.all_ok hD H4 (((h.cons _).cons _).cons _) hok.fits hfew).mono ?_
    rintro r w9 ⟨u9, rfl, HA⟩
    dsimp only
    go_simp
    refine hK'.out _ _ (boxE_cells HA.tail.tail.tail) (fun hHeld => ?_)
    clear hK' K'
    try simp only [Act.put, zp]
    refine zry 3 (fun K' hK' => ?_)
    dsimp only [zg1, zg3, zg2]
    go_simp
    have HBu := HA.alloc (.cells #[.string passB, .string (itB e.tm)] 9)
    refine hK'.out _ _ (boxE_cells HBu.tail.tail.tail.tail) (fun hHeld => ?_)
    clear hK' K'
    try simp only [Act.put, zp]
    refine zry 7 (fun K' hK' => ?_)
    have HR := HL.rowOf (cs := strC [passB, itB e.tm]) (k := 1) (n := 2) HBu rfl (by unfold maxLen; omega)
    have hrA : Rd 1 u9 (allW e.list).length (strC (allW e.list)) _ := rd_row HR.tail.head
    have hln : (allW e.list).length ≤ 4294967200 := by rw [allW_len]; exact hfew
    refine step_append_hl (ys := #[]) sliceS rfl _ _ rfl (v := .slice (some ⟨w9.heap.size, 0, none⟩) 2 2) (xv := u9) (n := 2) (m := (allW e.list).length) (xs := strC [passB, itB e.tm]) (news := strC (allW e.list)) HR rfl rfl hrA (by simp [Value.oneCell']) (by unfold maxLen; omega) (by omega) ?_
    intro v10 w10 H10
    refine hK'.out _ _ (boxE_cells H10.tail.tail.tail.tail) (fun hHeld => ?_)
    clear hK' K'
    try simp only [Act.put, zp]
    refine ztk 8 ?_
    simp only [Act.put, zp]
    refine wpAnyH_done (by kernel_rfl) ?_ _
    go_wp2
    go_meet
    rw [hE.out, hU.out, hW.out]
    refine ⟨_, H10.swap.tail, fun W' HW' => ?_⟩
    have := rd_row HW'.head
    simpa [allW, strC, List.map_append, Nat.add_comm, Nat.add_left_comm] using this
  by_cases h6 : e.kind = 6
  ·have hk := h6
   have hE := Lib.hid (show onlyE e = ⟨e.kind, 0, e.tm, 0, 0, []⟩ by simp [onlyE, hk])
   have hU := Lib.hid (show onlyU e v = .slice none 0 0 by simp [onlyU, hk])
   have hW := Lib.hid (show onlyW e = tickB :: allW [e.tm] by simp [onlyW, hk])
   have q1 : (e.kind == 1) = false := by simp [hk]
   have q2 : (e.kind == 2) = false := by simp [hk]
   have q3 : (e.kind == 3) = false := by simp [hk]
   have q4 : (e.kind == 4) = false := by simp [hk]
   have q5 : (e.kind == 5) = false := by simp [hk]
   have q6 : (e.kind == 6) = true := by simp [hk]
   have q7 : (e.kind == 7) = false := by simp [hk]
   clear hk h6
   have hit := Ref.digits9_ok hD HB e.tm hok.tm.1 hok.tm.2
   go_wp2_with (go_at_call 53; refine hit.mono ?_; rintro r w4 ⟨rfl, H4⟩; clear hit)
   go_meet
   rw [hE.out, hU.out, hW.out]
   exact ⟨_, H4.alloc _, entBlk (k := 1) (n := 2) (cs := strC [tickB, itB e.tm]) rfl (by unfold maxLen; simp)⟩
  by_cases h7 : e.kind = 7
  ·have hk := h7
   have hE := Lib.hid (show onlyE e = ⟨e.kind, 0, e.tm, 0, 0, []⟩ by simp [onlyE, hk])
   have hU := Lib.hid (show onlyU e v = .slice none 0 0 by simp [onlyU, hk])
   have hW := Lib.hid (show onlyW e = decayB :: allW [e.tm] by simp [onlyW, hk])
   have q1 : (e.kind == 1) = false := by simp [hk]
   have q2 : (e.kind == 2) = false := by simp [hk]
   have q3 : (e.kind == 3) = false := by simp [hk]
   have q4 : (e.kind == 4) = false := by simp [hk]
   have q5 : (e.kind == 5) = false := by simp [hk]
   have q6 : (e.kind == 6) = false := by simp [hk]
   have q7 : (e.kind == 7) = true := by simp [hk]
   clear hk h7
   have hit := Ref.digits9_ok hD HB e.tm hok.tm.1 hok.tm.2
   go_wp2_with (go_at_call 53; refine hit.mono ?_; rintro r w4 ⟨rfl, H4⟩; clear hit)
   go_meet
   rw [hE.out, hU.out, hW.out]
   exact ⟨_, H4.alloc _, entBlk (k := 1) (n := 2) (cs := strC [decayB, itB e.tm]) rfl (by unfold maxLen; simp)⟩
  have hE := Lib.hid (show onlyE e = ⟨e.kind, 0, e.tm, 0, 0, []⟩ by simp [onlyE, h1, h2, h3, h4, h5])
  have hU := Lib.hid (show onlyU e v = .slice none 0 0 by simp [onlyU, h2, h5])
  have hW := Lib.hid (show onlyW e = [] by simp [onlyW, h1, h2, h3, h4, h5, h6, h7])
  have q1 : (e.kind == 1) = false := by simp [h1]
  have q2 : (e.kind == 2) = false := by simp [h2]
  have q3 : (e.kind == 3) = false := by simp [h3]
  have q4 : (e.kind == 4) = false := by simp [h4]
  have q5 : (e.kind == 5) = false := by simp [h5]
  have q6 : (e.kind == 6) = false := by simp [h6]
  have q7 : (e.kind == 7) = false := by simp [h7]
  clear h1 h2 h3 h4 h5 h6 h7
  go_wp2
  go_meet
  rw [hE.out, hU.out, hW.out]
  exact ⟨_, HB.nilRow 0 0 1, fun W' _ => rd_nil⟩
 case rest =>
  obtain ⟨X, HX, hs⟩ := hcut
  have hsx := Lib.hid hs
  clear HB n0 n1 n2 n3 n4 n5 m0 m1 m2 m3 m4 m5 z0 z1 z2 z3 z4 z5 hs hok
  have hpost : ∀ r w', (∃ s X, r = Ending.returned (.tuple #[evV (onlyE e) (onlyU e v), s]) ∧ HL w0 w' (X :: L) ∧ Strs w0 (X :: L) s (onlyW e)) → OnlyPost w0 L v e r w' := fun _ _ h => h
  obtain ⟨A9, n9, c9, hU9⟩ := HU9.out
  generalize OnlyPost w0 L v e = PO at *
  clear HU9
  generalize onlyE e = d at *
  generalize onlyU e v = u at *
  subst hU9
  have HPO := Lib.hid hpost
  clear hpost
  have HS := boxE_put (d := d) (u := .slice A9 n9 c9) HX.swap.tail.swap
  obtain ⟨n0, n1, n2, n3, n4, n5⟩ := boxE_cells HX.tail
  obtain ⟨z0, z1, z2, z3, z4, z5⟩ := boxE_froz HX.tail.tail
  obtain ⟨y0, y1, y2, y3, y4, y5⟩ := boxE_cells HX.tail.tail
  go_wp2
  clear n0 n1 n2 n3 n4 n5 z0 z1 z2 z3 z4 z5 y0 y1 y2 y3 y4 y5 HX
  generalize World.setCell _ _ _ = W9 at *
  obtain ⟨n0, n1, n2, n3, n4, n5⟩ := boxE_cells HS
  refine bodyPost_ret (v := .tuple #[evV d (.slice A9 n9 c9), u5]) (by simp [evV, results, Tryz.results57, go_sem, n0, n1, n2, n3, n4, n5]; try rfl) rfl ?_
  exact HPO.out _ _ ⟨_, X, rfl, HS.tail.swap.tail, hsx.out⟩
end
end Go.Proofs.YtdekbbffoaphhaaGreatDoor

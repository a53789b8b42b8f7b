/- An event's line. -/
import Derived.Test.YtdekbbffoaphhaaGreatDoorAnZip
import Derived.Test.YtdekbbffoaphhaaGreatDoorAnPkG
import Derived.Deep.RegionHeld3
import Derived.OrdersHeld
set_option linter.unusedVariables false
set_option linter.unusedSimpArgs false
set_option maxRecDepth 100000
set_option maxHeartbeats 8000000
namespace Go.Proofs.An
theorem fits2 {e : Ev} (h : EvOk e) : Fits [e.job, e.tm] := fun n hn => by
 simp only [List.mem_cons, List.not_mem_nil, or_false] at hn
 rcases hn with rfl | rfl
 ·exact h.job
 ·exact h.tm
theorem fits4 {e : Ev} (h : EvOk e) : Fits [e.job, e.tm, e.nd, e.lm] := fun n hn => by
 simp only [List.mem_cons, List.not_mem_nil, or_false] at hn
 rcases hn with rfl | rfl | rfl | rfl
 ·exact h.job
 ·exact h.tm
 ·exact h.nd
 ·exact h.lm
theorem fits1 {e : Ev} (h : EvOk e) : Fits [e.tm] := fun n hn => by
 simp only [List.mem_cons, List.not_mem_nil, or_false] at hn
 rw [hn]
 exact h.tm
theorem evT_1 {e : Ev} (h : e.kind = 1) : evT e = [115, 117, 98, 109, 105, 116] ++ numsT [e.job, e.tm, e.nd, e.lm] := by simp [evT, h]
theorem evT_2 {e : Ev} (h : e.kind = 2) : evT e = [115, 116, 97, 114, 116] ++ numsT [e.job, e.tm] ++ numsT e.list := by simp [evT, h]
theorem evT_3 {e : Ev} (h : e.kind = 3) : evT e = [101, 110, 100] ++ numsT [e.job, e.tm] ++ [32] ++ (stW e.nd).data.toList := by simp [evT, h]
theorem evT_4 {e : Ev} (h : e.kind = 4) : evT e = [112, 105, 110] ++ numsT [e.job, e.tm] := by simp [evT, h]
theorem evT_5 {e : Ev} (h : e.kind = 5) : evT e = [112, 97, 115, 115] ++ numsT [e.tm] ++ numsT e.list := by simp [evT, h]
theorem evT_6 {e : Ev} (h : e.kind = 6) : evT e = [116, 105, 99, 107] ++ numsT [e.tm] := by simp [evT, h]
theorem evT_7 {e : Ev} (h : e.kind = 7) : evT e = [100, 101, 99, 97, 121] ++ numsT [e.tm] := by simp [evT, h]
theorem evS_of {e : Ev} (h : right e = true) {s : ByteArray} (hs : s.data.toList = evT e) : evS e = s := by
 unfold evS
 rw [if_pos h, ← hs]
theorem kinds7 {e : Ev} (h : right e = true) : e.kind = 1 ∨ e.kind = 2 ∨ e.kind = 3 ∨ e.kind = 4 ∨ e.kind = 5 ∨ e.kind = 6 ∨ e.kind = 7 := by
 by_cases h1 : e.kind = 1
 ·exact .inl h1
 by_cases h2 : e.kind = 2
 ·exact .inr (.inl h2)
 by_cases h3 : e.kind = 3
 ·exact .inr (.inr (.inl h3))
 by_cases h4 : e.kind = 4
 ·exact .inr (.inr (.inr (.inl h4)))
 by_cases h5 : e.kind = 5
 ·exact .inr (.inr (.inr (.inr (.inl h5))))
 by_cases h6 : e.kind = 6
 ·exact .inr (.inr (.inr (.inr (.inr (.inl h6)))))
 by_cases h7 : e.kind = 7
 ·exact .inr (.inr (.inr (.inr (.inr (.inr h7)))))
 unfold right at h
 simp [okK, h1, h2, h3, h4, h5, h6, h7] at h
end Go.Proofs.An
namespace Go.Proofs.YtdekbbffoaphhaaGreatDoor
open Go.RowKit Go.Proofs.HL Go.Proofs.An
theorem ret2S {a b : ByteArray} {n m : Int} (h : a = b) (h2 : n = m) : Ending.returned (.tuple #[.string b, .int .i64 m]) = .returned (.tuple #[.string a, .int .i64 n]) := by rw [h, h2]
section
variable {w0 w : World} {L : List At} {v : Value} {e : Ev}
theorem nums_size {l : List Int} (h : Fits l) : (⟨(numsT l).toArray⟩ : ByteArray).size ≤ 22 * l.length := by
 have := numsT_len l h
 simpa [ByteArray.size] using this
theorem event_ok (hD : Doors w0) (H : HL w0 w L) (e : Ev) (h : Ints w0 L v e.list) (hok : EvOk e) :
  Calls Tryz.prog 16 #[evV e v] w fun r w' => r = .returned (.tuple #[.string (evS e), .int .i64 (evN e)]) ∧ HL w0 w' L := by
 have H1 := HL.allocE H e v
 have hri := right_ok H1 e (h.cons _)
 obtain ⟨n0, n1, n2, n3, n4, n5⟩ := boxE_cells H1
 generalize hb1 : w.heap.size = b1 at *
 unfold evV at *
 cases hr : right e with
 | false =>
  have hs : evS e = ⟨#[]⟩ := by unfold evS; rw [hr]; rfl
  have hn : evN e = 90 := by unfold evN; rw [hr]; rfl
  have HS := Lib.hid hs; have HN := Lib.hid hn
  rw [hr] at hri
  clear hs hn hr
  go_enter Tryz.func16, Tryz.ntmps16
  go_wp2_with (go_at_call 29; refine hri.mono ?_; rintro r w2 ⟨rfl, H2⟩)
  go_ret2
  exact ⟨ret2S HS.out HN.out, H2.tail⟩
 | true =>
  have hn : evN e = 0 := by unfold evN; rw [hr]; rfl
  have hes := fun s => evS_of hr (s := s)
  have hkk := kinds7 hr
  have z1 := nums_size (fits1 hok); have z2 := nums_size (fits2 hok); have z4 := nums_size (fits4 hok); have zl := nums_size hok.fits; have zs := stW_size e.nd
  have hfew := hok.few
  have c1 := fun W L' v' (HH : HL w0 W L') (hv : Ints w0 L' v' [e.tm]) => numbers_ok hD HH hv (fits1 hok) (by simp)
  have c2 := fun W L' v' (HH : HL w0 W L') (hv : Ints w0 L' v' [e.job, e.tm]) => numbers_ok hD HH hv (fits2 hok) (by simp)
  have c4 := fun W L' v' (HH : HL w0 W L') (hv : Ints w0 L' v' [e.job, e.tm, e.nd, e.lm]) => numbers_ok hD HH hv (fits4 hok) (by simp)
  have cl := fun W L' v' (HH : HL w0 W L') (hv : Ints w0 L' v' e.list) => numbers_ok hD HH hv hok.fits hok.few
  have t1 := @evT_1 e; have t2 := @evT_2 e; have t3 := @evT_3 e; have t4 := @evT_4 e; have t5 := @evT_5 e; have t6 := @evT_6 e; have t7 := @evT_7 e
  have x1 : (⟨(numsT [e.tm]).toArray⟩ : ByteArray).data.toList = numsT [e.tm] := by simp
  have x2 : (⟨(numsT [e.job, e.tm]).toArray⟩ : ByteArray).data.toList = numsT [e.job, e.tm] := by simp
  have x4 : (⟨(numsT [e.job, e.tm, e.nd, e.lm]).toArray⟩ : ByteArray).data.toList = numsT [e.job, e.tm, e.nd, e.lm] := by simp
  have xl : (⟨(numsT e.list).toArray⟩ : ByteArray).data.toList = numsT e.list := by simp
  have hst := fun W => state_ok e.nd W
  simp only [List.length_cons, List.length_nil] at z1 z2 z4
  generalize (⟨(numsT [e.tm]).toArray⟩ : ByteArray) = D1 at *
  generalize (⟨(numsT [e.job, e.tm]).toArray⟩ : ByteArray) = D2 at *
  generalize (⟨(numsT [e.job, e.tm, e.nd, e.lm]).toArray⟩ : ByteArray) = D4 at *
  generalize (⟨(numsT e.list).toArray⟩ : ByteArray) = DL at *
  generalize stW e.nd = DS at *
  have HN := Lib.hid hn; have HES := Lib.hid hes; have X1 := Lib.hid x1; have X2 := Lib.hid x2; have X4 := Lib.hid x4; have XL := Lib.hid xl; have HB1 := Lib.hid hb1
  have T1 := Lib.hid t1; have T2 := Lib.hid t2; have T3 := Lib.hid t3; have T4 := Lib.hid t4; have T5 := Lib.hid t5; have T6 := Lib.hid t6; have T7 := Lib.hid t7
  rw [hr] at hri
  clear hn hes hr x1 x2 x4 xl t1 t2 t3 t4 t5 t6 t7 hok
  have s3 : (⟨#[101, 110, 100]⟩ : ByteArray).size = 3 := rfl
  have s5 : (⟨#[115, 116, 97, 114, 116]⟩ : ByteArray).size = 5 := rfl
  have s6 : (⟨#[115, 117, 98, 109, 105, 116]⟩ : ByteArray).size = 6 := rfl
  have s4 : (⟨#[112, 97, 115, 115]⟩ : ByteArray).size = 4 := rfl
  have s1 : (⟨#[32]⟩ : ByteArray).size = 1 := rfl
  go_enter Tryz.func16, Tryz.ntmps16
  go_upto_region 3 with (go_at_call 29; refine hri.mono ?_; rintro r w2 ⟨rfl, H2⟩; clear hri)
  clear H1 n0 n1 n2 n3 n4 n5 hb1
  obtain ⟨n0, n1, n2, n3, n4, n5⟩ := boxE_cells H2
  rcases hkk with hk | hk | hk | hk | hk | hk | hk
  ·skip
   have HT := Lib.hid (T1.out hk)
   have q1 : (e.kind == 1) = true := by simp [hk]
   have q2 : (e.kind == 2) = false := by simp [hk]
   have q3 : (e.kind == 3) = false := by simp [hk]
   have q4 : (e.kind == 4) = false := by simp [hk]
   have q5 : (e.kind == 5) = false := by simp [hk]
   have q6 : (e.kind == 6) = false := by simp [hk]
   have q7 : (e.kind == 7) = false := by simp [hk]
   clear hk
   have H3 := H2.alloc (.cells #[.int .i64 e.job, .int .i64 e.tm, .int .i64 e.nd, .int .i64 e.lm] 3)
   have hc := c4 _ _ _ H3 (entBlk (k := 1) (n := 4) (cs := intC [e.job, e.tm, e.nd, e.lm]) rfl (by unfold maxLen; simp))
   try simp only [World.size_alloc] at hc
   go_wp2_with (go_at_call 19; refine hc.mono ?_; rintro r w4 ⟨rfl, H4⟩; clear hc)
   go_ret2
   exact ⟨ret2S (HES.out _ (by rw [HT.out]; simp [X4.out])) HN.out, H4.tail.tail⟩
  ·skip
   have HT := Lib.hid (T2.out hk)
   have q1 : (e.kind == 1) = false := by simp [hk]
   have q2 : (e.kind == 2) = true := by simp [hk]
   have q3 : (e.kind == 3) = false := by simp [hk]
   have q4 : (e.kind == 4) = false := by simp [hk]
   have q5 : (e.kind == 5) = false := by simp [hk]
   have q6 : (e.kind == 6) = false := by simp [hk]
   have q7 : (e.kind == 7) = false := by simp [hk]
   clear hk
   go_wp2
   refine wp_region_held_drew (S := fun w' => w'.cell? ⟨b1, 0, none⟩ = some (.int .i64 e.kind) ∧ w'.cell? ⟨b1, 1, none⟩ = some (.int .i64 e.job) ∧ w'.cell? ⟨b1, 2, none⟩ = some (.int .i64 e.tm) ∧ w'.cell? ⟨b1, 3, none⟩ = some (.int .i64 e.nd) ∧ w'.cell? ⟨b1, 4, none⟩ = some (.int .i64 e.lm) ∧ w'.cell? ⟨b1, 5, none⟩ = some v) (by kernel_rfl) (boxE_cells H2.drew) (fun hHeld => ?_)
   have H2d := H2.drew
   clear H2 n0 n1 n2 n3 n4 n5
   generalize w2.drew = Wd at *
   refine ztk 0 ?_
   simp only [Act.put, zp]
   refine ztk 1 ?_
   simp only [Act.put, zp]
   refine ztk 2 ?_
   simp only [Act.put, zp]
   refine ztk 3 ?_
   simp only [Act.put, zp]
   refine ztk 7 ?_
   simp only [Act.put, zp]
   refine ztk 8 ?_
   simp only [Act.put, zp]
   refine zry 4 (fun K' hK' => ?_)
   dsimp only [zg1, zg3, zg2]
   go_simp
   have H3 := H2d.alloc (.cells #[.int .i64 e.job, .int .i64 e.tm] 3)
   refine hK'.out _ _ (boxE_cells H3.swap) (fun hHeld => ?_)
   clear hK' K'
   try simp only [Act.put, zp]
   refine zry 5 (fun K' hK' => ?_)
   dsimp only [zg1, zg3, zg2]
   go_simp
   go_at_call 19
   refine (c2 _ _ _ H3 (entBlk (k := 1) (n := 2) (cs := intC [e.job, e.tm]) rfl (by unfold maxLen; simp))).mono ?_
   rintro r w4 ⟨rfl, H4⟩
   dsimp only
   go_simp
   refine hK'.out _ _ (boxE_cells H4.swap) (fun hHeld => ?_)
   clear hK' K'
   try simp only [Act.put, zp]
   refine ztk 6 ?_
   simp only [Act.put, zp]
   refine zry 9 (fun K' hK' => ?_)
   dsimp only [zg1, zg3, zg2]
   go_simp
   go_at_call 19
   refine (cl _ _ _ H4 ((h.cons _).cons _)).mono ?_
   rintro r w5 ⟨rfl, H5⟩
   dsimp only
   go_simp
   refine hK'.out _ _ (boxE_cells H5.swap) (fun hHeld => ?_)
   clear hK' K'
   try simp only [Act.put, zp]
   refine ztk 10 ?_
   simp only [Act.put, zp]
   refine ztk 11 ?_
   simp only [Act.put, zp]
   refine wpAnyH_done (by kernel_rfl) ?_ _
   go_wp2
   go_ret2
   exact ⟨ret2S (HES.out _ (by rw [HT.out]; simp [X2.out, XL.out])) HN.out, H5.tail.tail⟩
  ·skip
   have HT := Lib.hid (T3.out hk)
   have q1 : (e.kind == 1) = false := by simp [hk]
   have q2 : (e.kind == 2) = false := by simp [hk]
   have q3 : (e.kind == 3) = true := by simp [hk]
   have q4 : (e.kind == 4) = false := by simp [hk]
   have q5 : (e.kind == 5) = false := by simp [hk]
   have q6 : (e.kind == 6) = false := by simp [hk]
   have q7 : (e.kind == 7) = false := by simp [hk]
   clear hk
   go_wp2
   refine wp_region_held_drew (S := fun w' => w'.cell? ⟨b1, 0, none⟩ = some (.int .i64 e.kind) ∧ w'.cell? ⟨b1, 1, none⟩ = some (.int .i64 e.job) ∧ w'.cell? ⟨b1, 2, none⟩ = some (.int .i64 e.tm) ∧ w'.cell? ⟨b1, 3, none⟩ = some (.int .i64 e.nd) ∧ w'.cell? ⟨b1, 4, none⟩ = some (.int .i64 e.lm) ∧ w'.cell? ⟨b1, 5, none⟩ = some v) (by kernel_rfl) (boxE_cells H2.drew) (fun hHeld => ?_)
   have H2d := H2.drew
   clear H2 n0 n1 n2 n3 n4 n5
   generalize w2.drew = Wd at *
   refine ztk 0 ?_
   simp only [Act.put, zp]
   refine ztk 1 ?_
   simp only [Act.put, zp]
   refine ztk 2 ?_
   simp only [Act.put, zp]
   refine ztk 3 ?_
   simp only [Act.put, zp]
   refine ztk 8 ?_
   simp only [Act.put, zp]
   refine ztk 9 ?_
   simp only [Act.put, zp]
   refine zry 4 (fun K' hK' => ?_)
   dsimp only [zg1, zg3, zg2]
   go_simp
   have H3 := H2d.alloc (.cells #[.int .i64 e.job, .int .i64 e.tm] 3)
   refine hK'.out _ _ (boxE_cells H3.swap) (fun hHeld => ?_)
   clear hK' K'
   try simp only [Act.put, zp]
   refine zry 5 (fun K' hK' => ?_)
   dsimp only [zg1, zg3, zg2]
   go_simp
   go_at_call 19
   refine (c2 _ _ _ H3 (entBlk (k := 1) (n := 2) (cs := intC [e.job, e.tm]) rfl (by unfold maxLen; simp))).mono ?_
   rintro r w4 ⟨rfl, H4⟩
   dsimp only
   go_simp
   refine hK'.out _ _ (boxE_cells H4.swap) (fun hHeld => ?_)
   clear hK' K'
   try simp only [Act.put, zp]
   refine ztk 6 ?_
   simp only [Act.put, zp]
   refine ztk 7 ?_
   simp only [Act.put, zp]
   refine zry 10 (fun K' hK' => ?_)
   dsimp only [zg1, zg3, zg2]
   go_simp
   go_at_call 27
   refine (hst _).mono ?_
   rintro r w5 ⟨rfl, rfl⟩
   dsimp only
   go_simp
   refine hK'.out _ _ (boxE_cells H4.swap) (fun hHeld => ?_)
   clear hK' K'
   try simp only [Act.put, zp]
   refine ztk 11 ?_
   simp only [Act.put, zp]
   refine ztk 12 ?_
   simp only [Act.put, zp]
   refine wpAnyH_done (by kernel_rfl) ?_ _
   go_wp2
   go_ret2
   exact ⟨ret2S (HES.out _ (by rw [HT.out]; simp [X2.out])) HN.out, H4.tail.tail⟩
  ·skip
   have HT := Lib.hid (T4.out hk)
   have q1 : (e.kind == 1) = false := by simp [hk]
   have q2 : (e.kind == 2) = false := by simp [hk]
   have q3 : (e.kind == 3) = false := by simp [hk]
   have q4 : (e.kind == 4) = true := by simp [hk]
   have q5 : (e.kind == 5) = false := by simp [hk]
   have q6 : (e.kind == 6) = false := by simp [hk]
   have q7 : (e.kind == 7) = false := by simp [hk]
   clear hk
   have H3 := H2.alloc (.cells #[.int .i64 e.job, .int .i64 e.tm] 3)
   have hc := c2 _ _ _ H3 (entBlk (k := 1) (n := 2) (cs := intC [e.job, e.tm]) rfl (by unfold maxLen; simp))
   try simp only [World.size_alloc] at hc
   go_wp2_with (go_at_call 19; refine hc.mono ?_; rintro r w4 ⟨rfl, H4⟩; clear hc)
   go_ret2
   exact ⟨ret2S (HES.out _ (by rw [HT.out]; simp [X2.out])) HN.out, H4.tail.tail⟩
  ·skip
   have HT := Lib.hid (T5.out hk)
   have q1 : (e.kind == 1) = false := by simp [hk]
   have q2 : (e.kind == 2) = false := by simp [hk]
   have q3 : (e.kind == 3) = false := by simp [hk]
   have q4 : (e.kind == 4) = false := by simp [hk]
   have q5 : (e.kind == 5) = true := by simp [hk]
   have q6 : (e.kind == 6) = false := by simp [hk]
   have q7 : (e.kind == 7) = false := by simp [hk]
   clear hk
   go_wp2
   refine wp_region_held_drew (S := fun w' => w'.cell? ⟨b1, 0, none⟩ = some (.int .i64 e.kind) ∧ w'.cell? ⟨b1, 1, none⟩ = some (.int .i64 e.job) ∧ w'.cell? ⟨b1, 2, none⟩ = some (.int .i64 e.tm) ∧ w'.cell? ⟨b1, 3, none⟩ = some (.int .i64 e.nd) ∧ w'.cell? ⟨b1, 4, none⟩ = some (.int .i64 e.lm) ∧ w'.cell? ⟨b1, 5, none⟩ = some v) (by kernel_rfl) (boxE_cells H2.drew) (fun hHeld => ?_)
   have H2d := H2.drew
   clear H2 n0 n1 n2 n3 n4 n5
   generalize w2.drew = Wd at *
   refine ztk 0 ?_
   simp only [Act.put, zp]
   refine ztk 1 ?_
   simp only [Act.put, zp]
   refine ztk 5 ?_
   simp only [Act.put, zp]
   refine ztk 6 ?_
   simp only [Act.put, zp]
   refine zry 2 (fun K' hK' => ?_)
   dsimp only [zg1, zg3, zg2]
   go_simp
   have H3 := H2d.alloc (.cells #[.int .i64 e.tm] 3)
   refine hK'.out _ _ (boxE_cells H3.swap) (fun hHeld => ?_)
   clear hK' K'
   try simp only [Act.put, zp]
   refine zry 3 (fun K' hK' => ?_)
   dsimp only [zg1, zg3, zg2]
   go_simp
   go_at_call 19
   refine (c1 _ _ _ H3 (entBlk (k := 1) (n := 1) (cs := intC [e.tm]) rfl (by unfold maxLen; simp))).mono ?_
   rintro r w4 ⟨rfl, H4⟩
   dsimp only
   go_simp
   refine hK'.out _ _ (boxE_cells H4.swap) (fun hHeld => ?_)
   clear hK' K'
   try simp only [Act.put, zp]
   refine ztk 4 ?_
   simp only [Act.put, zp]
   refine zry 7 (fun K' hK' => ?_)
   dsimp only [zg1, zg3, zg2]
   go_simp
   go_at_call 19
   refine (cl _ _ _ H4 ((h.cons _).cons _)).mono ?_
   rintro r w5 ⟨rfl, H5⟩
   dsimp only
   go_simp
   refine hK'.out _ _ (boxE_cells H5.swap) (fun hHeld => ?_)
   clear hK' K'
   try simp only [Act.put, zp]
   refine ztk 8 ?_
   simp only [Act.put, zp]
   refine ztk 9 ?_
   simp only [Act.put, zp]
   refine wpAnyH_done (by kernel_rfl) ?_ _
   go_wp2
   go_ret2
   exact ⟨ret2S (HES.out _ (by rw [HT.out]; simp [X1.out, XL.out])) HN.out, H5.tail.tail⟩
  ·skip
   have HT := Lib.hid (T6.out hk)
   have q1 : (e.kind == 1) = false := by simp [hk]
   have q2 : (e.kind == 2) = false := by simp [hk]
   have q3 : (e.kind == 3) = false := by simp [hk]
   have q4 : (e.kind == 4) = false := by simp [hk]
   have q5 : (e.kind == 5) = false := by simp [hk]
   have q6 : (e.kind == 6) = true := by simp [hk]
   have q7 : (e.kind == 7) = false := by simp [hk]
   clear hk
   have H3 := H2.alloc (.cells #[.int .i64 e.tm] 3)
   have hc := c1 _ _ _ H3 (entBlk (k := 1) (n := 1) (cs := intC [e.tm]) rfl (by unfold maxLen; simp))
   try simp only [World.size_alloc] at hc
   go_wp2_with (go_at_call 19; refine hc.mono ?_; rintro r w4 ⟨rfl, H4⟩; clear hc)
   go_ret2
   exact ⟨ret2S (HES.out _ (by rw [HT.out]; simp [X1.out])) HN.out, H4.tail.tail⟩
  ·skip
   have HT := Lib.hid (T7.out hk)
   have q1 : (e.kind == 1) = false := by simp [hk]
   have q2 : (e.kind == 2) = false := by simp [hk]
   have q3 : (e.kind == 3) = false := by simp [hk]
   have q4 : (e.kind == 4) = false := by simp [hk]
   have q5 : (e.kind == 5) = false := by simp [hk]
   have q6 : (e.kind == 6) = false := by simp [hk]
   have q7 : (e.kind == 7) = true := by simp [hk]
   clear hk
   have H3 := H2.alloc (.cells #[.int .i64 e.tm] 3)
   have hc := c1 _ _ _ H3 (entBlk (k := 1) (n := 1) (cs := intC [e.tm]) rfl (by unfold maxLen; simp))
   try simp only [World.size_alloc] at hc
   go_wp2_with (go_at_call 19; refine hc.mono ?_; rintro r w4 ⟨rfl, H4⟩; clear hc)
   go_ret2
   exact ⟨ret2S (HES.out _ (by rw [HT.out]; simp [X1.out])) HN.out, H4.tail.tail⟩
end
end Go.Proofs.YtdekbbffoaphhaaGreatDoor

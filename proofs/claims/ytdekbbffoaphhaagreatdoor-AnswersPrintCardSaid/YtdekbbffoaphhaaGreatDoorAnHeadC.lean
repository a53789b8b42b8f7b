/- An answer's first line, read (answers.head): of a usage, of a job; all ways. -/
import Derived.Test.YtdekbbffoaphhaaGreatDoorAnZipB
import Derived.Test.YtdekbbffoaphhaaGreatDoorAnHeadB
set_option linter.unusedVariables false
set_option linter.unusedSimpArgs false
set_option maxRecDepth 100000
set_option maxHeartbeats 8000000
namespace Go.Proofs.YtdekbbffoaphhaaGreatDoor
open Go.RowKit Go.Proofs.HL Go.Proofs.An
section
variable {w0 w : World} {L : List At}
theorem head_us (hD : Doors w0) {s0 x1 x2 x3 : ByteArray} {b c : Nat} (H : HL w0 w (strs w0.heap.size (.slice (some ⟨b, 0, none⟩) 4 c) [s0, x1, x2, x3] :: L)) (hz : ∀ s ∈ [s0, x1, x2, x3], s.size ≤ 1000000000) (he : s0 ≠ errorW) :
  Calls Tryz.prog 39 #[.int .i64 11, .slice (some ⟨b, 0, none⟩) 4 c] w (HeadPost w0 L (headA 11 [s0, x1, x2, x3])) := by
 have H1 := HL.bzA H
 have H2 := HL.bzA H1
 rw [World.size_alloc] at H2
 obtain ⟨A0, c0, hv0, -, hc1, hc2⟩ := row_shape (show w.ownsRow w0.heap.size 9 1 (.slice (some ⟨b, 0, none⟩) 4 c) 4 (strC [s0, x1, x2, x3]) from H.head)
 simp only [Value.slice.injEq] at hv0
 obtain ⟨-, -, rfl⟩ := hv0
 unfold maxLen at hc2
 have G2 : _ = some (Obj.cells _ 32 (0, 0)) := H2.head
 have HS : HL w0 _ (bxz _ :: _) := HL.setWhole (cells := ansA zA (.slice none 0 0) (.slice none 0 0) (.slice none 0 0)) H2
 have hq : (s0.toList == [101, 114, 114, 111, 114]) = false := by rw [beq_eq_false_iff_ne]; exact fun e => he (bytesSame (e.trans (by decide +kernel)))
 have hh : headA 11 [s0, x1, x2, x3] = tailA 11 0 (puV x2) (puV x3) ((numsW [x1]).getD []) := by unfold headA numsOf restW; rw [List.headD_cons, if_neg he]; rfl
 have HH := Lib.hid hh
 have HZ := Lib.hid hz
 clear he hh hz
 generalize hb4 : w.heap.size = b4 at *
 clear H H1 H2
 go_enter Tryz.func39, Tryz.ntmps39
 go_upto_region 2 with (refine wpList_store_row rfl 32 _ _ rfl (b4 + 1) (ansA zA (.slice none 0 0) (.slice none 0 0) (.slice none 0 0)) rfl rfl 32 _ G2 (ansA_size _ _ _ _) rfl (ansA_one _ _ _ _ _ _ _ _ _ _) ?_)
 have HB4 := Lib.hid hb4
 clear hb4 G2
 generalize World.setRow _ _ _ = W at *
 have e0 : W.cell? ⟨b, 0, none⟩ = some (.string s0) := HS.tail.tail.rowCell (E := 9) (k := 1) (xs := strC [s0, x1, x2, x3]) (List.mem_cons_self ..) 0 _ rfl
 go_upto_region 7 with (fail)
 clear e0
 have hc1' : ¬ c = 1 := by omega
 have hc4 : (2 : Int) ≤ (c : Int) := by omega
 have hst : HL w0 W (bxz (b4 + 1) :: bxz b4 :: strs w0.heap.size (.slice (some ⟨b, 0, none⟩) 4 c) [s0, x1, x2, x3] :: L) := HS
 have e2 : W.cell? ⟨b, 2, none⟩ = some (.string x2) := HS.tail.tail.rowCell (E := 9) (k := 1) (xs := strC [s0, x1, x2, x3]) (List.mem_cons_self ..) 2 _ rfl
 have hp2 := pu_ok hD HS x2 (by have := HZ.out x2 (by simp); omega)
 go_upto_region 9 with (go_at_call 59; refine hp2.mono ?_; rintro e w3 ⟨y, rfl, H3⟩; clear hp2 HS hst e2; have n13 := HL.cell H3 13; have y13 := HL.frozen H3 13)
 have H4 : HL w0 _ (boxA (b4 + 1) { zA with usage := puV x2 } (.slice none 0 0) (.slice none 0 0) (.slice none 0 0) :: bxz b4 :: strs w0.heap.size (.slice (some ⟨b, 0, none⟩) 4 c) [s0, x1, x2, x3] :: L) := HL.setCell H3 13 (.int .u64 (puV x2))
 clear H3 n13 y13
 generalize World.setCell _ _ _ = W4 at *
 have e3 : W4.cell? ⟨b, 3, none⟩ = some (.string x3) := H4.tail.tail.rowCell (E := 9) (k := 1) (xs := strC [s0, x1, x2, x3]) (List.mem_cons_self ..) 3 _ rfl
 have hp3 := pu_ok hD H4 x3 (by have := HZ.out x3 (by simp); omega)
 go_upto_region 10 with (go_at_call 59; refine hp3.mono ?_; rintro e w5 ⟨y5, rfl, H5⟩; clear hp3 H4 e3; have n14 := HL.cell H5 14; have y14 := HL.frozen H5 14)
 have HS : HL w0 _ (boxA (b4 + 1) { zA with usage := puV x2, factor := puV x3 } (.slice none 0 0) (.slice none 0 0) (.slice none 0 0) :: bxz b4 :: strs w0.heap.size (.slice (some ⟨b, 0, none⟩) 4 c) [s0, x1, x2, x3] :: L) := HL.setCell H5 14 (.int .u64 (puV x3))
 clear H5 n14 y14
 generalize World.setCell _ _ _ = W6 at *
 go_upto_region 15 with (fail)
 have hB := fun W' L' (HW : HL w0 W' (strs w0.heap.size (.slice (some ⟨b, 0, none⟩) 4 c) [s0, x1, x2, x3] :: L')) => entRow W' HW
 have hrd := reads_num hD HS (v := .slice (some ⟨b, 1, none⟩) 1 (c - 1)) (ws := [x1]) (fun W' HW => by
  have h1 : Rd 1 (.slice (some ⟨b, 0, none⟩) 4 c) 4 (strC [s0, x1, x2, x3]) W' := hB W' _ HW.tail.tail
  have h2 := rd_prefix h1 2 (by decide)
  have h3 := rd_suffix (a' := ⟨b, 1, none⟩) h2 1 (by decide) (.inl (by rw [add_plain]))
  exact h3) (fun s hs => by have := HZ.out s (by simp at hs ⊢; simp [hs]); omega) (by simp)
 have hnm := numsW_most [x1]
 obtain ⟨n, hn⟩ : ∃ n, (numsW [x1]).getD [] = n := ⟨_, rfl⟩
 rw [hn] at hrd hnm
 have Hnl := Lib.hid (show n.length ≤ 1000000000 by simp at hnm; omega)
 have hx : headA 11 [s0, x1, x2, x3] = { zA with raw := (n[0]?.getD 0), usage := puV x2, factor := puV x3 } := by rw [HH.out, hn]; simp [tailA]
 have HX := Lib.hid hx
 clear hB hnm hn hx
 go_upto_region 16 with (go_at_call 42; refine hrd.mono ?_; rintro e w3 ⟨u, rfl, H3⟩; clear hrd HS)
 have hnl : n.length ≤ 1000000000 := Hnl.out
 obtain ⟨An, cn, rfl, -⟩ := row_shape (show w3.ownsRow w0.heap.size 3 1 u n.length (intC n) from H3.head)
 go_upto_block 0 with (at_builtin; refine wpList_append_zeros (bytes := 8) (n := n.length) (m := 10) (xs := intC n) (v := .slice An n.length cn) Tryz.underlying24 Tryz.underlying3 (by kernel_rfl) (by decide) rfl _ _ rfl H3 rfl rfl (by decide) (by decide) (by omega) ?_; intro z w4 H4; clear H3)
 have H5 : HL w0 w4 (intsR w0.heap.size z (n ++ List.replicate 10 0) :: boxA (b4 + 1) { zA with usage := puV x2, factor := puV x3 } (.slice none 0 0) (.slice none 0 0) (.slice none 0 0) :: bxz b4 :: strs w0.heap.size (.slice (some ⟨b, 0, none⟩) 4 c) [s0, x1, x2, x3] :: L) := by
  have e : intC (n ++ List.replicate 10 0) = intC n ++ List.replicate 10 (.int .i64 0) := by simp [List.map_append]
  unfold intsR
  rw [List.length_append, List.length_replicate, e]
  exact H4
 clear H4
 obtain ⟨g, cz, rfl, hcz1, hcz2⟩ := pad_shape H5
 obtain ⟨s0h, s1h, s2h, s3h, s4h, s5h, s6h, s7h, s8h⟩ := pad_cells H5
 have i0 : (0 : Int) < (n.length : Int) + 10 := by omega
 have i1 : (1 : Int) < (n.length : Int) + 10 := by omega
 have i2 : (2 : Int) < (n.length : Int) + 10 := by omega
 have i3 : (3 : Int) < (n.length : Int) + 10 := by omega
 have i4 : (4 : Int) < (n.length : Int) + 10 := by omega
 have i5 : (5 : Int) < (n.length : Int) + 10 := by omega
 have i6 : (6 : Int) < (n.length : Int) + 10 := by omega
 have i7 : (7 : Int) < (n.length : Int) + 10 := by omega
 have i8 : (8 : Int) < (n.length : Int) + 10 := by omega
 have n12 : w4.cell? ⟨b4 + 1, 12, none⟩ = some (.int .i64 { zA with usage := puV x2, factor := puV x3 }.raw) := HL.cell H5.swap 12
 have y12 : w4.frozen? ⟨b4 + 1, 12, none⟩ = false := HL.frozen H5.swap 12
 have H6 : HL w0 _ (boxA (b4 + 1) { zA with raw := (n[0]?.getD 0), usage := puV x2, factor := puV x3 } (.slice none 0 0) (.slice none 0 0) (.slice none 0 0) :: _) := HL.setCell H5.swap 12 (.int .i64 (n[0]?.getD 0))
 go_upto_region 32 with (fail)
 clear n12 y12 s0h s1h s2h s3h s4h s5h s6h s7h s8h
 generalize World.setCell _ _ _ = W6 at *
 have H7 := H6.swap
 clear H5
 have G1 : _ = some (Obj.cells (ansA { zA with raw := (n[0]?.getD 0), usage := puV x2, factor := puV x3 } (.slice none 0 0) (.slice none 0 0) (.slice none 0 0)) 32 (0, 0)) := H7.tail.head
 have G3 : _ = some (Obj.cells _ 32 (0, 0)) := H7.tail.tail.head
 have HS := HL.setWhole (cells := ansA { zA with raw := (n[0]?.getD 0), usage := puV x2, factor := puV x3 } (.slice none 0 0) (.slice none 0 0) (.slice none 0 0)) (H7.sel 3 [2, 0])
 go_wp2_with (first
  | (refine wpList_load_row rfl 32 _ rfl (b4 + 1) rfl 32 _ (0, 0) _ G1 Tryz.underlying32 rfl (ansA_size _ _ _ _) ?_)
  | (refine wpList_store_row rfl 32 _ _ rfl b4 (ansA { zA with raw := (n[0]?.getD 0), usage := puV x2, factor := puV x3 } (.slice none 0 0) (.slice none 0 0) (.slice none 0 0)) rfl rfl 32 _ G3 (ansA_size _ _ _ _) rfl (ansA_one _ _ _ _ _ _ _ _ _ _) ?_))
 have G5 := HS.head
 refine bodyPost_ret (results_cell_row (by rfl) _ _ b4 32 _ (0, 0) _ (by rfl) G5 Tryz.underlying32 rfl (ansA_size _ _ _ _)) rfl ?_
 rw [HX.out]
 exact headPost_plain (r := { zA with raw := (n[0]?.getD 0), usage := puV x2, factor := puV x3 }) rfl [_] (HL.drop2 HS.tail)
theorem head_jb (hD : Doors w0) (k : Int) {s0 : ByteArray} {wr : List ByteArray} {b c : Nat} (H : HL w0 w (strs w0.heap.size (.slice (some ⟨b, 0, none⟩) (wr.length + 1) c) (s0 :: wr) :: L)) (hz : ∀ s ∈ s0 :: wr, s.size ≤ 1000000000) (hl : wr.length ≤ 1000000000) (he : s0 ≠ errorW) (hj : jbB k (s0 :: wr) = true) :
  Calls Tryz.prog 39 #[.int .i64 k, .slice (some ⟨b, 0, none⟩) (wr.length + 1) c] w (HeadPost w0 L (headA k (s0 :: wr))) := by
 have hk : k = 9 := by simp [jbB] at hj; exact hj.1
 have hl5 : 5 ≤ wr.length := by simp [jbB] at hj; omega
 obtain ⟨l1, hl1⟩ : ∃ l1, wr.length = l1 + 1 := ⟨wr.length - 1, by omega⟩
 obtain ⟨s5, hs5⟩ : ∃ s5, (s0 :: wr)[5]? = some s5 := ⟨_, List.getElem?_eq_getElem (by simp; omega)⟩
 have hh : headA k (s0 :: wr) = tailA k (stN s5) 0 0 ((numsW (((s0 :: wr).take 5 ++ (s0 :: wr).drop 6).drop 1)).getD []) := by
  have hu : usB k (s0 :: wr) = false := by simp [usB, hk]
  unfold headA numsOf restW
  rw [List.headD_cons, if_neg he, hu, hj]
  simp only [if_true, Bool.false_eq_true, if_false, List.getD_eq_getElem?_getD, hs5, Option.getD_some]
 subst hk
 have H1 := HL.bzA H
 have H2 := HL.bzA H1
 rw [World.size_alloc] at H2
 obtain ⟨A0, c0, hv0, -, hc1, hc2⟩ := row_shape (show w.ownsRow w0.heap.size 9 1 (.slice (some ⟨b, 0, none⟩) (wr.length + 1) c) (wr.length + 1) (strC (s0 :: wr)) from H.head)
 simp only [Value.slice.injEq] at hv0
 obtain ⟨-, -, rfl⟩ := hv0
 unfold maxLen at hc2
 have G2 : _ = some (Obj.cells _ 32 (0, 0)) := H2.head
 have HS : HL w0 _ (bxz _ :: _) := HL.setWhole (cells := ansA zA (.slice none 0 0) (.slice none 0 0) (.slice none 0 0)) H2
 have hq : (s0.toList == [101, 114, 114, 111, 114]) = false := by rw [beq_eq_false_iff_ne]; exact fun e => he (bytesSame (e.trans (by decide +kernel)))
 have HH := Lib.hid hh; have HZ := Lib.hid hz; have HL1 := Lib.hid hl1; have HS5 := Lib.hid hs5; have HL5 := Lib.hid hl5
 clear he hh hz hj hl1 hs5 hl5
 generalize hb4 : w.heap.size = b4 at *
 clear H H1 H2
 go_enter Tryz.func39, Tryz.ntmps39
 go_upto_region 2 with (refine wpList_store_row rfl 32 _ _ rfl (b4 + 1) (ansA zA (.slice none 0 0) (.slice none 0 0) (.slice none 0 0)) rfl rfl 32 _ G2 (ansA_size _ _ _ _) rfl (ansA_one _ _ _ _ _ _ _ _ _ _) ?_)
 have HB4 := Lib.hid hb4
 clear hb4 G2
 generalize World.setRow _ _ _ = W at *
 have e0 : W.cell? ⟨b, 0, none⟩ = some (.string s0) := HS.tail.tail.rowCell (E := 9) (k := 1) (xs := strC (s0 :: wr)) (List.mem_cons_self ..) 0 _ rfl
 go_upto_region 7 with (fail)
 clear e0
 have hl5' := HL5.out
 have hc1' : ¬ c = 1 := by omega
 have hc2' : (wr.length : Int) ≤ (c : Int) := by omega
 have hc3' : wr.length ≤ c := by omega
 have hc4' : (1 : Int) ≤ (wr.length : Int) := by have := HL1.out; omega
 have hwm : IntKind.i64.wrap ((wr.length : Int) - 1) = (l1 : Int) := by have := HL1.out; rw [IntWalk.i64_in] <;> omega
 have i5 : (5 : Int) < (wr.length : Int) + 1 := by omega
 have d5 : decide ((5 : Int) < (wr.length : Int) + 1) = true := decide_eq_true i5
 have e5 : W.cell? ⟨b, 5, none⟩ = some (.string s5) := HS.tail.tail.rowCell (E := 9) (k := 1) (xs := strC (s0 :: wr)) (List.mem_cons_self ..) 5 _ (by rw [List.getElem?_map, HS5.out]; rfl)
 have hdel := delete_ok (i := 5) (j := 6) (xs := s0 :: wr) (b := b) (c := c) (L := bxz (b4 + 1) :: bxz b4 :: L) (w := W) (w0 := w0) HS.rot3 (by decide) (by rw [List.length_cons, HL1.out]; have := HL5.out; have := HL1.out; omega)
 rw [show (s0 :: wr).length = wr.length + 1 from rfl, show wr.length + 1 - (6 - 5) = wr.length by omega] at hdel
 go_upto_region 15 with (first
  | (go_at_call 48; refine (stateOf_ok s5 _).mono ?_; rintro r w3 ⟨rfl, rfl⟩)
  | (go_at_call 60; refine hdel.mono ?_; rintro r w4 ⟨rfl, ys, hy1, hy2, HR⟩; clear hdel HS e5))
 have HS : HL w0 w4 (bxz (b4 + 1) :: bxz b4 :: strs w0.heap.size (.slice (some ⟨b, 0, none⟩) (wr.length + 1) c) ys :: L) := HR.rotl3
 clear HR
 have hB := fun W' L' (HW : HL w0 W' (strs w0.heap.size (.slice (some ⟨b, 0, none⟩) (wr.length + 1) c) ys :: L')) => entRow W' HW
 have hW : (((s0 :: wr).take 5 ++ (s0 :: wr).drop 6).drop 1) = (ys.drop 1).take (wr.length - 1) := by rw [← hy2, List.drop_take]
 have hrd := reads_num hD HS (v := .slice (some ⟨b, 1, none⟩) (wr.length - 1) (c - 1)) (ws := ((s0 :: wr).take 5 ++ (s0 :: wr).drop 6).drop 1) (fun W' HW => by
  have h1 : Rd 1 (.slice (some ⟨b, 0, none⟩) (wr.length + 1) c) (wr.length + 1) (strC ys) W' := by have := hB W' _ HW.tail.tail; rwa [hy1] at this
  have h2 := rd_prefix h1 wr.length (by omega)
  have h3 := rd_suffix (a' := ⟨b, 1, none⟩) h2 1 (by have := HL1.out; omega) (.inl (by rw [add_plain]))
  rw [hW]
  have e : ((strC ys).take (wr.length * 1)).drop (1 * 1) = strC ((ys.drop 1).take (wr.length - 1)) := by
   rw [Nat.mul_one, Nat.mul_one, strC, ← List.map_take, ← List.map_drop, List.drop_take]
  rw [e] at h3
  have hlen : ((ys.drop 1).take (wr.length - 1)).length = wr.length - 1 := by rw [List.length_take, List.length_drop, hy1]; omega
  rw [hlen]
  exact h3) (fun s hs => by
   have hm : s ∈ s0 :: wr := by
    rcases List.mem_append.1 (List.mem_of_mem_drop hs) with h | h
    ·exact List.mem_of_mem_take h
    ·exact List.mem_of_mem_drop h
   have := HZ.out s hm
   omega) (by rw [hW, List.length_take]; omega)
 have hnm := numsW_most (((s0 :: wr).take 5 ++ (s0 :: wr).drop 6).drop 1)
 have hlen : (((s0 :: wr).take 5 ++ (s0 :: wr).drop 6).drop 1).length = l1 := by rw [hW, List.length_take, List.length_drop, hy1, HL1.out]; omega
 obtain ⟨n, hn⟩ : ∃ n, (numsW (((s0 :: wr).take 5 ++ (s0 :: wr).drop 6).drop 1)).getD [] = n := ⟨_, rfl⟩
 rw [hn, hlen] at hnm
 rw [hn] at hrd
 have Hnl := Lib.hid (show n.length ≤ 1000000000 by have := HL1.out; omega)
 have Hnr := Lib.hid hnm
 have hx : headA 9 (s0 :: wr) = { zA with job := ⟨(n[0]?.getD 0), (n[1]?.getD 0), (n[2]?.getD 0), (n[3]?.getD 0), stN s5, (n[4]?.getD 0), (n[5]?.getD 0), n.drop 6⟩ } := by rw [HH.out, hn]; simp [tailA]
 have HX := Lib.hid hx
 clear hB hnm hn hx hW hy1 hy2 hlen
 go_upto_region 16 with (go_at_call 42; refine hrd.mono ?_; rintro e w3 ⟨u, rfl, H3⟩; clear hrd HS)
 have hnl : n.length ≤ 1000000000 := Hnl.out
 obtain ⟨An, cn, rfl, -⟩ := row_shape (show w3.ownsRow w0.heap.size 3 1 u n.length (intC n) from H3.head)
 go_upto_block 0 with (at_builtin; refine wpList_append_zeros (bytes := 8) (n := n.length) (m := 10) (xs := intC n) (v := .slice An n.length cn) Tryz.underlying24 Tryz.underlying3 (by kernel_rfl) (by decide) rfl _ _ rfl H3 rfl rfl (by decide) (by decide) (by omega) ?_; intro z w4 H4; clear H3)
 have H5 : HL w0 w4 (intsR w0.heap.size z (n ++ List.replicate 10 0) :: bxz (b4 + 1) :: bxz b4 :: strs w0.heap.size (.slice (some ⟨b, 0, none⟩) (wr.length + 1) c) ys :: L) := by
  have e : intC (n ++ List.replicate 10 0) = intC n ++ List.replicate 10 (.int .i64 0) := by simp [List.map_append]
  unfold intsR
  rw [List.length_append, List.length_replicate, e]
  exact H4
 clear H4
 obtain ⟨g, cz, rfl, hcz1, hcz2⟩ := pad_shape H5
 obtain ⟨s0h, s1h, s2h, s3h, s4h, s5h, s6h, s7h, s8h⟩ := pad_cells H5
 have i0 : (0 : Int) < (n.length : Int) + 10 := by omega
 have i1 : (1 : Int) < (n.length : Int) + 10 := by omega
 have i2 : (2 : Int) < (n.length : Int) + 10 := by omega
 have i3 : (3 : Int) < (n.length : Int) + 10 := by omega
 have i4 : (4 : Int) < (n.length : Int) + 10 := by omega
 have i5 : (5 : Int) < (n.length : Int) + 10 := by omega
 have i6 : (6 : Int) < (n.length : Int) + 10 := by omega
 have i7 : (7 : Int) < (n.length : Int) + 10 := by omega
 have i8 : (8 : Int) < (n.length : Int) + 10 := by omega
 obtain ⟨h6, hh6⟩ : ∃ h6 : Nat, h6 = max 6 n.length := ⟨_, rfl⟩
 have hnr := Hnr.out
 have hmx : max (6 : Int) (n.length : Int) = (h6 : Int) := by omega
 have hmn : min ((l1 : Int)) (n.length : Int) = (n.length : Int) := by omega
 have hw1 : IntKind.i64.wrap ((n.length : Int) + 10 - 10) = (n.length : Int) := by rw [IntWalk.i64_in] <;> omega
 have h66 : (6 : Int) ≤ (h6 : Int) := by omega
 have h6c : h6 ≤ cz := by omega
 have h6c2 : (h6 : Int) ≤ (cz : Int) := by omega
 have hc6 : ¬ cz = 6 := by omega
 have hdl : (n.drop 6).length = h6 - 6 := by rw [List.length_drop]; omega
 have HDL := Lib.hid hdl
 have hset := pad_set H5.head hh6 hdl
 have HSET := Lib.hid hset
 clear hset hdl hh6
 go_upto_region 23 with (fail)
 refine wp_region_cut 28 (by kernel_rfl) (by kernel_rfl) ?_
 simp only [List.take_succ_cons, List.take_zero, List.drop_succ_cons, List.drop_zero]
 repeat (go_big_quiet_step ((fail)))
 refine wpQuiet_nil ?_
 intro nq
 have Hd := (H5.drewN nq).swap
 clear H5 s0h s1h s2h s3h s4h s5h s6h s7h s8h
 generalize World.drewN _ nq = Wd at *
 obtain ⟨n0, n1, n2, n3, n4, n5, n6, n7, n8, n9, n10, n11, n12, n13, n14, n15, n16, n17, n18, n19, n20, n21, n22, n23, n24, n25, n26⟩ := boxA_cells Hd
 obtain ⟨y0, y1, y2, y3, y4, y5, y6, y7, y8, y9, y10, y11, y12, y13, y14, y15, y16, y17, y18, y19, y20, y21, y22, y23, y24, y25, y26⟩ := boxA_froz Hd
 have HT3 : HL w0 _ (blk (b4 + 1) (.cells #[.int .i64 zA.code, .int .i64 zA.id, .slice none 0 0, .int .i64 (n[0]?.getD 0), .int .i64 zA.job.nodes, .int .i64 zA.job.lim, .int .i64 zA.job.sub, .int .i64 zA.job.st, .int .i64 zA.job.start, .int .i64 zA.job.fin, .slice none 0 0, .slice none 0 0, .int .i64 zA.raw, .int .u64 zA.usage, .int .u64 zA.factor, .int .i64 zA.free, .int .i64 zA.holder, .int .i64 zA.shadow, .int .i64 zA.cfg.c0, .int .i64 zA.cfg.c1, .int .i64 zA.cfg.c2, .int .i64 zA.cfg.c3, .int .i64 zA.cfg.c4, .int .i64 zA.cfg.c5, .int .i64 zA.cfg.c6, .int .i64 zA.cfg.c7, .int .i64 zA.bound] 32) :: intsR w0.heap.size (.slice (some ⟨g, 0, none⟩) (n.length + 10) cz) (n ++ List.replicate 10 0) :: bxz b4 :: strs w0.heap.size (.slice (some ⟨b, 0, none⟩) (wr.length + 1) c) ys :: L) := HL.setCell Hd 3 (.int .i64 (n[0]?.getD 0))
 have HT4 : HL w0 _ (blk (b4 + 1) (.cells #[.int .i64 zA.code, .int .i64 zA.id, .slice none 0 0, .int .i64 (n[0]?.getD 0), .int .i64 (n[1]?.getD 0), .int .i64 zA.job.lim, .int .i64 zA.job.sub, .int .i64 zA.job.st, .int .i64 zA.job.start, .int .i64 zA.job.fin, .slice none 0 0, .slice none 0 0, .int .i64 zA.raw, .int .u64 zA.usage, .int .u64 zA.factor, .int .i64 zA.free, .int .i64 zA.holder, .int .i64 zA.shadow, .int .i64 zA.cfg.c0, .int .i64 zA.cfg.c1, .int .i64 zA.cfg.c2, .int .i64 zA.cfg.c3, .int .i64 zA.cfg.c4, .int .i64 zA.cfg.c5, .int .i64 zA.cfg.c6, .int .i64 zA.cfg.c7, .int .i64 zA.bound] 32) :: intsR w0.heap.size (.slice (some ⟨g, 0, none⟩) (n.length + 10) cz) (n ++ List.replicate 10 0) :: bxz b4 :: strs w0.heap.size (.slice (some ⟨b, 0, none⟩) (wr.length + 1) c) ys :: L) := HL.setCell HT3 4 (.int .i64 (n[1]?.getD 0))
 have HT5 : HL w0 _ (blk (b4 + 1) (.cells #[.int .i64 zA.code, .int .i64 zA.id, .slice none 0 0, .int .i64 (n[0]?.getD 0), .int .i64 (n[1]?.getD 0), .int .i64 (n[2]?.getD 0), .int .i64 zA.job.sub, .int .i64 zA.job.st, .int .i64 zA.job.start, .int .i64 zA.job.fin, .slice none 0 0, .slice none 0 0, .int .i64 zA.raw, .int .u64 zA.usage, .int .u64 zA.factor, .int .i64 zA.free, .int .i64 zA.holder, .int .i64 zA.shadow, .int .i64 zA.cfg.c0, .int .i64 zA.cfg.c1, .int .i64 zA.cfg.c2, .int .i64 zA.cfg.c3, .int .i64 zA.cfg.c4, .int .i64 zA.cfg.c5, .int .i64 zA.cfg.c6, .int .i64 zA.cfg.c7, .int .i64 zA.bound] 32) :: intsR w0.heap.size (.slice (some ⟨g, 0, none⟩) (n.length + 10) cz) (n ++ List.replicate 10 0) :: bxz b4 :: strs w0.heap.size (.slice (some ⟨b, 0, none⟩) (wr.length + 1) c) ys :: L) := HL.setCell HT4 5 (.int .i64 (n[2]?.getD 0))
 have HT6 : HL w0 _ (blk (b4 + 1) (.cells #[.int .i64 zA.code, .int .i64 zA.id, .slice none 0 0, .int .i64 (n[0]?.getD 0), .int .i64 (n[1]?.getD 0), .int .i64 (n[2]?.getD 0), .int .i64 (n[3]?.getD 0), .int .i64 zA.job.st, .int .i64 zA.job.start, .int .i64 zA.job.fin, .slice none 0 0, .slice none 0 0, .int .i64 zA.raw, .int .u64 zA.usage, .int .u64 zA.factor, .int .i64 zA.free, .int .i64 zA.holder, .int .i64 zA.shadow, .int .i64 zA.cfg.c0, .int .i64 zA.cfg.c1, .int .i64 zA.cfg.c2, .int .i64 zA.cfg.c3, .int .i64 zA.cfg.c4, .int .i64 zA.cfg.c5, .int .i64 zA.cfg.c6, .int .i64 zA.cfg.c7, .int .i64 zA.bound] 32) :: intsR w0.heap.size (.slice (some ⟨g, 0, none⟩) (n.length + 10) cz) (n ++ List.replicate 10 0) :: bxz b4 :: strs w0.heap.size (.slice (some ⟨b, 0, none⟩) (wr.length + 1) c) ys :: L) := HL.setCell HT5 6 (.int .i64 (n[3]?.getD 0))
 have HT7 : HL w0 _ (blk (b4 + 1) (.cells #[.int .i64 zA.code, .int .i64 zA.id, .slice none 0 0, .int .i64 (n[0]?.getD 0), .int .i64 (n[1]?.getD 0), .int .i64 (n[2]?.getD 0), .int .i64 (n[3]?.getD 0), .int .i64 (stN s5), .int .i64 zA.job.start, .int .i64 zA.job.fin, .slice none 0 0, .slice none 0 0, .int .i64 zA.raw, .int .u64 zA.usage, .int .u64 zA.factor, .int .i64 zA.free, .int .i64 zA.holder, .int .i64 zA.shadow, .int .i64 zA.cfg.c0, .int .i64 zA.cfg.c1, .int .i64 zA.cfg.c2, .int .i64 zA.cfg.c3, .int .i64 zA.cfg.c4, .int .i64 zA.cfg.c5, .int .i64 zA.cfg.c6, .int .i64 zA.cfg.c7, .int .i64 zA.bound] 32) :: intsR w0.heap.size (.slice (some ⟨g, 0, none⟩) (n.length + 10) cz) (n ++ List.replicate 10 0) :: bxz b4 :: strs w0.heap.size (.slice (some ⟨b, 0, none⟩) (wr.length + 1) c) ys :: L) := HL.setCell HT6 7 (.int .i64 (stN s5))
 have HT8 : HL w0 _ (blk (b4 + 1) (.cells #[.int .i64 zA.code, .int .i64 zA.id, .slice none 0 0, .int .i64 (n[0]?.getD 0), .int .i64 (n[1]?.getD 0), .int .i64 (n[2]?.getD 0), .int .i64 (n[3]?.getD 0), .int .i64 (stN s5), .int .i64 (n[4]?.getD 0), .int .i64 zA.job.fin, .slice none 0 0, .slice none 0 0, .int .i64 zA.raw, .int .u64 zA.usage, .int .u64 zA.factor, .int .i64 zA.free, .int .i64 zA.holder, .int .i64 zA.shadow, .int .i64 zA.cfg.c0, .int .i64 zA.cfg.c1, .int .i64 zA.cfg.c2, .int .i64 zA.cfg.c3, .int .i64 zA.cfg.c4, .int .i64 zA.cfg.c5, .int .i64 zA.cfg.c6, .int .i64 zA.cfg.c7, .int .i64 zA.bound] 32) :: intsR w0.heap.size (.slice (some ⟨g, 0, none⟩) (n.length + 10) cz) (n ++ List.replicate 10 0) :: bxz b4 :: strs w0.heap.size (.slice (some ⟨b, 0, none⟩) (wr.length + 1) c) ys :: L) := HL.setCell HT7 8 (.int .i64 (n[4]?.getD 0))
 have HT9 : HL w0 _ (blk (b4 + 1) (.cells #[.int .i64 zA.code, .int .i64 zA.id, .slice none 0 0, .int .i64 (n[0]?.getD 0), .int .i64 (n[1]?.getD 0), .int .i64 (n[2]?.getD 0), .int .i64 (n[3]?.getD 0), .int .i64 (stN s5), .int .i64 (n[4]?.getD 0), .int .i64 (n[5]?.getD 0), .slice none 0 0, .slice none 0 0, .int .i64 zA.raw, .int .u64 zA.usage, .int .u64 zA.factor, .int .i64 zA.free, .int .i64 zA.holder, .int .i64 zA.shadow, .int .i64 zA.cfg.c0, .int .i64 zA.cfg.c1, .int .i64 zA.cfg.c2, .int .i64 zA.cfg.c3, .int .i64 zA.cfg.c4, .int .i64 zA.cfg.c5, .int .i64 zA.cfg.c6, .int .i64 zA.cfg.c7, .int .i64 zA.bound] 32) :: intsR w0.heap.size (.slice (some ⟨g, 0, none⟩) (n.length + 10) cz) (n ++ List.replicate 10 0) :: bxz b4 :: strs w0.heap.size (.slice (some ⟨b, 0, none⟩) (wr.length + 1) c) ys :: L) := HL.setCell HT8 9 (.int .i64 (n[5]?.getD 0))
 have HT10 : HL w0 _ (blk (b4 + 1) (.cells #[.int .i64 zA.code, .int .i64 zA.id, .slice none 0 0, .int .i64 (n[0]?.getD 0), .int .i64 (n[1]?.getD 0), .int .i64 (n[2]?.getD 0), .int .i64 (n[3]?.getD 0), .int .i64 (stN s5), .int .i64 (n[4]?.getD 0), .int .i64 (n[5]?.getD 0), .slice (some ⟨g, 6, none⟩) (h6 - 6) (cz - 6), .slice none 0 0, .int .i64 zA.raw, .int .u64 zA.usage, .int .u64 zA.factor, .int .i64 zA.free, .int .i64 zA.holder, .int .i64 zA.shadow, .int .i64 zA.cfg.c0, .int .i64 zA.cfg.c1, .int .i64 zA.cfg.c2, .int .i64 zA.cfg.c3, .int .i64 zA.cfg.c4, .int .i64 zA.cfg.c5, .int .i64 zA.cfg.c6, .int .i64 zA.cfg.c7, .int .i64 zA.bound] 32) :: intsR w0.heap.size (.slice (some ⟨g, 0, none⟩) (n.length + 10) cz) (n ++ List.replicate 10 0) :: bxz b4 :: strs w0.heap.size (.slice (some ⟨b, 0, none⟩) (wr.length + 1) c) ys :: L) := HL.setCell HT9 10 (.slice (some ⟨g, 6, none⟩) (h6 - 6) (cz - 6))
 have H6 : HL w0 _ (boxA (b4 + 1) { zA with job := ⟨(n[0]?.getD 0), (n[1]?.getD 0), (n[2]?.getD 0), (n[3]?.getD 0), stN s5, (n[4]?.getD 0), (n[5]?.getD 0), n.drop 6⟩ } (.slice none 0 0) (.slice (some ⟨g, 6, none⟩) (h6 - 6) (cz - 6)) (.slice none 0 0) :: _) := HT10
 go_upto_region 32 with (fail)
 clear Hd n0 y0 n1 y1 n2 y2 n3 y3 n4 y4 n5 y5 n6 y6 n7 y7 n8 y8 n9 y9 n10 y10 n11 y11 n12 y12 n13 y13 n14 y14 n15 y15 n16 y16 n17 y17 n18 y18 n19 y19 n20 y20 n21 y21 n22 y22 n23 y23 n24 y24 n25 y25 n26 y26
 have H7 := H6.swap
 generalize World.setCell _ _ _ = W6 at *
 have G1 : _ = some (Obj.cells (ansA { zA with job := ⟨(n[0]?.getD 0), (n[1]?.getD 0), (n[2]?.getD 0), (n[3]?.getD 0), stN s5, (n[4]?.getD 0), (n[5]?.getD 0), n.drop 6⟩ } (.slice none 0 0) (.slice (some ⟨g, 6, none⟩) (h6 - 6) (cz - 6)) (.slice none 0 0)) 32 (0, 0)) := H7.tail.head
 have G3 : _ = some (Obj.cells _ 32 (0, 0)) := H7.tail.tail.head
 have HS := HL.setWhole (cells := ansA { zA with job := ⟨(n[0]?.getD 0), (n[1]?.getD 0), (n[2]?.getD 0), (n[3]?.getD 0), stN s5, (n[4]?.getD 0), (n[5]?.getD 0), n.drop 6⟩ } (.slice none 0 0) (.slice (some ⟨g, 6, none⟩) (h6 - 6) (cz - 6)) (.slice none 0 0)) (H7.sel 3 [2, 0])
 go_wp2_with (first
  | (refine wpList_load_row rfl 32 _ rfl (b4 + 1) rfl 32 _ (0, 0) _ G1 Tryz.underlying32 rfl (ansA_size _ _ _ _) ?_)
  | (refine wpList_store_row rfl 32 _ _ rfl b4 (ansA { zA with job := ⟨(n[0]?.getD 0), (n[1]?.getD 0), (n[2]?.getD 0), (n[3]?.getD 0), stN s5, (n[4]?.getD 0), (n[5]?.getD 0), n.drop 6⟩ } (.slice none 0 0) (.slice (some ⟨g, 6, none⟩) (h6 - 6) (cz - 6)) (.slice none 0 0)) rfl rfl 32 _ G3 (ansA_size _ _ _ _) rfl (ansA_one _ _ _ _ _ _ _ _ _ _) ?_))
 have G5 := HS.head
 refine bodyPost_ret (results_cell_row (by rfl) _ _ b4 32 _ (0, 0) _ (by rfl) G5 Tryz.underlying32 rfl (ansA_size _ _ _ _)) rfl ?_
 rw [HX.out]
 exact ⟨[_], some ⟨g, 6, none⟩, cz - 6, by rw [show (({ zA with job := ⟨(n[0]?.getD 0), (n[1]?.getD 0), (n[2]?.getD 0), (n[3]?.getD 0), stN s5, (n[4]?.getD 0), (n[5]?.getD 0), n.drop 6⟩ } : Ans)).job.set.length = h6 - 6 from HDL.out]; rfl, by
  rw [show (({ zA with job := ⟨(n[0]?.getD 0), (n[1]?.getD 0), (n[2]?.getD 0), (n[3]?.getD 0), stN s5, (n[4]?.getD 0), (n[5]?.getD 0), n.drop 6⟩ } : Ans)).job.set.length = h6 - 6 from HDL.out]
  exact HSET.out [], HL.drop2 HS.tail⟩
theorem head_ok (hD : Doors w0) (k : Int) {s0 : ByteArray} {wr : List ByteArray} {b c : Nat} (H : HL w0 w (strs w0.heap.size (.slice (some ⟨b, 0, none⟩) (wr.length + 1) c) (s0 :: wr) :: L)) (hz : ∀ s ∈ s0 :: wr, s.size ≤ 1000000000) (hl : wr.length ≤ 1000000000) :
  Calls Tryz.prog 39 #[.int .i64 k, .slice (some ⟨b, 0, none⟩) (wr.length + 1) c] w (HeadPost w0 L (headA k (s0 :: wr))) := by
 by_cases he : s0 = errorW
 ·exact head_err hD k H hz hl he
 cases hj : jbB k (s0 :: wr) with
 | true => exact head_jb hD k H hz hl he hj
 | false =>
  cases hu : usB k (s0 :: wr) with
  | false => exact head_plain hD k H hz hl he hu hj
  | true =>
   simp only [usB, Bool.and_eq_true, beq_iff_eq, List.length_cons] at hu
   obtain ⟨rfl, h3⟩ := hu
   match wr, h3 with
   | [x1, x2, x3], _ => exact head_us hD H hz he
end
end Go.Proofs.YtdekbbffoaphhaaGreatDoor

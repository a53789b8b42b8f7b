/- An answer's first line, read (answers.head): the ways without an error. -/
import Derived.Test.YtdekbbffoaphhaaGreatDoorAnZipB
import Derived.Test.YtdekbbffoaphhaaGreatDoorAnZip
import Derived.Test.YtdekbbffoaphhaaGreatDoorAnPkB
set_option linter.unusedVariables false
set_option linter.unusedSimpArgs false
set_option maxRecDepth 100000
set_option maxHeartbeats 8000000
namespace Go.Proofs.YtdekbbffoaphhaaGreatDoor
open Go.RowKit Go.Proofs.HL Go.Proofs.An
section
variable {w0 w : World} {L : List At}
theorem pad_shape {z : Value} {n : List Int} (H : HL w0 w (intsR w0.heap.size z (n ++ List.replicate 10 0) :: L)) : ∃ g cz, z = .slice (some ⟨g, 0, none⟩) (n.length + 10) cz ∧ n.length + 10 ≤ cz ∧ cz ≤ 9223372036854775807 := by
 have h : w.ownsRow w0.heap.size 3 1 z (n ++ List.replicate 10 0).length (intC (n ++ List.replicate 10 0)) := H.head
 rw [List.length_append, List.length_replicate] at h
 rcases h.2 with ⟨rfl, e⟩ | ⟨g, cap, cur, rfl, h1, h2, h3, h4, -⟩
 ·omega
 ·unfold maxLen at h4
  exact ⟨g, cap, rfl, h3, by omega⟩
theorem pad_cells {g m cz : Nat} {n : List Int} (H : HL w0 w (intsR w0.heap.size (.slice (some ⟨g, 0, none⟩) m cz) (n ++ List.replicate 10 0) :: L)) : w.cell? ⟨g, 0, none⟩ = some (.int .i64 (n[0]?.getD 0)) ∧ w.cell? ⟨g, 1, none⟩ = some (.int .i64 (n[1]?.getD 0)) ∧ w.cell? ⟨g, 2, none⟩ = some (.int .i64 (n[2]?.getD 0)) ∧ w.cell? ⟨g, 3, none⟩ = some (.int .i64 (n[3]?.getD 0)) ∧ w.cell? ⟨g, 4, none⟩ = some (.int .i64 (n[4]?.getD 0)) ∧ w.cell? ⟨g, 5, none⟩ = some (.int .i64 (n[5]?.getD 0)) ∧ w.cell? ⟨g, 6, none⟩ = some (.int .i64 (n[6]?.getD 0)) ∧ w.cell? ⟨g, 7, none⟩ = some (.int .i64 (n[7]?.getD 0)) ∧ w.cell? ⟨g, 8, none⟩ = some (.int .i64 (n[8]?.getD 0)) := by
 have h : ∀ i, i < 10 → w.cell? ⟨g, i, none⟩ = some (.int .i64 (n[i]?.getD 0)) := fun i hi => by
  have hm : m = (n ++ List.replicate 10 (0 : Int)).length := by
   have h : w.ownsRow w0.heap.size 3 1 (.slice (some ⟨g, 0, none⟩) m cz) (n ++ List.replicate 10 0).length (intC (n ++ List.replicate 10 0)) := H.head
   rcases h.2 with ⟨h, -⟩ | ⟨g', cap, cur, h, -⟩
   ·cases h
   ·simp only [Value.slice.injEq] at h; exact h.2.1
  subst hm
  refine H.rowCell (E := 3) (k := 1) (xs := intC (n ++ List.replicate 10 0)) (List.mem_cons_self ..) i _ ?_
  rw [List.getElem?_map]
  by_cases hin : i < n.length
  ·rw [List.getElem?_append_left hin, List.getElem?_eq_getElem hin]; rfl
  ·rw [List.getElem?_append_right (by omega), List.getElem?_replicate_of_lt (by omega), List.getElem?_eq_none (by omega)]; rfl
 exact ⟨h 0 (by decide), h 1 (by decide), h 2 (by decide), h 3 (by decide), h 4 (by decide), h 5 (by decide), h 6 (by decide), h 7 (by decide), h 8 (by decide)⟩
theorem pad_set {g m cz h6 : Nat} {n : List Int} (h : w.ownsRow w0.heap.size 3 1 (.slice (some ⟨g, 0, none⟩) m cz) (n ++ List.replicate 10 0).length (intC (n ++ List.replicate 10 0))) (hh6 : h6 = max 6 n.length) (hdl : (n.drop 6).length = h6 - 6) : ∀ L', Ints w0 (intsR w0.heap.size (.slice (some ⟨g, 0, none⟩) m cz) (n ++ List.replicate 10 0) :: L') (.slice (some ⟨g, 6, none⟩) (h6 - 6) (cz - 6)) (n.drop 6) := by
 intro L' W HW
 have hm : m = n.length + 10 := by
  rcases h.2 with ⟨h, -⟩ | ⟨g', cap, cur, h, -⟩
  ·cases h
  ·simp only [Value.slice.injEq, List.length_append, List.length_replicate] at h; exact h.2.1
 subst hm
 have h1 : Rd 1 (.slice (some ⟨g, 0, none⟩) (n.length + 10) cz) (n.length + 10) (intC (n ++ List.replicate 10 0)) W := by
  have := entRow (w0 := w0) (L := L') (base := w0.heap.size) (k := 1) (E := 3) (n := (n ++ List.replicate 10 (0 : Int)).length) (v := .slice (some ⟨g, 0, none⟩) (n.length + 10) cz) (cs := intC (n ++ List.replicate 10 0)) W HW
  simpa using this
 have h2 := rd_prefix h1 h6 (by omega)
 have h3 := rd_suffix (a' := ⟨g, 6, none⟩) h2 6 (by omega) (.inl (by rw [add_plain]))
 rw [hdl]
 have e : ((intC (n ++ List.replicate 10 0)).take (h6 * 1)).drop (6 * 1) = intC (n.drop 6) := by
  rw [Nat.mul_one, Nat.mul_one, intC, ← List.map_take, ← List.map_drop]
  congr 1
  by_cases h : 6 ≤ n.length
  ·rw [show h6 = n.length by omega, List.take_left]
  ·rw [show h6 = 6 by omega, List.drop_take, Nat.sub_self, List.take_zero, List.drop_of_length_le (by omega)]
 rw [e] at h3
 exact h3
theorem numsW_most (ws : List ByteArray) : ((numsW ws).getD []).length ≤ ws.length := by
 cases h : numsW ws with
 | none => simp
 | some l => simp [numsW_len ws l h]
theorem head_plain (hD : Doors w0) (k : Int) {s0 : ByteArray} {wr : List ByteArray} {b c : Nat} (H : HL w0 w (strs w0.heap.size (.slice (some ⟨b, 0, none⟩) (wr.length + 1) c) (s0 :: wr) :: L)) (hz : ∀ s ∈ s0 :: wr, s.size ≤ 1000000000) (hl : wr.length ≤ 1000000000) (he : s0 ≠ errorW) (hu : usB k (s0 :: wr) = false) (hj : jbB k (s0 :: wr) = false) :
  Calls Tryz.prog 39 #[.int .i64 k, .slice (some ⟨b, 0, none⟩) (wr.length + 1) c] w (HeadPost w0 L (headA k (s0 :: wr))) := by
 have H1 := HL.bzA H
 have H2 := HL.bzA H1
 rw [World.size_alloc] at H2
 obtain ⟨A0, c0, hv0, -, hc1, hc2⟩ := row_shape (show w.ownsRow w0.heap.size 9 1 (.slice (some ⟨b, 0, none⟩) (wr.length + 1) c) (wr.length + 1) (strC (s0 :: wr)) from H.head)
 simp only [Value.slice.injEq] at hv0
 obtain ⟨-, -, rfl⟩ := hv0
 unfold maxLen at hc2
 have G2 : _ = some (Obj.cells _ 32 (0, 0)) := H2.head
 have HS : HL w0 _ (bxz _ :: _) := HL.setWhole (cells := ansA zA (.slice none 0 0) (.slice none 0 0) (.slice none 0 0)) H2
 have hq : (s0.toList == [101, 114, 114, 111, 114]) = false := by rw [beq_eq_false_iff_ne]; exact fun e => he (bytesSame (e.trans (by decide +kernel)))
 have hh : headA k (s0 :: wr) = tailA k 0 0 0 ((numsW wr).getD []) := by unfold headA numsOf restW; rw [List.headD_cons, if_neg he, hu, hj]; rfl
 have HH := Lib.hid hh
 have h11 : (k == 11) = false ∨ ((k == 11) = true ∧ ((wr.length : Int) + 1 == 4) = false) := by
  simp only [usB, List.length_cons] at hu
  cases hk : (k == 11)
  ·exact .inl rfl
  ·rw [hk] at hu
   refine .inr ⟨rfl, ?_⟩
   simp at hu ⊢
   omega
 have h9 : (k == 9) = false ∨ ((k == 9) = true ∧ decide ((5 : Int) < (wr.length : Int) + 1) = false) := by
  simp only [jbB, List.length_cons] at hj
  cases hk : (k == 9)
  ·exact .inl rfl
  ·rw [hk] at hj
   refine .inr ⟨rfl, ?_⟩
   simp at hj ⊢
   omega
 have HU := Lib.hid hu; have HJ := Lib.hid hj; have HZ := Lib.hid hz
 clear he hh hu hj hz
 generalize hb4 : w.heap.size = b4 at *
 clear H H1 H2
 go_enter Tryz.func39, Tryz.ntmps39
 go_upto_region 2 with (refine wpList_store_row rfl 32 _ _ rfl (b4 + 1) (ansA zA (.slice none 0 0) (.slice none 0 0) (.slice none 0 0)) rfl rfl 32 _ G2 (ansA_size _ _ _ _) rfl (ansA_one _ _ _ _ _ _ _ _ _ _) ?_)
 have HB4 := Lib.hid hb4
 clear hb4 G2
 generalize World.setRow _ _ _ = W at *
 have e0 : W.cell? ⟨b, 0, none⟩ = some (.string s0) := HS.tail.tail.rowCell (E := 9) (k := 1) (xs := strC (s0 :: wr)) (List.mem_cons_self ..) 0 _ rfl
 go_upto_region 7 with (fail)
 clear e0
 have h11' := Lib.hid h11; have h9' := Lib.hid h9
 clear h11 h9
 go_cut [40] (fun t40 wc => t40 = .bool false ∧ wc = W)
 case first =>
  rcases h11'.out with q | ⟨q, q4⟩
  ·go_wp2
   go_meet
   exact ⟨rfl, rfl⟩
  ·go_wp2
   go_meet
   exact ⟨rfl, rfl⟩
 case rest =>
  obtain ⟨rfl, rfl⟩ := hcut
  go_upto_region 12 with (fail)
  go_cut [65] (fun t65 wc2 => t65 = .bool false ∧ wc2 = wc)
  case first =>
   rcases h9'.out with q | ⟨q, q4⟩
   ·go_wp2
    go_meet
    exact ⟨rfl, rfl⟩
   ·go_wp2
    go_meet
    exact ⟨rfl, rfl⟩
  case rest =>
   obtain ⟨rfl, rfl⟩ := hcut
   go_upto_region 15 with (fail)
   obtain ⟨A', hA'⟩ : ∃ A', (if c = 1 then some (⟨b, 0, none⟩ : Addr) else some ⟨b, 1, none⟩) = A' := ⟨_, rfl⟩
   have hB := fun W' L' (HW : HL w0 W' (strs w0.heap.size (.slice (some ⟨b, 0, none⟩) (wr.length + 1) c) (s0 :: wr) :: L')) => entRow W' HW
   have hrd := reads_num hD HS (v := .slice A' wr.length (c - 1)) (ws := wr) (fun W' HW => strs_behind hA' (hB W' _ HW.tail.tail)) (fun s hs => by have := HZ.out s (List.mem_cons_of_mem _ hs); omega) (by omega)
   have hnm := numsW_most wr
   obtain ⟨n, hn⟩ : ∃ n, (numsW wr).getD [] = n := ⟨_, rfl⟩
   rw [hn] at hrd hnm
   have Hnl := Lib.hid (show n.length ≤ 1000000000 by omega)
   have Hnr := Lib.hid hnm
   have hx : headA k (s0 :: wr) = tailA k 0 0 0 n := by rw [HH.out, hn]
   have HX0 := Lib.hid hx
   clear hB hnm hn hx
   go_upto_region 16 with (go_at_call 42; refine hrd.mono ?_; rintro e w3 ⟨u, rfl, H3⟩; clear hrd HS)
   have hnl : n.length ≤ 1000000000 := Hnl.out
   obtain ⟨An, cn, rfl, -⟩ := row_shape (show w3.ownsRow w0.heap.size 3 1 u n.length (intC n) from H3.head)
   go_upto_block 0 with (at_builtin; refine wpList_append_zeros (bytes := 8) (n := n.length) (m := 10) (xs := intC n) (v := .slice An n.length cn) Tryz.underlying24 Tryz.underlying3 (by kernel_rfl) (by decide) rfl _ _ rfl H3 rfl rfl (by decide) (by decide) (by omega) ?_; intro z w4 H4; clear H3)
   have H5 : HL w0 w4 (intsR w0.heap.size z (n ++ List.replicate 10 0) :: bxz (b4 + 1) :: bxz b4 :: strs w0.heap.size (.slice (some ⟨b, 0, none⟩) (wr.length + 1) c) (s0 :: wr) :: L) := by
    have e : intC (n ++ List.replicate 10 0) = intC n ++ List.replicate 10 (.int .i64 0) := by simp [List.map_append]
    unfold intsR
    rw [List.length_append, List.length_replicate, e]
    exact H4
   clear H4
   obtain ⟨g, cz, rfl, hcz1, hcz2⟩ := pad_shape H5
   obtain ⟨s0h, s1h, s2h, s3h, s4h, s5h, s6h, s7h, s8h⟩ := pad_cells H5
   have i0 : (0 : Int) < (n.length : Int) + 10 := by omega
   have i1 : (1 : Int) < (n.length : Int) + 10 := by omega
   have i2 : (2 : Int) < (n.length : Int) + 10 := by omega
   have i3 : (3 : Int) < (n.length : Int) + 10 := by omega
   have i4 : (4 : Int) < (n.length : Int) + 10 := by omega
   have i5 : (5 : Int) < (n.length : Int) + 10 := by omega
   have i6 : (6 : Int) < (n.length : Int) + 10 := by omega
   have i7 : (7 : Int) < (n.length : Int) + 10 := by omega
   have i8 : (8 : Int) < (n.length : Int) + 10 := by omega
   by_cases g1 : k = 1
   ·have hx : headA k (s0 :: wr) = { zA with id := (n[0]?.getD 0) } := by rw [HX0.out]; simp [tailA, g1]
    have HX := Lib.hid hx
    have q1 : (k == 1) = true := by simp [g1]
    have q5 : (k == 5) = false := by simp [g1]
    have q9 : (k == 9) = false := by simp [g1]
    have q10 : (k == 10) = false := by simp [g1]
    have q11 : (k == 11) = false := by simp [g1]
    have q12 : (k == 12) = false := by simp [g1]
    have q13 : (k == 13) = false := by simp [g1]
    clear hx g1
    have n1 : w4.cell? ⟨b4 + 1, 1, none⟩ = some (.int .i64 zA.id) := HL.cell H5.swap 1
    have y1 : w4.frozen? ⟨b4 + 1, 1, none⟩ = false := HL.frozen H5.swap 1
    have H6 : HL w0 _ (boxA (b4 + 1) { zA with id := (n[0]?.getD 0) } (.slice none 0 0) (.slice none 0 0) (.slice none 0 0) :: _) := HL.setCell H5.swap 1 (.int .i64 (n[0]?.getD 0))
    go_upto_region 32 with (fail)
    clear n1 y1 s0h s1h s2h s3h s4h s5h s6h s7h s8h
    generalize World.setCell _ _ _ = W6 at *
    have H7 := H6.swap
    clear H5
    have G1 : _ = some (Obj.cells (ansA { zA with id := (n[0]?.getD 0) } (.slice none 0 0) (.slice none 0 0) (.slice none 0 0)) 32 (0, 0)) := H7.tail.head
    have G3 : _ = some (Obj.cells _ 32 (0, 0)) := H7.tail.tail.head
    have HS := HL.setWhole (cells := ansA { zA with id := (n[0]?.getD 0) } (.slice none 0 0) (.slice none 0 0) (.slice none 0 0)) (H7.sel 3 [2, 0])
    go_wp2_with (first
     | (refine wpList_load_row rfl 32 _ rfl (b4 + 1) rfl 32 _ (0, 0) _ G1 Tryz.underlying32 rfl (ansA_size _ _ _ _) ?_)
     | (refine wpList_store_row rfl 32 _ _ rfl b4 (ansA { zA with id := (n[0]?.getD 0) } (.slice none 0 0) (.slice none 0 0) (.slice none 0 0)) rfl rfl 32 _ G3 (ansA_size _ _ _ _) rfl (ansA_one _ _ _ _ _ _ _ _ _ _) ?_))
    have G5 := HS.head
    refine bodyPost_ret (results_cell_row (by rfl) _ _ b4 32 _ (0, 0) _ (by rfl) G5 Tryz.underlying32 rfl (ansA_size _ _ _ _)) rfl ?_
    rw [HX.out]
    exact headPost_plain (r := { zA with id := (n[0]?.getD 0) }) rfl [_] (HL.drop2 HS.tail)
   have q1 : (k == 1) = false := by simp [g1]
   by_cases g5 : k = 5
   ·have hx : headA k (s0 :: wr) = { zA with id := (n[0]?.getD 0) } := by rw [HX0.out]; simp [tailA, g5]
    have HX := Lib.hid hx
    have q5 : (k == 5) = true := by simp [g5]
    have q9 : (k == 9) = false := by simp [g5]
    have q10 : (k == 10) = false := by simp [g5]
    have q11 : (k == 11) = false := by simp [g5]
    have q12 : (k == 12) = false := by simp [g5]
    have q13 : (k == 13) = false := by simp [g5]
    clear hx g5
    have n1 : w4.cell? ⟨b4 + 1, 1, none⟩ = some (.int .i64 zA.id) := HL.cell H5.swap 1
    have y1 : w4.frozen? ⟨b4 + 1, 1, none⟩ = false := HL.frozen H5.swap 1
    have H6 : HL w0 _ (boxA (b4 + 1) { zA with id := (n[0]?.getD 0) } (.slice none 0 0) (.slice none 0 0) (.slice none 0 0) :: _) := HL.setCell H5.swap 1 (.int .i64 (n[0]?.getD 0))
    go_upto_region 32 with (fail)
    clear n1 y1 s0h s1h s2h s3h s4h s5h s6h s7h s8h
    generalize World.setCell _ _ _ = W6 at *
    have H7 := H6.swap
    clear H5
    have G1 : _ = some (Obj.cells (ansA { zA with id := (n[0]?.getD 0) } (.slice none 0 0) (.slice none 0 0) (.slice none 0 0)) 32 (0, 0)) := H7.tail.head
    have G3 : _ = some (Obj.cells _ 32 (0, 0)) := H7.tail.tail.head
    have HS := HL.setWhole (cells := ansA { zA with id := (n[0]?.getD 0) } (.slice none 0 0) (.slice none 0 0) (.slice none 0 0)) (H7.sel 3 [2, 0])
    go_wp2_with (first
     | (refine wpList_load_row rfl 32 _ rfl (b4 + 1) rfl 32 _ (0, 0) _ G1 Tryz.underlying32 rfl (ansA_size _ _ _ _) ?_)
     | (refine wpList_store_row rfl 32 _ _ rfl b4 (ansA { zA with id := (n[0]?.getD 0) } (.slice none 0 0) (.slice none 0 0) (.slice none 0 0)) rfl rfl 32 _ G3 (ansA_size _ _ _ _) rfl (ansA_one _ _ _ _ _ _ _ _ _ _) ?_))
    have G5 := HS.head
    refine bodyPost_ret (results_cell_row (by rfl) _ _ b4 32 _ (0, 0) _ (by rfl) G5 Tryz.underlying32 rfl (ansA_size _ _ _ _)) rfl ?_
    rw [HX.out]
    exact headPost_plain (r := { zA with id := (n[0]?.getD 0) }) rfl [_] (HL.drop2 HS.tail)
   have q5 : (k == 5) = false := by simp [g5]
   by_cases g9 : k = 9
   ·have hx : headA k (s0 :: wr) = { zA with job := ⟨(n[0]?.getD 0), (n[1]?.getD 0), (n[2]?.getD 0), (n[3]?.getD 0), 0, (n[4]?.getD 0), (n[5]?.getD 0), n.drop 6⟩ } := by rw [HX0.out]; simp [tailA, g9]
    have HX := Lib.hid hx
    have q9 : (k == 9) = true := by simp [g9]
    have q10 : (k == 10) = false := by simp [g9]
    have q11 : (k == 11) = false := by simp [g9]
    have q12 : (k == 12) = false := by simp [g9]
    have q13 : (k == 13) = false := by simp [g9]
    clear hx g9
    obtain ⟨h6, hh6⟩ : ∃ h6 : Nat, h6 = max 6 n.length := ⟨_, rfl⟩
    have hnr := Hnr.out
    have hmx : max (6 : Int) (n.length : Int) = (h6 : Int) := by omega
    have hmn : min ((wr.length : Int)) (n.length : Int) = (n.length : Int) := by omega
    have hw1 : IntKind.i64.wrap ((n.length : Int) + 10 - 10) = (n.length : Int) := by rw [IntWalk.i64_in] <;> omega
    have h66 : (6 : Int) ≤ (h6 : Int) := by omega
    have h6c : h6 ≤ cz := by omega
    have h6c2 : (h6 : Int) ≤ (cz : Int) := by omega
    have hc6 : ¬ cz = 6 := by omega
    have hdl : (n.drop 6).length = h6 - 6 := by rw [List.length_drop]; omega
    have HDL := Lib.hid hdl
    have hset := pad_set H5.head hh6 hdl
    have HSET := Lib.hid hset
    clear hset hdl hh6
    go_upto_region 23 with (fail)
    refine wp_region_cut 28 (by kernel_rfl) (by kernel_rfl) ?_
    simp only [List.take_succ_cons, List.take_zero, List.drop_succ_cons, List.drop_zero]
    repeat (go_big_quiet_step ((fail)))
    refine wpQuiet_nil ?_
    intro nq
    have Hd := (H5.drewN nq).swap
    clear H5 s0h s1h s2h s3h s4h s5h s6h s7h s8h
    generalize World.drewN _ nq = Wd at *
    obtain ⟨n0, n1, n2, n3, n4, n5, n6, n7, n8, n9, n10, n11, n12, n13, n14, n15, n16, n17, n18, n19, n20, n21, n22, n23, n24, n25, n26⟩ := boxA_cells Hd
    obtain ⟨y0, y1, y2, y3, y4, y5, y6, y7, y8, y9, y10, y11, y12, y13, y14, y15, y16, y17, y18, y19, y20, y21, y22, y23, y24, y25, y26⟩ := boxA_froz Hd
    have HT3 : HL w0 _ (blk (b4 + 1) (.cells #[.int .i64 zA.code, .int .i64 zA.id, .slice none 0 0, .int .i64 (n[0]?.getD 0), .int .i64 zA.job.nodes, .int .i64 zA.job.lim, .int .i64 zA.job.sub, .int .i64 zA.job.st, .int .i64 zA.job.start, .int .i64 zA.job.fin, .slice none 0 0, .slice none 0 0, .int .i64 zA.raw, .int .u64 zA.usage, .int .u64 zA.factor, .int .i64 zA.free, .int .i64 zA.holder, .int .i64 zA.shadow, .int .i64 zA.cfg.c0, .int .i64 zA.cfg.c1, .int .i64 zA.cfg.c2, .int .i64 zA.cfg.c3, .int .i64 zA.cfg.c4, .int .i64 zA.cfg.c5, .int .i64 zA.cfg.c6, .int .i64 zA.cfg.c7, .int .i64 zA.bound] 32) :: intsR w0.heap.size (.slice (some ⟨g, 0, none⟩) (n.length + 10) cz) (n ++ List.replicate 10 0) :: bxz b4 :: strs w0.heap.size (.slice (some ⟨b, 0, none⟩) (wr.length + 1) c) (s0 :: wr) :: L) := HL.setCell Hd 3 (.int .i64 (n[0]?.getD 0))
    have HT4 : HL w0 _ (blk (b4 + 1) (.cells #[.int .i64 zA.code, .int .i64 zA.id, .slice none 0 0, .int .i64 (n[0]?.getD 0), .int .i64 (n[1]?.getD 0), .int .i64 zA.job.lim, .int .i64 zA.job.sub, .int .i64 zA.job.st, .int .i64 zA.job.start, .int .i64 zA.job.fin, .slice none 0 0, .slice none 0 0, .int .i64 zA.raw, .int .u64 zA.usage, .int .u64 zA.factor, .int .i64 zA.free, .int .i64 zA.holder, .int .i64 zA.shadow, .int .i64 zA.cfg.c0, .int .i64 zA.cfg.c1, .int .i64 zA.cfg.c2, .int .i64 zA.cfg.c3, .int .i64 zA.cfg.c4, .int .i64 zA.cfg.c5, .int .i64 zA.cfg.c6, .int .i64 zA.cfg.c7, .int .i64 zA.bound] 32) :: intsR w0.heap.size (.slice (some ⟨g, 0, none⟩) (n.length + 10) cz) (n ++ List.replicate 10 0) :: bxz b4 :: strs w0.heap.size (.slice (some ⟨b, 0, none⟩) (wr.length + 1) c) (s0 :: wr) :: L) := HL.setCell HT3 4 (.int .i64 (n[1]?.getD 0))
    have HT5 : HL w0 _ (blk (b4 + 1) (.cells #[.int .i64 zA.code, .int .i64 zA.id, .slice none 0 0, .int .i64 (n[0]?.getD 0), .int .i64 (n[1]?.getD 0), .int .i64 (n[2]?.getD 0), .int .i64 zA.job.sub, .int .i64 zA.job.st, .int .i64 zA.job.start, .int .i64 zA.job.fin, .slice none 0 0, .slice none 0 0, .int .i64 zA.raw, .int .u64 zA.usage, .int .u64 zA.factor, .int .i64 zA.free, .int .i64 zA.holder, .int .i64 zA.shadow, .int .i64 zA.cfg.c0, .int .i64 zA.cfg.c1, .int .i64 zA.cfg.c2, .int .i64 zA.cfg.c3, .int .i64 zA.cfg.c4, .int .i64 zA.cfg.c5, .int .i64 zA.cfg.c6, .int .i64 zA.cfg.c7, .int .i64 zA.bound] 32) :: intsR w0.heap.size (.slice (some ⟨g, 0, none⟩) (n.length + 10) cz) (n ++ List.replicate 10 0) :: bxz b4 :: strs w0.heap.size (.slice (some ⟨b, 0, none⟩) (wr.length + 1) c) (s0 :: wr) :: L) := HL.setCell HT4 5 (.int .i64 (n[2]?.getD 0))
    have HT6 : HL w0 _ (blk (b4 + 1) (.cells #[.int .i64 zA.code, .int .i64 zA.id, .slice none 0 0, .int .i64 (n[0]?.getD 0), .int .i64 (n[1]?.getD 0), .int .i64 (n[2]?.getD 0), .int .i64 (n[3]?.getD 0), .int .i64 zA.job.st, .int .i64 zA.job.start, .int .i64 zA.job.fin, .slice none 0 0, .slice none 0 0, .int .i64 zA.raw, .int .u64 zA.usage, .int .u64 zA.factor, .int .i64 zA.free, .int .i64 zA.holder, .int .i64 zA.shadow, .int .i64 zA.cfg.c0, .int .i64 zA.cfg.c1, .int .i64 zA.cfg.c2, .int .i64 zA.cfg.c3, .int .i64 zA.cfg.c4, .int .i64 zA.cfg.c5, .int .i64 zA.cfg.c6, .int .i64 zA.cfg.c7, .int .i64 zA.bound] 32) :: intsR w0.heap.size (.slice (some ⟨g, 0, none⟩) (n.length + 10) cz) (n ++ List.replicate 10 0) :: bxz b4 :: strs w0.heap.size (.slice (some ⟨b, 0, none⟩) (wr.length + 1) c) (s0 :: wr) :: L) := HL.setCell HT5 6 (.int .i64 (n[3]?.getD 0))
    have HT7 : HL w0 _ (blk (b4 + 1) (.cells #[.int .i64 zA.code, .int .i64 zA.id, .slice none 0 0, .int .i64 (n[0]?.getD 0), .int .i64 (n[1]?.getD 0), .int .i64 (n[2]?.getD 0), .int .i64 (n[3]?.getD 0), .int .i64 0, .int .i64 zA.job.start, .int .i64 zA.job.fin, .slice none 0 0, .slice none 0 0, .int .i64 zA.raw, .int .u64 zA.usage, .int .u64 zA.factor, .int .i64 zA.free, .int .i64 zA.holder, .int .i64 zA.shadow, .int .i64 zA.cfg.c0, .int .i64 zA.cfg.c1, .int .i64 zA.cfg.c2, .int .i64 zA.cfg.c3, .int .i64 zA.cfg.c4, .int .i64 zA.cfg.c5, .int .i64 zA.cfg.c6, .int .i64 zA.cfg.c7, .int .i64 zA.bound] 32) :: intsR w0.heap.size (.slice (some ⟨g, 0, none⟩) (n.length + 10) cz) (n ++ List.replicate 10 0) :: bxz b4 :: strs w0.heap.size (.slice (some ⟨b, 0, none⟩) (wr.length + 1) c) (s0 :: wr) :: L) := HL.setCell HT6 7 (.int .i64 0)
    have HT8 : HL w0 _ (blk (b4 + 1) (.cells #[.int .i64 zA.code, .int .i64 zA.id, .slice none 0 0, .int .i64 (n[0]?.getD 0), .int .i64 (n[1]?.getD 0), .int .i64 (n[2]?.getD 0), .int .i64 (n[3]?.getD 0), .int .i64 0, .int .i64 (n[4]?.getD 0), .int .i64 zA.job.fin, .slice none 0 0, .slice none 0 0, .int .i64 zA.raw, .int .u64 zA.usage, .int .u64 zA.factor, .int .i64 zA.free, .int .i64 zA.holder, .int .i64 zA.shadow, .int .i64 zA.cfg.c0, .int .i64 zA.cfg.c1, .int .i64 zA.cfg.c2, .int .i64 zA.cfg.c3, .int .i64 zA.cfg.c4, .int .i64 zA.cfg.c5, .int .i64 zA.cfg.c6, .int .i64 zA.cfg.c7, .int .i64 zA.bound] 32) :: intsR w0.heap.size (.slice (some ⟨g, 0, none⟩) (n.length + 10) cz) (n ++ List.replicate 10 0) :: bxz b4 :: strs w0.heap.size (.slice (some ⟨b, 0, none⟩) (wr.length + 1) c) (s0 :: wr) :: L) := HL.setCell HT7 8 (.int .i64 (n[4]?.getD 0))
    have HT9 : HL w0 _ (blk (b4 + 1) (.cells #[.int .i64 zA.code, .int .i64 zA.id, .slice none 0 0, .int .i64 (n[0]?.getD 0), .int .i64 (n[1]?.getD 0), .int .i64 (n[2]?.getD 0), .int .i64 (n[3]?.getD 0), .int .i64 0, .int .i64 (n[4]?.getD 0), .int .i64 (n[5]?.getD 0), .slice none 0 0, .slice none 0 0, .int .i64 zA.raw, .int .u64 zA.usage, .int .u64 zA.factor, .int .i64 zA.free, .int .i64 zA.holder, .int .i64 zA.shadow, .int .i64 zA.cfg.c0, .int .i64 zA.cfg.c1, .int .i64 zA.cfg.c2, .int .i64 zA.cfg.c3, .int .i64 zA.cfg.c4, .int .i64 zA.cfg.c5, .int .i64 zA.cfg.c6, .int .i64 zA.cfg.c7, .int .i64 zA.bound] 32) :: intsR w0.heap.size (.slice (some ⟨g, 0, none⟩) (n.length + 10) cz) (n ++ List.replicate 10 0) :: bxz b4 :: strs w0.heap.size (.slice (some ⟨b, 0, none⟩) (wr.length + 1) c) (s0 :: wr) :: L) := HL.setCell HT8 9 (.int .i64 (n[5]?.getD 0))
    have HT10 : HL w0 _ (blk (b4 + 1) (.cells #[.int .i64 zA.code, .int .i64 zA.id, .slice none 0 0, .int .i64 (n[0]?.getD 0), .int .i64 (n[1]?.getD 0), .int .i64 (n[2]?.getD 0), .int .i64 (n[3]?.getD 0), .int .i64 0, .int .i64 (n[4]?.getD 0), .int .i64 (n[5]?.getD 0), .slice (some ⟨g, 6, none⟩) (h6 - 6) (cz - 6), .slice none 0 0, .int .i64 zA.raw, .int .u64 zA.usage, .int .u64 zA.factor, .int .i64 zA.free, .int .i64 zA.holder, .int .i64 zA.shadow, .int .i64 zA.cfg.c0, .int .i64 zA.cfg.c1, .int .i64 zA.cfg.c2, .int .i64 zA.cfg.c3, .int .i64 zA.cfg.c4, .int .i64 zA.cfg.c5, .int .i64 zA.cfg.c6, .int .i64 zA.cfg.c7, .int .i64 zA.bound] 32) :: intsR w0.heap.size (.slice (some ⟨g, 0, none⟩) (n.length + 10) cz) (n ++ List.replicate 10 0) :: bxz b4 :: strs w0.heap.size (.slice (some ⟨b, 0, none⟩) (wr.length + 1) c) (s0 :: wr) :: L) := HL.setCell HT9 10 (.slice (some ⟨g, 6, none⟩) (h6 - 6) (cz - 6))
    have H6 : HL w0 _ (boxA (b4 + 1) { zA with job := ⟨(n[0]?.getD 0), (n[1]?.getD 0), (n[2]?.getD 0), (n[3]?.getD 0), 0, (n[4]?.getD 0), (n[5]?.getD 0), n.drop 6⟩ } (.slice none 0 0) (.slice (some ⟨g, 6, none⟩) (h6 - 6) (cz - 6)) (.slice none 0 0) :: _) := HT10
    go_upto_region 32 with (fail)
    clear Hd n0 y0 n1 y1 n2 y2 n3 y3 n4 y4 n5 y5 n6 y6 n7 y7 n8 y8 n9 y9 n10 y10 n11 y11 n12 y12 n13 y13 n14 y14 n15 y15 n16 y16 n17 y17 n18 y18 n19 y19 n20 y20 n21 y21 n22 y22 n23 y23 n24 y24 n25 y25 n26 y26
    have H7 := H6.swap
    generalize World.setCell _ _ _ = W6 at *
    have G1 : _ = some (Obj.cells (ansA { zA with job := ⟨(n[0]?.getD 0), (n[1]?.getD 0), (n[2]?.getD 0), (n[3]?.getD 0), 0, (n[4]?.getD 0), (n[5]?.getD 0), n.drop 6⟩ } (.slice none 0 0) (.slice (some ⟨g, 6, none⟩) (h6 - 6) (cz - 6)) (.slice none 0 0)) 32 (0, 0)) := H7.tail.head
    have G3 : _ = some (Obj.cells _ 32 (0, 0)) := H7.tail.tail.head
    have HS := HL.setWhole (cells := ansA { zA with job := ⟨(n[0]?.getD 0), (n[1]?.getD 0), (n[2]?.getD 0), (n[3]?.getD 0), 0, (n[4]?.getD 0), (n[5]?.getD 0), n.drop 6⟩ } (.slice none 0 0) (.slice (some ⟨g, 6, none⟩) (h6 - 6) (cz - 6)) (.slice none 0 0)) (H7.sel 3 [2, 0])
    go_wp2_with (first
     | (refine wpList_load_row rfl 32 _ rfl (b4 + 1) rfl 32 _ (0, 0) _ G1 Tryz.underlying32 rfl (ansA_size _ _ _ _) ?_)
     | (refine wpList_store_row rfl 32 _ _ rfl b4 (ansA { zA with job := ⟨(n[0]?.getD 0), (n[1]?.getD 0), (n[2]?.getD 0), (n[3]?.getD 0), 0, (n[4]?.getD 0), (n[5]?.getD 0), n.drop 6⟩ } (.slice none 0 0) (.slice (some ⟨g, 6, none⟩) (h6 - 6) (cz - 6)) (.slice none 0 0)) rfl rfl 32 _ G3 (ansA_size _ _ _ _) rfl (ansA_one _ _ _ _ _ _ _ _ _ _) ?_))
    have G5 := HS.head
    refine bodyPost_ret (results_cell_row (by rfl) _ _ b4 32 _ (0, 0) _ (by rfl) G5 Tryz.underlying32 rfl (ansA_size _ _ _ _)) rfl ?_
    rw [HX.out]
    exact ⟨[_], some ⟨g, 6, none⟩, cz - 6, by rw [show (({ zA with job := ⟨(n[0]?.getD 0), (n[1]?.getD 0), (n[2]?.getD 0), (n[3]?.getD 0), 0, (n[4]?.getD 0), (n[5]?.getD 0), n.drop 6⟩ } : Ans)).job.set.length = h6 - 6 from HDL.out]; rfl, by
     rw [show (({ zA with job := ⟨(n[0]?.getD 0), (n[1]?.getD 0), (n[2]?.getD 0), (n[3]?.getD 0), 0, (n[4]?.getD 0), (n[5]?.getD 0), n.drop 6⟩ } : Ans)).job.set.length = h6 - 6 from HDL.out]
     exact HSET.out [], HL.drop2 HS.tail⟩
   have q9 : (k == 9) = false := by simp [g9]
   by_cases g10 : k = 10
   ·have hx : headA k (s0 :: wr) = { zA with holder := (n[0]?.getD 0), shadow := (n[1]?.getD 0) } := by rw [HX0.out]; simp [tailA, g10]
    have HX := Lib.hid hx
    have q10 : (k == 10) = true := by simp [g10]
    have q11 : (k == 11) = false := by simp [g10]
    have q12 : (k == 12) = false := by simp [g10]
    have q13 : (k == 13) = false := by simp [g10]
    clear hx g10
    go_upto_region 25 with (fail)
    refine wp_region_held_drew (S := fun w' => w'.cell? ⟨g, 0, none⟩ = some (.int .i64 (n[0]?.getD 0)) ∧ w'.cell? ⟨g, 1, none⟩ = some (.int .i64 (n[1]?.getD 0)) ∧ w'.cell? ⟨g, 2, none⟩ = some (.int .i64 (n[2]?.getD 0)) ∧ w'.cell? ⟨g, 3, none⟩ = some (.int .i64 (n[3]?.getD 0)) ∧ w'.cell? ⟨g, 4, none⟩ = some (.int .i64 (n[4]?.getD 0)) ∧ w'.cell? ⟨g, 5, none⟩ = some (.int .i64 (n[5]?.getD 0)) ∧ w'.cell? ⟨g, 6, none⟩ = some (.int .i64 (n[6]?.getD 0)) ∧ w'.cell? ⟨g, 7, none⟩ = some (.int .i64 (n[7]?.getD 0)) ∧ w'.cell? ⟨g, 8, none⟩ = some (.int .i64 (n[8]?.getD 0))) (by kernel_rfl) (pad_cells H5.drew) (fun hHeld => ?_)
    have Hd := H5.drew.swap
    clear H5 s0h s1h s2h s3h s4h s5h s6h s7h s8h
    generalize World.drew _ = Wd at *
    obtain ⟨n0, n1, n2, n3, n4, n5, n6, n7, n8, n9, n10, n11, n12, n13, n14, n15, n16, n17, n18, n19, n20, n21, n22, n23, n24, n25, n26⟩ := boxA_cells Hd
    obtain ⟨y0, y1, y2, y3, y4, y5, y6, y7, y8, y9, y10, y11, y12, y13, y14, y15, y16, y17, y18, y19, y20, y21, y22, y23, y24, y25, y26⟩ := boxA_froz Hd
    simp only [zA, zJ, zC] at n0 n1 n3 n4 n5 n6 n7 n8 n9 n12 n13 n14 n15 n16 n17 n18 n19 n20 n21 n22 n23 n24 n25 n26
    refine ztk 0 ?_
    simp only [Act.put, zp]
    refine ztk 1 ?_
    simp only [Act.put, zp]
    refine ztk 2 ?_
    simp only [Act.put, zp]
    refine ztk 3 ?_
    simp only [Act.put, zp]
    refine ztk 4 ?_
    simp only [Act.put, zp]
    refine ztk 5 ?_
    simp only [Act.put, zp]
    refine ztk 6 ?_
    simp only [Act.put, zp]
    refine zry 7 (fun K' hK' => ?_)
    dsimp only [zg1, zg3, zg2]
    go_simp
    have HT16 : HL w0 _ (blk (b4 + 1) (.cells #[.int .i64 zA.code, .int .i64 zA.id, .slice none 0 0, .int .i64 zA.job.acc, .int .i64 zA.job.nodes, .int .i64 zA.job.lim, .int .i64 zA.job.sub, .int .i64 zA.job.st, .int .i64 zA.job.start, .int .i64 zA.job.fin, .slice none 0 0, .slice none 0 0, .int .i64 zA.raw, .int .u64 zA.usage, .int .u64 zA.factor, .int .i64 zA.free, .int .i64 (n[0]?.getD 0), .int .i64 zA.shadow, .int .i64 zA.cfg.c0, .int .i64 zA.cfg.c1, .int .i64 zA.cfg.c2, .int .i64 zA.cfg.c3, .int .i64 zA.cfg.c4, .int .i64 zA.cfg.c5, .int .i64 zA.cfg.c6, .int .i64 zA.cfg.c7, .int .i64 zA.bound] 32) :: intsR w0.heap.size (.slice (some ⟨g, 0, none⟩) (n.length + 10) cz) (n ++ List.replicate 10 0) :: bxz b4 :: strs w0.heap.size (.slice (some ⟨b, 0, none⟩) (wr.length + 1) c) (s0 :: wr) :: L) := HL.setCell Hd 16 (.int .i64 (n[0]?.getD 0))
    have m17 := HL.cell HT16 17
    have z17 := HL.frozen HT16 17
    refine hK'.out _ _ (pad_cells HT16.swap) (fun hHeld => ?_)
    clear hK' K'
    try simp only [Act.put, zp]
    refine ztk 8 ?_
    simp only [Act.put, zp]
    refine zry 9 (fun K' hK' => ?_)
    dsimp only [zg1, zg3, zg2]
    go_simp
    have HT17 : HL w0 _ (blk (b4 + 1) (.cells #[.int .i64 zA.code, .int .i64 zA.id, .slice none 0 0, .int .i64 zA.job.acc, .int .i64 zA.job.nodes, .int .i64 zA.job.lim, .int .i64 zA.job.sub, .int .i64 zA.job.st, .int .i64 zA.job.start, .int .i64 zA.job.fin, .slice none 0 0, .slice none 0 0, .int .i64 zA.raw, .int .u64 zA.usage, .int .u64 zA.factor, .int .i64 zA.free, .int .i64 (n[0]?.getD 0), .int .i64 (n[1]?.getD 0), .int .i64 zA.cfg.c0, .int .i64 zA.cfg.c1, .int .i64 zA.cfg.c2, .int .i64 zA.cfg.c3, .int .i64 zA.cfg.c4, .int .i64 zA.cfg.c5, .int .i64 zA.cfg.c6, .int .i64 zA.cfg.c7, .int .i64 zA.bound] 32) :: intsR w0.heap.size (.slice (some ⟨g, 0, none⟩) (n.length + 10) cz) (n ++ List.replicate 10 0) :: bxz b4 :: strs w0.heap.size (.slice (some ⟨b, 0, none⟩) (wr.length + 1) c) (s0 :: wr) :: L) := HL.setCell HT16 17 (.int .i64 (n[1]?.getD 0))
    refine hK'.out _ _ (pad_cells HT17.swap) (fun hHeld => ?_)
    clear hK' K'
    try simp only [Act.put, zp]
    refine wpAnyH_done (by kernel_rfl) ?_ _
    have H6 : HL w0 _ (boxA (b4 + 1) { zA with holder := (n[0]?.getD 0), shadow := (n[1]?.getD 0) } (.slice none 0 0) (.slice none 0 0) (.slice none 0 0) :: _) := HT17
    clear hHeld Hd n0 y0 n1 y1 n2 y2 n3 y3 n4 y4 n5 y5 n6 y6 n7 y7 n8 y8 n9 y9 n10 y10 n11 y11 n12 y12 n13 y13 n14 y14 n15 y15 n16 y16 n17 y17 n18 y18 n19 y19 n20 y20 n21 y21 n22 y22 n23 y23 n24 y24 n25 y25 n26 y26
    have H7 := H6.swap
    generalize World.setCell _ _ _ = W6 at *
    go_upto_region 32 with (fail)
    have G1 : _ = some (Obj.cells (ansA { zA with holder := (n[0]?.getD 0), shadow := (n[1]?.getD 0) } (.slice none 0 0) (.slice none 0 0) (.slice none 0 0)) 32 (0, 0)) := H7.tail.head
    have G3 : _ = some (Obj.cells _ 32 (0, 0)) := H7.tail.tail.head
    have HS := HL.setWhole (cells := ansA { zA with holder := (n[0]?.getD 0), shadow := (n[1]?.getD 0) } (.slice none 0 0) (.slice none 0 0) (.slice none 0 0)) (H7.sel 3 [2, 0])
    go_wp2_with (first
     | (refine wpList_load_row rfl 32 _ rfl (b4 + 1) rfl 32 _ (0, 0) _ G1 Tryz.underlying32 rfl (ansA_size _ _ _ _) ?_)
     | (refine wpList_store_row rfl 32 _ _ rfl b4 (ansA { zA with holder := (n[0]?.getD 0), shadow := (n[1]?.getD 0) } (.slice none 0 0) (.slice none 0 0) (.slice none 0 0)) rfl rfl 32 _ G3 (ansA_size _ _ _ _) rfl (ansA_one _ _ _ _ _ _ _ _ _ _) ?_))
    have G5 := HS.head
    refine bodyPost_ret (results_cell_row (by rfl) _ _ b4 32 _ (0, 0) _ (by rfl) G5 Tryz.underlying32 rfl (ansA_size _ _ _ _)) rfl ?_
    rw [HX.out]
    exact headPost_plain (r := { zA with holder := (n[0]?.getD 0), shadow := (n[1]?.getD 0) }) rfl [_] (HL.drop2 HS.tail)
   have q10 : (k == 10) = false := by simp [g10]
   by_cases g11 : k = 11
   ·have hx : headA k (s0 :: wr) = { zA with raw := (n[0]?.getD 0) } := by rw [HX0.out]; simp [tailA, g11, zA]
    have HX := Lib.hid hx
    have q11 : (k == 11) = true := by simp [g11]
    have q12 : (k == 12) = false := by simp [g11]
    have q13 : (k == 13) = false := by simp [g11]
    clear hx g11
    have n12 : w4.cell? ⟨b4 + 1, 12, none⟩ = some (.int .i64 zA.raw) := HL.cell H5.swap 12
    have y12 : w4.frozen? ⟨b4 + 1, 12, none⟩ = false := HL.frozen H5.swap 12
    have H6 : HL w0 _ (boxA (b4 + 1) { zA with raw := (n[0]?.getD 0) } (.slice none 0 0) (.slice none 0 0) (.slice none 0 0) :: _) := HL.setCell H5.swap 12 (.int .i64 (n[0]?.getD 0))
    go_upto_region 32 with (fail)
    clear n12 y12 s0h s1h s2h s3h s4h s5h s6h s7h s8h
    generalize World.setCell _ _ _ = W6 at *
    have H7 := H6.swap
    clear H5
    have G1 : _ = some (Obj.cells (ansA { zA with raw := (n[0]?.getD 0) } (.slice none 0 0) (.slice none 0 0) (.slice none 0 0)) 32 (0, 0)) := H7.tail.head
    have G3 : _ = some (Obj.cells _ 32 (0, 0)) := H7.tail.tail.head
    have HS := HL.setWhole (cells := ansA { zA with raw := (n[0]?.getD 0) } (.slice none 0 0) (.slice none 0 0) (.slice none 0 0)) (H7.sel 3 [2, 0])
    go_wp2_with (first
     | (refine wpList_load_row rfl 32 _ rfl (b4 + 1) rfl 32 _ (0, 0) _ G1 Tryz.underlying32 rfl (ansA_size _ _ _ _) ?_)
     | (refine wpList_store_row rfl 32 _ _ rfl b4 (ansA { zA with raw := (n[0]?.getD 0) } (.slice none 0 0) (.slice none 0 0) (.slice none 0 0)) rfl rfl 32 _ G3 (ansA_size _ _ _ _) rfl (ansA_one _ _ _ _ _ _ _ _ _ _) ?_))
    have G5 := HS.head
    refine bodyPost_ret (results_cell_row (by rfl) _ _ b4 32 _ (0, 0) _ (by rfl) G5 Tryz.underlying32 rfl (ansA_size _ _ _ _)) rfl ?_
    rw [HX.out]
    exact headPost_plain (r := { zA with raw := (n[0]?.getD 0) }) rfl [_] (HL.drop2 HS.tail)
   have q11 : (k == 11) = false := by simp [g11]
   by_cases g12 : k = 12
   ·have hx : headA k (s0 :: wr) = { zA with free := (n[0]?.getD 0) } := by rw [HX0.out]; simp [tailA, g12]
    have HX := Lib.hid hx
    have q12 : (k == 12) = true := by simp [g12]
    have q13 : (k == 13) = false := by simp [g12]
    clear hx g12
    have n15 : w4.cell? ⟨b4 + 1, 15, none⟩ = some (.int .i64 zA.free) := HL.cell H5.swap 15
    have y15 : w4.frozen? ⟨b4 + 1, 15, none⟩ = false := HL.frozen H5.swap 15
    have H6 : HL w0 _ (boxA (b4 + 1) { zA with free := (n[0]?.getD 0) } (.slice none 0 0) (.slice none 0 0) (.slice none 0 0) :: _) := HL.setCell H5.swap 15 (.int .i64 (n[0]?.getD 0))
    go_upto_region 32 with (fail)
    clear n15 y15 s0h s1h s2h s3h s4h s5h s6h s7h s8h
    generalize World.setCell _ _ _ = W6 at *
    have H7 := H6.swap
    clear H5
    have G1 : _ = some (Obj.cells (ansA { zA with free := (n[0]?.getD 0) } (.slice none 0 0) (.slice none 0 0) (.slice none 0 0)) 32 (0, 0)) := H7.tail.head
    have G3 : _ = some (Obj.cells _ 32 (0, 0)) := H7.tail.tail.head
    have HS := HL.setWhole (cells := ansA { zA with free := (n[0]?.getD 0) } (.slice none 0 0) (.slice none 0 0) (.slice none 0 0)) (H7.sel 3 [2, 0])
    go_wp2_with (first
     | (refine wpList_load_row rfl 32 _ rfl (b4 + 1) rfl 32 _ (0, 0) _ G1 Tryz.underlying32 rfl (ansA_size _ _ _ _) ?_)
     | (refine wpList_store_row rfl 32 _ _ rfl b4 (ansA { zA with free := (n[0]?.getD 0) } (.slice none 0 0) (.slice none 0 0) (.slice none 0 0)) rfl rfl 32 _ G3 (ansA_size _ _ _ _) rfl (ansA_one _ _ _ _ _ _ _ _ _ _) ?_))
    have G5 := HS.head
    refine bodyPost_ret (results_cell_row (by rfl) _ _ b4 32 _ (0, 0) _ (by rfl) G5 Tryz.underlying32 rfl (ansA_size _ _ _ _)) rfl ?_
    rw [HX.out]
    exact headPost_plain (r := { zA with free := (n[0]?.getD 0) }) rfl [_] (HL.drop2 HS.tail)
   have q12 : (k == 12) = false := by simp [g12]
   by_cases g13 : k = 13
   ·have hx : headA k (s0 :: wr) = { zA with cfg := ⟨(n[0]?.getD 0), (n[1]?.getD 0), (n[2]?.getD 0), (n[3]?.getD 0), (n[4]?.getD 0), (n[5]?.getD 0), (n[6]?.getD 0), (n[7]?.getD 0)⟩, bound := (n[8]?.getD 0) } := by rw [HX0.out]; simp [tailA, g13]
    have HX := Lib.hid hx
    have q13 : (k == 13) = true := by simp [g13]
    clear hx g13
    go_upto_region 31 with (fail)
    refine wp_region_held_drew (S := fun w' => w'.cell? ⟨g, 0, none⟩ = some (.int .i64 (n[0]?.getD 0)) ∧ w'.cell? ⟨g, 1, none⟩ = some (.int .i64 (n[1]?.getD 0)) ∧ w'.cell? ⟨g, 2, none⟩ = some (.int .i64 (n[2]?.getD 0)) ∧ w'.cell? ⟨g, 3, none⟩ = some (.int .i64 (n[3]?.getD 0)) ∧ w'.cell? ⟨g, 4, none⟩ = some (.int .i64 (n[4]?.getD 0)) ∧ w'.cell? ⟨g, 5, none⟩ = some (.int .i64 (n[5]?.getD 0)) ∧ w'.cell? ⟨g, 6, none⟩ = some (.int .i64 (n[6]?.getD 0)) ∧ w'.cell? ⟨g, 7, none⟩ = some (.int .i64 (n[7]?.getD 0)) ∧ w'.cell? ⟨g, 8, none⟩ = some (.int .i64 (n[8]?.getD 0))) (by kernel_rfl) (pad_cells H5.drew) (fun hHeld => ?_)
    have Hd := H5.drew.swap
    clear H5 s0h s1h s2h s3h s4h s5h s6h s7h s8h
    generalize World.drew _ = Wd at *
    obtain ⟨n0, n1, n2, n3, n4, n5, n6, n7, n8, n9, n10, n11, n12, n13, n14, n15, n16, n17, n18, n19, n20, n21, n22, n23, n24, n25, n26⟩ := boxA_cells Hd
    obtain ⟨y0, y1, y2, y3, y4, y5, y6, y7, y8, y9, y10, y11, y12, y13, y14, y15, y16, y17, y18, y19, y20, y21, y22, y23, y24, y25, y26⟩ := boxA_froz Hd
    simp only [zA, zJ, zC] at n0 n1 n3 n4 n5 n6 n7 n8 n9 n12 n13 n14 n15 n16 n17 n18 n19 n20 n21 n22 n23 n24 n25 n26
    refine ztk 0 ?_
    simp only [Act.put, zp]
    refine ztk 1 ?_
    simp only [Act.put, zp]
    refine ztk 2 ?_
    simp only [Act.put, zp]
    refine ztk 3 ?_
    simp only [Act.put, zp]
    refine ztk 4 ?_
    simp only [Act.put, zp]
    refine ztk 5 ?_
    simp only [Act.put, zp]
    refine ztk 6 ?_
    simp only [Act.put, zp]
    refine ztk 7 ?_
    simp only [Act.put, zp]
    refine ztk 8 ?_
    simp only [Act.put, zp]
    refine ztk 9 ?_
    simp only [Act.put, zp]
    refine ztk 10 ?_
    simp only [Act.put, zp]
    refine ztk 11 ?_
    simp only [Act.put, zp]
    refine ztk 12 ?_
    simp only [Act.put, zp]
    refine ztk 13 ?_
    simp only [Act.put, zp]
    refine ztk 14 ?_
    simp only [Act.put, zp]
    refine ztk 15 ?_
    simp only [Act.put, zp]
    refine ztk 16 ?_
    simp only [Act.put, zp]
    refine ztk 17 ?_
    simp only [Act.put, zp]
    refine ztk 18 ?_
    simp only [Act.put, zp]
    refine ztk 19 ?_
    simp only [Act.put, zp]
    refine ztk 20 ?_
    simp only [Act.put, zp]
    refine ztk 21 ?_
    simp only [Act.put, zp]
    refine ztk 22 ?_
    simp only [Act.put, zp]
    refine ztk 23 ?_
    simp only [Act.put, zp]
    refine ztk 24 ?_
    simp only [Act.put, zp]
    refine ztk 25 ?_
    simp only [Act.put, zp]
    refine ztk 26 ?_
    simp only [Act.put, zp]
    refine ztk 27 ?_
    simp only [Act.put, zp]
    refine ztk 28 ?_
    simp only [Act.put, zp]
    refine zry 29 (fun K' hK' => ?_)
    dsimp only [zg1, zg3, zg2]
    go_simp
    have HT18 : HL w0 _ (blk (b4 + 1) (.cells #[.int .i64 zA.code, .int .i64 zA.id, .slice none 0 0, .int .i64 zA.job.acc, .int .i64 zA.job.nodes, .int .i64 zA.job.lim, .int .i64 zA.job.sub, .int .i64 zA.job.st, .int .i64 zA.job.start, .int .i64 zA.job.fin, .slice none 0 0, .slice none 0 0, .int .i64 zA.raw, .int .u64 zA.usage, .int .u64 zA.factor, .int .i64 zA.free, .int .i64 zA.holder, .int .i64 zA.shadow, .int .i64 (n[0]?.getD 0), .int .i64 zA.cfg.c1, .int .i64 zA.cfg.c2, .int .i64 zA.cfg.c3, .int .i64 zA.cfg.c4, .int .i64 zA.cfg.c5, .int .i64 zA.cfg.c6, .int .i64 zA.cfg.c7, .int .i64 zA.bound] 32) :: intsR w0.heap.size (.slice (some ⟨g, 0, none⟩) (n.length + 10) cz) (n ++ List.replicate 10 0) :: bxz b4 :: strs w0.heap.size (.slice (some ⟨b, 0, none⟩) (wr.length + 1) c) (s0 :: wr) :: L) := HL.setCell Hd 18 (.int .i64 (n[0]?.getD 0))
    have HT19 : HL w0 _ (blk (b4 + 1) (.cells #[.int .i64 zA.code, .int .i64 zA.id, .slice none 0 0, .int .i64 zA.job.acc, .int .i64 zA.job.nodes, .int .i64 zA.job.lim, .int .i64 zA.job.sub, .int .i64 zA.job.st, .int .i64 zA.job.start, .int .i64 zA.job.fin, .slice none 0 0, .slice none 0 0, .int .i64 zA.raw, .int .u64 zA.usage, .int .u64 zA.factor, .int .i64 zA.free, .int .i64 zA.holder, .int .i64 zA.shadow, .int .i64 (n[0]?.getD 0), .int .i64 (n[1]?.getD 0), .int .i64 zA.cfg.c2, .int .i64 zA.cfg.c3, .int .i64 zA.cfg.c4, .int .i64 zA.cfg.c5, .int .i64 zA.cfg.c6, .int .i64 zA.cfg.c7, .int .i64 zA.bound] 32) :: intsR w0.heap.size (.slice (some ⟨g, 0, none⟩) (n.length + 10) cz) (n ++ List.replicate 10 0) :: bxz b4 :: strs w0.heap.size (.slice (some ⟨b, 0, none⟩) (wr.length + 1) c) (s0 :: wr) :: L) := HL.setCell HT18 19 (.int .i64 (n[1]?.getD 0))
    have HT20 : HL w0 _ (blk (b4 + 1) (.cells #[.int .i64 zA.code, .int .i64 zA.id, .slice none 0 0, .int .i64 zA.job.acc, .int .i64 zA.job.nodes, .int .i64 zA.job.lim, .int .i64 zA.job.sub, .int .i64 zA.job.st, .int .i64 zA.job.start, .int .i64 zA.job.fin, .slice none 0 0, .slice none 0 0, .int .i64 zA.raw, .int .u64 zA.usage, .int .u64 zA.factor, .int .i64 zA.free, .int .i64 zA.holder, .int .i64 zA.shadow, .int .i64 (n[0]?.getD 0), .int .i64 (n[1]?.getD 0), .int .i64 (n[2]?.getD 0), .int .i64 zA.cfg.c3, .int .i64 zA.cfg.c4, .int .i64 zA.cfg.c5, .int .i64 zA.cfg.c6, .int .i64 zA.cfg.c7, .int .i64 zA.bound] 32) :: intsR w0.heap.size (.slice (some ⟨g, 0, none⟩) (n.length + 10) cz) (n ++ List.replicate 10 0) :: bxz b4 :: strs w0.heap.size (.slice (some ⟨b, 0, none⟩) (wr.length + 1) c) (s0 :: wr) :: L) := HL.setCell HT19 20 (.int .i64 (n[2]?.getD 0))
    have HT21 : HL w0 _ (blk (b4 + 1) (.cells #[.int .i64 zA.code, .int .i64 zA.id, .slice none 0 0, .int .i64 zA.job.acc, .int .i64 zA.job.nodes, .int .i64 zA.job.lim, .int .i64 zA.job.sub, .int .i64 zA.job.st, .int .i64 zA.job.start, .int .i64 zA.job.fin, .slice none 0 0, .slice none 0 0, .int .i64 zA.raw, .int .u64 zA.usage, .int .u64 zA.factor, .int .i64 zA.free, .int .i64 zA.holder, .int .i64 zA.shadow, .int .i64 (n[0]?.getD 0), .int .i64 (n[1]?.getD 0), .int .i64 (n[2]?.getD 0), .int .i64 (n[3]?.getD 0), .int .i64 zA.cfg.c4, .int .i64 zA.cfg.c5, .int .i64 zA.cfg.c6, .int .i64 zA.cfg.c7, .int .i64 zA.bound] 32) :: intsR w0.heap.size (.slice (some ⟨g, 0, none⟩) (n.length + 10) cz) (n ++ List.replicate 10 0) :: bxz b4 :: strs w0.heap.size (.slice (some ⟨b, 0, none⟩) (wr.length + 1) c) (s0 :: wr) :: L) := HL.setCell HT20 21 (.int .i64 (n[3]?.getD 0))
    have HT22 : HL w0 _ (blk (b4 + 1) (.cells #[.int .i64 zA.code, .int .i64 zA.id, .slice none 0 0, .int .i64 zA.job.acc, .int .i64 zA.job.nodes, .int .i64 zA.job.lim, .int .i64 zA.job.sub, .int .i64 zA.job.st, .int .i64 zA.job.start, .int .i64 zA.job.fin, .slice none 0 0, .slice none 0 0, .int .i64 zA.raw, .int .u64 zA.usage, .int .u64 zA.factor, .int .i64 zA.free, .int .i64 zA.holder, .int .i64 zA.shadow, .int .i64 (n[0]?.getD 0), .int .i64 (n[1]?.getD 0), .int .i64 (n[2]?.getD 0), .int .i64 (n[3]?.getD 0), .int .i64 (n[4]?.getD 0), .int .i64 zA.cfg.c5, .int .i64 zA.cfg.c6, .int .i64 zA.cfg.c7, .int .i64 zA.bound] 32) :: intsR w0.heap.size (.slice (some ⟨g, 0, none⟩) (n.length + 10) cz) (n ++ List.replicate 10 0) :: bxz b4 :: strs w0.heap.size (.slice (some ⟨b, 0, none⟩) (wr.length + 1) c) (s0 :: wr) :: L) := HL.setCell HT21 22 (.int .i64 (n[4]?.getD 0))
    have HT23 : HL w0 _ (blk (b4 + 1) (.cells #[.int .i64 zA.code, .int .i64 zA.id, .slice none 0 0, .int .i64 zA.job.acc, .int .i64 zA.job.nodes, .int .i64 zA.job.lim, .int .i64 zA.job.sub, .int .i64 zA.job.st, .int .i64 zA.job.start, .int .i64 zA.job.fin, .slice none 0 0, .slice none 0 0, .int .i64 zA.raw, .int .u64 zA.usage, .int .u64 zA.factor, .int .i64 zA.free, .int .i64 zA.holder, .int .i64 zA.shadow, .int .i64 (n[0]?.getD 0), .int .i64 (n[1]?.getD 0), .int .i64 (n[2]?.getD 0), .int .i64 (n[3]?.getD 0), .int .i64 (n[4]?.getD 0), .int .i64 (n[5]?.getD 0), .int .i64 zA.cfg.c6, .int .i64 zA.cfg.c7, .int .i64 zA.bound] 32) :: intsR w0.heap.size (.slice (some ⟨g, 0, none⟩) (n.length + 10) cz) (n ++ List.replicate 10 0) :: bxz b4 :: strs w0.heap.size (.slice (some ⟨b, 0, none⟩) (wr.length + 1) c) (s0 :: wr) :: L) := HL.setCell HT22 23 (.int .i64 (n[5]?.getD 0))
    have HT24 : HL w0 _ (blk (b4 + 1) (.cells #[.int .i64 zA.code, .int .i64 zA.id, .slice none 0 0, .int .i64 zA.job.acc, .int .i64 zA.job.nodes, .int .i64 zA.job.lim, .int .i64 zA.job.sub, .int .i64 zA.job.st, .int .i64 zA.job.start, .int .i64 zA.job.fin, .slice none 0 0, .slice none 0 0, .int .i64 zA.raw, .int .u64 zA.usage, .int .u64 zA.factor, .int .i64 zA.free, .int .i64 zA.holder, .int .i64 zA.shadow, .int .i64 (n[0]?.getD 0), .int .i64 (n[1]?.getD 0), .int .i64 (n[2]?.getD 0), .int .i64 (n[3]?.getD 0), .int .i64 (n[4]?.getD 0), .int .i64 (n[5]?.getD 0), .int .i64 (n[6]?.getD 0), .int .i64 zA.cfg.c7, .int .i64 zA.bound] 32) :: intsR w0.heap.size (.slice (some ⟨g, 0, none⟩) (n.length + 10) cz) (n ++ List.replicate 10 0) :: bxz b4 :: strs w0.heap.size (.slice (some ⟨b, 0, none⟩) (wr.length + 1) c) (s0 :: wr) :: L) := HL.setCell HT23 24 (.int .i64 (n[6]?.getD 0))
    have HT25 : HL w0 _ (blk (b4 + 1) (.cells #[.int .i64 zA.code, .int .i64 zA.id, .slice none 0 0, .int .i64 zA.job.acc, .int .i64 zA.job.nodes, .int .i64 zA.job.lim, .int .i64 zA.job.sub, .int .i64 zA.job.st, .int .i64 zA.job.start, .int .i64 zA.job.fin, .slice none 0 0, .slice none 0 0, .int .i64 zA.raw, .int .u64 zA.usage, .int .u64 zA.factor, .int .i64 zA.free, .int .i64 zA.holder, .int .i64 zA.shadow, .int .i64 (n[0]?.getD 0), .int .i64 (n[1]?.getD 0), .int .i64 (n[2]?.getD 0), .int .i64 (n[3]?.getD 0), .int .i64 (n[4]?.getD 0), .int .i64 (n[5]?.getD 0), .int .i64 (n[6]?.getD 0), .int .i64 (n[7]?.getD 0), .int .i64 zA.bound] 32) :: intsR w0.heap.size (.slice (some ⟨g, 0, none⟩) (n.length + 10) cz) (n ++ List.replicate 10 0) :: bxz b4 :: strs w0.heap.size (.slice (some ⟨b, 0, none⟩) (wr.length + 1) c) (s0 :: wr) :: L) := HL.setCell HT24 25 (.int .i64 (n[7]?.getD 0))
    have m26 := HL.cell HT25 26
    have z26 := HL.frozen HT25 26
    refine hK'.out _ _ (pad_cells HT25.swap) (fun hHeld => ?_)
    clear hK' K'
    try simp only [Act.put, zp]
    refine ztk 30 ?_
    simp only [Act.put, zp]
    refine zry 31 (fun K' hK' => ?_)
    dsimp only [zg1, zg3, zg2]
    go_simp
    have HT26 : HL w0 _ (blk (b4 + 1) (.cells #[.int .i64 zA.code, .int .i64 zA.id, .slice none 0 0, .int .i64 zA.job.acc, .int .i64 zA.job.nodes, .int .i64 zA.job.lim, .int .i64 zA.job.sub, .int .i64 zA.job.st, .int .i64 zA.job.start, .int .i64 zA.job.fin, .slice none 0 0, .slice none 0 0, .int .i64 zA.raw, .int .u64 zA.usage, .int .u64 zA.factor, .int .i64 zA.free, .int .i64 zA.holder, .int .i64 zA.shadow, .int .i64 (n[0]?.getD 0), .int .i64 (n[1]?.getD 0), .int .i64 (n[2]?.getD 0), .int .i64 (n[3]?.getD 0), .int .i64 (n[4]?.getD 0), .int .i64 (n[5]?.getD 0), .int .i64 (n[6]?.getD 0), .int .i64 (n[7]?.getD 0), .int .i64 (n[8]?.getD 0)] 32) :: intsR w0.heap.size (.slice (some ⟨g, 0, none⟩) (n.length + 10) cz) (n ++ List.replicate 10 0) :: bxz b4 :: strs w0.heap.size (.slice (some ⟨b, 0, none⟩) (wr.length + 1) c) (s0 :: wr) :: L) := HL.setCell HT25 26 (.int .i64 (n[8]?.getD 0))
    refine hK'.out _ _ (pad_cells HT26.swap) (fun hHeld => ?_)
    clear hK' K'
    try simp only [Act.put, zp]
    refine wpAnyH_done (by kernel_rfl) ?_ _
    have H6 : HL w0 _ (boxA (b4 + 1) { zA with cfg := ⟨(n[0]?.getD 0), (n[1]?.getD 0), (n[2]?.getD 0), (n[3]?.getD 0), (n[4]?.getD 0), (n[5]?.getD 0), (n[6]?.getD 0), (n[7]?.getD 0)⟩, bound := (n[8]?.getD 0) } (.slice none 0 0) (.slice none 0 0) (.slice none 0 0) :: _) := HT26
    clear hHeld Hd n0 y0 n1 y1 n2 y2 n3 y3 n4 y4 n5 y5 n6 y6 n7 y7 n8 y8 n9 y9 n10 y10 n11 y11 n12 y12 n13 y13 n14 y14 n15 y15 n16 y16 n17 y17 n18 y18 n19 y19 n20 y20 n21 y21 n22 y22 n23 y23 n24 y24 n25 y25 n26 y26
    have H7 := H6.swap
    generalize World.setCell _ _ _ = W6 at *
    go_upto_region 32 with (fail)
    have G1 : _ = some (Obj.cells (ansA { zA with cfg := ⟨(n[0]?.getD 0), (n[1]?.getD 0), (n[2]?.getD 0), (n[3]?.getD 0), (n[4]?.getD 0), (n[5]?.getD 0), (n[6]?.getD 0), (n[7]?.getD 0)⟩, bound := (n[8]?.getD 0) } (.slice none 0 0) (.slice none 0 0) (.slice none 0 0)) 32 (0, 0)) := H7.tail.head
    have G3 : _ = some (Obj.cells _ 32 (0, 0)) := H7.tail.tail.head
    have HS := HL.setWhole (cells := ansA { zA with cfg := ⟨(n[0]?.getD 0), (n[1]?.getD 0), (n[2]?.getD 0), (n[3]?.getD 0), (n[4]?.getD 0), (n[5]?.getD 0), (n[6]?.getD 0), (n[7]?.getD 0)⟩, bound := (n[8]?.getD 0) } (.slice none 0 0) (.slice none 0 0) (.slice none 0 0)) (H7.sel 3 [2, 0])
    go_wp2_with (first
     | (refine wpList_load_row rfl 32 _ rfl (b4 + 1) rfl 32 _ (0, 0) _ G1 Tryz.underlying32 rfl (ansA_size _ _ _ _) ?_)
     | (refine wpList_store_row rfl 32 _ _ rfl b4 (ansA { zA with cfg := ⟨(n[0]?.getD 0), (n[1]?.getD 0), (n[2]?.getD 0), (n[3]?.getD 0), (n[4]?.getD 0), (n[5]?.getD 0), (n[6]?.getD 0), (n[7]?.getD 0)⟩, bound := (n[8]?.getD 0) } (.slice none 0 0) (.slice none 0 0) (.slice none 0 0)) rfl rfl 32 _ G3 (ansA_size _ _ _ _) rfl (ansA_one _ _ _ _ _ _ _ _ _ _) ?_))
    have G5 := HS.head
    refine bodyPost_ret (results_cell_row (by rfl) _ _ b4 32 _ (0, 0) _ (by rfl) G5 Tryz.underlying32 rfl (ansA_size _ _ _ _)) rfl ?_
    rw [HX.out]
    exact headPost_plain (r := { zA with cfg := ⟨(n[0]?.getD 0), (n[1]?.getD 0), (n[2]?.getD 0), (n[3]?.getD 0), (n[4]?.getD 0), (n[5]?.getD 0), (n[6]?.getD 0), (n[7]?.getD 0)⟩, bound := (n[8]?.getD 0) }) rfl [_] (HL.drop2 HS.tail)
   have q13 : (k == 13) = false := by simp [g13]
   have hx : headA k (s0 :: wr) = zA := by rw [HX0.out]; simp [tailA, g1, g5, g9, g10, g11, g12, g13]
   have HX := Lib.hid hx
   clear hx g1 g5 g9 g10 g11 g12 g13
   go_upto_region 32 with (fail)
   have G1 : _ = some (Obj.cells (ansA zA (.slice none 0 0) (.slice none 0 0) (.slice none 0 0)) 32 (0, 0)) := H5.tail.head
   have G3 : _ = some (Obj.cells _ 32 (0, 0)) := H5.tail.tail.head
   have HS := HL.setWhole (cells := ansA zA (.slice none 0 0) (.slice none 0 0) (.slice none 0 0)) (H5.sel 3 [2, 0])
   go_wp2_with (first
    | (refine wpList_load_row rfl 32 _ rfl (b4 + 1) rfl 32 _ (0, 0) _ G1 Tryz.underlying32 rfl (ansA_size _ _ _ _) ?_)
    | (refine wpList_store_row rfl 32 _ _ rfl b4 (ansA zA (.slice none 0 0) (.slice none 0 0) (.slice none 0 0)) rfl rfl 32 _ G3 (ansA_size _ _ _ _) rfl (ansA_one _ _ _ _ _ _ _ _ _ _) ?_))
   have G5 := HS.head
   refine bodyPost_ret (results_cell_row (by rfl) _ _ b4 32 _ (0, 0) _ (by rfl) G5 Tryz.underlying32 rfl (ansA_size _ _ _ _)) rfl ?_
   rw [HX.out]
   exact headPost_plain (r := zA) rfl [_] (HL.drop2 HS.tail)
end
end Go.Proofs.YtdekbbffoaphhaaGreatDoor

/- The first line of an answer, read: the reference's. -/
import Derived.Test.YtdekbbffoaphhaaGreatDoorAnZipB
import Derived.Test.YtdekbbffoaphhaaGreatDoorAnPkC
import Derived.Test.YtdekbbffoaphhaaGreatDoorAnParse
import Derived.OrdersHeld
import Derived.Test.YtdekbbffoaphhaaGreatDoorAnZip
set_option linter.unusedVariables false
set_option linter.unusedSimpArgs false
set_option maxRecDepth 100000
set_option maxHeartbeats 8000000
namespace Go.Proofs.An
/-- The state that the loop has found so far. -/
def stK (s : ByteArray) (k : Nat) : Int := if 1 ≤ stN s ∧ stN s < 1 + (k : Int) then stN s else 0
theorem stK_0 (s : ByteArray) : stK s 0 = 0 := by unfold stK; rw [if_neg (by omega)]
theorem stK_6 (s : ByteArray) : stK s 6 = stN s := by
 have := stN_bounds s
 unfold stK
 by_cases h : 1 ≤ stN s
 ·rw [if_pos ⟨h, by omega⟩]
 ·rw [if_neg (fun g => h g.1)]; omega
theorem stK_hit {s : ByteArray} {k : Nat} (hk : k < 6) (h : stW (1 + (k : Int)) = s) : stK s (k + 1) = 1 + (k : Int) := by
 have hn : stN s = 1 + (k : Int) := by
  rw [← h]
  have : k = 0 ∨ k = 1 ∨ k = 2 ∨ k = 3 ∨ k = 4 ∨ k = 5 := by omega
  rcases this with rfl | rfl | rfl | rfl | rfl | rfl <;> decide
 unfold stK
 rw [hn, if_pos ⟨by omega, by omega⟩]
theorem stK_miss {s : ByteArray} {k : Nat} (hk : k < 6) (h : stW (1 + (k : Int)) ≠ s) : stK s (k + 1) = stK s k := by
 have hn : stN s ≠ 1 + (k : Int) := fun g => h (stW_of g (by omega))
 unfold stK
 by_cases h3 : 1 ≤ stN s ∧ stN s < 1 + (k : Int)
 ·rw [if_pos h3, if_pos ⟨h3.1, by omega⟩]
 ·rw [if_neg h3, if_neg (fun g => h3 ⟨g.1, by omega⟩)]
end Go.Proofs.An
namespace Go.Proofs.YtdekbbffoaphhaaGreatDoor
open Go.RowKit Go.Proofs.HL Go.Proofs.An
section
variable {w0 w : World} {L : List At} {v : Value}
def FirstPost (w0 : World) (L : List At) (r : Ans × Bool) (e : Ending) (w' : World) : Prop := ∃ (K : List At) (As : Option Addr) (cs : Nat), e = .returned (.tuple #[ansV r.1 (.slice none 0 0) (.slice As r.1.job.set.length cs) (.slice none 0 0), .bool r.2]) ∧ Ints w0 K (.slice As r.1.job.set.length cs) r.1.job.set ∧ HL w0 w' (K ++ L)
theorem firstPost_none {r : Ans × Bool} {a : Ans} {b : Bool} (hr : r = (a, b)) (hs : a.job.set = []) {w' : World} (H : HL w0 w' L) : FirstPost w0 L r (.returned (.tuple #[ansV a (.slice none 0 0) (.slice none 0 0) (.slice none 0 0), .bool b])) w' := by
 subst hr
 refine ⟨[], none, 0, ?_, ?_, H⟩
 ·simp only [hs]; rfl
 ·simp only [hs]; exact fun W _ => rd_nil
theorem append_ints2 {ops : Array Oper} {rest : List Oper} {o : Oper} {a : Act} {Q : Exit → Act → World → Prop} {xs ys : List Int} {v xv : Value} (hgd : o.guard = none) (s x : Operand) (ho : o.op = .call { callee := .builtin .append, args := #[s, x], argTypes := #[24, 24] })
  (H : HL w0 w (intsR w0.heap.size v xs :: L)) (hs : a.eval s = v) (hx : a.eval x = xv) (hr : Rd 1 xv ys.length (intC ys) w) (hb : xs.length + ys.length ≤ 17592186044416)
  (h : ∀ v' w', HL w0 w' (intsR w0.heap.size v' (xs ++ ys) :: L) → wpList Tryz.prog ops Q rest (a.put o.dst v') w') : wpList Tryz.prog ops Q (o :: rest) a w :=
 wpList_append_hl sliceI hgd s x ho (n := xs.length) (m := ys.length) (xs := intC xs) (news := intC ys) H hs hx hr (by simp [intC, Value.oneCell']) (by unfold maxLen; omega) (by omega) (fun v' w' H' _ => h v' w' (by
  unfold intsR; rw [List.length_append, intC, List.map_append]; exact H'))
theorem append_strs2 {ops : Array Oper} {rest : List Oper} {o : Oper} {a : Act} {Q : Exit → Act → World → Prop} {xs ys : List ByteArray} {v xv : Value} (hgd : o.guard = none) (s x : Operand) (ho : o.op = .call { callee := .builtin .append, args := #[s, x], argTypes := #[64, 64] })
  (H : HL w0 w (strs w0.heap.size v xs :: L)) (hs : a.eval s = v) (hx : a.eval x = xv) (hr : Rd 1 xv ys.length (strC ys) w) (hb : xs.length + ys.length ≤ 8589934592)
  (h : ∀ v' w', HL w0 w' (strs w0.heap.size v' (xs ++ ys) :: L) → wpList Tryz.prog ops Q rest (a.put o.dst v') w') : wpList Tryz.prog ops Q (o :: rest) a w :=
 wpList_append_hl sliceS hgd s x ho (n := xs.length) (m := ys.length) (xs := strC xs) (news := strC ys) H hs hx hr (by simp [strC, Value.oneCell']) (by unfold maxLen; omega) (by omega) (fun v' w' H' _ => h v' w' (by
  unfold strs; rw [List.length_append, strC, List.map_append]; exact H'))
theorem Ref.copied_ok (H : HL w0 w L) {l : List Int} (h : Ints w0 L v l) (hl : l.length ≤ 4294967296) : Calls Tryz.prog 67 #[v] w fun e w' => ∃ A c, e = .returned (.slice A l.length c) ∧ HL w0 w' (intsR w0.heap.size (.slice A l.length c) l :: L) := by
 have H1 : HL w0 w (intsR w0.heap.size (.slice none 0 0) [] :: L) := H.nilRow _ _ _
 have hr := h w H
 obtain ⟨A, c, rfl, hc1, hc2⟩ := rd_shape hr
 go_enter Tryz.func67, Tryz.ntmps67
 go_wp2_with (at_builtin; refine append_ints2 (xs := []) (ys := l) rfl _ _ rfl H1 rfl rfl hr (by simp only [List.length_nil]; omega) ?_; intro v' w' H2; obtain ⟨A2, c2, rfl, -, -⟩ := rd_shape (entRow _ H2))
 go_ret
 exact ⟨A2, c2, rfl, H2⟩
def useR (ws : List ByteArray) : Ans × Bool := if ws.length = 4 then ({ zA with raw := (numberV (ws.getD 1 ⟨#[]⟩)).1, usage := (wholeV (ws.getD 2 ⟨#[]⟩)).1, factor := (wholeV (ws.getD 3 ⟨#[]⟩)).1 }, (numberV (ws.getD 1 ⟨#[]⟩)).2 && (wholeV (ws.getD 2 ⟨#[]⟩)).2 && (wholeV (ws.getD 3 ⟨#[]⟩)).2) else (zA, false)
theorem Ref.usage_ok (H : HL w0 w L) {ws : List ByteArray} (h : Strs w0 L v ws) (hz : ∀ s ∈ ws, s.size ≤ 1000000000) :
  Calls Tryz.prog 66 #[v] w fun e w' => e = .returned (.tuple #[ansV (useR ws).1 (.slice none 0 0) (.slice none 0 0) (.slice none 0 0), .bool (useR ws).2]) ∧ HL w0 w' L := by
 have hr := h w H
 obtain ⟨A, c, rfl, hc1, hc2⟩ := rd_shape hr
 unfold maxLen at hc2
 have H1 := HL.bzA H
 have h1 := h.cons (bxz w.heap.size)
 generalize hb4 : w.heap.size = b4 at *
 by_cases hl : ws.length = 4
 ·obtain ⟨x1, e1⟩ : ∃ x, ws[1]? = some x := ⟨_, List.getElem?_eq_getElem (by omega)⟩
  obtain ⟨x2, e2⟩ : ∃ x, ws[2]? = some x := ⟨_, List.getElem?_eq_getElem (by omega)⟩
  obtain ⟨x3, e3⟩ : ∃ x, ws[3]? = some x := ⟨_, List.getElem?_eq_getElem (by omega)⟩
  have hu : useR ws = ({ zA with raw := (numberV x1).1, usage := (wholeV x2).1, factor := (wholeV x3).1 }, (numberV x1).2 && (wholeV x2).2 && (wholeV x3).2) := by
   unfold useR
   rw [if_pos hl]
   simp [List.getD_eq_getElem?_getD, e1, e2, e3]
  obtain ⟨b, o, c1, hv, d1⟩ := str_at (h1 _ H1) e1
  simp only [Value.slice.injEq] at hv
  obtain ⟨rfl, -, rfl⟩ := hv
  obtain ⟨b', o', c2, hv, d2⟩ := str_at (h1 _ H1) e2
  simp only [Value.slice.injEq, Option.some.injEq, Addr.mk.injEq] at hv
  obtain ⟨⟨rfl, rfl, -⟩, -, -⟩ := hv
  obtain ⟨b', o', c2, hv, d3⟩ := str_at (h1 _ H1) e3
  simp only [Value.slice.injEq, Option.some.injEq, Addr.mk.injEq] at hv
  obtain ⟨⟨rfl, rfl, -⟩, -, -⟩ := hv
  have n1 := fun W => Ref.number_ok x1 (hz x1 (List.mem_of_getElem? e1)) W
  have n2 := fun W => Ref.whole_ok x2 (by have := hz x2 (List.mem_of_getElem? e2); omega) W
  have n3 := fun W => Ref.whole_ok x3 (by have := hz x3 (List.mem_of_getElem? e3); omega) W
  obtain ⟨⟨y1, o1⟩, hy1⟩ : ∃ p, numberV x1 = p := ⟨_, rfl⟩
  obtain ⟨⟨y2, o2⟩, hy2⟩ : ∃ p, wholeV x2 = p := ⟨_, rfl⟩
  obtain ⟨⟨y3, o3⟩, hy3⟩ : ∃ p, wholeV x3 = p := ⟨_, rfl⟩
  rw [hy1, hy2, hy3] at hu
  simp only [hy1] at n1
  simp only [hy2] at n2
  simp only [hy3] at n3
  have HU := Lib.hid hu
  have l4 : ((ws.length : Int) != 4) = false := by simp [hl]
  have i1 : (1 : Int) < (ws.length : Int) := by omega
  have i2 : (2 : Int) < (ws.length : Int) := by omega
  have i3 : (3 : Int) < (ws.length : Int) := by omega
  have G3 : _ = some (Obj.cells _ 32 (0, 0)) := H1.head
  have HT := HL.setWhole (cells := ansA { zA with raw := y1, usage := y2, factor := y3 } (.slice none 0 0) (.slice none 0 0) (.slice none 0 0)) H1
  clear h hr h1 hl hu hy1 hy2 hy3 e1 e2 e3 H
  cases o1 <;> cases o2 <;> cases o3
  all_goals
   go_enter Tryz.func66, Tryz.ntmps66
   go_wp2_with (first
    | (go_at_call 65; refine (n1 _).mono ?_; rintro r w5 ⟨rfl, rfl⟩)
    | (go_at_call 77; first | (refine (n2 _).mono ?_; rintro r w6 ⟨rfl, rfl⟩; clear n2) | (refine (n3 _).mono ?_; rintro r w6 ⟨rfl, rfl⟩))
    | (refine wpList_store_row rfl 32 _ _ rfl b4 (ansA { zA with raw := y1, usage := y2, factor := y3 } (.slice none 0 0) (.slice none 0 0) (.slice none 0 0)) rfl rfl 32 _ G3 (ansA_size _ _ _ _) rfl (ansA_one _ _ _ _ _ _ _ _ _ _) ?_))
   have G5 := HT.head
   refine bodyPost_ret (results_two (by rfl) _ _ b4 32 _ (0, 0) _ _ (by rfl) (by rfl) G5 Tryz.underlying32 rfl (ansA_size _ _ _ _)) rfl ?_
   rw [HU.out]
   exact ⟨rfl, HT.tail⟩
 ·have hu : useR ws = (zA, false) := by unfold useR; rw [if_neg hl]
  have HU := Lib.hid hu
  have l4 : ((ws.length : Int) != 4) = true := by simp; omega
  have G3 : _ = some (Obj.cells _ 32 (0, 0)) := H1.head
  have HT := HL.setWhole (cells := ansA zA (.slice none 0 0) (.slice none 0 0) (.slice none 0 0)) H1
  clear h hr h1 hl hu H
  go_enter Tryz.func66, Tryz.ntmps66
  go_wp2_with (refine wpList_store_row rfl 32 _ _ rfl b4 (ansA zA (.slice none 0 0) (.slice none 0 0) (.slice none 0 0)) rfl rfl 32 _ G3 (ansA_size _ _ _ _) rfl (ansA_one _ _ _ _ _ _ _ _ _ _) ?_)
  have G5 := HT.head
  refine bodyPost_ret (results_two (by rfl) _ _ b4 32 _ (0, 0) _ _ (by rfl) (by rfl) G5 Tryz.underlying32 rfl (ansA_size _ _ _ _)) rfl ?_
  rw [HU.out]
  exact ⟨rfl, HT.tail⟩
theorem Ref.fi_err (hD : Doors w0) (H : HL w0 w L) {ws : List ByteArray} (h : Strs w0 L v ws) (hz : ∀ s ∈ ws, s.size ≤ 1000000000) (hpos : 0 < ws.length) (hl : ws.length ≤ 1048577) (k : Int) (hg : ws.headD ⟨#[]⟩ = errorW) (hk : ws.length = 2) :
  Calls Tryz.prog 45 #[.int .i64 k, v] w (FirstPost w0 L (firstR k ws)) := by
 obtain ⟨A, c, rfl, hc1, hc2⟩ := rd_shape (h w H)
 unfold maxLen at hc2
 have H1 := HL.bzA H
 have H2 := HL.bzA H1
 rw [World.size_alloc] at H2
 have G2 : _ = some (Obj.cells _ 32 (0, 0)) := H2.head
 have HS : HL w0 _ (bxz _ :: _) := HL.setWhole (cells := ansA zA (.slice none 0 0) (.slice none 0 0) (.slice none 0 0)) H2
 generalize hb4 : w.heap.size = b4 at *
 have h3 := (h.cons (bxz b4)).cons (bxz (b4 + 1))
 obtain ⟨s0, hs0⟩ : ∃ x, ws[0]? = some x := ⟨_, List.getElem?_eq_getElem hpos⟩
 have hhead : ws.headD ⟨#[]⟩ = s0 := by cases ws with
  | nil => simp at hs0
  | cons x r => simpa using hs0
 have HZ := Lib.hid hz; have HL1 := Lib.hid hl; have HHD := Lib.hid hhead; have HS0 := Lib.hid hs0; have HG := Lib.hid hg; have HK := Lib.hid hk
 clear H H1 H2 h hz hl hhead hs0 hg hk
 go_enter Tryz.func45, Tryz.ntmps45
 go_upto_region 2 with (refine wpList_store_row rfl 32 _ _ rfl (b4 + 1) (ansA zA (.slice none 0 0) (.slice none 0 0) (.slice none 0 0)) rfl rfl 32 _ G2 (ansA_size _ _ _ _) rfl (ansA_one _ _ _ _ _ _ _ _ _ _) ?_)
 dsimp only [Act.put]
 have HB4 := Lib.hid hb4
 clear hb4 G2
 generalize World.setRow _ _ _ = W at *
 obtain ⟨b1, o1, c1, hv, d0⟩ := str_at (h3 _ HS) HS0.out
 simp only [Value.slice.injEq] at hv
 obtain ⟨rfl, -, rfl⟩ := hv
 rw [Nat.add_zero] at d0
 have i0 : (0 : Int) < (ws.length : Int) := by omega
 have q0 : (s0.toList == [101, 114, 114, 111, 114]) = true := by rw [← HHD.out, HG.out]; decide +kernel
 have l2 : ((ws.length : Int) == 2) = true := by have h2 := HK.out; simp; omega
 have i1 : (1 : Int) < (ws.length : Int) := by have h2 := HK.out; omega
 obtain ⟨s1, hs1⟩ : ∃ x, ws[1]? = some x := ⟨_, List.getElem?_eq_getElem (by have h2 := HK.out; omega)⟩
 obtain ⟨b', o', c2, hv, d1⟩ := str_at (h3 _ HS) hs1
 simp only [Value.slice.injEq, Option.some.injEq, Addr.mk.injEq] at hv
 obtain ⟨⟨rfl, rfl, -⟩, -, -⟩ := hv
 have hnu := fun W => Ref.number_ok s1 (HZ.out s1 (List.mem_of_getElem? hs1)) W
 have hfr : firstR k ws = ({ zA with code := (numberV s1).1 }, (numberV s1).2) := by
  unfold firstR
  rw [if_pos ⟨HG.out, HK.out⟩, List.getD_eq_getElem?_getD, hs1]
  rfl
 obtain ⟨⟨y1, o1'⟩, hy1⟩ : ∃ p, numberV s1 = p := ⟨_, rfl⟩
 rw [hy1] at hfr
 simp only [hy1] at hnu
 have HFR := Lib.hid hfr
 clear hfr hy1 hs1
 have m0 : W.cell? ⟨b4 + 1, 0, none⟩ = some (.int .i64 0) := HL.cell HS 0
 have y0 : W.frozen? ⟨b4 + 1, 0, none⟩ = false := HL.frozen HS 0
 have H5 : HL w0 _ (boxA (b4 + 1) { zA with code := y1 } (.slice none 0 0) (.slice none 0 0) (.slice none 0 0) :: bxz b4 :: L) := HL.setCell HS 0 (.int .i64 y1)
 go_upto_region 5 with (go_at_call 65; refine (hnu _).mono ?_; rintro r w5 ⟨rfl, rfl⟩)
 clear m0 y0 HS d0 d1 h3
 generalize World.setCell _ _ _ = W5 at *
 have G1 : _ = some (Obj.cells (ansA { zA with code := y1 } (.slice none 0 0) (.slice none 0 0) (.slice none 0 0)) 32 (0, 0)) := H5.head
 have G3 : _ = some (Obj.cells _ 32 (0, 0)) := H5.tail.head
 have HT := HL.setWhole (cells := ansA { zA with code := y1 } (.slice none 0 0) (.slice none 0 0) (.slice none 0 0)) H5.tail
 go_wp2_with (first
  | (have g1 := G1; refine wpList_load_row rfl 32 _ rfl (b4 + 1) rfl 32 _ (0, 0) _ g1 Tryz.underlying32 rfl (ansA_size _ _ _ _) ?_; clear g1 G1)
  | (refine wpList_store_row rfl 32 _ _ rfl b4 (ansA { zA with code := y1 } (.slice none 0 0) (.slice none 0 0) (.slice none 0 0)) rfl rfl 32 _ G3 (ansA_size _ _ _ _) rfl (ansA_one _ _ _ _ _ _ _ _ _ _) ?_))
 have G5 := HT.head
 refine bodyPost_ret (results_two (by rfl) _ _ b4 32 _ (0, 0) _ _ (by rfl) (by rfl) G5 Tryz.underlying32 rfl (ansA_size _ _ _ _)) rfl ?_
 exact firstPost_none HFR.out rfl HT.tail
theorem Ref.fi_use (hD : Doors w0) (H : HL w0 w L) {ws : List ByteArray} (h : Strs w0 L v ws) (hz : ∀ s ∈ ws, s.size ≤ 1000000000) (hpos : 0 < ws.length) (hl : ws.length ≤ 1048577) (k : Int) (hne : ¬ (ws.headD ⟨#[]⟩ = errorW ∧ ws.length = 2)) (hk : k = 11) :
  Calls Tryz.prog 45 #[.int .i64 k, v] w (FirstPost w0 L (firstR k ws)) := by
 obtain ⟨A, c, rfl, hc1, hc2⟩ := rd_shape (h w H)
 unfold maxLen at hc2
 have H1 := HL.bzA H
 have H2 := HL.bzA H1
 rw [World.size_alloc] at H2
 have G2 : _ = some (Obj.cells _ 32 (0, 0)) := H2.head
 have HS : HL w0 _ (bxz _ :: _) := HL.setWhole (cells := ansA zA (.slice none 0 0) (.slice none 0 0) (.slice none 0 0)) H2
 generalize hb4 : w.heap.size = b4 at *
 have h3 := (h.cons (bxz b4)).cons (bxz (b4 + 1))
 obtain ⟨s0, hs0⟩ : ∃ x, ws[0]? = some x := ⟨_, List.getElem?_eq_getElem hpos⟩
 have hhead : ws.headD ⟨#[]⟩ = s0 := by cases ws with
  | nil => simp at hs0
  | cons x r => simpa using hs0
 have HZ := Lib.hid hz; have HL1 := Lib.hid hl; have HHD := Lib.hid hhead; have HS0 := Lib.hid hs0; have HNE := Lib.hid hne; have HK := Lib.hid hk
 clear H H1 H2 h hz hl hhead hs0 hne hk
 go_enter Tryz.func45, Tryz.ntmps45
 go_upto_region 2 with (refine wpList_store_row rfl 32 _ _ rfl (b4 + 1) (ansA zA (.slice none 0 0) (.slice none 0 0) (.slice none 0 0)) rfl rfl 32 _ G2 (ansA_size _ _ _ _) rfl (ansA_one _ _ _ _ _ _ _ _ _ _) ?_)
 dsimp only [Act.put]
 have HB4 := Lib.hid hb4
 clear hb4 G2
 generalize World.setRow _ _ _ = W at *
 obtain ⟨b1, o1, c1, hv, d0⟩ := str_at (h3 _ HS) HS0.out
 simp only [Value.slice.injEq] at hv
 obtain ⟨rfl, -, rfl⟩ := hv
 rw [Nat.add_zero] at d0
 have i0 : (0 : Int) < (ws.length : Int) := by omega
 go_cut [22] (fun t22 wc => t22 = .bool false ∧ W = wc)
 case first =>
  by_cases ge : s0 = errorW
  ·have q0 : (s0.toList == [101, 114, 114, 111, 114]) = true := by rw [ge]; decide +kernel
   have l2 : ((ws.length : Int) == 2) = false := by rw [beq_eq_false_iff_ne]; have h1 := HNE.out; have h2 := HHD.out; exact fun g => h1 ⟨by rw [h2]; exact ge, by omega⟩
   clear ge
   go_wp2
   go_meet
   exact ⟨rfl, rfl⟩
  ·have q0 : (s0.toList == [101, 114, 114, 111, 114]) = false := by rw [beq_eq_false_iff_ne]; exact fun e => ge (bytesSame (e.trans (by decide +kernel)))
   clear ge
   go_wp2
   go_meet
   exact ⟨rfl, rfl⟩
 case rest =>
  obtain ⟨rfl, rfl⟩ := hcut
  clear d0
  have q11 : (k == 11) = true := by rw [HK.out]; rfl
  have huse := Ref.usage_ok HS h3 HZ.out
  have hfr : firstR k ws = useR ws := by
   unfold firstR
   rw [if_neg HNE.out, if_pos HK.out]
   rfl
  obtain ⟨⟨r, b⟩, hrb⟩ : ∃ p, useR ws = p := ⟨_, rfl⟩
  have hset : r.job.set = [] := by
   have e : r = (useR ws).1 := by rw [hrb]
   rw [e]
   unfold useR
   split <;> rfl
  rw [hrb] at hfr
  simp only [hrb] at huse
  have HFR := Lib.hid hfr; have HSET := Lib.hid hset
  clear hfr hrb hset
  go_wp2_with (first
   | (go_at_call 66; refine huse.mono ?_; rintro e w5 ⟨rfl, H5⟩; clear huse HS; have G3 : _ = some (Obj.cells _ 32 (0, 0)) := H5.tail.head; have HT := HL.setWhole (cells := ansA r (.slice none 0 0) (.slice none 0 0) (.slice none 0 0)) H5.tail)
   | (refine wpList_store_row rfl 32 _ _ rfl b4 (ansA r (.slice none 0 0) (.slice none 0 0) (.slice none 0 0)) rfl rfl 32 _ G3 (ansA_size _ _ _ _) rfl (ansA_one _ _ _ _ _ _ _ _ _ _) ?_))
  have G5 := HT.head
  refine bodyPost_ret (results_two (by rfl) _ _ b4 32 _ (0, 0) _ _ (by rfl) (by rfl) G5 Tryz.underlying32 rfl (ansA_size _ _ _ _)) rfl ?_
  exact firstPost_none HFR.out HSET.out HT.tail
end
open Go.RowKit Go.Proofs.HL Go.Proofs.An
section
variable {w0 w : World} {L : List At} {v : Value}
theorem Ref.fi_bad (hD : Doors w0) (H : HL w0 w L) {ws : List ByteArray} (h : Strs w0 L v ws) (hz : ∀ s ∈ ws, s.size ≤ 1000000000) (hpos : 0 < ws.length) (hl : ws.length ≤ 1048577) (k : Int) (hne : ¬ (ws.headD ⟨#[]⟩ = errorW ∧ ws.length = 2)) (hk : k ≠ 11 ∧ k ≠ 9) (hnr : readV (ws.drop 1) = none) (hjb : jbB k ws = false) :
  Calls Tryz.prog 45 #[.int .i64 k, v] w (FirstPost w0 L (firstR k ws)) := by
 obtain ⟨A, c, rfl, hc1, hc2⟩ := rd_shape (h w H)
 unfold maxLen at hc2
 have H1 := HL.bzA H
 have H2 := HL.bzA H1
 rw [World.size_alloc] at H2
 have G2 : _ = some (Obj.cells _ 32 (0, 0)) := H2.head
 have HS : HL w0 _ (bxz _ :: _) := HL.setWhole (cells := ansA zA (.slice none 0 0) (.slice none 0 0) (.slice none 0 0)) H2
 generalize hb4 : w.heap.size = b4 at *
 have h3 := (h.cons (bxz b4)).cons (bxz (b4 + 1))
 obtain ⟨s0, hs0⟩ : ∃ x, ws[0]? = some x := ⟨_, List.getElem?_eq_getElem hpos⟩
 have hhead : ws.headD ⟨#[]⟩ = s0 := by cases ws with
  | nil => simp at hs0
  | cons x r => simpa using hs0
 have HZ := Lib.hid hz; have HL1 := Lib.hid hl; have HHD := Lib.hid hhead; have HS0 := Lib.hid hs0; have HNE := Lib.hid hne; have HJB := Lib.hid hjb; have HK := Lib.hid hk; have HN := Lib.hid hnr
 clear H H1 H2 h hz hl hhead hs0 hne hjb hk hnr
 go_enter Tryz.func45, Tryz.ntmps45
 go_upto_region 2 with (refine wpList_store_row rfl 32 _ _ rfl (b4 + 1) (ansA zA (.slice none 0 0) (.slice none 0 0) (.slice none 0 0)) rfl rfl 32 _ G2 (ansA_size _ _ _ _) rfl (ansA_one _ _ _ _ _ _ _ _ _ _) ?_)
 dsimp only [Act.put]
 have HB4 := Lib.hid hb4
 clear hb4 G2
 generalize World.setRow _ _ _ = W at *
 obtain ⟨b1, o1, c1, hv, d0⟩ := str_at (h3 _ HS) HS0.out
 simp only [Value.slice.injEq] at hv
 obtain ⟨rfl, -, rfl⟩ := hv
 rw [Nat.add_zero] at d0
 have i0 : (0 : Int) < (ws.length : Int) := by omega
 go_cut [22] (fun t22 wc => t22 = .bool false ∧ W = wc)
 case first =>
  by_cases ge : s0 = errorW
  ·have q0 : (s0.toList == [101, 114, 114, 111, 114]) = true := by rw [ge]; decide +kernel
   have l2 : ((ws.length : Int) == 2) = false := by rw [beq_eq_false_iff_ne]; have h1 := HNE.out; have h2 := HHD.out; exact fun g => h1 ⟨by rw [h2]; exact ge, by omega⟩
   clear ge
   go_wp2
   go_meet
   exact ⟨rfl, rfl⟩
  ·have q0 : (s0.toList == [101, 114, 114, 111, 114]) = false := by rw [beq_eq_false_iff_ne]; exact fun e => ge (bytesSame (e.trans (by decide +kernel)))
   clear ge
   go_wp2
   go_meet
   exact ⟨rfl, rfl⟩
 case rest =>
  obtain ⟨rfl, rfl⟩ := hcut
  clear d0
  have q11 : (k == 11) = false := by have h := HK.out; simp; omega
  have q9 : (k == 9) = false := by have h := HK.out; simp; omega
  have hfr0 : firstR k ws = match readV (ws.drop 1) with | none => (zA, false) | some n => (firstN k 0 n, true) := by
   have hj : jbB k ws = false := HJB.out
   unfold firstR
   rw [if_neg HNE.out, if_neg (by have h := HK.out; omega)]
   unfold jW stJ
   rw [hj]
   rfl
  obtain ⟨l1, hl1⟩ : ∃ l1, ws.length = l1 + 1 := ⟨ws.length - 1, by omega⟩
  obtain ⟨cc, rfl⟩ : ∃ cc, c = cc + 1 := ⟨c - 1, by omega⟩
  obtain ⟨A', hA'⟩ : ∃ A', (if cc = 0 then some (⟨b1, o1, none⟩ : Addr) else some ⟨b1, o1 + 1, none⟩) = A' := ⟨_, rfl⟩
  have hle : l1 ≤ cc := by omega
  have hwd : (ws.drop 1).length = l1 := by rw [List.length_drop, hl1]; rfl
  have hRs : Strs w0 (bxz (b4 + 1) :: bxz b4 :: L) (.slice A' l1 cc) (ws.drop 1) := fun W' HW => by
   have h1 : Rd 1 _ ws.length (strC ws) W' := h3 W' HW
   rw [hl1] at h1
   rw [hwd, strC, List.map_drop, ← hA']
   by_cases hz : cc = 0
   ·rw [if_pos hz]
    have := rd_suffix h1 1 (by omega) (a' := ⟨b1, o1, none⟩) (.inr (by omega))
    simpa using this
   ·rw [if_neg hz]
    have := rd_suffix h1 1 (by omega) (a' := ⟨b1, o1 + 1, none⟩) (.inl (by rw [add_plain]))
    simpa using this
  have hsz : ∀ x ∈ ws.drop 1, x.size ≤ 1000000000 := fun x hx => HZ.out x (List.mem_of_mem_drop hx)
  have hrd := Ref.read_ok HS hRs hsz (by rw [hwd]; have := HL1.out; omega)
  clear hsz hRs
  have hl0 : (0 : Int) < (l1 : Int) + 1 := by omega
  have hi1 : (1 : Int) ≤ (l1 : Int) + 1 := by omega
  have HWD := Lib.hid hwd; have HLL := Lib.hid hl1
  rw [hl1]
  clear hwd hl1 h3
  rw [show (RefReadsPost w0 (bxz (b4 + 1) :: bxz b4 :: L) (ws.drop 1)) = fun e w' => e = .returned (.tuple #[.slice none 0 0, .bool false]) ∧ HL w0 w' (bxz (b4 + 1) :: bxz b4 :: L) from by funext e w'; unfold RefReadsPost; rw [HN.out]] at hrd
  have hfr : firstR k ws = (zA, false) := by rw [hfr0, HN.out]
  have HFR := Lib.hid hfr
  clear hfr hfr0
  go_upto_region 18 with (go_at_call 46; refine hrd.mono ?_; rintro r w5 ⟨rfl, H5⟩; clear hrd HS)
  have G1 : _ = some (Obj.cells (ansA zA (.slice none 0 0) (.slice none 0 0) (.slice none 0 0)) 32 (0, 0)) := H5.head
  have G3 : _ = some (Obj.cells _ 32 (0, 0)) := H5.tail.head
  have HT := HL.setWhole (cells := ansA zA (.slice none 0 0) (.slice none 0 0) (.slice none 0 0)) H5.tail
  go_wp2_with (first
   | (have g1 := G1; refine wpList_load_row rfl 32 _ rfl (b4 + 1) rfl 32 _ (0, 0) _ g1 Tryz.underlying32 rfl (ansA_size _ _ _ _) ?_; clear g1 G1)
   | (refine wpList_store_row rfl 32 _ _ rfl b4 (ansA zA (.slice none 0 0) (.slice none 0 0) (.slice none 0 0)) rfl rfl 32 _ G3 (ansA_size _ _ _ _) rfl (ansA_one _ _ _ _ _ _ _ _ _ _) ?_))
  have G5 := HT.head
  refine bodyPost_ret (results_two (by rfl) _ _ b4 32 _ (0, 0) _ _ (by rfl) (by rfl) G5 Tryz.underlying32 rfl (ansA_size _ _ _ _)) rfl ?_
  exact firstPost_none HFR.out rfl HT.tail
theorem Ref.fi_bad9 (hD : Doors w0) (H : HL w0 w L) {ws : List ByteArray} (h : Strs w0 L v ws) (hz : ∀ s ∈ ws, s.size ≤ 1000000000) (hpos : 0 < ws.length) (hl : ws.length ≤ 1048577) (k : Int) (hne : ¬ (ws.headD ⟨#[]⟩ = errorW ∧ ws.length = 2)) (hk : k = 9) (hnr : readV (ws.drop 1) = none) (hjb : jbB k ws = false) :
  Calls Tryz.prog 45 #[.int .i64 k, v] w (FirstPost w0 L (firstR k ws)) := by
 obtain ⟨A, c, rfl, hc1, hc2⟩ := rd_shape (h w H)
 unfold maxLen at hc2
 have H1 := HL.bzA H
 have H2 := HL.bzA H1
 rw [World.size_alloc] at H2
 have G2 : _ = some (Obj.cells _ 32 (0, 0)) := H2.head
 have HS : HL w0 _ (bxz _ :: _) := HL.setWhole (cells := ansA zA (.slice none 0 0) (.slice none 0 0) (.slice none 0 0)) H2
 generalize hb4 : w.heap.size = b4 at *
 have h3 := (h.cons (bxz b4)).cons (bxz (b4 + 1))
 obtain ⟨s0, hs0⟩ : ∃ x, ws[0]? = some x := ⟨_, List.getElem?_eq_getElem hpos⟩
 have hhead : ws.headD ⟨#[]⟩ = s0 := by cases ws with
  | nil => simp at hs0
  | cons x r => simpa using hs0
 have HZ := Lib.hid hz; have HL1 := Lib.hid hl; have HHD := Lib.hid hhead; have HS0 := Lib.hid hs0; have HNE := Lib.hid hne; have HJB := Lib.hid hjb; have HK := Lib.hid hk; have HN := Lib.hid hnr
 clear H H1 H2 h hz hl hhead hs0 hne hjb hk hnr
 go_enter Tryz.func45, Tryz.ntmps45
 go_upto_region 2 with (refine wpList_store_row rfl 32 _ _ rfl (b4 + 1) (ansA zA (.slice none 0 0) (.slice none 0 0) (.slice none 0 0)) rfl rfl 32 _ G2 (ansA_size _ _ _ _) rfl (ansA_one _ _ _ _ _ _ _ _ _ _) ?_)
 dsimp only [Act.put]
 have HB4 := Lib.hid hb4
 clear hb4 G2
 generalize World.setRow _ _ _ = W at *
 obtain ⟨b1, o1, c1, hv, d0⟩ := str_at (h3 _ HS) HS0.out
 simp only [Value.slice.injEq] at hv
 obtain ⟨rfl, -, rfl⟩ := hv
 rw [Nat.add_zero] at d0
 have i0 : (0 : Int) < (ws.length : Int) := by omega
 go_cut [22] (fun t22 wc => t22 = .bool false ∧ W = wc)
 case first =>
  by_cases ge : s0 = errorW
  ·have q0 : (s0.toList == [101, 114, 114, 111, 114]) = true := by rw [ge]; decide +kernel
   have l2 : ((ws.length : Int) == 2) = false := by rw [beq_eq_false_iff_ne]; have h1 := HNE.out; have h2 := HHD.out; exact fun g => h1 ⟨by rw [h2]; exact ge, by omega⟩
   clear ge
   go_wp2
   go_meet
   exact ⟨rfl, rfl⟩
  ·have q0 : (s0.toList == [101, 114, 114, 111, 114]) = false := by rw [beq_eq_false_iff_ne]; exact fun e => ge (bytesSame (e.trans (by decide +kernel)))
   clear ge
   go_wp2
   go_meet
   exact ⟨rfl, rfl⟩
 case rest =>
  obtain ⟨rfl, rfl⟩ := hcut
  clear d0
  have q11 : (k == 11) = false := by rw [HK.out]; rfl
  have q9 : (k == 9) = true := by rw [HK.out]; rfl
  have l5 : decide ((5 : Int) < (ws.length : Int)) = false := by
   have h := HJB.out
   unfold jbB at h
   rw [show (k == 9) = true from q9, Bool.true_and] at h
   rw [decide_eq_false_iff_not] at h ⊢
   omega
  have hfr0 : firstR k ws = match readV (ws.drop 1) with | none => (zA, false) | some n => (firstN k 0 n, true) := by
   have hj : jbB k ws = false := HJB.out
   unfold firstR
   rw [if_neg HNE.out, if_neg (by have h := HK.out; omega)]
   unfold jW stJ
   rw [hj]
   rfl
  obtain ⟨l1, hl1⟩ : ∃ l1, ws.length = l1 + 1 := ⟨ws.length - 1, by omega⟩
  obtain ⟨cc, rfl⟩ : ∃ cc, c = cc + 1 := ⟨c - 1, by omega⟩
  obtain ⟨A', hA'⟩ : ∃ A', (if cc = 0 then some (⟨b1, o1, none⟩ : Addr) else some ⟨b1, o1 + 1, none⟩) = A' := ⟨_, rfl⟩
  have hle : l1 ≤ cc := by omega
  have hwd : (ws.drop 1).length = l1 := by rw [List.length_drop, hl1]; rfl
  have hRs : Strs w0 (bxz (b4 + 1) :: bxz b4 :: L) (.slice A' l1 cc) (ws.drop 1) := fun W' HW => by
   have h1 : Rd 1 _ ws.length (strC ws) W' := h3 W' HW
   rw [hl1] at h1
   rw [hwd, strC, List.map_drop, ← hA']
   by_cases hz : cc = 0
   ·rw [if_pos hz]
    have := rd_suffix h1 1 (by omega) (a' := ⟨b1, o1, none⟩) (.inr (by omega))
    simpa using this
   ·rw [if_neg hz]
    have := rd_suffix h1 1 (by omega) (a' := ⟨b1, o1 + 1, none⟩) (.inl (by rw [add_plain]))
    simpa using this
  have hsz : ∀ x ∈ ws.drop 1, x.size ≤ 1000000000 := fun x hx => HZ.out x (List.mem_of_mem_drop hx)
  have hrd := Ref.read_ok HS hRs hsz (by rw [hwd]; have := HL1.out; omega)
  clear hsz hRs
  have hl0 : (0 : Int) < (l1 : Int) + 1 := by omega
  have hi1 : (1 : Int) ≤ (l1 : Int) + 1 := by omega
  have HWD := Lib.hid hwd; have HLL := Lib.hid hl1
  rw [hl1]
  clear hwd hl1 h3
  have l5' : decide ((5 : Int) < (l1 : Int) + 1) = false := by have h := l5; rw [HLL.out] at h; exact h
  clear l5
  rw [show (RefReadsPost w0 (bxz (b4 + 1) :: bxz b4 :: L) (ws.drop 1)) = fun e w' => e = .returned (.tuple #[.slice none 0 0, .bool false]) ∧ HL w0 w' (bxz (b4 + 1) :: bxz b4 :: L) from by funext e w'; unfold RefReadsPost; rw [HN.out]] at hrd
  have hfr : firstR k ws = (zA, false) := by rw [hfr0, HN.out]
  have HFR := Lib.hid hfr
  clear hfr hfr0
  go_upto_region 18 with (go_at_call 46; refine hrd.mono ?_; rintro r w5 ⟨rfl, H5⟩; clear hrd HS)
  have G1 : _ = some (Obj.cells (ansA zA (.slice none 0 0) (.slice none 0 0) (.slice none 0 0)) 32 (0, 0)) := H5.head
  have G3 : _ = some (Obj.cells _ 32 (0, 0)) := H5.tail.head
  have HT := HL.setWhole (cells := ansA zA (.slice none 0 0) (.slice none 0 0) (.slice none 0 0)) H5.tail
  go_wp2_with (first
   | (have g1 := G1; refine wpList_load_row rfl 32 _ rfl (b4 + 1) rfl 32 _ (0, 0) _ g1 Tryz.underlying32 rfl (ansA_size _ _ _ _) ?_; clear g1 G1)
   | (refine wpList_store_row rfl 32 _ _ rfl b4 (ansA zA (.slice none 0 0) (.slice none 0 0) (.slice none 0 0)) rfl rfl 32 _ G3 (ansA_size _ _ _ _) rfl (ansA_one _ _ _ _ _ _ _ _ _ _) ?_))
  have G5 := HT.head
  refine bodyPost_ret (results_two (by rfl) _ _ b4 32 _ (0, 0) _ _ (by rfl) (by rfl) G5 Tryz.underlying32 rfl (ansA_size _ _ _ _)) rfl ?_
  exact firstPost_none HFR.out rfl HT.tail
theorem Ref.fi_1 (hD : Doors w0) (H : HL w0 w L) {ws : List ByteArray} (h : Strs w0 L v ws) (hz : ∀ s ∈ ws, s.size ≤ 1000000000) (hpos : 0 < ws.length) (hl : ws.length ≤ 1048577) (k : Int) (hne : ¬ (ws.headD ⟨#[]⟩ = errorW ∧ ws.length = 2)) (hk : k = 1) {n : List Int} (hnr : readV (ws.drop 1) = some n) (hn : n.length = 1) (hjb : jbB k ws = false) :
  Calls Tryz.prog 45 #[.int .i64 k, v] w (FirstPost w0 L (firstR k ws)) := by
 obtain ⟨A, c, rfl, hc1, hc2⟩ := rd_shape (h w H)
 unfold maxLen at hc2
 have H1 := HL.bzA H
 have H2 := HL.bzA H1
 rw [World.size_alloc] at H2
 have G2 : _ = some (Obj.cells _ 32 (0, 0)) := H2.head
 have HS : HL w0 _ (bxz _ :: _) := HL.setWhole (cells := ansA zA (.slice none 0 0) (.slice none 0 0) (.slice none 0 0)) H2
 generalize hb4 : w.heap.size = b4 at *
 have h3 := (h.cons (bxz b4)).cons (bxz (b4 + 1))
 obtain ⟨s0, hs0⟩ : ∃ x, ws[0]? = some x := ⟨_, List.getElem?_eq_getElem hpos⟩
 have hhead : ws.headD ⟨#[]⟩ = s0 := by cases ws with
  | nil => simp at hs0
  | cons x r => simpa using hs0
 have HZ := Lib.hid hz; have HL1 := Lib.hid hl; have HHD := Lib.hid hhead; have HS0 := Lib.hid hs0; have HNE := Lib.hid hne; have HJB := Lib.hid hjb; have HK := Lib.hid hk; have HN := Lib.hid hnr; have HNL := Lib.hid hn
 clear H H1 H2 h hz hl hhead hs0 hne hjb hk hnr hn
 go_enter Tryz.func45, Tryz.ntmps45
 go_upto_region 2 with (refine wpList_store_row rfl 32 _ _ rfl (b4 + 1) (ansA zA (.slice none 0 0) (.slice none 0 0) (.slice none 0 0)) rfl rfl 32 _ G2 (ansA_size _ _ _ _) rfl (ansA_one _ _ _ _ _ _ _ _ _ _) ?_)
 dsimp only [Act.put]
 have HB4 := Lib.hid hb4
 clear hb4 G2
 generalize World.setRow _ _ _ = W at *
 obtain ⟨b1, o1, c1, hv, d0⟩ := str_at (h3 _ HS) HS0.out
 simp only [Value.slice.injEq] at hv
 obtain ⟨rfl, -, rfl⟩ := hv
 rw [Nat.add_zero] at d0
 have i0 : (0 : Int) < (ws.length : Int) := by omega
 go_cut [22] (fun t22 wc => t22 = .bool false ∧ W = wc)
 case first =>
  by_cases ge : s0 = errorW
  ·have q0 : (s0.toList == [101, 114, 114, 111, 114]) = true := by rw [ge]; decide +kernel
   have l2 : ((ws.length : Int) == 2) = false := by rw [beq_eq_false_iff_ne]; have h1 := HNE.out; have h2 := HHD.out; exact fun g => h1 ⟨by rw [h2]; exact ge, by omega⟩
   clear ge
   go_wp2
   go_meet
   exact ⟨rfl, rfl⟩
  ·have q0 : (s0.toList == [101, 114, 114, 111, 114]) = false := by rw [beq_eq_false_iff_ne]; exact fun e => ge (bytesSame (e.trans (by decide +kernel)))
   clear ge
   go_wp2
   go_meet
   exact ⟨rfl, rfl⟩
 case rest =>
  obtain ⟨rfl, rfl⟩ := hcut
  clear d0
  have q11 : (k == 11) = false := by rw [HK.out]; rfl
  have q1 : (k == 1) = true := by rw [HK.out]; rfl
  have q5 : (k == 5) = false := by rw [HK.out]; rfl
  have q9 : (k == 9) = false := by rw [HK.out]; rfl
  have q10 : (k == 10) = false := by rw [HK.out]; rfl
  have q12 : (k == 12) = false := by rw [HK.out]; rfl
  have q13 : (k == 13) = false := by rw [HK.out]; rfl
  have hfr0 : firstR k ws = match readV (ws.drop 1) with | none => (zA, false) | some n => (firstN k 0 n, true) := by
   have hj : jbB k ws = false := HJB.out
   unfold firstR
   rw [if_neg HNE.out, if_neg (by have h := HK.out; omega)]
   unfold jW stJ
   rw [hj]
   rfl
  obtain ⟨l1, hl1⟩ : ∃ l1, ws.length = l1 + 1 := ⟨ws.length - 1, by omega⟩
  obtain ⟨cc, rfl⟩ : ∃ cc, c = cc + 1 := ⟨c - 1, by omega⟩
  obtain ⟨A', hA'⟩ : ∃ A', (if cc = 0 then some (⟨b1, o1, none⟩ : Addr) else some ⟨b1, o1 + 1, none⟩) = A' := ⟨_, rfl⟩
  have hle : l1 ≤ cc := by omega
  have hwd : (ws.drop 1).length = l1 := by rw [List.length_drop, hl1]; rfl
  have hRs : Strs w0 (bxz (b4 + 1) :: bxz b4 :: L) (.slice A' l1 cc) (ws.drop 1) := fun W' HW => by
   have h1 : Rd 1 _ ws.length (strC ws) W' := h3 W' HW
   rw [hl1] at h1
   rw [hwd, strC, List.map_drop, ← hA']
   by_cases hz : cc = 0
   ·rw [if_pos hz]
    have := rd_suffix h1 1 (by omega) (a' := ⟨b1, o1, none⟩) (.inr (by omega))
    simpa using this
   ·rw [if_neg hz]
    have := rd_suffix h1 1 (by omega) (a' := ⟨b1, o1 + 1, none⟩) (.inl (by rw [add_plain]))
    simpa using this
  have hsz : ∀ x ∈ ws.drop 1, x.size ≤ 1000000000 := fun x hx => HZ.out x (List.mem_of_mem_drop hx)
  have hrd := Ref.read_ok HS hRs hsz (by rw [hwd]; have := HL1.out; omega)
  clear hsz hRs
  have hl0 : (0 : Int) < (l1 : Int) + 1 := by omega
  have hi1 : (1 : Int) ≤ (l1 : Int) + 1 := by omega
  have HWD := Lib.hid hwd; have HLL := Lib.hid hl1
  rw [hl1]
  clear hwd hl1 h3
  rw [show (RefReadsPost w0 (bxz (b4 + 1) :: bxz b4 :: L) (ws.drop 1)) = fun e w' => ∃ u, e = .returned (.tuple #[u, .bool true]) ∧ HL w0 w' (intsR w0.heap.size u n :: bxz (b4 + 1) :: bxz b4 :: L) from by funext e w'; unfold RefReadsPost; rw [HN.out]] at hrd
  have hfr : firstR k ws = (firstN k 0 n, true) := by rw [hfr0, HN.out]
  have HFR0 := Lib.hid hfr
  clear hfr hfr0
  have hn := HNL.out
  go_upto_region 18 with (go_at_call 46; refine hrd.mono ?_; rintro r w5 ⟨u, rfl, H5⟩; clear hrd HS)
  obtain ⟨An, cn, rfl, hn1, hn2⟩ := rd_shape (entRow _ H5)
  unfold maxLen at hn2
  have H6 : HL w0 w5 (bxz (b4 + 1) :: bxz b4 :: intsR w0.heap.size (.slice An n.length cn) n :: L) := H5.sel 3 [1, 2, 0]
  clear H5
  obtain ⟨x0, hx0⟩ : ∃ x, n[0]? = some x := ⟨_, List.getElem?_eq_getElem (by omega)⟩
  obtain ⟨bn, on, cn', hv, g0⟩ := int_at (entRow _ H6.tail.tail) hx0
  simp only [Value.slice.injEq] at hv
  obtain ⟨rfl, -, rfl⟩ := hv
  rw [Nat.add_zero] at g0
  have k0n : (0 : Int) < (n.length : Int) := by omega
  have k0m : 0 < n.length := by omega
  have hfr : firstR k ws = ({ zA with id := x0 }, true) := by
   rw [HFR0.out]
   unfold firstN
   rw [if_pos ⟨.inl HK.out, HNL.out⟩]
   simp [List.getD_eq_getElem?_getD, hx0]
  have HFR := Lib.hid hfr
  have lk : ((n.length : Int) == 1) = true := by simp; omega
  have m0 : w5.cell? ⟨b4 + 1, 1, none⟩ = some (.int .i64 0) := HL.cell H6 1
  have y0 : w5.frozen? ⟨b4 + 1, 1, none⟩ = false := HL.frozen H6 1
  have H7 : HL w0 _ (boxA (b4 + 1) { zA with id := x0 } (.slice none 0 0) (.slice none 0 0) (.slice none 0 0) :: bxz b4 :: _) := HL.setCell H6 1 (.int .i64 x0)
  clear hfr hx0 hn
  go_upto_region 31 with (fail)
  clear m0 y0 g0 H6
  generalize World.setCell _ _ _ = W7 at *
  have G1 : _ = some (Obj.cells (ansA { zA with id := x0 } (.slice none 0 0) (.slice none 0 0) (.slice none 0 0)) 32 (0, 0)) := H7.head
  have G3 : _ = some (Obj.cells _ 32 (0, 0)) := H7.tail.head
  have HT := HL.setWhole (cells := ansA { zA with id := x0 } (.slice none 0 0) (.slice none 0 0) (.slice none 0 0)) H7.tail
  go_wp2_with (first
   | (have g1 := G1; refine wpList_load_row rfl 32 _ rfl (b4 + 1) rfl 32 _ (0, 0) _ g1 Tryz.underlying32 rfl (ansA_size _ _ _ _) ?_; clear g1 G1)
   | (refine wpList_store_row rfl 32 _ _ rfl b4 (ansA { zA with id := x0 } (.slice none 0 0) (.slice none 0 0) (.slice none 0 0)) rfl rfl 32 _ G3 (ansA_size _ _ _ _) rfl (ansA_one _ _ _ _ _ _ _ _ _ _) ?_))
  have G5 := HT.head
  refine bodyPost_ret (results_two (by rfl) _ _ b4 32 _ (0, 0) _ _ (by rfl) (by rfl) G5 Tryz.underlying32 rfl (ansA_size _ _ _ _)) rfl ?_
  exact firstPost_none HFR.out rfl HT.tail.tail
theorem Ref.fi_5 (hD : Doors w0) (H : HL w0 w L) {ws : List ByteArray} (h : Strs w0 L v ws) (hz : ∀ s ∈ ws, s.size ≤ 1000000000) (hpos : 0 < ws.length) (hl : ws.length ≤ 1048577) (k : Int) (hne : ¬ (ws.headD ⟨#[]⟩ = errorW ∧ ws.length = 2)) (hk : k = 5) {n : List Int} (hnr : readV (ws.drop 1) = some n) (hn : n.length = 1) (hjb : jbB k ws = false) :
  Calls Tryz.prog 45 #[.int .i64 k, v] w (FirstPost w0 L (firstR k ws)) := by
 obtain ⟨A, c, rfl, hc1, hc2⟩ := rd_shape (h w H)
 unfold maxLen at hc2
 have H1 := HL.bzA H
 have H2 := HL.bzA H1
 rw [World.size_alloc] at H2
 have G2 : _ = some (Obj.cells _ 32 (0, 0)) := H2.head
 have HS : HL w0 _ (bxz _ :: _) := HL.setWhole (cells := ansA zA (.slice none 0 0) (.slice none 0 0) (.slice none 0 0)) H2
 generalize hb4 : w.heap.size = b4 at *
 have h3 := (h.cons (bxz b4)).cons (bxz (b4 + 1))
 obtain ⟨s0, hs0⟩ : ∃ x, ws[0]? = some x := ⟨_, List.getElem?_eq_getElem hpos⟩
 have hhead : ws.headD ⟨#[]⟩ = s0 := by cases ws with
  | nil => simp at hs0
  | cons x r => simpa using hs0
 have HZ := Lib.hid hz; have HL1 := Lib.hid hl; have HHD := Lib.hid hhead; have HS0 := Lib.hid hs0; have HNE := Lib.hid hne; have HJB := Lib.hid hjb; have HK := Lib.hid hk; have HN := Lib.hid hnr; have HNL := Lib.hid hn
 clear H H1 H2 h hz hl hhead hs0 hne hjb hk hnr hn
 go_enter Tryz.func45, Tryz.ntmps45
 go_upto_region 2 with (refine wpList_store_row rfl 32 _ _ rfl (b4 + 1) (ansA zA (.slice none 0 0) (.slice none 0 0) (.slice none 0 0)) rfl rfl 32 _ G2 (ansA_size _ _ _ _) rfl (ansA_one _ _ _ _ _ _ _ _ _ _) ?_)
 dsimp only [Act.put]
 have HB4 := Lib.hid hb4
 clear hb4 G2
 generalize World.setRow _ _ _ = W at *
 obtain ⟨b1, o1, c1, hv, d0⟩ := str_at (h3 _ HS) HS0.out
 simp only [Value.slice.injEq] at hv
 obtain ⟨rfl, -, rfl⟩ := hv
 rw [Nat.add_zero] at d0
 have i0 : (0 : Int) < (ws.length : Int) := by omega
 go_cut [22] (fun t22 wc => t22 = .bool false ∧ W = wc)
 case first =>
  by_cases ge : s0 = errorW
  ·have q0 : (s0.toList == [101, 114, 114, 111, 114]) = true := by rw [ge]; decide +kernel
   have l2 : ((ws.length : Int) == 2) = false := by rw [beq_eq_false_iff_ne]; have h1 := HNE.out; have h2 := HHD.out; exact fun g => h1 ⟨by rw [h2]; exact ge, by omega⟩
   clear ge
   go_wp2
   go_meet
   exact ⟨rfl, rfl⟩
  ·have q0 : (s0.toList == [101, 114, 114, 111, 114]) = false := by rw [beq_eq_false_iff_ne]; exact fun e => ge (bytesSame (e.trans (by decide +kernel)))
   clear ge
   go_wp2
   go_meet
   exact ⟨rfl, rfl⟩
 case rest =>
  obtain ⟨rfl, rfl⟩ := hcut
  clear d0
  have q11 : (k == 11) = false := by rw [HK.out]; rfl
  have q1 : (k == 1) = false := by rw [HK.out]; rfl
  have q5 : (k == 5) = true := by rw [HK.out]; rfl
  have q9 : (k == 9) = false := by rw [HK.out]; rfl
  have q10 : (k == 10) = false := by rw [HK.out]; rfl
  have q12 : (k == 12) = false := by rw [HK.out]; rfl
  have q13 : (k == 13) = false := by rw [HK.out]; rfl
  have hfr0 : firstR k ws = match readV (ws.drop 1) with | none => (zA, false) | some n => (firstN k 0 n, true) := by
   have hj : jbB k ws = false := HJB.out
   unfold firstR
   rw [if_neg HNE.out, if_neg (by have h := HK.out; omega)]
   unfold jW stJ
   rw [hj]
   rfl
  obtain ⟨l1, hl1⟩ : ∃ l1, ws.length = l1 + 1 := ⟨ws.length - 1, by omega⟩
  obtain ⟨cc, rfl⟩ : ∃ cc, c = cc + 1 := ⟨c - 1, by omega⟩
  obtain ⟨A', hA'⟩ : ∃ A', (if cc = 0 then some (⟨b1, o1, none⟩ : Addr) else some ⟨b1, o1 + 1, none⟩) = A' := ⟨_, rfl⟩
  have hle : l1 ≤ cc := by omega
  have hwd : (ws.drop 1).length = l1 := by rw [List.length_drop, hl1]; rfl
  have hRs : Strs w0 (bxz (b4 + 1) :: bxz b4 :: L) (.slice A' l1 cc) (ws.drop 1) := fun W' HW => by
   have h1 : Rd 1 _ ws.length (strC ws) W' := h3 W' HW
   rw [hl1] at h1
   rw [hwd, strC, List.map_drop, ← hA']
   by_cases hz : cc = 0
   ·rw [if_pos hz]
    have := rd_suffix h1 1 (by omega) (a' := ⟨b1, o1, none⟩) (.inr (by omega))
    simpa using this
   ·rw [if_neg hz]
    have := rd_suffix h1 1 (by omega) (a' := ⟨b1, o1 + 1, none⟩) (.inl (by rw [add_plain]))
    simpa using this
  have hsz : ∀ x ∈ ws.drop 1, x.size ≤ 1000000000 := fun x hx => HZ.out x (List.mem_of_mem_drop hx)
  have hrd := Ref.read_ok HS hRs hsz (by rw [hwd]; have := HL1.out; omega)
  clear hsz hRs
  have hl0 : (0 : Int) < (l1 : Int) + 1 := by omega
  have hi1 : (1 : Int) ≤ (l1 : Int) + 1 := by omega
  have HWD := Lib.hid hwd; have HLL := Lib.hid hl1
  rw [hl1]
  clear hwd hl1 h3
  rw [show (RefReadsPost w0 (bxz (b4 + 1) :: bxz b4 :: L) (ws.drop 1)) = fun e w' => ∃ u, e = .returned (.tuple #[u, .bool true]) ∧ HL w0 w' (intsR w0.heap.size u n :: bxz (b4 + 1) :: bxz b4 :: L) from by funext e w'; unfold RefReadsPost; rw [HN.out]] at hrd
  have hfr : firstR k ws = (firstN k 0 n, true) := by rw [hfr0, HN.out]
  have HFR0 := Lib.hid hfr
  clear hfr hfr0
  have hn := HNL.out
  go_upto_region 18 with (go_at_call 46; refine hrd.mono ?_; rintro r w5 ⟨u, rfl, H5⟩; clear hrd HS)
  obtain ⟨An, cn, rfl, hn1, hn2⟩ := rd_shape (entRow _ H5)
  unfold maxLen at hn2
  have H6 : HL w0 w5 (bxz (b4 + 1) :: bxz b4 :: intsR w0.heap.size (.slice An n.length cn) n :: L) := H5.sel 3 [1, 2, 0]
  clear H5
  obtain ⟨x0, hx0⟩ : ∃ x, n[0]? = some x := ⟨_, List.getElem?_eq_getElem (by omega)⟩
  obtain ⟨bn, on, cn', hv, g0⟩ := int_at (entRow _ H6.tail.tail) hx0
  simp only [Value.slice.injEq] at hv
  obtain ⟨rfl, -, rfl⟩ := hv
  rw [Nat.add_zero] at g0
  have k0n : (0 : Int) < (n.length : Int) := by omega
  have k0m : 0 < n.length := by omega
  have hfr : firstR k ws = ({ zA with id := x0 }, true) := by
   rw [HFR0.out]
   unfold firstN
   rw [if_pos ⟨.inr HK.out, HNL.out⟩]
   simp [List.getD_eq_getElem?_getD, hx0]
  have HFR := Lib.hid hfr
  have lk : ((n.length : Int) == 1) = true := by simp; omega
  have m0 : w5.cell? ⟨b4 + 1, 1, none⟩ = some (.int .i64 0) := HL.cell H6 1
  have y0 : w5.frozen? ⟨b4 + 1, 1, none⟩ = false := HL.frozen H6 1
  have H7 : HL w0 _ (boxA (b4 + 1) { zA with id := x0 } (.slice none 0 0) (.slice none 0 0) (.slice none 0 0) :: bxz b4 :: _) := HL.setCell H6 1 (.int .i64 x0)
  clear hfr hx0 hn
  go_upto_region 31 with (fail)
  clear m0 y0 g0 H6
  generalize World.setCell _ _ _ = W7 at *
  have G1 : _ = some (Obj.cells (ansA { zA with id := x0 } (.slice none 0 0) (.slice none 0 0) (.slice none 0 0)) 32 (0, 0)) := H7.head
  have G3 : _ = some (Obj.cells _ 32 (0, 0)) := H7.tail.head
  have HT := HL.setWhole (cells := ansA { zA with id := x0 } (.slice none 0 0) (.slice none 0 0) (.slice none 0 0)) H7.tail
  go_wp2_with (first
   | (have g1 := G1; refine wpList_load_row rfl 32 _ rfl (b4 + 1) rfl 32 _ (0, 0) _ g1 Tryz.underlying32 rfl (ansA_size _ _ _ _) ?_; clear g1 G1)
   | (refine wpList_store_row rfl 32 _ _ rfl b4 (ansA { zA with id := x0 } (.slice none 0 0) (.slice none 0 0) (.slice none 0 0)) rfl rfl 32 _ G3 (ansA_size _ _ _ _) rfl (ansA_one _ _ _ _ _ _ _ _ _ _) ?_))
  have G5 := HT.head
  refine bodyPost_ret (results_two (by rfl) _ _ b4 32 _ (0, 0) _ _ (by rfl) (by rfl) G5 Tryz.underlying32 rfl (ansA_size _ _ _ _)) rfl ?_
  exact firstPost_none HFR.out rfl HT.tail.tail
theorem Ref.fi_12 (hD : Doors w0) (H : HL w0 w L) {ws : List ByteArray} (h : Strs w0 L v ws) (hz : ∀ s ∈ ws, s.size ≤ 1000000000) (hpos : 0 < ws.length) (hl : ws.length ≤ 1048577) (k : Int) (hne : ¬ (ws.headD ⟨#[]⟩ = errorW ∧ ws.length = 2)) (hk : k = 12) {n : List Int} (hnr : readV (ws.drop 1) = some n) (hn : n.length = 1) (hjb : jbB k ws = false) :
  Calls Tryz.prog 45 #[.int .i64 k, v] w (FirstPost w0 L (firstR k ws)) := by
 obtain ⟨A, c, rfl, hc1, hc2⟩ := rd_shape (h w H)
 unfold maxLen at hc2
 have H1 := HL.bzA H
 have H2 := HL.bzA H1
 rw [World.size_alloc] at H2
 have G2 : _ = some (Obj.cells _ 32 (0, 0)) := H2.head
 have HS : HL w0 _ (bxz _ :: _) := HL.setWhole (cells := ansA zA (.slice none 0 0) (.slice none 0 0) (.slice none 0 0)) H2
 generalize hb4 : w.heap.size = b4 at *
 have h3 := (h.cons (bxz b4)).cons (bxz (b4 + 1))
 obtain ⟨s0, hs0⟩ : ∃ x, ws[0]? = some x := ⟨_, List.getElem?_eq_getElem hpos⟩
 have hhead : ws.headD ⟨#[]⟩ = s0 := by cases ws with
  | nil => simp at hs0
  | cons x r => simpa using hs0
 have HZ := Lib.hid hz; have HL1 := Lib.hid hl; have HHD := Lib.hid hhead; have HS0 := Lib.hid hs0; have HNE := Lib.hid hne; have HJB := Lib.hid hjb; have HK := Lib.hid hk; have HN := Lib.hid hnr; have HNL := Lib.hid hn
 clear H H1 H2 h hz hl hhead hs0 hne hjb hk hnr hn
 go_enter Tryz.func45, Tryz.ntmps45
 go_upto_region 2 with (refine wpList_store_row rfl 32 _ _ rfl (b4 + 1) (ansA zA (.slice none 0 0) (.slice none 0 0) (.slice none 0 0)) rfl rfl 32 _ G2 (ansA_size _ _ _ _) rfl (ansA_one _ _ _ _ _ _ _ _ _ _) ?_)
 dsimp only [Act.put]
 have HB4 := Lib.hid hb4
 clear hb4 G2
 generalize World.setRow _ _ _ = W at *
 obtain ⟨b1, o1, c1, hv, d0⟩ := str_at (h3 _ HS) HS0.out
 simp only [Value.slice.injEq] at hv
 obtain ⟨rfl, -, rfl⟩ := hv
 rw [Nat.add_zero] at d0
 have i0 : (0 : Int) < (ws.length : Int) := by omega
 go_cut [22] (fun t22 wc => t22 = .bool false ∧ W = wc)
 case first =>
  by_cases ge : s0 = errorW
  ·have q0 : (s0.toList == [101, 114, 114, 111, 114]) = true := by rw [ge]; decide +kernel
   have l2 : ((ws.length : Int) == 2) = false := by rw [beq_eq_false_iff_ne]; have h1 := HNE.out; have h2 := HHD.out; exact fun g => h1 ⟨by rw [h2]; exact ge, by omega⟩
   clear ge
   go_wp2
   go_meet
   exact ⟨rfl, rfl⟩
  ·have q0 : (s0.toList == [101, 114, 114, 111, 114]) = false := by rw [beq_eq_false_iff_ne]; exact fun e => ge (bytesSame (e.trans (by decide +kernel)))
   clear ge
   go_wp2
   go_meet
   exact ⟨rfl, rfl⟩
 case rest =>
  obtain ⟨rfl, rfl⟩ := hcut
  clear d0
  have q11 : (k == 11) = false := by rw [HK.out]; rfl
  have q1 : (k == 1) = false := by rw [HK.out]; rfl
  have q5 : (k == 5) = false := by rw [HK.out]; rfl
  have q9 : (k == 9) = false := by rw [HK.out]; rfl
  have q10 : (k == 10) = false := by rw [HK.out]; rfl
  have q12 : (k == 12) = true := by rw [HK.out]; rfl
  have q13 : (k == 13) = false := by rw [HK.out]; rfl
  have hfr0 : firstR k ws = match readV (ws.drop 1) with | none => (zA, false) | some n => (firstN k 0 n, true) := by
   have hj : jbB k ws = false := HJB.out
   unfold firstR
   rw [if_neg HNE.out, if_neg (by have h := HK.out; omega)]
   unfold jW stJ
   rw [hj]
   rfl
  obtain ⟨l1, hl1⟩ : ∃ l1, ws.length = l1 + 1 := ⟨ws.length - 1, by omega⟩
  obtain ⟨cc, rfl⟩ : ∃ cc, c = cc + 1 := ⟨c - 1, by omega⟩
  obtain ⟨A', hA'⟩ : ∃ A', (if cc = 0 then some (⟨b1, o1, none⟩ : Addr) else some ⟨b1, o1 + 1, none⟩) = A' := ⟨_, rfl⟩
  have hle : l1 ≤ cc := by omega
  have hwd : (ws.drop 1).length = l1 := by rw [List.length_drop, hl1]; rfl
  have hRs : Strs w0 (bxz (b4 + 1) :: bxz b4 :: L) (.slice A' l1 cc) (ws.drop 1) := fun W' HW => by
   have h1 : Rd 1 _ ws.length (strC ws) W' := h3 W' HW
   rw [hl1] at h1
   rw [hwd, strC, List.map_drop, ← hA']
   by_cases hz : cc = 0
   ·rw [if_pos hz]
    have := rd_suffix h1 1 (by omega) (a' := ⟨b1, o1, none⟩) (.inr (by omega))
    simpa using this
   ·rw [if_neg hz]
    have := rd_suffix h1 1 (by omega) (a' := ⟨b1, o1 + 1, none⟩) (.inl (by rw [add_plain]))
    simpa using this
  have hsz : ∀ x ∈ ws.drop 1, x.size ≤ 1000000000 := fun x hx => HZ.out x (List.mem_of_mem_drop hx)
  have hrd := Ref.read_ok HS hRs hsz (by rw [hwd]; have := HL1.out; omega)
  clear hsz hRs
  have hl0 : (0 : Int) < (l1 : Int) + 1 := by omega
  have hi1 : (1 : Int) ≤ (l1 : Int) + 1 := by omega
  have HWD := Lib.hid hwd; have HLL := Lib.hid hl1
  rw [hl1]
  clear hwd hl1 h3
  rw [show (RefReadsPost w0 (bxz (b4 + 1) :: bxz b4 :: L) (ws.drop 1)) = fun e w' => ∃ u, e = .returned (.tuple #[u, .bool true]) ∧ HL w0 w' (intsR w0.heap.size u n :: bxz (b4 + 1) :: bxz b4 :: L) from by funext e w'; unfold RefReadsPost; rw [HN.out]] at hrd
  have hfr : firstR k ws = (firstN k 0 n, true) := by rw [hfr0, HN.out]
  have HFR0 := Lib.hid hfr
  clear hfr hfr0
  have hn := HNL.out
  go_upto_region 18 with (go_at_call 46; refine hrd.mono ?_; rintro r w5 ⟨u, rfl, H5⟩; clear hrd HS)
  obtain ⟨An, cn, rfl, hn1, hn2⟩ := rd_shape (entRow _ H5)
  unfold maxLen at hn2
  have H6 : HL w0 w5 (bxz (b4 + 1) :: bxz b4 :: intsR w0.heap.size (.slice An n.length cn) n :: L) := H5.sel 3 [1, 2, 0]
  clear H5
  obtain ⟨x0, hx0⟩ : ∃ x, n[0]? = some x := ⟨_, List.getElem?_eq_getElem (by omega)⟩
  obtain ⟨bn, on, cn', hv, g0⟩ := int_at (entRow _ H6.tail.tail) hx0
  simp only [Value.slice.injEq] at hv
  obtain ⟨rfl, -, rfl⟩ := hv
  rw [Nat.add_zero] at g0
  have k0n : (0 : Int) < (n.length : Int) := by omega
  have k0m : 0 < n.length := by omega
  have hfr : firstR k ws = ({ zA with free := x0 }, true) := by
   rw [HFR0.out]
   unfold firstN
   rw [if_neg (by have h := HK.out; omega), if_neg (by have h := HK.out; omega), if_neg (by have h := HK.out; omega), if_pos ⟨HK.out, HNL.out⟩]
   simp [List.getD_eq_getElem?_getD, hx0]
  have HFR := Lib.hid hfr
  have lk : ((n.length : Int) == 1) = true := by simp; omega
  have m0 : w5.cell? ⟨b4 + 1, 15, none⟩ = some (.int .i64 0) := HL.cell H6 15
  have y0 : w5.frozen? ⟨b4 + 1, 15, none⟩ = false := HL.frozen H6 15
  have H7 : HL w0 _ (boxA (b4 + 1) { zA with free := x0 } (.slice none 0 0) (.slice none 0 0) (.slice none 0 0) :: bxz b4 :: _) := HL.setCell H6 15 (.int .i64 x0)
  clear hfr hx0 hn
  go_upto_region 31 with (fail)
  clear m0 y0 g0 H6
  generalize World.setCell _ _ _ = W7 at *
  have G1 : _ = some (Obj.cells (ansA { zA with free := x0 } (.slice none 0 0) (.slice none 0 0) (.slice none 0 0)) 32 (0, 0)) := H7.head
  have G3 : _ = some (Obj.cells _ 32 (0, 0)) := H7.tail.head
  have HT := HL.setWhole (cells := ansA { zA with free := x0 } (.slice none 0 0) (.slice none 0 0) (.slice none 0 0)) H7.tail
  go_wp2_with (first
   | (have g1 := G1; refine wpList_load_row rfl 32 _ rfl (b4 + 1) rfl 32 _ (0, 0) _ g1 Tryz.underlying32 rfl (ansA_size _ _ _ _) ?_; clear g1 G1)
   | (refine wpList_store_row rfl 32 _ _ rfl b4 (ansA { zA with free := x0 } (.slice none 0 0) (.slice none 0 0) (.slice none 0 0)) rfl rfl 32 _ G3 (ansA_size _ _ _ _) rfl (ansA_one _ _ _ _ _ _ _ _ _ _) ?_))
  have G5 := HT.head
  refine bodyPost_ret (results_two (by rfl) _ _ b4 32 _ (0, 0) _ _ (by rfl) (by rfl) G5 Tryz.underlying32 rfl (ansA_size _ _ _ _)) rfl ?_
  exact firstPost_none HFR.out rfl HT.tail.tail
end
open Go.RowKit Go.Proofs.HL Go.Proofs.An
section
variable {w0 w : World} {L : List At} {v : Value}
theorem Ref.fi_10 (hD : Doors w0) (H : HL w0 w L) {ws : List ByteArray} (h : Strs w0 L v ws) (hz : ∀ s ∈ ws, s.size ≤ 1000000000) (hpos : 0 < ws.length) (hl : ws.length ≤ 1048577) (k : Int) (hne : ¬ (ws.headD ⟨#[]⟩ = errorW ∧ ws.length = 2)) (hk : k = 10) {n : List Int} (hnr : readV (ws.drop 1) = some n) (hn : n.length = 2) (hjb : jbB k ws = false) :
  Calls Tryz.prog 45 #[.int .i64 k, v] w (FirstPost w0 L (firstR k ws)) := by
 obtain ⟨A, c, rfl, hc1, hc2⟩ := rd_shape (h w H)
 unfold maxLen at hc2
 have H1 := HL.bzA H
 have H2 := HL.bzA H1
 rw [World.size_alloc] at H2
 have G2 : _ = some (Obj.cells _ 32 (0, 0)) := H2.head
 have HS : HL w0 _ (bxz _ :: _) := HL.setWhole (cells := ansA zA (.slice none 0 0) (.slice none 0 0) (.slice none 0 0)) H2
 generalize hb4 : w.heap.size = b4 at *
 have h3 := (h.cons (bxz b4)).cons (bxz (b4 + 1))
 obtain ⟨s0, hs0⟩ : ∃ x, ws[0]? = some x := ⟨_, List.getElem?_eq_getElem hpos⟩
 have hhead : ws.headD ⟨#[]⟩ = s0 := by cases ws with
  | nil => simp at hs0
  | cons x r => simpa using hs0
 have HZ := Lib.hid hz; have HL1 := Lib.hid hl; have HHD := Lib.hid hhead; have HS0 := Lib.hid hs0; have HNE := Lib.hid hne; have HJB := Lib.hid hjb; have HK := Lib.hid hk; have HN := Lib.hid hnr; have HNL := Lib.hid hn
 clear H H1 H2 h hz hl hhead hs0 hne hjb hk hnr hn
 go_enter Tryz.func45, Tryz.ntmps45
 go_upto_region 2 with (refine wpList_store_row rfl 32 _ _ rfl (b4 + 1) (ansA zA (.slice none 0 0) (.slice none 0 0) (.slice none 0 0)) rfl rfl 32 _ G2 (ansA_size _ _ _ _) rfl (ansA_one _ _ _ _ _ _ _ _ _ _) ?_)
 dsimp only [Act.put]
 have HB4 := Lib.hid hb4
 clear hb4 G2
 generalize World.setRow _ _ _ = W at *
 obtain ⟨b1, o1, c1, hv, d0⟩ := str_at (h3 _ HS) HS0.out
 simp only [Value.slice.injEq] at hv
 obtain ⟨rfl, -, rfl⟩ := hv
 rw [Nat.add_zero] at d0
 have i0 : (0 : Int) < (ws.length : Int) := by omega
 go_cut [22] (fun t22 wc => t22 = .bool false ∧ W = wc)
 case first =>
  by_cases ge : s0 = errorW
  ·have q0 : (s0.toList == [101, 114, 114, 111, 114]) = true := by rw [ge]; decide +kernel
   have l2 : ((ws.length : Int) == 2) = false := by rw [beq_eq_false_iff_ne]; have h1 := HNE.out; have h2 := HHD.out; exact fun g => h1 ⟨by rw [h2]; exact ge, by omega⟩
   clear ge
   go_wp2
   go_meet
   exact ⟨rfl, rfl⟩
  ·have q0 : (s0.toList == [101, 114, 114, 111, 114]) = false := by rw [beq_eq_false_iff_ne]; exact fun e => ge (bytesSame (e.trans (by decide +kernel)))
   clear ge
   go_wp2
   go_meet
   exact ⟨rfl, rfl⟩
 case rest =>
  obtain ⟨rfl, rfl⟩ := hcut
  clear d0
  have q11 : (k == 11) = false := by rw [HK.out]; rfl
  have q1 : (k == 1) = false := by rw [HK.out]; rfl
  have q5 : (k == 5) = false := by rw [HK.out]; rfl
  have q9 : (k == 9) = false := by rw [HK.out]; rfl
  have q10 : (k == 10) = true := by rw [HK.out]; rfl
  have q12 : (k == 12) = false := by rw [HK.out]; rfl
  have q13 : (k == 13) = false := by rw [HK.out]; rfl
  have hfr0 : firstR k ws = match readV (ws.drop 1) with | none => (zA, false) | some n => (firstN k 0 n, true) := by
   have hj : jbB k ws = false := HJB.out
   unfold firstR
   rw [if_neg HNE.out, if_neg (by have h := HK.out; omega)]
   unfold jW stJ
   rw [hj]
   rfl
  obtain ⟨l1, hl1⟩ : ∃ l1, ws.length = l1 + 1 := ⟨ws.length - 1, by omega⟩
  obtain ⟨cc, rfl⟩ : ∃ cc, c = cc + 1 := ⟨c - 1, by omega⟩
  obtain ⟨A', hA'⟩ : ∃ A', (if cc = 0 then some (⟨b1, o1, none⟩ : Addr) else some ⟨b1, o1 + 1, none⟩) = A' := ⟨_, rfl⟩
  have hle : l1 ≤ cc := by omega
  have hwd : (ws.drop 1).length = l1 := by rw [List.length_drop, hl1]; rfl
  have hRs : Strs w0 (bxz (b4 + 1) :: bxz b4 :: L) (.slice A' l1 cc) (ws.drop 1) := fun W' HW => by
   have h1 : Rd 1 _ ws.length (strC ws) W' := h3 W' HW
   rw [hl1] at h1
   rw [hwd, strC, List.map_drop, ← hA']
   by_cases hz : cc = 0
   ·rw [if_pos hz]
    have := rd_suffix h1 1 (by omega) (a' := ⟨b1, o1, none⟩) (.inr (by omega))
    simpa using this
   ·rw [if_neg hz]
    have := rd_suffix h1 1 (by omega) (a' := ⟨b1, o1 + 1, none⟩) (.inl (by rw [add_plain]))
    simpa using this
  have hsz : ∀ x ∈ ws.drop 1, x.size ≤ 1000000000 := fun x hx => HZ.out x (List.mem_of_mem_drop hx)
  have hrd := Ref.read_ok HS hRs hsz (by rw [hwd]; have := HL1.out; omega)
  clear hsz hRs
  have hl0 : (0 : Int) < (l1 : Int) + 1 := by omega
  have hi1 : (1 : Int) ≤ (l1 : Int) + 1 := by omega
  have HWD := Lib.hid hwd; have HLL := Lib.hid hl1
  rw [hl1]
  clear hwd hl1 h3
  rw [show (RefReadsPost w0 (bxz (b4 + 1) :: bxz b4 :: L) (ws.drop 1)) = fun e w' => ∃ u, e = .returned (.tuple #[u, .bool true]) ∧ HL w0 w' (intsR w0.heap.size u n :: bxz (b4 + 1) :: bxz b4 :: L) from by funext e w'; unfold RefReadsPost; rw [HN.out]] at hrd
  have hfr : firstR k ws = (firstN k 0 n, true) := by rw [hfr0, HN.out]
  have HFR0 := Lib.hid hfr
  clear hfr hfr0
  have hn := HNL.out
  go_upto_region 18 with (go_at_call 46; refine hrd.mono ?_; rintro r w5 ⟨u, rfl, H5⟩; clear hrd HS)
  obtain ⟨An, cn, rfl, hn1, hn2⟩ := rd_shape (entRow _ H5)
  unfold maxLen at hn2
  have H6 : HL w0 w5 (bxz (b4 + 1) :: bxz b4 :: intsR w0.heap.size (.slice An n.length cn) n :: L) := H5.sel 3 [1, 2, 0]
  clear H5
  obtain ⟨x0, hx0⟩ : ∃ x, n[0]? = some x := ⟨_, List.getElem?_eq_getElem (by omega)⟩
  obtain ⟨bn, on, cn', hv, g0⟩ := int_at (entRow _ H6.tail.tail) hx0
  simp only [Value.slice.injEq] at hv
  obtain ⟨rfl, -, rfl⟩ := hv
  rw [Nat.add_zero] at g0
  obtain ⟨x1, hx1⟩ : ∃ x, n[1]? = some x := ⟨_, List.getElem?_eq_getElem (by omega)⟩
  obtain ⟨b', o', c', hv, g1⟩ := int_at (entRow _ H6.tail.tail) hx1
  simp only [Value.slice.injEq, Option.some.injEq, Addr.mk.injEq] at hv
  obtain ⟨⟨rfl, rfl, -⟩, -, -⟩ := hv
  have k0n : (0 : Int) < (n.length : Int) := by omega
  have k0m : 0 < n.length := by omega
  have k1n : (1 : Int) < (n.length : Int) := by omega
  have k1m : 1 < n.length := by omega
  have hfr : firstR k ws = ({ zA with holder := x0, shadow := x1 }, true) := by
   rw [HFR0.out]
   unfold firstN
   rw [if_neg (by have h := HK.out; omega), if_neg (by have h := HK.out; omega), if_pos ⟨HK.out, HNL.out⟩]
   simp [List.getD_eq_getElem?_getD, hx0, hx1]
  have HFR := Lib.hid hfr
  have lk : ((n.length : Int) == 2) = true := by simp; omega
  have hSn : ∀ W' A' B', HL w0 W' (A' :: B' :: intsR w0.heap.size (.slice (some ⟨bn, on, none⟩) n.length cn) n :: L) → W'.cell? ⟨bn, on, none⟩ = some (.int .i64 x0) ∧ W'.cell? ⟨bn, on + 1, none⟩ = some (.int .i64 x1) := fun W' A' B' HW => by
   obtain ⟨b', o', c', hv, g1⟩ := int_at (entRow _ HW.tail.tail) hx0
   simp only [Value.slice.injEq, Option.some.injEq, Addr.mk.injEq] at hv
   obtain ⟨⟨rfl, rfl, -⟩, -, -⟩ := hv
   obtain ⟨b', o', c', hv, g2⟩ := int_at (entRow _ HW.tail.tail) hx1
   simp only [Value.slice.injEq, Option.some.injEq, Addr.mk.injEq] at hv
   obtain ⟨⟨rfl, rfl, -⟩, -, -⟩ := hv
   rw [Nat.add_zero] at g1
   exact ⟨g1, g2⟩
  clear hfr hx0 hx1 hn g0 g1
  go_upto_region 25 with (fail)
  refine wp_region_held_drew (S := fun w' => w'.cell? ⟨bn, on, none⟩ = some (.int .i64 x0) ∧ w'.cell? ⟨bn, on + 1, none⟩ = some (.int .i64 x1)) (by kernel_rfl) (hSn _ _ _ H6.drew) (fun hHeld => ?_)
  have Hd := H6.drew
  clear H6
  generalize World.drew _ = Wd at *
  have m0 := HL.cell Hd 16
  have y0 := HL.frozen Hd 16
  refine ztk 0 ?_
  simp only [Act.put, zp]
  refine ztk 1 ?_
  simp only [Act.put, zp]
  refine ztk 2 ?_
  simp only [Act.put, zp]
  refine ztk 3 ?_
  simp only [Act.put, zp]
  refine ztk 4 ?_
  simp only [Act.put, zp]
  refine ztk 5 ?_
  simp only [Act.put, zp]
  refine ztk 6 ?_
  simp only [Act.put, zp]
  refine zry 7 (fun K' hK' => ?_)
  dsimp only [zg1, zg3, zg2]
  go_simp
  have HT7 : HL w0 _ (boxA (b4 + 1) { zA with holder := x0 } (.slice none 0 0) (.slice none 0 0) (.slice none 0 0) :: _) := HL.setCell Hd 16 (.int .i64 x0)
  have m1 := HL.cell HT7 17
  have y1 := HL.frozen HT7 17
  refine hK'.out _ _ (hSn _ _ _ HT7) (fun hHeld => ?_)
  clear hK' K'
  try simp only [Act.put, zp]
  refine ztk 8 ?_
  simp only [Act.put, zp]
  refine zry 9 (fun K' hK' => ?_)
  dsimp only [zg1, zg3, zg2]
  go_simp
  have HT9 : HL w0 _ (boxA (b4 + 1) { zA with holder := x0, shadow := x1 } (.slice none 0 0) (.slice none 0 0) (.slice none 0 0) :: _) := HL.setCell HT7 17 (.int .i64 x1)
  refine hK'.out _ _ (hSn _ _ _ HT9) (fun hHeld => ?_)
  clear hK' K'
  try simp only [Act.put, zp]
  refine wpAnyH_done (by kernel_rfl) ?_ _
  clear m0 m1 y0 y1 HT7 Hd hHeld
  go_upto_region 31 with (fail)
  generalize (World.setCell (World.setCell Wd _ _) _ _) = W7 at *
  have G1 : _ = some (Obj.cells (ansA { zA with holder := x0, shadow := x1 } (.slice none 0 0) (.slice none 0 0) (.slice none 0 0)) 32 (0, 0)) := HT9.head
  have G3 : _ = some (Obj.cells _ 32 (0, 0)) := HT9.tail.head
  have HT := HL.setWhole (cells := ansA { zA with holder := x0, shadow := x1 } (.slice none 0 0) (.slice none 0 0) (.slice none 0 0)) HT9.tail
  go_wp2_with (first
   | (have g1 := G1; refine wpList_load_row rfl 32 _ rfl (b4 + 1) rfl 32 _ (0, 0) _ g1 Tryz.underlying32 rfl (ansA_size _ _ _ _) ?_; clear g1 G1)
   | (refine wpList_store_row rfl 32 _ _ rfl b4 (ansA { zA with holder := x0, shadow := x1 } (.slice none 0 0) (.slice none 0 0) (.slice none 0 0)) rfl rfl 32 _ G3 (ansA_size _ _ _ _) rfl (ansA_one _ _ _ _ _ _ _ _ _ _) ?_))
  have G5 := HT.head
  refine bodyPost_ret (results_two (by rfl) _ _ b4 32 _ (0, 0) _ _ (by rfl) (by rfl) G5 Tryz.underlying32 rfl (ansA_size _ _ _ _)) rfl ?_
  exact firstPost_none HFR.out rfl HT.tail.tail
theorem Ref.fi_13 (hD : Doors w0) (H : HL w0 w L) {ws : List ByteArray} (h : Strs w0 L v ws) (hz : ∀ s ∈ ws, s.size ≤ 1000000000) (hpos : 0 < ws.length) (hl : ws.length ≤ 1048577) (k : Int) (hne : ¬ (ws.headD ⟨#[]⟩ = errorW ∧ ws.length = 2)) (hk : k = 13) {n : List Int} (hnr : readV (ws.drop 1) = some n) (hn : n.length = 9) (hjb : jbB k ws = false) :
  Calls Tryz.prog 45 #[.int .i64 k, v] w (FirstPost w0 L (firstR k ws)) := by
 obtain ⟨A, c, rfl, hc1, hc2⟩ := rd_shape (h w H)
 unfold maxLen at hc2
 have H1 := HL.bzA H
 have H2 := HL.bzA H1
 rw [World.size_alloc] at H2
 have G2 : _ = some (Obj.cells _ 32 (0, 0)) := H2.head
 have HS : HL w0 _ (bxz _ :: _) := HL.setWhole (cells := ansA zA (.slice none 0 0) (.slice none 0 0) (.slice none 0 0)) H2
 generalize hb4 : w.heap.size = b4 at *
 have h3 := (h.cons (bxz b4)).cons (bxz (b4 + 1))
 obtain ⟨s0, hs0⟩ : ∃ x, ws[0]? = some x := ⟨_, List.getElem?_eq_getElem hpos⟩
 have hhead : ws.headD ⟨#[]⟩ = s0 := by cases ws with
  | nil => simp at hs0
  | cons x r => simpa using hs0
 have HZ := Lib.hid hz; have HL1 := Lib.hid hl; have HHD := Lib.hid hhead; have HS0 := Lib.hid hs0; have HNE := Lib.hid hne; have HJB := Lib.hid hjb; have HK := Lib.hid hk; have HN := Lib.hid hnr; have HNL := Lib.hid hn
 clear H H1 H2 h hz hl hhead hs0 hne hjb hk hnr hn
 go_enter Tryz.func45, Tryz.ntmps45
 go_upto_region 2 with (refine wpList_store_row rfl 32 _ _ rfl (b4 + 1) (ansA zA (.slice none 0 0) (.slice none 0 0) (.slice none 0 0)) rfl rfl 32 _ G2 (ansA_size _ _ _ _) rfl (ansA_one _ _ _ _ _ _ _ _ _ _) ?_)
 dsimp only [Act.put]
 have HB4 := Lib.hid hb4
 clear hb4 G2
 generalize World.setRow _ _ _ = W at *
 obtain ⟨b1, o1, c1, hv, d0⟩ := str_at (h3 _ HS) HS0.out
 simp only [Value.slice.injEq] at hv
 obtain ⟨rfl, -, rfl⟩ := hv
 rw [Nat.add_zero] at d0
 have i0 : (0 : Int) < (ws.length : Int) := by omega
 go_cut [22] (fun t22 wc => t22 = .bool false ∧ W = wc)
 case first =>
  by_cases ge : s0 = errorW
  ·have q0 : (s0.toList == [101, 114, 114, 111, 114]) = true := by rw [ge]; decide +kernel
   have l2 : ((ws.length : Int) == 2) = false := by rw [beq_eq_false_iff_ne]; have h1 := HNE.out; have h2 := HHD.out; exact fun g => h1 ⟨by rw [h2]; exact ge, by omega⟩
   clear ge
   go_wp2
   go_meet
   exact ⟨rfl, rfl⟩
  ·have q0 : (s0.toList == [101, 114, 114, 111, 114]) = false := by rw [beq_eq_false_iff_ne]; exact fun e => ge (bytesSame (e.trans (by decide +kernel)))
   clear ge
   go_wp2
   go_meet
   exact ⟨rfl, rfl⟩
 case rest =>
  obtain ⟨rfl, rfl⟩ := hcut
  clear d0
  have q11 : (k == 11) = false := by rw [HK.out]; rfl
  have q1 : (k == 1) = false := by rw [HK.out]; rfl
  have q5 : (k == 5) = false := by rw [HK.out]; rfl
  have q9 : (k == 9) = false := by rw [HK.out]; rfl
  have q10 : (k == 10) = false := by rw [HK.out]; rfl
  have q12 : (k == 12) = false := by rw [HK.out]; rfl
  have q13 : (k == 13) = true := by rw [HK.out]; rfl
  have hfr0 : firstR k ws = match readV (ws.drop 1) with | none => (zA, false) | some n => (firstN k 0 n, true) := by
   have hj : jbB k ws = false := HJB.out
   unfold firstR
   rw [if_neg HNE.out, if_neg (by have h := HK.out; omega)]
   unfold jW stJ
   rw [hj]
   rfl
  obtain ⟨l1, hl1⟩ : ∃ l1, ws.length = l1 + 1 := ⟨ws.length - 1, by omega⟩
  obtain ⟨cc, rfl⟩ : ∃ cc, c = cc + 1 := ⟨c - 1, by omega⟩
  obtain ⟨A', hA'⟩ : ∃ A', (if cc = 0 then some (⟨b1, o1, none⟩ : Addr) else some ⟨b1, o1 + 1, none⟩) = A' := ⟨_, rfl⟩
  have hle : l1 ≤ cc := by omega
  have hwd : (ws.drop 1).length = l1 := by rw [List.length_drop, hl1]; rfl
  have hRs : Strs w0 (bxz (b4 + 1) :: bxz b4 :: L) (.slice A' l1 cc) (ws.drop 1) := fun W' HW => by
   have h1 : Rd 1 _ ws.length (strC ws) W' := h3 W' HW
   rw [hl1] at h1
   rw [hwd, strC, List.map_drop, ← hA']
   by_cases hz : cc = 0
   ·rw [if_pos hz]
    have := rd_suffix h1 1 (by omega) (a' := ⟨b1, o1, none⟩) (.inr (by omega))
    simpa using this
   ·rw [if_neg hz]
    have := rd_suffix h1 1 (by omega) (a' := ⟨b1, o1 + 1, none⟩) (.inl (by rw [add_plain]))
    simpa using this
  have hsz : ∀ x ∈ ws.drop 1, x.size ≤ 1000000000 := fun x hx => HZ.out x (List.mem_of_mem_drop hx)
  have hrd := Ref.read_ok HS hRs hsz (by rw [hwd]; have := HL1.out; omega)
  clear hsz hRs
  have hl0 : (0 : Int) < (l1 : Int) + 1 := by omega
  have hi1 : (1 : Int) ≤ (l1 : Int) + 1 := by omega
  have HWD := Lib.hid hwd; have HLL := Lib.hid hl1
  rw [hl1]
  clear hwd hl1 h3
  rw [show (RefReadsPost w0 (bxz (b4 + 1) :: bxz b4 :: L) (ws.drop 1)) = fun e w' => ∃ u, e = .returned (.tuple #[u, .bool true]) ∧ HL w0 w' (intsR w0.heap.size u n :: bxz (b4 + 1) :: bxz b4 :: L) from by funext e w'; unfold RefReadsPost; rw [HN.out]] at hrd
  have hfr : firstR k ws = (firstN k 0 n, true) := by rw [hfr0, HN.out]
  have HFR0 := Lib.hid hfr
  clear hfr hfr0
  have hn := HNL.out
  go_upto_region 18 with (go_at_call 46; refine hrd.mono ?_; rintro r w5 ⟨u, rfl, H5⟩; clear hrd HS)
  obtain ⟨An, cn, rfl, hn1, hn2⟩ := rd_shape (entRow _ H5)
  unfold maxLen at hn2
  have H6 : HL w0 w5 (bxz (b4 + 1) :: bxz b4 :: intsR w0.heap.size (.slice An n.length cn) n :: L) := H5.sel 3 [1, 2, 0]
  clear H5
  obtain ⟨x0, hx0⟩ : ∃ x, n[0]? = some x := ⟨_, List.getElem?_eq_getElem (by omega)⟩
  obtain ⟨bn, on, cn', hv, g0⟩ := int_at (entRow _ H6.tail.tail) hx0
  simp only [Value.slice.injEq] at hv
  obtain ⟨rfl, -, rfl⟩ := hv
  rw [Nat.add_zero] at g0
  obtain ⟨x1, hx1⟩ : ∃ x, n[1]? = some x := ⟨_, List.getElem?_eq_getElem (by omega)⟩
  obtain ⟨b', o', c', hv, g1⟩ := int_at (entRow _ H6.tail.tail) hx1
  simp only [Value.slice.injEq, Option.some.injEq, Addr.mk.injEq] at hv
  obtain ⟨⟨rfl, rfl, -⟩, -, -⟩ := hv
  obtain ⟨x2, hx2⟩ : ∃ x, n[2]? = some x := ⟨_, List.getElem?_eq_getElem (by omega)⟩
  obtain ⟨b', o', c', hv, g2⟩ := int_at (entRow _ H6.tail.tail) hx2
  simp only [Value.slice.injEq, Option.some.injEq, Addr.mk.injEq] at hv
  obtain ⟨⟨rfl, rfl, -⟩, -, -⟩ := hv
  obtain ⟨x3, hx3⟩ : ∃ x, n[3]? = some x := ⟨_, List.getElem?_eq_getElem (by omega)⟩
  obtain ⟨b', o', c', hv, g3⟩ := int_at (entRow _ H6.tail.tail) hx3
  simp only [Value.slice.injEq, Option.some.injEq, Addr.mk.injEq] at hv
  obtain ⟨⟨rfl, rfl, -⟩, -, -⟩ := hv
  obtain ⟨x4, hx4⟩ : ∃ x, n[4]? = some x := ⟨_, List.getElem?_eq_getElem (by omega)⟩
  obtain ⟨b', o', c', hv, g4⟩ := int_at (entRow _ H6.tail.tail) hx4
  simp only [Value.slice.injEq, Option.some.injEq, Addr.mk.injEq] at hv
  obtain ⟨⟨rfl, rfl, -⟩, -, -⟩ := hv
  obtain ⟨x5, hx5⟩ : ∃ x, n[5]? = some x := ⟨_, List.getElem?_eq_getElem (by omega)⟩
  obtain ⟨b', o', c', hv, g5⟩ := int_at (entRow _ H6.tail.tail) hx5
  simp only [Value.slice.injEq, Option.some.injEq, Addr.mk.injEq] at hv
  obtain ⟨⟨rfl, rfl, -⟩, -, -⟩ := hv
  obtain ⟨x6, hx6⟩ : ∃ x, n[6]? = some x := ⟨_, List.getElem?_eq_getElem (by omega)⟩
  obtain ⟨b', o', c', hv, g6⟩ := int_at (entRow _ H6.tail.tail) hx6
  simp only [Value.slice.injEq, Option.some.injEq, Addr.mk.injEq] at hv
  obtain ⟨⟨rfl, rfl, -⟩, -, -⟩ := hv
  obtain ⟨x7, hx7⟩ : ∃ x, n[7]? = some x := ⟨_, List.getElem?_eq_getElem (by omega)⟩
  obtain ⟨b', o', c', hv, g7⟩ := int_at (entRow _ H6.tail.tail) hx7
  simp only [Value.slice.injEq, Option.some.injEq, Addr.mk.injEq] at hv
  obtain ⟨⟨rfl, rfl, -⟩, -, -⟩ := hv
  obtain ⟨x8, hx8⟩ : ∃ x, n[8]? = some x := ⟨_, List.getElem?_eq_getElem (by omega)⟩
  obtain ⟨b', o', c', hv, g8⟩ := int_at (entRow _ H6.tail.tail) hx8
  simp only [Value.slice.injEq, Option.some.injEq, Addr.mk.injEq] at hv
  obtain ⟨⟨rfl, rfl, -⟩, -, -⟩ := hv
  have k0n : (0 : Int) < (n.length : Int) := by omega
  have k0m : 0 < n.length := by omega
  have k1n : (1 : Int) < (n.length : Int) := by omega
  have k1m : 1 < n.length := by omega
  have k2n : (2 : Int) < (n.length : Int) := by omega
  have k2m : 2 < n.length := by omega
  have k3n : (3 : Int) < (n.length : Int) := by omega
  have k3m : 3 < n.length := by omega
  have k4n : (4 : Int) < (n.length : Int) := by omega
  have k4m : 4 < n.length := by omega
  have k5n : (5 : Int) < (n.length : Int) := by omega
  have k5m : 5 < n.length := by omega
  have k6n : (6 : Int) < (n.length : Int) := by omega
  have k6m : 6 < n.length := by omega
  have k7n : (7 : Int) < (n.length : Int) := by omega
  have k7m : 7 < n.length := by omega
  have k8n : (8 : Int) < (n.length : Int) := by omega
  have k8m : 8 < n.length := by omega
  have hfr : firstR k ws = ({ zA with cfg := ⟨x0, x1, x2, x3, x4, x5, x6, x7⟩, bound := x8 }, true) := by
   rw [HFR0.out]
   unfold firstN
   rw [if_neg (by have h := HK.out; omega), if_neg (by have h := HK.out; omega), if_neg (by have h := HK.out; omega), if_neg (by have h := HK.out; omega), if_pos ⟨HK.out, HNL.out⟩]
   simp [List.getD_eq_getElem?_getD, hx0, hx1, hx2, hx3, hx4, hx5, hx6, hx7, hx8]
  have HFR := Lib.hid hfr
  have lk : ((n.length : Int) == 9) = true := by simp; omega
  have HX8 := Lib.hid hx8
  clear hfr hn hx0 hx1 hx2 hx3 hx4 hx5 hx6 hx7 hx8
  go_upto_region 29 with (fail)
  refine wp_region_cut 26 (by kernel_rfl) (by kernel_rfl) ?_
  simp only [List.take_succ_cons, List.take_zero, List.drop_succ_cons, List.drop_zero]
  repeat (go_big_quiet_step ((fail)))
  refine wpQuiet_nil ?_
  intro nq
  have Hd := H6.drewN nq
  clear H6 g0 g1 g2 g3 g4 g5 g6 g7 g8
  generalize World.drewN _ nq = Wd at *
  have m0 : World.cell? _ ⟨b4 + 1, 18, none⟩ = some (.int .i64 0) := HL.cell Hd 18
  have y0 : Wd.frozen? ⟨b4 + 1, 18, none⟩ = false := HL.frozen Hd 18
  have m1 : World.cell? _ ⟨b4 + 1, 19, none⟩ = some (.int .i64 0) := HL.cell Hd 19
  have y1 : Wd.frozen? ⟨b4 + 1, 19, none⟩ = false := HL.frozen Hd 19
  have m2 : World.cell? _ ⟨b4 + 1, 20, none⟩ = some (.int .i64 0) := HL.cell Hd 20
  have y2 : Wd.frozen? ⟨b4 + 1, 20, none⟩ = false := HL.frozen Hd 20
  have m3 : World.cell? _ ⟨b4 + 1, 21, none⟩ = some (.int .i64 0) := HL.cell Hd 21
  have y3 : Wd.frozen? ⟨b4 + 1, 21, none⟩ = false := HL.frozen Hd 21
  have m4 : World.cell? _ ⟨b4 + 1, 22, none⟩ = some (.int .i64 0) := HL.cell Hd 22
  have y4 : Wd.frozen? ⟨b4 + 1, 22, none⟩ = false := HL.frozen Hd 22
  have m5 : World.cell? _ ⟨b4 + 1, 23, none⟩ = some (.int .i64 0) := HL.cell Hd 23
  have y5 : Wd.frozen? ⟨b4 + 1, 23, none⟩ = false := HL.frozen Hd 23
  have m6 : World.cell? _ ⟨b4 + 1, 24, none⟩ = some (.int .i64 0) := HL.cell Hd 24
  have y6 : Wd.frozen? ⟨b4 + 1, 24, none⟩ = false := HL.frozen Hd 24
  have m7 : World.cell? _ ⟨b4 + 1, 25, none⟩ = some (.int .i64 0) := HL.cell Hd 25
  have y7 : Wd.frozen? ⟨b4 + 1, 25, none⟩ = false := HL.frozen Hd 25
  have t0 : HL w0 _ (boxA (b4 + 1) { zA with cfg := ⟨x0, 0, 0, 0, 0, 0, 0, 0⟩ } (.slice none 0 0) (.slice none 0 0) (.slice none 0 0) :: _) := HL.setCell Hd 18 (.int .i64 x0)
  have t1 : HL w0 _ (boxA (b4 + 1) { zA with cfg := ⟨x0, x1, 0, 0, 0, 0, 0, 0⟩ } (.slice none 0 0) (.slice none 0 0) (.slice none 0 0) :: _) := HL.setCell t0 19 (.int .i64 x1)
  have t2 : HL w0 _ (boxA (b4 + 1) { zA with cfg := ⟨x0, x1, x2, 0, 0, 0, 0, 0⟩ } (.slice none 0 0) (.slice none 0 0) (.slice none 0 0) :: _) := HL.setCell t1 20 (.int .i64 x2)
  have t3 : HL w0 _ (boxA (b4 + 1) { zA with cfg := ⟨x0, x1, x2, x3, 0, 0, 0, 0⟩ } (.slice none 0 0) (.slice none 0 0) (.slice none 0 0) :: _) := HL.setCell t2 21 (.int .i64 x3)
  have t4 : HL w0 _ (boxA (b4 + 1) { zA with cfg := ⟨x0, x1, x2, x3, x4, 0, 0, 0⟩ } (.slice none 0 0) (.slice none 0 0) (.slice none 0 0) :: _) := HL.setCell t3 22 (.int .i64 x4)
  have t5 : HL w0 _ (boxA (b4 + 1) { zA with cfg := ⟨x0, x1, x2, x3, x4, x5, 0, 0⟩ } (.slice none 0 0) (.slice none 0 0) (.slice none 0 0) :: _) := HL.setCell t4 23 (.int .i64 x5)
  have t6 : HL w0 _ (boxA (b4 + 1) { zA with cfg := ⟨x0, x1, x2, x3, x4, x5, x6, 0⟩ } (.slice none 0 0) (.slice none 0 0) (.slice none 0 0) :: _) := HL.setCell t5 24 (.int .i64 x6)
  have t7 : HL w0 _ (boxA (b4 + 1) { zA with cfg := ⟨x0, x1, x2, x3, x4, x5, x6, x7⟩ } (.slice none 0 0) (.slice none 0 0) (.slice none 0 0) :: _) := HL.setCell t6 25 (.int .i64 x7)
  go_upto_region 30 with (fail)
  clear m0 y0 m1 y1 m2 y2 m3 y3 m4 y4 m5 y5 m6 y6 m7 y7 t0 t1 t2 t3 t4 t5 t6 Hd
  generalize World.setCell _ _ _ = W7 at *
  obtain ⟨b', o', c', hv, g8⟩ := int_at (entRow _ t7.tail.tail) HX8.out
  simp only [Value.slice.injEq, Option.some.injEq, Addr.mk.injEq] at hv
  obtain ⟨⟨rfl, rfl, -⟩, -, -⟩ := hv
  have m8 : W7.cell? ⟨b4 + 1, 26, none⟩ = some (.int .i64 0) := HL.cell t7 26
  have y8 : W7.frozen? ⟨b4 + 1, 26, none⟩ = false := HL.frozen t7 26
  have H8 : HL w0 _ (boxA (b4 + 1) { zA with cfg := ⟨x0, x1, x2, x3, x4, x5, x6, x7⟩, bound := x8 } (.slice none 0 0) (.slice none 0 0) (.slice none 0 0) :: bxz b4 :: _) := HL.setCell t7 26 (.int .i64 x8)
  go_upto_region 31 with (fail)
  clear m8 y8 g8 t7
  generalize World.setCell _ _ _ = W8 at *
  have G1 : _ = some (Obj.cells (ansA { zA with cfg := ⟨x0, x1, x2, x3, x4, x5, x6, x7⟩, bound := x8 } (.slice none 0 0) (.slice none 0 0) (.slice none 0 0)) 32 (0, 0)) := H8.head
  have G3 : _ = some (Obj.cells _ 32 (0, 0)) := H8.tail.head
  have HT := HL.setWhole (cells := ansA { zA with cfg := ⟨x0, x1, x2, x3, x4, x5, x6, x7⟩, bound := x8 } (.slice none 0 0) (.slice none 0 0) (.slice none 0 0)) H8.tail
  go_wp2_with (first
   | (have g1 := G1; refine wpList_load_row rfl 32 _ rfl (b4 + 1) rfl 32 _ (0, 0) _ g1 Tryz.underlying32 rfl (ansA_size _ _ _ _) ?_; clear g1 G1)
   | (refine wpList_store_row rfl 32 _ _ rfl b4 (ansA { zA with cfg := ⟨x0, x1, x2, x3, x4, x5, x6, x7⟩, bound := x8 } (.slice none 0 0) (.slice none 0 0) (.slice none 0 0)) rfl rfl 32 _ G3 (ansA_size _ _ _ _) rfl (ansA_one _ _ _ _ _ _ _ _ _ _) ?_))
  have G5 := HT.head
  refine bodyPost_ret (results_two (by rfl) _ _ b4 32 _ (0, 0) _ _ (by rfl) (by rfl) G5 Tryz.underlying32 rfl (ansA_size _ _ _ _)) rfl ?_
  exact firstPost_none HFR.out rfl HT.tail.tail
end
open Go.RowKit Go.Proofs.HL Go.Proofs.An
section
variable {w0 w : World} {L : List At} {v : Value}
theorem Ref.fi_no1 (hD : Doors w0) (H : HL w0 w L) {ws : List ByteArray} (h : Strs w0 L v ws) (hz : ∀ s ∈ ws, s.size ≤ 1000000000) (hpos : 0 < ws.length) (hl : ws.length ≤ 1048577) (k : Int) (hne : ¬ (ws.headD ⟨#[]⟩ = errorW ∧ ws.length = 2)) (hk : k = 1) {n : List Int} (hnr : readV (ws.drop 1) = some n) (hn : n.length ≠ 1) (hjb : jbB k ws = false) :
  Calls Tryz.prog 45 #[.int .i64 k, v] w (FirstPost w0 L (firstR k ws)) := by
 obtain ⟨A, c, rfl, hc1, hc2⟩ := rd_shape (h w H)
 unfold maxLen at hc2
 have H1 := HL.bzA H
 have H2 := HL.bzA H1
 rw [World.size_alloc] at H2
 have G2 : _ = some (Obj.cells _ 32 (0, 0)) := H2.head
 have HS : HL w0 _ (bxz _ :: _) := HL.setWhole (cells := ansA zA (.slice none 0 0) (.slice none 0 0) (.slice none 0 0)) H2
 generalize hb4 : w.heap.size = b4 at *
 have h3 := (h.cons (bxz b4)).cons (bxz (b4 + 1))
 obtain ⟨s0, hs0⟩ : ∃ x, ws[0]? = some x := ⟨_, List.getElem?_eq_getElem hpos⟩
 have hhead : ws.headD ⟨#[]⟩ = s0 := by cases ws with
  | nil => simp at hs0
  | cons x r => simpa using hs0
 have HZ := Lib.hid hz; have HL1 := Lib.hid hl; have HHD := Lib.hid hhead; have HS0 := Lib.hid hs0; have HNE := Lib.hid hne; have HJB := Lib.hid hjb; have HK := Lib.hid hk; have HN := Lib.hid hnr; have HNL := Lib.hid hn
 clear H H1 H2 h hz hl hhead hs0 hne hjb hk hnr hn
 go_enter Tryz.func45, Tryz.ntmps45
 go_upto_region 2 with (refine wpList_store_row rfl 32 _ _ rfl (b4 + 1) (ansA zA (.slice none 0 0) (.slice none 0 0) (.slice none 0 0)) rfl rfl 32 _ G2 (ansA_size _ _ _ _) rfl (ansA_one _ _ _ _ _ _ _ _ _ _) ?_)
 dsimp only [Act.put]
 have HB4 := Lib.hid hb4
 clear hb4 G2
 generalize World.setRow _ _ _ = W at *
 obtain ⟨b1, o1, c1, hv, d0⟩ := str_at (h3 _ HS) HS0.out
 simp only [Value.slice.injEq] at hv
 obtain ⟨rfl, -, rfl⟩ := hv
 rw [Nat.add_zero] at d0
 have i0 : (0 : Int) < (ws.length : Int) := by omega
 go_cut [22] (fun t22 wc => t22 = .bool false ∧ W = wc)
 case first =>
  by_cases ge : s0 = errorW
  ·have q0 : (s0.toList == [101, 114, 114, 111, 114]) = true := by rw [ge]; decide +kernel
   have l2 : ((ws.length : Int) == 2) = false := by rw [beq_eq_false_iff_ne]; have h1 := HNE.out; have h2 := HHD.out; exact fun g => h1 ⟨by rw [h2]; exact ge, by omega⟩
   clear ge
   go_wp2
   go_meet
   exact ⟨rfl, rfl⟩
  ·have q0 : (s0.toList == [101, 114, 114, 111, 114]) = false := by rw [beq_eq_false_iff_ne]; exact fun e => ge (bytesSame (e.trans (by decide +kernel)))
   clear ge
   go_wp2
   go_meet
   exact ⟨rfl, rfl⟩
 case rest =>
  obtain ⟨rfl, rfl⟩ := hcut
  clear d0
  have q11 : (k == 11) = false := by rw [HK.out]; rfl
  have q1 : (k == 1) = true := by rw [HK.out]; rfl
  have q5 : (k == 5) = false := by rw [HK.out]; rfl
  have q9 : (k == 9) = false := by rw [HK.out]; rfl
  have q10 : (k == 10) = false := by rw [HK.out]; rfl
  have q12 : (k == 12) = false := by rw [HK.out]; rfl
  have q13 : (k == 13) = false := by rw [HK.out]; rfl
  have hfr0 : firstR k ws = match readV (ws.drop 1) with | none => (zA, false) | some n => (firstN k 0 n, true) := by
   have hj : jbB k ws = false := HJB.out
   unfold firstR
   rw [if_neg HNE.out, if_neg (by have h := HK.out; omega)]
   unfold jW stJ
   rw [hj]
   rfl
  obtain ⟨l1, hl1⟩ : ∃ l1, ws.length = l1 + 1 := ⟨ws.length - 1, by omega⟩
  obtain ⟨cc, rfl⟩ : ∃ cc, c = cc + 1 := ⟨c - 1, by omega⟩
  obtain ⟨A', hA'⟩ : ∃ A', (if cc = 0 then some (⟨b1, o1, none⟩ : Addr) else some ⟨b1, o1 + 1, none⟩) = A' := ⟨_, rfl⟩
  have hle : l1 ≤ cc := by omega
  have hwd : (ws.drop 1).length = l1 := by rw [List.length_drop, hl1]; rfl
  have hRs : Strs w0 (bxz (b4 + 1) :: bxz b4 :: L) (.slice A' l1 cc) (ws.drop 1) := fun W' HW => by
   have h1 : Rd 1 _ ws.length (strC ws) W' := h3 W' HW
   rw [hl1] at h1
   rw [hwd, strC, List.map_drop, ← hA']
   by_cases hz : cc = 0
   ·rw [if_pos hz]
    have := rd_suffix h1 1 (by omega) (a' := ⟨b1, o1, none⟩) (.inr (by omega))
    simpa using this
   ·rw [if_neg hz]
    have := rd_suffix h1 1 (by omega) (a' := ⟨b1, o1 + 1, none⟩) (.inl (by rw [add_plain]))
    simpa using this
  have hsz : ∀ x ∈ ws.drop 1, x.size ≤ 1000000000 := fun x hx => HZ.out x (List.mem_of_mem_drop hx)
  have hrd := Ref.read_ok HS hRs hsz (by rw [hwd]; have := HL1.out; omega)
  clear hsz hRs
  have hl0 : (0 : Int) < (l1 : Int) + 1 := by omega
  have hi1 : (1 : Int) ≤ (l1 : Int) + 1 := by omega
  have HWD := Lib.hid hwd; have HLL := Lib.hid hl1
  rw [hl1]
  clear hwd hl1 h3
  rw [show (RefReadsPost w0 (bxz (b4 + 1) :: bxz b4 :: L) (ws.drop 1)) = fun e w' => ∃ u, e = .returned (.tuple #[u, .bool true]) ∧ HL w0 w' (intsR w0.heap.size u n :: bxz (b4 + 1) :: bxz b4 :: L) from by funext e w'; unfold RefReadsPost; rw [HN.out]] at hrd
  have hfr : firstR k ws = (firstN k 0 n, true) := by rw [hfr0, HN.out]
  have HFR0 := Lib.hid hfr
  clear hfr hfr0
  have hn := HNL.out
  go_upto_region 18 with (go_at_call 46; refine hrd.mono ?_; rintro r w5 ⟨u, rfl, H5⟩; clear hrd HS)
  obtain ⟨An, cn, rfl, hn1, hn2⟩ := rd_shape (entRow _ H5)
  unfold maxLen at hn2
  have H6 : HL w0 w5 (bxz (b4 + 1) :: bxz b4 :: intsR w0.heap.size (.slice An n.length cn) n :: L) := H5.sel 3 [1, 2, 0]
  clear H5
  have hfr : firstR k ws = (zA, true) := by
   rw [HFR0.out]
   unfold firstN
   have h := HK.out
   have h2 := HNL.out
   rw [if_neg (by omega), if_neg (by omega), if_neg (by omega), if_neg (by omega), if_neg (by omega)]
   rfl
  have HFR := Lib.hid hfr
  clear hfr
  have lk : ((n.length : Int) == 1) = false := by rw [beq_eq_false_iff_ne]; omega
  clear hn
  have G1 : _ = some (Obj.cells (ansA zA (.slice none 0 0) (.slice none 0 0) (.slice none 0 0)) 32 (0, 0)) := H6.head
  have G3 : _ = some (Obj.cells _ 32 (0, 0)) := H6.tail.head
  have HT := HL.setWhole (cells := ansA zA (.slice none 0 0) (.slice none 0 0) (.slice none 0 0)) H6.tail
  go_wp2_with (first
   | (have g1 := G1; refine wpList_load_row rfl 32 _ rfl (b4 + 1) rfl 32 _ (0, 0) _ g1 Tryz.underlying32 rfl (ansA_size _ _ _ _) ?_; clear g1 G1)
   | (refine wpList_store_row rfl 32 _ _ rfl b4 (ansA zA (.slice none 0 0) (.slice none 0 0) (.slice none 0 0)) rfl rfl 32 _ G3 (ansA_size _ _ _ _) rfl (ansA_one _ _ _ _ _ _ _ _ _ _) ?_))
  have G5 := HT.head
  refine bodyPost_ret (results_two (by rfl) _ _ b4 32 _ (0, 0) _ _ (by rfl) (by rfl) G5 Tryz.underlying32 rfl (ansA_size _ _ _ _)) rfl ?_
  exact firstPost_none HFR.out rfl HT.tail.tail
theorem Ref.fi_no5 (hD : Doors w0) (H : HL w0 w L) {ws : List ByteArray} (h : Strs w0 L v ws) (hz : ∀ s ∈ ws, s.size ≤ 1000000000) (hpos : 0 < ws.length) (hl : ws.length ≤ 1048577) (k : Int) (hne : ¬ (ws.headD ⟨#[]⟩ = errorW ∧ ws.length = 2)) (hk : k = 5) {n : List Int} (hnr : readV (ws.drop 1) = some n) (hn : n.length ≠ 1) (hjb : jbB k ws = false) :
  Calls Tryz.prog 45 #[.int .i64 k, v] w (FirstPost w0 L (firstR k ws)) := by
 obtain ⟨A, c, rfl, hc1, hc2⟩ := rd_shape (h w H)
 unfold maxLen at hc2
 have H1 := HL.bzA H
 have H2 := HL.bzA H1
 rw [World.size_alloc] at H2
 have G2 : _ = some (Obj.cells _ 32 (0, 0)) := H2.head
 have HS : HL w0 _ (bxz _ :: _) := HL.setWhole (cells := ansA zA (.slice none 0 0) (.slice none 0 0) (.slice none 0 0)) H2
 generalize hb4 : w.heap.size = b4 at *
 have h3 := (h.cons (bxz b4)).cons (bxz (b4 + 1))
 obtain ⟨s0, hs0⟩ : ∃ x, ws[0]? = some x := ⟨_, List.getElem?_eq_getElem hpos⟩
 have hhead : ws.headD ⟨#[]⟩ = s0 := by cases ws with
  | nil => simp at hs0
  | cons x r => simpa using hs0
 have HZ := Lib.hid hz; have HL1 := Lib.hid hl; have HHD := Lib.hid hhead; have HS0 := Lib.hid hs0; have HNE := Lib.hid hne; have HJB := Lib.hid hjb; have HK := Lib.hid hk; have HN := Lib.hid hnr; have HNL := Lib.hid hn
 clear H H1 H2 h hz hl hhead hs0 hne hjb hk hnr hn
 go_enter Tryz.func45, Tryz.ntmps45
 go_upto_region 2 with (refine wpList_store_row rfl 32 _ _ rfl (b4 + 1) (ansA zA (.slice none 0 0) (.slice none 0 0) (.slice none 0 0)) rfl rfl 32 _ G2 (ansA_size _ _ _ _) rfl (ansA_one _ _ _ _ _ _ _ _ _ _) ?_)
 dsimp only [Act.put]
 have HB4 := Lib.hid hb4
 clear hb4 G2
 generalize World.setRow _ _ _ = W at *
 obtain ⟨b1, o1, c1, hv, d0⟩ := str_at (h3 _ HS) HS0.out
 simp only [Value.slice.injEq] at hv
 obtain ⟨rfl, -, rfl⟩ := hv
 rw [Nat.add_zero] at d0
 have i0 : (0 : Int) < (ws.length : Int) := by omega
 go_cut [22] (fun t22 wc => t22 = .bool false ∧ W = wc)
 case first =>
  by_cases ge : s0 = errorW
  ·have q0 : (s0.toList == [101, 114, 114, 111, 114]) = true := by rw [ge]; decide +kernel
   have l2 : ((ws.length : Int) == 2) = false := by rw [beq_eq_false_iff_ne]; have h1 := HNE.out; have h2 := HHD.out; exact fun g => h1 ⟨by rw [h2]; exact ge, by omega⟩
   clear ge
   go_wp2
   go_meet
   exact ⟨rfl, rfl⟩
  ·have q0 : (s0.toList == [101, 114, 114, 111, 114]) = false := by rw [beq_eq_false_iff_ne]; exact fun e => ge (bytesSame (e.trans (by decide +kernel)))
   clear ge
   go_wp2
   go_meet
   exact ⟨rfl, rfl⟩
 case rest =>
  obtain ⟨rfl, rfl⟩ := hcut
  clear d0
  have q11 : (k == 11) = false := by rw [HK.out]; rfl
  have q1 : (k == 1) = false := by rw [HK.out]; rfl
  have q5 : (k == 5) = true := by rw [HK.out]; rfl
  have q9 : (k == 9) = false := by rw [HK.out]; rfl
  have q10 : (k == 10) = false := by rw [HK.out]; rfl
  have q12 : (k == 12) = false := by rw [HK.out]; rfl
  have q13 : (k == 13) = false := by rw [HK.out]; rfl
  have hfr0 : firstR k ws = match readV (ws.drop 1) with | none => (zA, false) | some n => (firstN k 0 n, true) := by
   have hj : jbB k ws = false := HJB.out
   unfold firstR
   rw [if_neg HNE.out, if_neg (by have h := HK.out; omega)]
   unfold jW stJ
   rw [hj]
   rfl
  obtain ⟨l1, hl1⟩ : ∃ l1, ws.length = l1 + 1 := ⟨ws.length - 1, by omega⟩
  obtain ⟨cc, rfl⟩ : ∃ cc, c = cc + 1 := ⟨c - 1, by omega⟩
  obtain ⟨A', hA'⟩ : ∃ A', (if cc = 0 then some (⟨b1, o1, none⟩ : Addr) else some ⟨b1, o1 + 1, none⟩) = A' := ⟨_, rfl⟩
  have hle : l1 ≤ cc := by omega
  have hwd : (ws.drop 1).length = l1 := by rw [List.length_drop, hl1]; rfl
  have hRs : Strs w0 (bxz (b4 + 1) :: bxz b4 :: L) (.slice A' l1 cc) (ws.drop 1) := fun W' HW => by
   have h1 : Rd 1 _ ws.length (strC ws) W' := h3 W' HW
   rw [hl1] at h1
   rw [hwd, strC, List.map_drop, ← hA']
   by_cases hz : cc = 0
   ·rw [if_pos hz]
    have := rd_suffix h1 1 (by omega) (a' := ⟨b1, o1, none⟩) (.inr (by omega))
    simpa using this
   ·rw [if_neg hz]
    have := rd_suffix h1 1 (by omega) (a' := ⟨b1, o1 + 1, none⟩) (.inl (by rw [add_plain]))
    simpa using this
  have hsz : ∀ x ∈ ws.drop 1, x.size ≤ 1000000000 := fun x hx => HZ.out x (List.mem_of_mem_drop hx)
  have hrd := Ref.read_ok HS hRs hsz (by rw [hwd]; have := HL1.out; omega)
  clear hsz hRs
  have hl0 : (0 : Int) < (l1 : Int) + 1 := by omega
  have hi1 : (1 : Int) ≤ (l1 : Int) + 1 := by omega
  have HWD := Lib.hid hwd; have HLL := Lib.hid hl1
  rw [hl1]
  clear hwd hl1 h3
  rw [show (RefReadsPost w0 (bxz (b4 + 1) :: bxz b4 :: L) (ws.drop 1)) = fun e w' => ∃ u, e = .returned (.tuple #[u, .bool true]) ∧ HL w0 w' (intsR w0.heap.size u n :: bxz (b4 + 1) :: bxz b4 :: L) from by funext e w'; unfold RefReadsPost; rw [HN.out]] at hrd
  have hfr : firstR k ws = (firstN k 0 n, true) := by rw [hfr0, HN.out]
  have HFR0 := Lib.hid hfr
  clear hfr hfr0
  have hn := HNL.out
  go_upto_region 18 with (go_at_call 46; refine hrd.mono ?_; rintro r w5 ⟨u, rfl, H5⟩; clear hrd HS)
  obtain ⟨An, cn, rfl, hn1, hn2⟩ := rd_shape (entRow _ H5)
  unfold maxLen at hn2
  have H6 : HL w0 w5 (bxz (b4 + 1) :: bxz b4 :: intsR w0.heap.size (.slice An n.length cn) n :: L) := H5.sel 3 [1, 2, 0]
  clear H5
  have hfr : firstR k ws = (zA, true) := by
   rw [HFR0.out]
   unfold firstN
   have h := HK.out
   have h2 := HNL.out
   rw [if_neg (by omega), if_neg (by omega), if_neg (by omega), if_neg (by omega), if_neg (by omega)]
   rfl
  have HFR := Lib.hid hfr
  clear hfr
  have lk : ((n.length : Int) == 1) = false := by rw [beq_eq_false_iff_ne]; omega
  clear hn
  have G1 : _ = some (Obj.cells (ansA zA (.slice none 0 0) (.slice none 0 0) (.slice none 0 0)) 32 (0, 0)) := H6.head
  have G3 : _ = some (Obj.cells _ 32 (0, 0)) := H6.tail.head
  have HT := HL.setWhole (cells := ansA zA (.slice none 0 0) (.slice none 0 0) (.slice none 0 0)) H6.tail
  go_wp2_with (first
   | (have g1 := G1; refine wpList_load_row rfl 32 _ rfl (b4 + 1) rfl 32 _ (0, 0) _ g1 Tryz.underlying32 rfl (ansA_size _ _ _ _) ?_; clear g1 G1)
   | (refine wpList_store_row rfl 32 _ _ rfl b4 (ansA zA (.slice none 0 0) (.slice none 0 0) (.slice none 0 0)) rfl rfl 32 _ G3 (ansA_size _ _ _ _) rfl (ansA_one _ _ _ _ _ _ _ _ _ _) ?_))
  have G5 := HT.head
  refine bodyPost_ret (results_two (by rfl) _ _ b4 32 _ (0, 0) _ _ (by rfl) (by rfl) G5 Tryz.underlying32 rfl (ansA_size _ _ _ _)) rfl ?_
  exact firstPost_none HFR.out rfl HT.tail.tail
theorem Ref.fi_no10 (hD : Doors w0) (H : HL w0 w L) {ws : List ByteArray} (h : Strs w0 L v ws) (hz : ∀ s ∈ ws, s.size ≤ 1000000000) (hpos : 0 < ws.length) (hl : ws.length ≤ 1048577) (k : Int) (hne : ¬ (ws.headD ⟨#[]⟩ = errorW ∧ ws.length = 2)) (hk : k = 10) {n : List Int} (hnr : readV (ws.drop 1) = some n) (hn : n.length ≠ 2) (hjb : jbB k ws = false) :
  Calls Tryz.prog 45 #[.int .i64 k, v] w (FirstPost w0 L (firstR k ws)) := by
 obtain ⟨A, c, rfl, hc1, hc2⟩ := rd_shape (h w H)
 unfold maxLen at hc2
 have H1 := HL.bzA H
 have H2 := HL.bzA H1
 rw [World.size_alloc] at H2
 have G2 : _ = some (Obj.cells _ 32 (0, 0)) := H2.head
 have HS : HL w0 _ (bxz _ :: _) := HL.setWhole (cells := ansA zA (.slice none 0 0) (.slice none 0 0) (.slice none 0 0)) H2
 generalize hb4 : w.heap.size = b4 at *
 have h3 := (h.cons (bxz b4)).cons (bxz (b4 + 1))
 obtain ⟨s0, hs0⟩ : ∃ x, ws[0]? = some x := ⟨_, List.getElem?_eq_getElem hpos⟩
 have hhead : ws.headD ⟨#[]⟩ = s0 := by cases ws with
  | nil => simp at hs0
  | cons x r => simpa using hs0
 have HZ := Lib.hid hz; have HL1 := Lib.hid hl; have HHD := Lib.hid hhead; have HS0 := Lib.hid hs0; have HNE := Lib.hid hne; have HJB := Lib.hid hjb; have HK := Lib.hid hk; have HN := Lib.hid hnr; have HNL := Lib.hid hn
 clear H H1 H2 h hz hl hhead hs0 hne hjb hk hnr hn
 go_enter Tryz.func45, Tryz.ntmps45
 go_upto_region 2 with (refine wpList_store_row rfl 32 _ _ rfl (b4 + 1) (ansA zA (.slice none 0 0) (.slice none 0 0) (.slice none 0 0)) rfl rfl 32 _ G2 (ansA_size _ _ _ _) rfl (ansA_one _ _ _ _ _ _ _ _ _ _) ?_)
 dsimp only [Act.put]
 have HB4 := Lib.hid hb4
 clear hb4 G2
 generalize World.setRow _ _ _ = W at *
 obtain ⟨b1, o1, c1, hv, d0⟩ := str_at (h3 _ HS) HS0.out
 simp only [Value.slice.injEq] at hv
 obtain ⟨rfl, -, rfl⟩ := hv
 rw [Nat.add_zero] at d0
 have i0 : (0 : Int) < (ws.length : Int) := by omega
 go_cut [22] (fun t22 wc => t22 = .bool false ∧ W = wc)
 case first =>
  by_cases ge : s0 = errorW
  ·have q0 : (s0.toList == [101, 114, 114, 111, 114]) = true := by rw [ge]; decide +kernel
   have l2 : ((ws.length : Int) == 2) = false := by rw [beq_eq_false_iff_ne]; have h1 := HNE.out; have h2 := HHD.out; exact fun g => h1 ⟨by rw [h2]; exact ge, by omega⟩
   clear ge
   go_wp2
   go_meet
   exact ⟨rfl, rfl⟩
  ·have q0 : (s0.toList == [101, 114, 114, 111, 114]) = false := by rw [beq_eq_false_iff_ne]; exact fun e => ge (bytesSame (e.trans (by decide +kernel)))
   clear ge
   go_wp2
   go_meet
   exact ⟨rfl, rfl⟩
 case rest =>
  obtain ⟨rfl, rfl⟩ := hcut
  clear d0
  have q11 : (k == 11) = false := by rw [HK.out]; rfl
  have q1 : (k == 1) = false := by rw [HK.out]; rfl
  have q5 : (k == 5) = false := by rw [HK.out]; rfl
  have q9 : (k == 9) = false := by rw [HK.out]; rfl
  have q10 : (k == 10) = true := by rw [HK.out]; rfl
  have q12 : (k == 12) = false := by rw [HK.out]; rfl
  have q13 : (k == 13) = false := by rw [HK.out]; rfl
  have hfr0 : firstR k ws = match readV (ws.drop 1) with | none => (zA, false) | some n => (firstN k 0 n, true) := by
   have hj : jbB k ws = false := HJB.out
   unfold firstR
   rw [if_neg HNE.out, if_neg (by have h := HK.out; omega)]
   unfold jW stJ
   rw [hj]
   rfl
  obtain ⟨l1, hl1⟩ : ∃ l1, ws.length = l1 + 1 := ⟨ws.length - 1, by omega⟩
  obtain ⟨cc, rfl⟩ : ∃ cc, c = cc + 1 := ⟨c - 1, by omega⟩
  obtain ⟨A', hA'⟩ : ∃ A', (if cc = 0 then some (⟨b1, o1, none⟩ : Addr) else some ⟨b1, o1 + 1, none⟩) = A' := ⟨_, rfl⟩
  have hle : l1 ≤ cc := by omega
  have hwd : (ws.drop 1).length = l1 := by rw [List.length_drop, hl1]; rfl
  have hRs : Strs w0 (bxz (b4 + 1) :: bxz b4 :: L) (.slice A' l1 cc) (ws.drop 1) := fun W' HW => by
   have h1 : Rd 1 _ ws.length (strC ws) W' := h3 W' HW
   rw [hl1] at h1
   rw [hwd, strC, List.map_drop, ← hA']
   by_cases hz : cc = 0
   ·rw [if_pos hz]
    have := rd_suffix h1 1 (by omega) (a' := ⟨b1, o1, none⟩) (.inr (by omega))
    simpa using this
   ·rw [if_neg hz]
    have := rd_suffix h1 1 (by omega) (a' := ⟨b1, o1 + 1, none⟩) (.inl (by rw [add_plain]))
    simpa using this
  have hsz : ∀ x ∈ ws.drop 1, x.size ≤ 1000000000 := fun x hx => HZ.out x (List.mem_of_mem_drop hx)
  have hrd := Ref.read_ok HS hRs hsz (by rw [hwd]; have := HL1.out; omega)
  clear hsz hRs
  have hl0 : (0 : Int) < (l1 : Int) + 1 := by omega
  have hi1 : (1 : Int) ≤ (l1 : Int) + 1 := by omega
  have HWD := Lib.hid hwd; have HLL := Lib.hid hl1
  rw [hl1]
  clear hwd hl1 h3
  rw [show (RefReadsPost w0 (bxz (b4 + 1) :: bxz b4 :: L) (ws.drop 1)) = fun e w' => ∃ u, e = .returned (.tuple #[u, .bool true]) ∧ HL w0 w' (intsR w0.heap.size u n :: bxz (b4 + 1) :: bxz b4 :: L) from by funext e w'; unfold RefReadsPost; rw [HN.out]] at hrd
  have hfr : firstR k ws = (firstN k 0 n, true) := by rw [hfr0, HN.out]
  have HFR0 := Lib.hid hfr
  clear hfr hfr0
  have hn := HNL.out
  go_upto_region 18 with (go_at_call 46; refine hrd.mono ?_; rintro r w5 ⟨u, rfl, H5⟩; clear hrd HS)
  obtain ⟨An, cn, rfl, hn1, hn2⟩ := rd_shape (entRow _ H5)
  unfold maxLen at hn2
  have H6 : HL w0 w5 (bxz (b4 + 1) :: bxz b4 :: intsR w0.heap.size (.slice An n.length cn) n :: L) := H5.sel 3 [1, 2, 0]
  clear H5
  have hfr : firstR k ws = (zA, true) := by
   rw [HFR0.out]
   unfold firstN
   have h := HK.out
   have h2 := HNL.out
   rw [if_neg (by omega), if_neg (by omega), if_neg (by omega), if_neg (by omega), if_neg (by omega)]
   rfl
  have HFR := Lib.hid hfr
  clear hfr
  have lk : ((n.length : Int) == 2) = false := by rw [beq_eq_false_iff_ne]; omega
  clear hn
  have G1 : _ = some (Obj.cells (ansA zA (.slice none 0 0) (.slice none 0 0) (.slice none 0 0)) 32 (0, 0)) := H6.head
  have G3 : _ = some (Obj.cells _ 32 (0, 0)) := H6.tail.head
  have HT := HL.setWhole (cells := ansA zA (.slice none 0 0) (.slice none 0 0) (.slice none 0 0)) H6.tail
  go_wp2_with (first
   | (have g1 := G1; refine wpList_load_row rfl 32 _ rfl (b4 + 1) rfl 32 _ (0, 0) _ g1 Tryz.underlying32 rfl (ansA_size _ _ _ _) ?_; clear g1 G1)
   | (refine wpList_store_row rfl 32 _ _ rfl b4 (ansA zA (.slice none 0 0) (.slice none 0 0) (.slice none 0 0)) rfl rfl 32 _ G3 (ansA_size _ _ _ _) rfl (ansA_one _ _ _ _ _ _ _ _ _ _) ?_))
  have G5 := HT.head
  refine bodyPost_ret (results_two (by rfl) _ _ b4 32 _ (0, 0) _ _ (by rfl) (by rfl) G5 Tryz.underlying32 rfl (ansA_size _ _ _ _)) rfl ?_
  exact firstPost_none HFR.out rfl HT.tail.tail
theorem Ref.fi_no12 (hD : Doors w0) (H : HL w0 w L) {ws : List ByteArray} (h : Strs w0 L v ws) (hz : ∀ s ∈ ws, s.size ≤ 1000000000) (hpos : 0 < ws.length) (hl : ws.length ≤ 1048577) (k : Int) (hne : ¬ (ws.headD ⟨#[]⟩ = errorW ∧ ws.length = 2)) (hk : k = 12) {n : List Int} (hnr : readV (ws.drop 1) = some n) (hn : n.length ≠ 1) (hjb : jbB k ws = false) :
  Calls Tryz.prog 45 #[.int .i64 k, v] w (FirstPost w0 L (firstR k ws)) := by
 obtain ⟨A, c, rfl, hc1, hc2⟩ := rd_shape (h w H)
 unfold maxLen at hc2
 have H1 := HL.bzA H
 have H2 := HL.bzA H1
 rw [World.size_alloc] at H2
 have G2 : _ = some (Obj.cells _ 32 (0, 0)) := H2.head
 have HS : HL w0 _ (bxz _ :: _) := HL.setWhole (cells := ansA zA (.slice none 0 0) (.slice none 0 0) (.slice none 0 0)) H2
 generalize hb4 : w.heap.size = b4 at *
 have h3 := (h.cons (bxz b4)).cons (bxz (b4 + 1))
 obtain ⟨s0, hs0⟩ : ∃ x, ws[0]? = some x := ⟨_, List.getElem?_eq_getElem hpos⟩
 have hhead : ws.headD ⟨#[]⟩ = s0 := by cases ws with
  | nil => simp at hs0
  | cons x r => simpa using hs0
 have HZ := Lib.hid hz; have HL1 := Lib.hid hl; have HHD := Lib.hid hhead; have HS0 := Lib.hid hs0; have HNE := Lib.hid hne; have HJB := Lib.hid hjb; have HK := Lib.hid hk; have HN := Lib.hid hnr; have HNL := Lib.hid hn
 clear H H1 H2 h hz hl hhead hs0 hne hjb hk hnr hn
 go_enter Tryz.func45, Tryz.ntmps45
 go_upto_region 2 with (refine wpList_store_row rfl 32 _ _ rfl (b4 + 1) (ansA zA (.slice none 0 0) (.slice none 0 0) (.slice none 0 0)) rfl rfl 32 _ G2 (ansA_size _ _ _ _) rfl (ansA_one _ _ _ _ _ _ _ _ _ _) ?_)
 dsimp only [Act.put]
 have HB4 := Lib.hid hb4
 clear hb4 G2
 generalize World.setRow _ _ _ = W at *
 obtain ⟨b1, o1, c1, hv, d0⟩ := str_at (h3 _ HS) HS0.out
 simp only [Value.slice.injEq] at hv
 obtain ⟨rfl, -, rfl⟩ := hv
 rw [Nat.add_zero] at d0
 have i0 : (0 : Int) < (ws.length : Int) := by omega
 go_cut [22] (fun t22 wc => t22 = .bool false ∧ W = wc)
 case first =>
  by_cases ge : s0 = errorW
  ·have q0 : (s0.toList == [101, 114, 114, 111, 114]) = true := by rw [ge]; decide +kernel
   have l2 : ((ws.length : Int) == 2) = false := by rw [beq_eq_false_iff_ne]; have h1 := HNE.out; have h2 := HHD.out; exact fun g => h1 ⟨by rw [h2]; exact ge, by omega⟩
   clear ge
   go_wp2
   go_meet
   exact ⟨rfl, rfl⟩
  ·have q0 : (s0.toList == [101, 114, 114, 111, 114]) = false := by rw [beq_eq_false_iff_ne]; exact fun e => ge (bytesSame (e.trans (by decide +kernel)))
   clear ge
   go_wp2
   go_meet
   exact ⟨rfl, rfl⟩
 case rest =>
  obtain ⟨rfl, rfl⟩ := hcut
  clear d0
  have q11 : (k == 11) = false := by rw [HK.out]; rfl
  have q1 : (k == 1) = false := by rw [HK.out]; rfl
  have q5 : (k == 5) = false := by rw [HK.out]; rfl
  have q9 : (k == 9) = false := by rw [HK.out]; rfl
  have q10 : (k == 10) = false := by rw [HK.out]; rfl
  have q12 : (k == 12) = true := by rw [HK.out]; rfl
  have q13 : (k == 13) = false := by rw [HK.out]; rfl
  have hfr0 : firstR k ws = match readV (ws.drop 1) with | none => (zA, false) | some n => (firstN k 0 n, true) := by
   have hj : jbB k ws = false := HJB.out
   unfold firstR
   rw [if_neg HNE.out, if_neg (by have h := HK.out; omega)]
   unfold jW stJ
   rw [hj]
   rfl
  obtain ⟨l1, hl1⟩ : ∃ l1, ws.length = l1 + 1 := ⟨ws.length - 1, by omega⟩
  obtain ⟨cc, rfl⟩ : ∃ cc, c = cc + 1 := ⟨c - 1, by omega⟩
  obtain ⟨A', hA'⟩ : ∃ A', (if cc = 0 then some (⟨b1, o1, none⟩ : Addr) else some ⟨b1, o1 + 1, none⟩) = A' := ⟨_, rfl⟩
  have hle : l1 ≤ cc := by omega
  have hwd : (ws.drop 1).length = l1 := by rw [List.length_drop, hl1]; rfl
  have hRs : Strs w0 (bxz (b4 + 1) :: bxz b4 :: L) (.slice A' l1 cc) (ws.drop 1) := fun W' HW => by
   have h1 : Rd 1 _ ws.length (strC ws) W' := h3 W' HW
   rw [hl1] at h1
   rw [hwd, strC, List.map_drop, ← hA']
   by_cases hz : cc = 0
   ·rw [if_pos hz]
    have := rd_suffix h1 1 (by omega) (a' := ⟨b1, o1, none⟩) (.inr (by omega))
    simpa using this
   ·rw [if_neg hz]
    have := rd_suffix h1 1 (by omega) (a' := ⟨b1, o1 + 1, none⟩) (.inl (by rw [add_plain]))
    simpa using this
  have hsz : ∀ x ∈ ws.drop 1, x.size ≤ 1000000000 := fun x hx => HZ.out x (List.mem_of_mem_drop hx)
  have hrd := Ref.read_ok HS hRs hsz (by rw [hwd]; have := HL1.out; omega)
  clear hsz hRs
  have hl0 : (0 : Int) < (l1 : Int) + 1 := by omega
  have hi1 : (1 : Int) ≤ (l1 : Int) + 1 := by omega
  have HWD := Lib.hid hwd; have HLL := Lib.hid hl1
  rw [hl1]
  clear hwd hl1 h3
  rw [show (RefReadsPost w0 (bxz (b4 + 1) :: bxz b4 :: L) (ws.drop 1)) = fun e w' => ∃ u, e = .returned (.tuple #[u, .bool true]) ∧ HL w0 w' (intsR w0.heap.size u n :: bxz (b4 + 1) :: bxz b4 :: L) from by funext e w'; unfold RefReadsPost; rw [HN.out]] at hrd
  have hfr : firstR k ws = (firstN k 0 n, true) := by rw [hfr0, HN.out]
  have HFR0 := Lib.hid hfr
  clear hfr hfr0
  have hn := HNL.out
  go_upto_region 18 with (go_at_call 46; refine hrd.mono ?_; rintro r w5 ⟨u, rfl, H5⟩; clear hrd HS)
  obtain ⟨An, cn, rfl, hn1, hn2⟩ := rd_shape (entRow _ H5)
  unfold maxLen at hn2
  have H6 : HL w0 w5 (bxz (b4 + 1) :: bxz b4 :: intsR w0.heap.size (.slice An n.length cn) n :: L) := H5.sel 3 [1, 2, 0]
  clear H5
  have hfr : firstR k ws = (zA, true) := by
   rw [HFR0.out]
   unfold firstN
   have h := HK.out
   have h2 := HNL.out
   rw [if_neg (by omega), if_neg (by omega), if_neg (by omega), if_neg (by omega), if_neg (by omega)]
   rfl
  have HFR := Lib.hid hfr
  clear hfr
  have lk : ((n.length : Int) == 1) = false := by rw [beq_eq_false_iff_ne]; omega
  clear hn
  have G1 : _ = some (Obj.cells (ansA zA (.slice none 0 0) (.slice none 0 0) (.slice none 0 0)) 32 (0, 0)) := H6.head
  have G3 : _ = some (Obj.cells _ 32 (0, 0)) := H6.tail.head
  have HT := HL.setWhole (cells := ansA zA (.slice none 0 0) (.slice none 0 0) (.slice none 0 0)) H6.tail
  go_wp2_with (first
   | (have g1 := G1; refine wpList_load_row rfl 32 _ rfl (b4 + 1) rfl 32 _ (0, 0) _ g1 Tryz.underlying32 rfl (ansA_size _ _ _ _) ?_; clear g1 G1)
   | (refine wpList_store_row rfl 32 _ _ rfl b4 (ansA zA (.slice none 0 0) (.slice none 0 0) (.slice none 0 0)) rfl rfl 32 _ G3 (ansA_size _ _ _ _) rfl (ansA_one _ _ _ _ _ _ _ _ _ _) ?_))
  have G5 := HT.head
  refine bodyPost_ret (results_two (by rfl) _ _ b4 32 _ (0, 0) _ _ (by rfl) (by rfl) G5 Tryz.underlying32 rfl (ansA_size _ _ _ _)) rfl ?_
  exact firstPost_none HFR.out rfl HT.tail.tail
theorem Ref.fi_no13 (hD : Doors w0) (H : HL w0 w L) {ws : List ByteArray} (h : Strs w0 L v ws) (hz : ∀ s ∈ ws, s.size ≤ 1000000000) (hpos : 0 < ws.length) (hl : ws.length ≤ 1048577) (k : Int) (hne : ¬ (ws.headD ⟨#[]⟩ = errorW ∧ ws.length = 2)) (hk : k = 13) {n : List Int} (hnr : readV (ws.drop 1) = some n) (hn : n.length ≠ 9) (hjb : jbB k ws = false) :
  Calls Tryz.prog 45 #[.int .i64 k, v] w (FirstPost w0 L (firstR k ws)) := by
 obtain ⟨A, c, rfl, hc1, hc2⟩ := rd_shape (h w H)
 unfold maxLen at hc2
 have H1 := HL.bzA H
 have H2 := HL.bzA H1
 rw [World.size_alloc] at H2
 have G2 : _ = some (Obj.cells _ 32 (0, 0)) := H2.head
 have HS : HL w0 _ (bxz _ :: _) := HL.setWhole (cells := ansA zA (.slice none 0 0) (.slice none 0 0) (.slice none 0 0)) H2
 generalize hb4 : w.heap.size = b4 at *
 have h3 := (h.cons (bxz b4)).cons (bxz (b4 + 1))
 obtain ⟨s0, hs0⟩ : ∃ x, ws[0]? = some x := ⟨_, List.getElem?_eq_getElem hpos⟩
 have hhead : ws.headD ⟨#[]⟩ = s0 := by cases ws with
  | nil => simp at hs0
  | cons x r => simpa using hs0
 have HZ := Lib.hid hz; have HL1 := Lib.hid hl; have HHD := Lib.hid hhead; have HS0 := Lib.hid hs0; have HNE := Lib.hid hne; have HJB := Lib.hid hjb; have HK := Lib.hid hk; have HN := Lib.hid hnr; have HNL := Lib.hid hn
 clear H H1 H2 h hz hl hhead hs0 hne hjb hk hnr hn
 go_enter Tryz.func45, Tryz.ntmps45
 go_upto_region 2 with (refine wpList_store_row rfl 32 _ _ rfl (b4 + 1) (ansA zA (.slice none 0 0) (.slice none 0 0) (.slice none 0 0)) rfl rfl 32 _ G2 (ansA_size _ _ _ _) rfl (ansA_one _ _ _ _ _ _ _ _ _ _) ?_)
 dsimp only [Act.put]
 have HB4 := Lib.hid hb4
 clear hb4 G2
 generalize World.setRow _ _ _ = W at *
 obtain ⟨b1, o1, c1, hv, d0⟩ := str_at (h3 _ HS) HS0.out
 simp only [Value.slice.injEq] at hv
 obtain ⟨rfl, -, rfl⟩ := hv
 rw [Nat.add_zero] at d0
 have i0 : (0 : Int) < (ws.length : Int) := by omega
 go_cut [22] (fun t22 wc => t22 = .bool false ∧ W = wc)
 case first =>
  by_cases ge : s0 = errorW
  ·have q0 : (s0.toList == [101, 114, 114, 111, 114]) = true := by rw [ge]; decide +kernel
   have l2 : ((ws.length : Int) == 2) = false := by rw [beq_eq_false_iff_ne]; have h1 := HNE.out; have h2 := HHD.out; exact fun g => h1 ⟨by rw [h2]; exact ge, by omega⟩
   clear ge
   go_wp2
   go_meet
   exact ⟨rfl, rfl⟩
  ·have q0 : (s0.toList == [101, 114, 114, 111, 114]) = false := by rw [beq_eq_false_iff_ne]; exact fun e => ge (bytesSame (e.trans (by decide +kernel)))
   clear ge
   go_wp2
   go_meet
   exact ⟨rfl, rfl⟩
 case rest =>
  obtain ⟨rfl, rfl⟩ := hcut
  clear d0
  have q11 : (k == 11) = false := by rw [HK.out]; rfl
  have q1 : (k == 1) = false := by rw [HK.out]; rfl
  have q5 : (k == 5) = false := by rw [HK.out]; rfl
  have q9 : (k == 9) = false := by rw [HK.out]; rfl
  have q10 : (k == 10) = false := by rw [HK.out]; rfl
  have q12 : (k == 12) = false := by rw [HK.out]; rfl
  have q13 : (k == 13) = true := by rw [HK.out]; rfl
  have hfr0 : firstR k ws = match readV (ws.drop 1) with | none => (zA, false) | some n => (firstN k 0 n, true) := by
   have hj : jbB k ws = false := HJB.out
   unfold firstR
   rw [if_neg HNE.out, if_neg (by have h := HK.out; omega)]
   unfold jW stJ
   rw [hj]
   rfl
  obtain ⟨l1, hl1⟩ : ∃ l1, ws.length = l1 + 1 := ⟨ws.length - 1, by omega⟩
  obtain ⟨cc, rfl⟩ : ∃ cc, c = cc + 1 := ⟨c - 1, by omega⟩
  obtain ⟨A', hA'⟩ : ∃ A', (if cc = 0 then some (⟨b1, o1, none⟩ : Addr) else some ⟨b1, o1 + 1, none⟩) = A' := ⟨_, rfl⟩
  have hle : l1 ≤ cc := by omega
  have hwd : (ws.drop 1).length = l1 := by rw [List.length_drop, hl1]; rfl
  have hRs : Strs w0 (bxz (b4 + 1) :: bxz b4 :: L) (.slice A' l1 cc) (ws.drop 1) := fun W' HW => by
   have h1 : Rd 1 _ ws.length (strC ws) W' := h3 W' HW
   rw [hl1] at h1
   rw [hwd, strC, List.map_drop, ← hA']
   by_cases hz : cc = 0
   ·rw [if_pos hz]
    have := rd_suffix h1 1 (by omega) (a' := ⟨b1, o1, none⟩) (.inr (by omega))
    simpa using this
   ·rw [if_neg hz]
    have := rd_suffix h1 1 (by omega) (a' := ⟨b1, o1 + 1, none⟩) (.inl (by rw [add_plain]))
    simpa using this
  have hsz : ∀ x ∈ ws.drop 1, x.size ≤ 1000000000 := fun x hx => HZ.out x (List.mem_of_mem_drop hx)
  have hrd := Ref.read_ok HS hRs hsz (by rw [hwd]; have := HL1.out; omega)
  clear hsz hRs
  have hl0 : (0 : Int) < (l1 : Int) + 1 := by omega
  have hi1 : (1 : Int) ≤ (l1 : Int) + 1 := by omega
  have HWD := Lib.hid hwd; have HLL := Lib.hid hl1
  rw [hl1]
  clear hwd hl1 h3
  rw [show (RefReadsPost w0 (bxz (b4 + 1) :: bxz b4 :: L) (ws.drop 1)) = fun e w' => ∃ u, e = .returned (.tuple #[u, .bool true]) ∧ HL w0 w' (intsR w0.heap.size u n :: bxz (b4 + 1) :: bxz b4 :: L) from by funext e w'; unfold RefReadsPost; rw [HN.out]] at hrd
  have hfr : firstR k ws = (firstN k 0 n, true) := by rw [hfr0, HN.out]
  have HFR0 := Lib.hid hfr
  clear hfr hfr0
  have hn := HNL.out
  go_upto_region 18 with (go_at_call 46; refine hrd.mono ?_; rintro r w5 ⟨u, rfl, H5⟩; clear hrd HS)
  obtain ⟨An, cn, rfl, hn1, hn2⟩ := rd_shape (entRow _ H5)
  unfold maxLen at hn2
  have H6 : HL w0 w5 (bxz (b4 + 1) :: bxz b4 :: intsR w0.heap.size (.slice An n.length cn) n :: L) := H5.sel 3 [1, 2, 0]
  clear H5
  have hfr : firstR k ws = (zA, true) := by
   rw [HFR0.out]
   unfold firstN
   have h := HK.out
   have h2 := HNL.out
   rw [if_neg (by omega), if_neg (by omega), if_neg (by omega), if_neg (by omega), if_neg (by omega)]
   rfl
  have HFR := Lib.hid hfr
  clear hfr
  have lk : ((n.length : Int) == 9) = false := by rw [beq_eq_false_iff_ne]; omega
  clear hn
  have G1 : _ = some (Obj.cells (ansA zA (.slice none 0 0) (.slice none 0 0) (.slice none 0 0)) 32 (0, 0)) := H6.head
  have G3 : _ = some (Obj.cells _ 32 (0, 0)) := H6.tail.head
  have HT := HL.setWhole (cells := ansA zA (.slice none 0 0) (.slice none 0 0) (.slice none 0 0)) H6.tail
  go_wp2_with (first
   | (have g1 := G1; refine wpList_load_row rfl 32 _ rfl (b4 + 1) rfl 32 _ (0, 0) _ g1 Tryz.underlying32 rfl (ansA_size _ _ _ _) ?_; clear g1 G1)
   | (refine wpList_store_row rfl 32 _ _ rfl b4 (ansA zA (.slice none 0 0) (.slice none 0 0) (.slice none 0 0)) rfl rfl 32 _ G3 (ansA_size _ _ _ _) rfl (ansA_one _ _ _ _ _ _ _ _ _ _) ?_))
  have G5 := HT.head
  refine bodyPost_ret (results_two (by rfl) _ _ b4 32 _ (0, 0) _ _ (by rfl) (by rfl) G5 Tryz.underlying32 rfl (ansA_size _ _ _ _)) rfl ?_
  exact firstPost_none HFR.out rfl HT.tail.tail
theorem Ref.fi_no9 (hD : Doors w0) (H : HL w0 w L) {ws : List ByteArray} (h : Strs w0 L v ws) (hz : ∀ s ∈ ws, s.size ≤ 1000000000) (hpos : 0 < ws.length) (hl : ws.length ≤ 1048577) (k : Int) (hne : ¬ (ws.headD ⟨#[]⟩ = errorW ∧ ws.length = 2)) (hk : k = 9) {n : List Int} (hnr : readV (ws.drop 1) = some n) (hn : n.length < 6) (hjb : jbB k ws = false) :
  Calls Tryz.prog 45 #[.int .i64 k, v] w (FirstPost w0 L (firstR k ws)) := by
 obtain ⟨A, c, rfl, hc1, hc2⟩ := rd_shape (h w H)
 unfold maxLen at hc2
 have H1 := HL.bzA H
 have H2 := HL.bzA H1
 rw [World.size_alloc] at H2
 have G2 : _ = some (Obj.cells _ 32 (0, 0)) := H2.head
 have HS : HL w0 _ (bxz _ :: _) := HL.setWhole (cells := ansA zA (.slice none 0 0) (.slice none 0 0) (.slice none 0 0)) H2
 generalize hb4 : w.heap.size = b4 at *
 have h3 := (h.cons (bxz b4)).cons (bxz (b4 + 1))
 obtain ⟨s0, hs0⟩ : ∃ x, ws[0]? = some x := ⟨_, List.getElem?_eq_getElem hpos⟩
 have hhead : ws.headD ⟨#[]⟩ = s0 := by cases ws with
  | nil => simp at hs0
  | cons x r => simpa using hs0
 have HZ := Lib.hid hz; have HL1 := Lib.hid hl; have HHD := Lib.hid hhead; have HS0 := Lib.hid hs0; have HNE := Lib.hid hne; have HJB := Lib.hid hjb; have HK := Lib.hid hk; have HN := Lib.hid hnr; have HNL := Lib.hid hn
 clear H H1 H2 h hz hl hhead hs0 hne hjb hk hnr hn
 go_enter Tryz.func45, Tryz.ntmps45
 go_upto_region 2 with (refine wpList_store_row rfl 32 _ _ rfl (b4 + 1) (ansA zA (.slice none 0 0) (.slice none 0 0) (.slice none 0 0)) rfl rfl 32 _ G2 (ansA_size _ _ _ _) rfl (ansA_one _ _ _ _ _ _ _ _ _ _) ?_)
 dsimp only [Act.put]
 have HB4 := Lib.hid hb4
 clear hb4 G2
 generalize World.setRow _ _ _ = W at *
 obtain ⟨b1, o1, c1, hv, d0⟩ := str_at (h3 _ HS) HS0.out
 simp only [Value.slice.injEq] at hv
 obtain ⟨rfl, -, rfl⟩ := hv
 rw [Nat.add_zero] at d0
 have i0 : (0 : Int) < (ws.length : Int) := by omega
 go_cut [22] (fun t22 wc => t22 = .bool false ∧ W = wc)
 case first =>
  by_cases ge : s0 = errorW
  ·have q0 : (s0.toList == [101, 114, 114, 111, 114]) = true := by rw [ge]; decide +kernel
   have l2 : ((ws.length : Int) == 2) = false := by rw [beq_eq_false_iff_ne]; have h1 := HNE.out; have h2 := HHD.out; exact fun g => h1 ⟨by rw [h2]; exact ge, by omega⟩
   clear ge
   go_wp2
   go_meet
   exact ⟨rfl, rfl⟩
  ·have q0 : (s0.toList == [101, 114, 114, 111, 114]) = false := by rw [beq_eq_false_iff_ne]; exact fun e => ge (bytesSame (e.trans (by decide +kernel)))
   clear ge
   go_wp2
   go_meet
   exact ⟨rfl, rfl⟩
 case rest =>
  obtain ⟨rfl, rfl⟩ := hcut
  clear d0
  have q11 : (k == 11) = false := by rw [HK.out]; rfl
  have q1 : (k == 1) = false := by rw [HK.out]; rfl
  have q5 : (k == 5) = false := by rw [HK.out]; rfl
  have q9 : (k == 9) = true := by rw [HK.out]; rfl
  have q10 : (k == 10) = false := by rw [HK.out]; rfl
  have q12 : (k == 12) = false := by rw [HK.out]; rfl
  have q13 : (k == 13) = false := by rw [HK.out]; rfl
  have l5 : decide ((5 : Int) < (ws.length : Int)) = false := by
   have h := HJB.out
   unfold jbB at h
   rw [show (k == 9) = true from q9, Bool.true_and] at h
   rw [decide_eq_false_iff_not] at h ⊢
   omega
  have hfr0 : firstR k ws = match readV (ws.drop 1) with | none => (zA, false) | some n => (firstN k 0 n, true) := by
   have hj : jbB k ws = false := HJB.out
   unfold firstR
   rw [if_neg HNE.out, if_neg (by have h := HK.out; omega)]
   unfold jW stJ
   rw [hj]
   rfl
  obtain ⟨l1, hl1⟩ : ∃ l1, ws.length = l1 + 1 := ⟨ws.length - 1, by omega⟩
  obtain ⟨cc, rfl⟩ : ∃ cc, c = cc + 1 := ⟨c - 1, by omega⟩
  obtain ⟨A', hA'⟩ : ∃ A', (if cc = 0 then some (⟨b1, o1, none⟩ : Addr) else some ⟨b1, o1 + 1, none⟩) = A' := ⟨_, rfl⟩
  have hle : l1 ≤ cc := by omega
  have hwd : (ws.drop 1).length = l1 := by rw [List.length_drop, hl1]; rfl
  have hRs : Strs w0 (bxz (b4 + 1) :: bxz b4 :: L) (.slice A' l1 cc) (ws.drop 1) := fun W' HW => by
   have h1 : Rd 1 _ ws.length (strC ws) W' := h3 W' HW
   rw [hl1] at h1
   rw [hwd, strC, List.map_drop, ← hA']
   by_cases hz : cc = 0
   ·rw [if_pos hz]
    have := rd_suffix h1 1 (by omega) (a' := ⟨b1, o1, none⟩) (.inr (by omega))
    simpa using this
   ·rw [if_neg hz]
    have := rd_suffix h1 1 (by omega) (a' := ⟨b1, o1 + 1, none⟩) (.inl (by rw [add_plain]))
    simpa using this
  have hsz : ∀ x ∈ ws.drop 1, x.size ≤ 1000000000 := fun x hx => HZ.out x (List.mem_of_mem_drop hx)
  have hrd := Ref.read_ok HS hRs hsz (by rw [hwd]; have := HL1.out; omega)
  clear hsz hRs
  have hl0 : (0 : Int) < (l1 : Int) + 1 := by omega
  have hi1 : (1 : Int) ≤ (l1 : Int) + 1 := by omega
  have HWD := Lib.hid hwd; have HLL := Lib.hid hl1
  rw [hl1]
  clear hwd hl1 h3
  have l5' : decide ((5 : Int) < (l1 : Int) + 1) = false := by have h := l5; rw [HLL.out] at h; exact h
  clear l5
  rw [show (RefReadsPost w0 (bxz (b4 + 1) :: bxz b4 :: L) (ws.drop 1)) = fun e w' => ∃ u, e = .returned (.tuple #[u, .bool true]) ∧ HL w0 w' (intsR w0.heap.size u n :: bxz (b4 + 1) :: bxz b4 :: L) from by funext e w'; unfold RefReadsPost; rw [HN.out]] at hrd
  have hfr : firstR k ws = (firstN k 0 n, true) := by rw [hfr0, HN.out]
  have HFR0 := Lib.hid hfr
  clear hfr hfr0
  have hn := HNL.out
  go_upto_region 18 with (go_at_call 46; refine hrd.mono ?_; rintro r w5 ⟨u, rfl, H5⟩; clear hrd HS)
  obtain ⟨An, cn, rfl, hn1, hn2⟩ := rd_shape (entRow _ H5)
  unfold maxLen at hn2
  have H6 : HL w0 w5 (bxz (b4 + 1) :: bxz b4 :: intsR w0.heap.size (.slice An n.length cn) n :: L) := H5.sel 3 [1, 2, 0]
  clear H5
  have hfr : firstR k ws = (zA, true) := by
   rw [HFR0.out]
   unfold firstN
   have h := HK.out
   have h2 := HNL.out
   rw [if_neg (by omega), if_neg (by omega), if_neg (by omega), if_neg (by omega), if_neg (by omega)]
   rfl
  have HFR := Lib.hid hfr
  clear hfr
  have lk : decide ((6 : Int) ≤ (n.length : Int)) = false := decide_eq_false (by omega)
  clear hn
  have G1 : _ = some (Obj.cells (ansA zA (.slice none 0 0) (.slice none 0 0) (.slice none 0 0)) 32 (0, 0)) := H6.head
  have G3 : _ = some (Obj.cells _ 32 (0, 0)) := H6.tail.head
  have HT := HL.setWhole (cells := ansA zA (.slice none 0 0) (.slice none 0 0) (.slice none 0 0)) H6.tail
  go_wp2_with (first
   | (have g1 := G1; refine wpList_load_row rfl 32 _ rfl (b4 + 1) rfl 32 _ (0, 0) _ g1 Tryz.underlying32 rfl (ansA_size _ _ _ _) ?_; clear g1 G1)
   | (refine wpList_store_row rfl 32 _ _ rfl b4 (ansA zA (.slice none 0 0) (.slice none 0 0) (.slice none 0 0)) rfl rfl 32 _ G3 (ansA_size _ _ _ _) rfl (ansA_one _ _ _ _ _ _ _ _ _ _) ?_))
  have G5 := HT.head
  refine bodyPost_ret (results_two (by rfl) _ _ b4 32 _ (0, 0) _ _ (by rfl) (by rfl) G5 Tryz.underlying32 rfl (ansA_size _ _ _ _)) rfl ?_
  exact firstPost_none HFR.out rfl HT.tail.tail
theorem Ref.fi_no0 (hD : Doors w0) (H : HL w0 w L) {ws : List ByteArray} (h : Strs w0 L v ws) (hz : ∀ s ∈ ws, s.size ≤ 1000000000) (hpos : 0 < ws.length) (hl : ws.length ≤ 1048577) (k : Int) (hne : ¬ (ws.headD ⟨#[]⟩ = errorW ∧ ws.length = 2)) (hk : k ≠ 11 ∧ k ≠ 1 ∧ k ≠ 5 ∧ k ≠ 9 ∧ k ≠ 10 ∧ k ≠ 12 ∧ k ≠ 13) {n : List Int} (hnr : readV (ws.drop 1) = some n) (hn : n.length = n.length) (hjb : jbB k ws = false) :
  Calls Tryz.prog 45 #[.int .i64 k, v] w (FirstPost w0 L (firstR k ws)) := by
 obtain ⟨A, c, rfl, hc1, hc2⟩ := rd_shape (h w H)
 unfold maxLen at hc2
 have H1 := HL.bzA H
 have H2 := HL.bzA H1
 rw [World.size_alloc] at H2
 have G2 : _ = some (Obj.cells _ 32 (0, 0)) := H2.head
 have HS : HL w0 _ (bxz _ :: _) := HL.setWhole (cells := ansA zA (.slice none 0 0) (.slice none 0 0) (.slice none 0 0)) H2
 generalize hb4 : w.heap.size = b4 at *
 have h3 := (h.cons (bxz b4)).cons (bxz (b4 + 1))
 obtain ⟨s0, hs0⟩ : ∃ x, ws[0]? = some x := ⟨_, List.getElem?_eq_getElem hpos⟩
 have hhead : ws.headD ⟨#[]⟩ = s0 := by cases ws with
  | nil => simp at hs0
  | cons x r => simpa using hs0
 have HZ := Lib.hid hz; have HL1 := Lib.hid hl; have HHD := Lib.hid hhead; have HS0 := Lib.hid hs0; have HNE := Lib.hid hne; have HJB := Lib.hid hjb; have HK := Lib.hid hk; have HN := Lib.hid hnr; have HNL := Lib.hid hn
 clear H H1 H2 h hz hl hhead hs0 hne hjb hk hnr hn
 go_enter Tryz.func45, Tryz.ntmps45
 go_upto_region 2 with (refine wpList_store_row rfl 32 _ _ rfl (b4 + 1) (ansA zA (.slice none 0 0) (.slice none 0 0) (.slice none 0 0)) rfl rfl 32 _ G2 (ansA_size _ _ _ _) rfl (ansA_one _ _ _ _ _ _ _ _ _ _) ?_)
 dsimp only [Act.put]
 have HB4 := Lib.hid hb4
 clear hb4 G2
 generalize World.setRow _ _ _ = W at *
 obtain ⟨b1, o1, c1, hv, d0⟩ := str_at (h3 _ HS) HS0.out
 simp only [Value.slice.injEq] at hv
 obtain ⟨rfl, -, rfl⟩ := hv
 rw [Nat.add_zero] at d0
 have i0 : (0 : Int) < (ws.length : Int) := by omega
 go_cut [22] (fun t22 wc => t22 = .bool false ∧ W = wc)
 case first =>
  by_cases ge : s0 = errorW
  ·have q0 : (s0.toList == [101, 114, 114, 111, 114]) = true := by rw [ge]; decide +kernel
   have l2 : ((ws.length : Int) == 2) = false := by rw [beq_eq_false_iff_ne]; have h1 := HNE.out; have h2 := HHD.out; exact fun g => h1 ⟨by rw [h2]; exact ge, by omega⟩
   clear ge
   go_wp2
   go_meet
   exact ⟨rfl, rfl⟩
  ·have q0 : (s0.toList == [101, 114, 114, 111, 114]) = false := by rw [beq_eq_false_iff_ne]; exact fun e => ge (bytesSame (e.trans (by decide +kernel)))
   clear ge
   go_wp2
   go_meet
   exact ⟨rfl, rfl⟩
 case rest =>
  obtain ⟨rfl, rfl⟩ := hcut
  clear d0
  have q11 : (k == 11) = false := by have h := HK.out; simp; omega
  have q1 : (k == 1) = false := by have h := HK.out; simp; omega
  have q5 : (k == 5) = false := by have h := HK.out; simp; omega
  have q9 : (k == 9) = false := by have h := HK.out; simp; omega
  have q10 : (k == 10) = false := by have h := HK.out; simp; omega
  have q12 : (k == 12) = false := by have h := HK.out; simp; omega
  have q13 : (k == 13) = false := by have h := HK.out; simp; omega
  have hfr0 : firstR k ws = match readV (ws.drop 1) with | none => (zA, false) | some n => (firstN k 0 n, true) := by
   have hj : jbB k ws = false := HJB.out
   unfold firstR
   rw [if_neg HNE.out, if_neg (by have h := HK.out; omega)]
   unfold jW stJ
   rw [hj]
   rfl
  obtain ⟨l1, hl1⟩ : ∃ l1, ws.length = l1 + 1 := ⟨ws.length - 1, by omega⟩
  obtain ⟨cc, rfl⟩ : ∃ cc, c = cc + 1 := ⟨c - 1, by omega⟩
  obtain ⟨A', hA'⟩ : ∃ A', (if cc = 0 then some (⟨b1, o1, none⟩ : Addr) else some ⟨b1, o1 + 1, none⟩) = A' := ⟨_, rfl⟩
  have hle : l1 ≤ cc := by omega
  have hwd : (ws.drop 1).length = l1 := by rw [List.length_drop, hl1]; rfl
  have hRs : Strs w0 (bxz (b4 + 1) :: bxz b4 :: L) (.slice A' l1 cc) (ws.drop 1) := fun W' HW => by
   have h1 : Rd 1 _ ws.length (strC ws) W' := h3 W' HW
   rw [hl1] at h1
   rw [hwd, strC, List.map_drop, ← hA']
   by_cases hz : cc = 0
   ·rw [if_pos hz]
    have := rd_suffix h1 1 (by omega) (a' := ⟨b1, o1, none⟩) (.inr (by omega))
    simpa using this
   ·rw [if_neg hz]
    have := rd_suffix h1 1 (by omega) (a' := ⟨b1, o1 + 1, none⟩) (.inl (by rw [add_plain]))
    simpa using this
  have hsz : ∀ x ∈ ws.drop 1, x.size ≤ 1000000000 := fun x hx => HZ.out x (List.mem_of_mem_drop hx)
  have hrd := Ref.read_ok HS hRs hsz (by rw [hwd]; have := HL1.out; omega)
  clear hsz hRs
  have hl0 : (0 : Int) < (l1 : Int) + 1 := by omega
  have hi1 : (1 : Int) ≤ (l1 : Int) + 1 := by omega
  have HWD := Lib.hid hwd; have HLL := Lib.hid hl1
  rw [hl1]
  clear hwd hl1 h3
  rw [show (RefReadsPost w0 (bxz (b4 + 1) :: bxz b4 :: L) (ws.drop 1)) = fun e w' => ∃ u, e = .returned (.tuple #[u, .bool true]) ∧ HL w0 w' (intsR w0.heap.size u n :: bxz (b4 + 1) :: bxz b4 :: L) from by funext e w'; unfold RefReadsPost; rw [HN.out]] at hrd
  have hfr : firstR k ws = (firstN k 0 n, true) := by rw [hfr0, HN.out]
  have HFR0 := Lib.hid hfr
  clear hfr hfr0
  have hn := HNL.out
  go_upto_region 18 with (go_at_call 46; refine hrd.mono ?_; rintro r w5 ⟨u, rfl, H5⟩; clear hrd HS)
  obtain ⟨An, cn, rfl, hn1, hn2⟩ := rd_shape (entRow _ H5)
  unfold maxLen at hn2
  have H6 : HL w0 w5 (bxz (b4 + 1) :: bxz b4 :: intsR w0.heap.size (.slice An n.length cn) n :: L) := H5.sel 3 [1, 2, 0]
  clear H5
  have hfr : firstR k ws = (zA, true) := by
   rw [HFR0.out]
   unfold firstN
   have h := HK.out
   have h2 := HNL.out
   rw [if_neg (by omega), if_neg (by omega), if_neg (by omega), if_neg (by omega), if_neg (by omega)]
   rfl
  have HFR := Lib.hid hfr
  clear hfr
  clear hn
  have G1 : _ = some (Obj.cells (ansA zA (.slice none 0 0) (.slice none 0 0) (.slice none 0 0)) 32 (0, 0)) := H6.head
  have G3 : _ = some (Obj.cells _ 32 (0, 0)) := H6.tail.head
  have HT := HL.setWhole (cells := ansA zA (.slice none 0 0) (.slice none 0 0) (.slice none 0 0)) H6.tail
  go_wp2_with (first
   | (have g1 := G1; refine wpList_load_row rfl 32 _ rfl (b4 + 1) rfl 32 _ (0, 0) _ g1 Tryz.underlying32 rfl (ansA_size _ _ _ _) ?_; clear g1 G1)
   | (refine wpList_store_row rfl 32 _ _ rfl b4 (ansA zA (.slice none 0 0) (.slice none 0 0) (.slice none 0 0)) rfl rfl 32 _ G3 (ansA_size _ _ _ _) rfl (ansA_one _ _ _ _ _ _ _ _ _ _) ?_))
  have G5 := HT.head
  refine bodyPost_ret (results_two (by rfl) _ _ b4 32 _ (0, 0) _ _ (by rfl) (by rfl) G5 Tryz.underlying32 rfl (ansA_size _ _ _ _)) rfl ?_
  exact firstPost_none HFR.out rfl HT.tail.tail
end
open Go.RowKit Go.Proofs.HL Go.Proofs.An
section
variable {w0 w : World} {L : List At} {v : Value}
theorem Ref.fi_jbad (hD : Doors w0) (H : HL w0 w L) {ws : List ByteArray} (h : Strs w0 L v ws) (hz : ∀ s ∈ ws, s.size ≤ 1000000000) (hpos : 0 < ws.length) (hl : ws.length ≤ 1048577) (k : Int) (hne : ¬ (ws.headD ⟨#[]⟩ = errorW ∧ ws.length = 2)) (hk : k = 9) (hl5 : 5 < ws.length) (hnr : readV (((ws.take 5 ++ ws.drop 6)).drop 1) = none) :
  Calls Tryz.prog 45 #[.int .i64 k, v] w (FirstPost w0 L (firstR k ws)) := by
 obtain ⟨A, c, rfl, hc1, hc2⟩ := rd_shape (h w H)
 unfold maxLen at hc2
 have H1 := HL.bzA H
 have H2 := HL.bzA H1
 rw [World.size_alloc] at H2
 have G2 : _ = some (Obj.cells _ 32 (0, 0)) := H2.head
 have HS : HL w0 _ (bxz _ :: _) := HL.setWhole (cells := ansA zA (.slice none 0 0) (.slice none 0 0) (.slice none 0 0)) H2
 generalize hb4 : w.heap.size = b4 at *
 have h3 := (h.cons (bxz b4)).cons (bxz (b4 + 1))
 obtain ⟨s0, hs0⟩ : ∃ x, ws[0]? = some x := ⟨_, List.getElem?_eq_getElem hpos⟩
 have hhead : ws.headD ⟨#[]⟩ = s0 := by cases ws with
  | nil => simp at hs0
  | cons x r => simpa using hs0
 have HZ := Lib.hid hz; have HL1 := Lib.hid hl; have HHD := Lib.hid hhead; have HS0 := Lib.hid hs0; have HNE := Lib.hid hne; have HK := Lib.hid hk; have HL5 := Lib.hid hl5; have HN := Lib.hid hnr
 clear H H1 H2 hz hl hhead hs0 hne hk hl5 hnr
 go_enter Tryz.func45, Tryz.ntmps45
 go_upto_region 2 with (refine wpList_store_row rfl 32 _ _ rfl (b4 + 1) (ansA zA (.slice none 0 0) (.slice none 0 0) (.slice none 0 0)) rfl rfl 32 _ G2 (ansA_size _ _ _ _) rfl (ansA_one _ _ _ _ _ _ _ _ _ _) ?_)
 dsimp only [Act.put]
 have HB4 := Lib.hid hb4
 clear hb4 G2
 generalize World.setRow _ _ _ = W at *
 obtain ⟨b1, o1, c1, hv, d0⟩ := str_at (h3 _ HS) HS0.out
 simp only [Value.slice.injEq] at hv
 obtain ⟨rfl, -, rfl⟩ := hv
 rw [Nat.add_zero] at d0
 have i0 : (0 : Int) < (ws.length : Int) := by omega
 obtain ⟨s5, hs5⟩ : ∃ x, ws[5]? = some x := ⟨_, List.getElem?_eq_getElem HL5.out⟩
 have HS5 := Lib.hid hs5
 clear hs5
 go_cut [22] (fun t22 wc => t22 = .bool false ∧ W = wc)
 case first =>
  by_cases ge : s0 = errorW
  ·have q0 : (s0.toList == [101, 114, 114, 111, 114]) = true := by rw [ge]; decide +kernel
   have l2 : ((ws.length : Int) == 2) = false := by rw [beq_eq_false_iff_ne]; have h1 := HNE.out; have h2 := HHD.out; exact fun g => h1 ⟨by rw [h2]; exact ge, by omega⟩
   clear ge
   go_wp2
   go_meet
   exact ⟨rfl, rfl⟩
  ·have q0 : (s0.toList == [101, 114, 114, 111, 114]) = false := by rw [beq_eq_false_iff_ne]; exact fun e => ge (bytesSame (e.trans (by decide +kernel)))
   clear ge
   go_wp2
   go_meet
   exact ⟨rfl, rfl⟩
 case rest =>
  obtain ⟨rfl, rfl⟩ := hcut
  clear d0
  have q11 : (k == 11) = false := by rw [HK.out]; rfl
  have q9 : (k == 9) = true := by rw [HK.out]; rfl
  have q1 : (k == 1) = false := by rw [HK.out]; rfl
  have q5 : (k == 5) = false := by rw [HK.out]; rfl
  have l5 : decide ((5 : Int) < (ws.length : Int)) = true := decide_eq_true (by have := HL5.out; omega)
  have i5 : (5 : Int) < (ws.length : Int) := by have := HL5.out; omega
  have hS5 : ∀ W' A', HL w0 W' (A' :: bxz b4 :: L) → W'.cell? ⟨b1, o1 + 5, none⟩ = some (.string s5) := fun W' A' HW => by
   obtain ⟨b', o', c', hv, g⟩ := str_at ((h.cons (bxz b4)).cons A' W' HW) HS5.out
   simp only [Value.slice.injEq, Option.some.injEq, Addr.mk.injEq] at hv
   obtain ⟨⟨rfl, rfl, -⟩, -, -⟩ := hv
   exact g
  go_wp2
  go_loopg [9] 6 (fun g i wr => ∃ kk : Nat, i = .int .i64 (1 + (kk : Int)) ∧ kk + g = 6 ∧ HL w0 wr (boxA (b4 + 1) { zA with job := { zJ with st := stK s5 kk } } (.slice none 0 0) (.slice none 0 0) (.slice none 0 0) :: bxz b4 :: L))
  case atStart => exact ⟨0, rfl, rfl, by rw [stK_0]; exact HS⟩
  case round =>
   obtain ⟨kk, rfl, hkk, HK6⟩ := hrel
   clear HS
   by_cases hlt : kk < 6
   ·have hg : 1 + (kk : Int) ≤ 6 := by omega
    have hst := fun W => Ref.state_ok (1 + (kk : Int)) W
    by_cases hs : stW (1 + (kk : Int)) = s5
    ·skip
     have hq : ((stW (1 + (kk : Int))).toList == s5.toList) = true := by rw [← hs]; exact beq_self_eq_true _
     have HN := Lib.hid (stK_hit hlt hs)
     clear hs
     generalize stW (1 + (kk : Int)) = SW at *
     go_wp2
     refine wp_region_held_drew (S := fun w' => w'.cell? ⟨b1, o1 + 5, none⟩ = some (.string s5)) (by kernel_rfl) (hS5 _ _ HK6.drew) (fun hHeld => ?_)
     have Hd := HK6.drew
     clear HK6
     generalize World.drew _ = Wd at *
     refine ztk 0 ?_
     simp only [Act.put, zp]
     refine ztk 2 ?_
     simp only [Act.put, zp]
     refine ztk 3 ?_
     simp only [Act.put, zp]
     refine ztk 4 ?_
     simp only [Act.put, zp]
     refine zry 1 (fun K' hK' => ?_)
     dsimp only [zg1, zg3, zg2]
     go_simp
     go_at_call 34
     refine (hst _).mono ?_
     rintro r w6 ⟨rfl, rfl⟩
     dsimp only
     go_simp
     refine hK'.out _ _ (hS5 _ _ Hd) (fun hHeld => ?_)
     clear hK' K'
     try simp only [Act.put, zp]
     refine ztk 5 ?_
     simp only [Act.put, zp]
     refine wpAnyH_done (by kernel_rfl) ?_ _
     have HS7 : HL w0 _ (boxA (b4 + 1) { zA with job := { zJ with st := 1 + (kk : Int) } } (.slice none 0 0) (.slice none 0 0) (.slice none 0 0) :: bxz b4 :: L) := HL.setCell Hd 7 (.int .i64 (1 + (kk : Int)))
     have m7 := HL.cell Hd 7
     have y7 := HL.frozen Hd 7
     go_wp2
     go_roundg (gk - 1)
     case measure => omega
     case rel => exact ⟨kk + 1, by go_num, by omega, by rw [HN.out]; exact HS7⟩
    ·skip
     have hq : ((stW (1 + (kk : Int))).toList == s5.toList) = false := by rw [beq_eq_false_iff_ne]; exact fun e => hs (bytesSame e)
     have HN := Lib.hid (stK_miss hlt hs)
     clear hs
     generalize stW (1 + (kk : Int)) = SW at *
     go_wp2
     refine wp_region_held_drew (S := fun w' => w'.cell? ⟨b1, o1 + 5, none⟩ = some (.string s5)) (by kernel_rfl) (hS5 _ _ HK6.drew) (fun hHeld => ?_)
     have Hd := HK6.drew
     clear HK6
     generalize World.drew _ = Wd at *
     refine ztk 0 ?_
     simp only [Act.put, zp]
     refine ztk 2 ?_
     simp only [Act.put, zp]
     refine ztk 3 ?_
     simp only [Act.put, zp]
     refine ztk 4 ?_
     simp only [Act.put, zp]
     refine zry 1 (fun K' hK' => ?_)
     dsimp only [zg1, zg3, zg2]
     go_simp
     go_at_call 34
     refine (hst _).mono ?_
     rintro r w6 ⟨rfl, rfl⟩
     dsimp only
     go_simp
     refine hK'.out _ _ (hS5 _ _ Hd) (fun hHeld => ?_)
     clear hK' K'
     try simp only [Act.put, zp]
     refine ztk 5 ?_
     simp only [Act.put, zp]
     refine wpAnyH_done (by kernel_rfl) ?_ _
     go_wp2
     go_roundg (gk - 1)
     case measure => omega
     case rel => exact ⟨kk + 1, by go_num, by omega, by rw [HN.out]; exact Hd⟩
   ·have hg : 6 < 1 + (kk : Int) := by omega
    obtain rfl : kk = 6 := by omega
    rw [stK_6] at HK6
    have hstn : stJ k ws = stN s5 := by
     unfold stJ jbB
     rw [show (k == 9) = true from q9, Bool.true_and, if_pos (decide_eq_true HL5.out), List.getD_eq_getElem?_getD, HS5.out]
     rfl
    have hjw : jW k ws = (ws.take 5 ++ ws.drop 6) := by
     unfold jW jbB
     rw [show (k == 9) = true from q9, Bool.true_and, if_pos (decide_eq_true HL5.out)]
    have hfr0 : firstR k ws = match readV (((ws.take 5 ++ ws.drop 6)).drop 1) with | none => ({ zA with job := { zJ with st := stN s5 } }, false) | some n => (firstN k (stN s5) n, true) := by
     unfold firstR
     rw [if_neg HNE.out, if_neg (by have h := HK.out; omega), hjw, hstn]
     rfl
    have HFR0 := Lib.hid hfr0
    clear hstn hjw hfr0 hS5 hlt hg hkk
    generalize stN s5 = st at *
    obtain ⟨l6, hl6⟩ : ∃ l6, ws.length = l6 + 6 := ⟨ws.length - 6, by have := HL5.out; omega⟩
    obtain ⟨c6, rfl⟩ : ∃ c6, c = c6 + 6 := ⟨c - 6, by omega⟩
    obtain ⟨A6, hA6⟩ : ∃ A', (if c6 = 0 then some (⟨b1, o1, none⟩ : Addr) else some ⟨b1, o1 + 6, none⟩) = A' := ⟨_, rfl⟩
    have hr5 : ∀ W' A' B', HL w0 W' (A' :: B' :: bxz b4 :: L) → Rd 1 (.slice (some ⟨b1, o1, none⟩) 5 (c6 + 6)) (ws.take 5).length (strC (ws.take 5)) W' := fun W' A' B' HW => by
     have h1 := rd_prefix (((h.cons (bxz b4)).cons B').cons A' W' HW) 5 (by omega)
     rw [Nat.mul_one, strC, ← List.map_take] at h1
     rw [show (ws.take 5).length = 5 by rw [List.length_take]; omega]
     exact h1
    have hr6 : ∀ W' A' B', HL w0 W' (A' :: B' :: bxz b4 :: L) → Rd 1 (.slice A6 l6 c6) (ws.drop 6).length (strC (ws.drop 6)) W' := fun W' A' B' HW => by
     have h1 : Rd 1 _ ws.length (strC ws) W' := ((h.cons (bxz b4)).cons B').cons A' W' HW
     rw [hl6] at h1
     rw [show (ws.drop 6).length = l6 by rw [List.length_drop, hl6]; rfl, strC, List.map_drop, ← hA6]
     by_cases hz : c6 = 0
     ·rw [if_pos hz]
      have := rd_suffix h1 6 (by omega) (a' := ⟨b1, o1, none⟩) (.inr (by omega))
      simpa using this
     ·rw [if_neg hz]
      have := rd_suffix h1 6 (by omega) (a' := ⟨b1, o1 + 6, none⟩) (.inl (by rw [add_plain]))
      simpa using this
    have H7 : HL w0 _ (strs w0.heap.size (.slice none 0 0) [] :: boxA (b4 + 1) { zA with job := { zJ with st := st } } (.slice none 0 0) (.slice none 0 0) (.slice none 0 0) :: bxz b4 :: L) := HK6.nilRow _ _ _
    have hx5 := hr5 _ _ _ H7
    have ht5 : (ws.take 5).length = 5 := by rw [List.length_take]; omega
    have hd6 : (ws.drop 6).length = l6 := by rw [List.length_drop, hl6]; rfl
    have hl6' := hl6
    have HL6 := Lib.hid hl6'
    clear hl6' HK6
    rw [hl6]
    go_upto_region 16 with (at_builtin; refine append_strs2 (v := (.slice none 0 0)) (xs := []) (ys := ws.take 5) rfl _ _ rfl H7 rfl rfl hx5 (by rw [ht5]; simp) ?_; intro v7 w7 H8; clear H7 hx5)
    have H9 : HL w0 w7 (strs w0.heap.size v7 (ws.take 5) :: boxA (b4 + 1) { zA with job := { zJ with st := st } } (.slice none 0 0) (.slice none 0 0) (.slice none 0 0) :: bxz b4 :: L) := H8
    clear H8
    obtain ⟨A7, c7, rfl, hc3, hc4⟩ := rd_shape (entRow _ H9)
    unfold maxLen at hc4
    have hx6 := hr6 _ _ _ H9
    have HT5 := Lib.hid ht5; have HD6 := Lib.hid hd6
    clear ht5 hd6
    go_upto_region 17 with (at_builtin; refine append_strs2 (v := .slice A7 (ws.take 5).length c7) (xs := ws.take 5) (ys := ws.drop 6) rfl _ _ rfl H9 rfl rfl hx6 (by rw [HT5.out, HD6.out]; have := HL1.out; have := HL6.out; omega) ?_; intro v8 w8 H10; clear H9 hx6)
    clear hr5 hr6 hA6 h h3
    have hjl := Lib.hid (show ((ws.take 5 ++ ws.drop 6)).length = l6 + 5 by rw [List.length_append, HT5.out, HD6.out]; omega)
    have hjz := Lib.hid (show ∀ x ∈ (ws.take 5 ++ ws.drop 6), x.size ≤ 1000000000 from fun x hx => by
     rcases List.mem_append.1 hx with hx | hx
     ·exact HZ.out x (List.mem_of_mem_take hx)
     ·exact HZ.out x (List.mem_of_mem_drop hx))
    generalize (ws.take 5 ++ ws.drop 6) = jw at *
    obtain ⟨j0, hj0⟩ : ∃ x, jw[0]? = some x := ⟨_, List.getElem?_eq_getElem (by rw [hjl.out]; omega)⟩
    obtain ⟨b8, o8, c8, hv8, -⟩ := str_at (entRow _ H10) hj0
    subst hv8
    obtain ⟨A', c', hv1, hc5, hc6⟩ := rd_shape (entRow _ H10)
    simp only [Value.slice.injEq] at hv1
    obtain ⟨-, -, rfl⟩ := hv1
    unfold maxLen at hc6
    obtain ⟨cc, rfl⟩ : ∃ cc, c8 = cc + 1 := ⟨c8 - 1, by rw [hjl.out] at hc5; omega⟩
    have hle : l6 + 4 ≤ cc := by rw [hjl.out] at hc5; omega
    have hcc0 : ¬ cc = 0 := by omega
    have hwd : (jw.drop 1).length = l6 + 4 := by rw [List.length_drop, hjl.out]; rfl
    have hRs : Strs w0 (strs w0.heap.size (.slice (some ⟨b8, o8, none⟩) jw.length (cc + 1)) jw :: boxA (b4 + 1) { zA with job := { zJ with st := st } } (.slice none 0 0) (.slice none 0 0) (.slice none 0 0) :: bxz b4 :: L) (.slice (some ⟨b8, o8 + 1, none⟩) (l6 + 4) cc) (jw.drop 1) := fun W' HW => by
     have h1 : Rd 1 _ jw.length (strC jw) W' := entRow W' HW
     rw [hjl.out] at h1
     rw [hwd, strC, List.map_drop]
     have := rd_suffix h1 1 (by omega) (a' := ⟨b8, o8 + 1, none⟩) (.inl (by rw [add_plain]))
     simpa using this
    have hrd := Ref.read_ok H10 hRs (fun x hx => hjz.out x (List.mem_of_mem_drop hx)) (by rw [hwd]; have := HL1.out; have := HL6.out; omega)
    clear hRs hj0
    have HWD := Lib.hid hwd
    clear hwd
    have hl0 : (0 : Int) < (l6 : Int) + 5 := by omega
    have hi1 : (1 : Int) ≤ (l6 : Int) + 5 := by omega
    rw [hjl.out]
    rw [show (RefReadsPost w0 (strs w0.heap.size (.slice (some ⟨b8, o8, none⟩) jw.length (cc + 1)) jw :: boxA (b4 + 1) { zA with job := { zJ with st := st } } (.slice none 0 0) (.slice none 0 0) (.slice none 0 0) :: bxz b4 :: L) (jw.drop 1)) = fun e w' => e = .returned (.tuple #[.slice none 0 0, .bool false]) ∧ HL w0 w' (strs w0.heap.size (.slice (some ⟨b8, o8, none⟩) jw.length (cc + 1)) jw :: boxA (b4 + 1) { zA with job := { zJ with st := st } } (.slice none 0 0) (.slice none 0 0) (.slice none 0 0) :: bxz b4 :: L) from by funext e w'; unfold RefReadsPost; rw [HN.out]] at hrd
    have hfr : firstR k ws = ({ zA with job := { zJ with st := st } }, false) := by rw [HFR0.out, HN.out]
    have HFR := Lib.hid hfr
    clear hfr
    go_upto_region 18 with (go_at_call 46; (with_reducible refine hrd.mono ?_); rintro r w9 ⟨rfl, H11⟩; clear hrd H10)
    have H5 := H11.tail
    clear H11
    have G1 : _ = some (Obj.cells (ansA { zA with job := { zJ with st := st } } (.slice none 0 0) (.slice none 0 0) (.slice none 0 0)) 32 (0, 0)) := H5.head
    have G3 : _ = some (Obj.cells _ 32 (0, 0)) := H5.tail.head
    have HT := HL.setWhole (cells := ansA { zA with job := { zJ with st := st } } (.slice none 0 0) (.slice none 0 0) (.slice none 0 0)) H5.tail
    go_wp2_with (first
     | (have g1 := G1; refine wpList_load_row rfl 32 _ rfl (b4 + 1) rfl 32 _ (0, 0) _ g1 Tryz.underlying32 rfl (ansA_size _ _ _ _) ?_; clear g1 G1)
     | (refine wpList_store_row rfl 32 _ _ rfl b4 (ansA { zA with job := { zJ with st := st } } (.slice none 0 0) (.slice none 0 0) (.slice none 0 0)) rfl rfl 32 _ G3 (ansA_size _ _ _ _) rfl (ansA_one _ _ _ _ _ _ _ _ _ _) ?_))
    have G5 := HT.head
    refine bodyPost_ret (results_two (by rfl) _ _ b4 32 _ (0, 0) _ _ (by rfl) (by rfl) G5 Tryz.underlying32 rfl (ansA_size _ _ _ _)) rfl ?_
    exact firstPost_none HFR.out rfl HT.tail
theorem Ref.fi_jno (hD : Doors w0) (H : HL w0 w L) {ws : List ByteArray} (h : Strs w0 L v ws) (hz : ∀ s ∈ ws, s.size ≤ 1000000000) (hpos : 0 < ws.length) (hl : ws.length ≤ 1048577) (k : Int) (hne : ¬ (ws.headD ⟨#[]⟩ = errorW ∧ ws.length = 2)) (hk : k = 9) (hl5 : 5 < ws.length) {n : List Int} (hnr : readV (((ws.take 5 ++ ws.drop 6)).drop 1) = some n) (hn : n.length < 6) :
  Calls Tryz.prog 45 #[.int .i64 k, v] w (FirstPost w0 L (firstR k ws)) := by
 obtain ⟨A, c, rfl, hc1, hc2⟩ := rd_shape (h w H)
 unfold maxLen at hc2
 have H1 := HL.bzA H
 have H2 := HL.bzA H1
 rw [World.size_alloc] at H2
 have G2 : _ = some (Obj.cells _ 32 (0, 0)) := H2.head
 have HS : HL w0 _ (bxz _ :: _) := HL.setWhole (cells := ansA zA (.slice none 0 0) (.slice none 0 0) (.slice none 0 0)) H2
 generalize hb4 : w.heap.size = b4 at *
 have h3 := (h.cons (bxz b4)).cons (bxz (b4 + 1))
 obtain ⟨s0, hs0⟩ : ∃ x, ws[0]? = some x := ⟨_, List.getElem?_eq_getElem hpos⟩
 have hhead : ws.headD ⟨#[]⟩ = s0 := by cases ws with
  | nil => simp at hs0
  | cons x r => simpa using hs0
 have HZ := Lib.hid hz; have HL1 := Lib.hid hl; have HHD := Lib.hid hhead; have HS0 := Lib.hid hs0; have HNE := Lib.hid hne; have HK := Lib.hid hk; have HL5 := Lib.hid hl5; have HN := Lib.hid hnr; have HNL := Lib.hid hn
 clear H H1 H2 hz hl hhead hs0 hne hk hl5 hnr hn
 go_enter Tryz.func45, Tryz.ntmps45
 go_upto_region 2 with (refine wpList_store_row rfl 32 _ _ rfl (b4 + 1) (ansA zA (.slice none 0 0) (.slice none 0 0) (.slice none 0 0)) rfl rfl 32 _ G2 (ansA_size _ _ _ _) rfl (ansA_one _ _ _ _ _ _ _ _ _ _) ?_)
 dsimp only [Act.put]
 have HB4 := Lib.hid hb4
 clear hb4 G2
 generalize World.setRow _ _ _ = W at *
 obtain ⟨b1, o1, c1, hv, d0⟩ := str_at (h3 _ HS) HS0.out
 simp only [Value.slice.injEq] at hv
 obtain ⟨rfl, -, rfl⟩ := hv
 rw [Nat.add_zero] at d0
 have i0 : (0 : Int) < (ws.length : Int) := by omega
 obtain ⟨s5, hs5⟩ : ∃ x, ws[5]? = some x := ⟨_, List.getElem?_eq_getElem HL5.out⟩
 have HS5 := Lib.hid hs5
 clear hs5
 go_cut [22] (fun t22 wc => t22 = .bool false ∧ W = wc)
 case first =>
  by_cases ge : s0 = errorW
  ·have q0 : (s0.toList == [101, 114, 114, 111, 114]) = true := by rw [ge]; decide +kernel
   have l2 : ((ws.length : Int) == 2) = false := by rw [beq_eq_false_iff_ne]; have h1 := HNE.out; have h2 := HHD.out; exact fun g => h1 ⟨by rw [h2]; exact ge, by omega⟩
   clear ge
   go_wp2
   go_meet
   exact ⟨rfl, rfl⟩
  ·have q0 : (s0.toList == [101, 114, 114, 111, 114]) = false := by rw [beq_eq_false_iff_ne]; exact fun e => ge (bytesSame (e.trans (by decide +kernel)))
   clear ge
   go_wp2
   go_meet
   exact ⟨rfl, rfl⟩
 case rest =>
  obtain ⟨rfl, rfl⟩ := hcut
  clear d0
  have q11 : (k == 11) = false := by rw [HK.out]; rfl
  have q9 : (k == 9) = true := by rw [HK.out]; rfl
  have q1 : (k == 1) = false := by rw [HK.out]; rfl
  have q5 : (k == 5) = false := by rw [HK.out]; rfl
  have l5 : decide ((5 : Int) < (ws.length : Int)) = true := decide_eq_true (by have := HL5.out; omega)
  have i5 : (5 : Int) < (ws.length : Int) := by have := HL5.out; omega
  have hS5 : ∀ W' A', HL w0 W' (A' :: bxz b4 :: L) → W'.cell? ⟨b1, o1 + 5, none⟩ = some (.string s5) := fun W' A' HW => by
   obtain ⟨b', o', c', hv, g⟩ := str_at ((h.cons (bxz b4)).cons A' W' HW) HS5.out
   simp only [Value.slice.injEq, Option.some.injEq, Addr.mk.injEq] at hv
   obtain ⟨⟨rfl, rfl, -⟩, -, -⟩ := hv
   exact g
  go_wp2
  go_loopg [9] 6 (fun g i wr => ∃ kk : Nat, i = .int .i64 (1 + (kk : Int)) ∧ kk + g = 6 ∧ HL w0 wr (boxA (b4 + 1) { zA with job := { zJ with st := stK s5 kk } } (.slice none 0 0) (.slice none 0 0) (.slice none 0 0) :: bxz b4 :: L))
  case atStart => exact ⟨0, rfl, rfl, by rw [stK_0]; exact HS⟩
  case round =>
   obtain ⟨kk, rfl, hkk, HK6⟩ := hrel
   clear HS
   by_cases hlt : kk < 6
   ·have hg : 1 + (kk : Int) ≤ 6 := by omega
    have hst := fun W => Ref.state_ok (1 + (kk : Int)) W
    by_cases hs : stW (1 + (kk : Int)) = s5
    ·skip
     have hq : ((stW (1 + (kk : Int))).toList == s5.toList) = true := by rw [← hs]; exact beq_self_eq_true _
     have HN := Lib.hid (stK_hit hlt hs)
     clear hs
     generalize stW (1 + (kk : Int)) = SW at *
     go_wp2
     refine wp_region_held_drew (S := fun w' => w'.cell? ⟨b1, o1 + 5, none⟩ = some (.string s5)) (by kernel_rfl) (hS5 _ _ HK6.drew) (fun hHeld => ?_)
     have Hd := HK6.drew
     clear HK6
     generalize World.drew _ = Wd at *
     refine ztk 0 ?_
     simp only [Act.put, zp]
     refine ztk 2 ?_
     simp only [Act.put, zp]
     refine ztk 3 ?_
     simp only [Act.put, zp]
     refine ztk 4 ?_
     simp only [Act.put, zp]
     refine zry 1 (fun K' hK' => ?_)
     dsimp only [zg1, zg3, zg2]
     go_simp
     go_at_call 34
     refine (hst _).mono ?_
     rintro r w6 ⟨rfl, rfl⟩
     dsimp only
     go_simp
     refine hK'.out _ _ (hS5 _ _ Hd) (fun hHeld => ?_)
     clear hK' K'
     try simp only [Act.put, zp]
     refine ztk 5 ?_
     simp only [Act.put, zp]
     refine wpAnyH_done (by kernel_rfl) ?_ _
     have HS7 : HL w0 _ (boxA (b4 + 1) { zA with job := { zJ with st := 1 + (kk : Int) } } (.slice none 0 0) (.slice none 0 0) (.slice none 0 0) :: bxz b4 :: L) := HL.setCell Hd 7 (.int .i64 (1 + (kk : Int)))
     have m7 := HL.cell Hd 7
     have y7 := HL.frozen Hd 7
     go_wp2
     go_roundg (gk - 1)
     case measure => omega
     case rel => exact ⟨kk + 1, by go_num, by omega, by rw [HN.out]; exact HS7⟩
    ·skip
     have hq : ((stW (1 + (kk : Int))).toList == s5.toList) = false := by rw [beq_eq_false_iff_ne]; exact fun e => hs (bytesSame e)
     have HN := Lib.hid (stK_miss hlt hs)
     clear hs
     generalize stW (1 + (kk : Int)) = SW at *
     go_wp2
     refine wp_region_held_drew (S := fun w' => w'.cell? ⟨b1, o1 + 5, none⟩ = some (.string s5)) (by kernel_rfl) (hS5 _ _ HK6.drew) (fun hHeld => ?_)
     have Hd := HK6.drew
     clear HK6
     generalize World.drew _ = Wd at *
     refine ztk 0 ?_
     simp only [Act.put, zp]
     refine ztk 2 ?_
     simp only [Act.put, zp]
     refine ztk 3 ?_
     simp only [Act.put, zp]
     refine ztk 4 ?_
     simp only [Act.put, zp]
     refine zry 1 (fun K' hK' => ?_)
     dsimp only [zg1, zg3, zg2]
     go_simp
     go_at_call 34
     refine (hst _).mono ?_
     rintro r w6 ⟨rfl, rfl⟩
     dsimp only
     go_simp
     refine hK'.out _ _ (hS5 _ _ Hd) (fun hHeld => ?_)
     clear hK' K'
     try simp only [Act.put, zp]
     refine ztk 5 ?_
     simp only [Act.put, zp]
     refine wpAnyH_done (by kernel_rfl) ?_ _
     go_wp2
     go_roundg (gk - 1)
     case measure => omega
     case rel => exact ⟨kk + 1, by go_num, by omega, by rw [HN.out]; exact Hd⟩
   ·have hg : 6 < 1 + (kk : Int) := by omega
    obtain rfl : kk = 6 := by omega
    rw [stK_6] at HK6
    have hstn : stJ k ws = stN s5 := by
     unfold stJ jbB
     rw [show (k == 9) = true from q9, Bool.true_and, if_pos (decide_eq_true HL5.out), List.getD_eq_getElem?_getD, HS5.out]
     rfl
    have hjw : jW k ws = (ws.take 5 ++ ws.drop 6) := by
     unfold jW jbB
     rw [show (k == 9) = true from q9, Bool.true_and, if_pos (decide_eq_true HL5.out)]
    have hfr0 : firstR k ws = match readV (((ws.take 5 ++ ws.drop 6)).drop 1) with | none => ({ zA with job := { zJ with st := stN s5 } }, false) | some n => (firstN k (stN s5) n, true) := by
     unfold firstR
     rw [if_neg HNE.out, if_neg (by have h := HK.out; omega), hjw, hstn]
     rfl
    have HFR0 := Lib.hid hfr0
    clear hstn hjw hfr0 hS5 hlt hg hkk
    generalize stN s5 = st at *
    obtain ⟨l6, hl6⟩ : ∃ l6, ws.length = l6 + 6 := ⟨ws.length - 6, by have := HL5.out; omega⟩
    obtain ⟨c6, rfl⟩ : ∃ c6, c = c6 + 6 := ⟨c - 6, by omega⟩
    obtain ⟨A6, hA6⟩ : ∃ A', (if c6 = 0 then some (⟨b1, o1, none⟩ : Addr) else some ⟨b1, o1 + 6, none⟩) = A' := ⟨_, rfl⟩
    have hr5 : ∀ W' A' B', HL w0 W' (A' :: B' :: bxz b4 :: L) → Rd 1 (.slice (some ⟨b1, o1, none⟩) 5 (c6 + 6)) (ws.take 5).length (strC (ws.take 5)) W' := fun W' A' B' HW => by
     have h1 := rd_prefix (((h.cons (bxz b4)).cons B').cons A' W' HW) 5 (by omega)
     rw [Nat.mul_one, strC, ← List.map_take] at h1
     rw [show (ws.take 5).length = 5 by rw [List.length_take]; omega]
     exact h1
    have hr6 : ∀ W' A' B', HL w0 W' (A' :: B' :: bxz b4 :: L) → Rd 1 (.slice A6 l6 c6) (ws.drop 6).length (strC (ws.drop 6)) W' := fun W' A' B' HW => by
     have h1 : Rd 1 _ ws.length (strC ws) W' := ((h.cons (bxz b4)).cons B').cons A' W' HW
     rw [hl6] at h1
     rw [show (ws.drop 6).length = l6 by rw [List.length_drop, hl6]; rfl, strC, List.map_drop, ← hA6]
     by_cases hz : c6 = 0
     ·rw [if_pos hz]
      have := rd_suffix h1 6 (by omega) (a' := ⟨b1, o1, none⟩) (.inr (by omega))
      simpa using this
     ·rw [if_neg hz]
      have := rd_suffix h1 6 (by omega) (a' := ⟨b1, o1 + 6, none⟩) (.inl (by rw [add_plain]))
      simpa using this
    have H7 : HL w0 _ (strs w0.heap.size (.slice none 0 0) [] :: boxA (b4 + 1) { zA with job := { zJ with st := st } } (.slice none 0 0) (.slice none 0 0) (.slice none 0 0) :: bxz b4 :: L) := HK6.nilRow _ _ _
    have hx5 := hr5 _ _ _ H7
    have ht5 : (ws.take 5).length = 5 := by rw [List.length_take]; omega
    have hd6 : (ws.drop 6).length = l6 := by rw [List.length_drop, hl6]; rfl
    have hl6' := hl6
    have HL6 := Lib.hid hl6'
    clear hl6' HK6
    rw [hl6]
    go_upto_region 16 with (at_builtin; refine append_strs2 (v := (.slice none 0 0)) (xs := []) (ys := ws.take 5) rfl _ _ rfl H7 rfl rfl hx5 (by rw [ht5]; simp) ?_; intro v7 w7 H8; clear H7 hx5)
    have H9 : HL w0 w7 (strs w0.heap.size v7 (ws.take 5) :: boxA (b4 + 1) { zA with job := { zJ with st := st } } (.slice none 0 0) (.slice none 0 0) (.slice none 0 0) :: bxz b4 :: L) := H8
    clear H8
    obtain ⟨A7, c7, rfl, hc3, hc4⟩ := rd_shape (entRow _ H9)
    unfold maxLen at hc4
    have hx6 := hr6 _ _ _ H9
    have HT5 := Lib.hid ht5; have HD6 := Lib.hid hd6
    clear ht5 hd6
    go_upto_region 17 with (at_builtin; refine append_strs2 (v := .slice A7 (ws.take 5).length c7) (xs := ws.take 5) (ys := ws.drop 6) rfl _ _ rfl H9 rfl rfl hx6 (by rw [HT5.out, HD6.out]; have := HL1.out; have := HL6.out; omega) ?_; intro v8 w8 H10; clear H9 hx6)
    clear hr5 hr6 hA6 h h3
    have hjl := Lib.hid (show ((ws.take 5 ++ ws.drop 6)).length = l6 + 5 by rw [List.length_append, HT5.out, HD6.out]; omega)
    have hjz := Lib.hid (show ∀ x ∈ (ws.take 5 ++ ws.drop 6), x.size ≤ 1000000000 from fun x hx => by
     rcases List.mem_append.1 hx with hx | hx
     ·exact HZ.out x (List.mem_of_mem_take hx)
     ·exact HZ.out x (List.mem_of_mem_drop hx))
    generalize (ws.take 5 ++ ws.drop 6) = jw at *
    obtain ⟨j0, hj0⟩ : ∃ x, jw[0]? = some x := ⟨_, List.getElem?_eq_getElem (by rw [hjl.out]; omega)⟩
    obtain ⟨b8, o8, c8, hv8, -⟩ := str_at (entRow _ H10) hj0
    subst hv8
    obtain ⟨A', c', hv1, hc5, hc6⟩ := rd_shape (entRow _ H10)
    simp only [Value.slice.injEq] at hv1
    obtain ⟨-, -, rfl⟩ := hv1
    unfold maxLen at hc6
    obtain ⟨cc, rfl⟩ : ∃ cc, c8 = cc + 1 := ⟨c8 - 1, by rw [hjl.out] at hc5; omega⟩
    have hle : l6 + 4 ≤ cc := by rw [hjl.out] at hc5; omega
    have hcc0 : ¬ cc = 0 := by omega
    have hwd : (jw.drop 1).length = l6 + 4 := by rw [List.length_drop, hjl.out]; rfl
    have hRs : Strs w0 (strs w0.heap.size (.slice (some ⟨b8, o8, none⟩) jw.length (cc + 1)) jw :: boxA (b4 + 1) { zA with job := { zJ with st := st } } (.slice none 0 0) (.slice none 0 0) (.slice none 0 0) :: bxz b4 :: L) (.slice (some ⟨b8, o8 + 1, none⟩) (l6 + 4) cc) (jw.drop 1) := fun W' HW => by
     have h1 : Rd 1 _ jw.length (strC jw) W' := entRow W' HW
     rw [hjl.out] at h1
     rw [hwd, strC, List.map_drop]
     have := rd_suffix h1 1 (by omega) (a' := ⟨b8, o8 + 1, none⟩) (.inl (by rw [add_plain]))
     simpa using this
    have hrd := Ref.read_ok H10 hRs (fun x hx => hjz.out x (List.mem_of_mem_drop hx)) (by rw [hwd]; have := HL1.out; have := HL6.out; omega)
    clear hRs hj0
    have HWD := Lib.hid hwd
    clear hwd
    have hl0 : (0 : Int) < (l6 : Int) + 5 := by omega
    have hi1 : (1 : Int) ≤ (l6 : Int) + 5 := by omega
    rw [hjl.out]
    rw [show (RefReadsPost w0 (strs w0.heap.size (.slice (some ⟨b8, o8, none⟩) jw.length (cc + 1)) jw :: boxA (b4 + 1) { zA with job := { zJ with st := st } } (.slice none 0 0) (.slice none 0 0) (.slice none 0 0) :: bxz b4 :: L) (jw.drop 1)) = fun e w' => ∃ u, e = .returned (.tuple #[u, .bool true]) ∧ HL w0 w' (intsR w0.heap.size u n :: strs w0.heap.size (.slice (some ⟨b8, o8, none⟩) jw.length (cc + 1)) jw :: boxA (b4 + 1) { zA with job := { zJ with st := st } } (.slice none 0 0) (.slice none 0 0) (.slice none 0 0) :: bxz b4 :: L) from by funext e w'; unfold RefReadsPost; rw [HN.out]] at hrd
    have hfr : firstR k ws = (firstN k st n, true) := by rw [HFR0.out, HN.out]
    have HFR1 := Lib.hid hfr
    clear hfr
    have hn := HNL.out
    go_upto_region 18 with (go_at_call 46; (with_reducible refine hrd.mono ?_); rintro r w9 ⟨u, rfl, H11⟩; clear hrd H10)
    obtain ⟨An, cn, rfl, hn1, hn2⟩ := rd_shape (entRow _ H11)
    unfold maxLen at hn2
    have H6 : HL w0 w9 (boxA (b4 + 1) { zA with job := { zJ with st := st } } (.slice none 0 0) (.slice none 0 0) (.slice none 0 0) :: bxz b4 :: intsR w0.heap.size (.slice An n.length cn) n :: L) := H11.sel 4 [2, 3, 0]
    clear H11
    have hfr : firstR k ws = ({ zA with job := { zJ with st := st } }, true) := by
     rw [HFR1.out]
     unfold firstN
     have h := HK.out
     rw [if_neg (by omega), if_neg (by omega), if_neg (by omega), if_neg (by omega), if_neg (by omega)]
    have HFR := Lib.hid hfr
    have lk : decide ((6 : Int) ≤ (n.length : Int)) = false := decide_eq_false (by omega)
    have q10 : (k == 10) = false := by rw [HK.out]; rfl
    have q12 : (k == 12) = false := by rw [HK.out]; rfl
    have q13 : (k == 13) = false := by rw [HK.out]; rfl
    clear hfr hn
    have G1 : _ = some (Obj.cells (ansA { zA with job := { zJ with st := st } } (.slice none 0 0) (.slice none 0 0) (.slice none 0 0)) 32 (0, 0)) := H6.head
    have G3 : _ = some (Obj.cells _ 32 (0, 0)) := H6.tail.head
    have HT := HL.setWhole (cells := ansA { zA with job := { zJ with st := st } } (.slice none 0 0) (.slice none 0 0) (.slice none 0 0)) H6.tail
    go_wp2_with (first
     | (have g1 := G1; refine wpList_load_row rfl 32 _ rfl (b4 + 1) rfl 32 _ (0, 0) _ g1 Tryz.underlying32 rfl (ansA_size _ _ _ _) ?_; clear g1 G1)
     | (refine wpList_store_row rfl 32 _ _ rfl b4 (ansA { zA with job := { zJ with st := st } } (.slice none 0 0) (.slice none 0 0) (.slice none 0 0)) rfl rfl 32 _ G3 (ansA_size _ _ _ _) rfl (ansA_one _ _ _ _ _ _ _ _ _ _) ?_))
    have G5 := HT.head
    refine bodyPost_ret (results_two (by rfl) _ _ b4 32 _ (0, 0) _ _ (by rfl) (by rfl) G5 Tryz.underlying32 rfl (ansA_size _ _ _ _)) rfl ?_
    exact firstPost_none HFR.out rfl HT.tail.tail
end
open Go.RowKit Go.Proofs.HL Go.Proofs.An
section
variable {w0 w : World} {L : List At} {v : Value}
theorem Ref.fi_j6 (hD : Doors w0) (H : HL w0 w L) {ws : List ByteArray} (h : Strs w0 L v ws) (hz : ∀ s ∈ ws, s.size ≤ 1000000000) (hpos : 0 < ws.length) (hl : ws.length ≤ 1048577) (k : Int) (hne : ¬ (ws.headD ⟨#[]⟩ = errorW ∧ ws.length = 2)) (hk : k = 9) (hl5 : 5 < ws.length) {n : List Int} (hnr : readV (((ws.take 5 ++ ws.drop 6)).drop 1) = some n) (hn : 6 ≤ n.length) :
  Calls Tryz.prog 45 #[.int .i64 k, v] w (FirstPost w0 L (firstR k ws)) := by
 obtain ⟨A, c, rfl, hc1, hc2⟩ := rd_shape (h w H)
 unfold maxLen at hc2
 have H1 := HL.bzA H
 have H2 := HL.bzA H1
 rw [World.size_alloc] at H2
 have G2 : _ = some (Obj.cells _ 32 (0, 0)) := H2.head
 have HS : HL w0 _ (bxz _ :: _) := HL.setWhole (cells := ansA zA (.slice none 0 0) (.slice none 0 0) (.slice none 0 0)) H2
 generalize hb4 : w.heap.size = b4 at *
 have h3 := (h.cons (bxz b4)).cons (bxz (b4 + 1))
 obtain ⟨s0, hs0⟩ : ∃ x, ws[0]? = some x := ⟨_, List.getElem?_eq_getElem hpos⟩
 have hhead : ws.headD ⟨#[]⟩ = s0 := by cases ws with
  | nil => simp at hs0
  | cons x r => simpa using hs0
 have HZ := Lib.hid hz; have HL1 := Lib.hid hl; have HHD := Lib.hid hhead; have HS0 := Lib.hid hs0; have HNE := Lib.hid hne; have HK := Lib.hid hk; have HL5 := Lib.hid hl5; have HN := Lib.hid hnr; have HNL := Lib.hid hn
 clear H H1 H2 hz hl hhead hs0 hne hk hl5 hnr hn
 go_enter Tryz.func45, Tryz.ntmps45
 go_upto_region 2 with (refine wpList_store_row rfl 32 _ _ rfl (b4 + 1) (ansA zA (.slice none 0 0) (.slice none 0 0) (.slice none 0 0)) rfl rfl 32 _ G2 (ansA_size _ _ _ _) rfl (ansA_one _ _ _ _ _ _ _ _ _ _) ?_)
 dsimp only [Act.put]
 have HB4 := Lib.hid hb4
 clear hb4 G2
 generalize World.setRow _ _ _ = W at *
 obtain ⟨b1, o1, c1, hv, d0⟩ := str_at (h3 _ HS) HS0.out
 simp only [Value.slice.injEq] at hv
 obtain ⟨rfl, -, rfl⟩ := hv
 rw [Nat.add_zero] at d0
 have i0 : (0 : Int) < (ws.length : Int) := by omega
 obtain ⟨s5, hs5⟩ : ∃ x, ws[5]? = some x := ⟨_, List.getElem?_eq_getElem HL5.out⟩
 have HS5 := Lib.hid hs5
 clear hs5
 go_cut [22] (fun t22 wc => t22 = .bool false ∧ W = wc)
 case first =>
  by_cases ge : s0 = errorW
  ·have q0 : (s0.toList == [101, 114, 114, 111, 114]) = true := by rw [ge]; decide +kernel
   have l2 : ((ws.length : Int) == 2) = false := by rw [beq_eq_false_iff_ne]; have h1 := HNE.out; have h2 := HHD.out; exact fun g => h1 ⟨by rw [h2]; exact ge, by omega⟩
   clear ge
   go_wp2
   go_meet
   exact ⟨rfl, rfl⟩
  ·have q0 : (s0.toList == [101, 114, 114, 111, 114]) = false := by rw [beq_eq_false_iff_ne]; exact fun e => ge (bytesSame (e.trans (by decide +kernel)))
   clear ge
   go_wp2
   go_meet
   exact ⟨rfl, rfl⟩
 case rest =>
  obtain ⟨rfl, rfl⟩ := hcut
  clear d0
  have q11 : (k == 11) = false := by rw [HK.out]; rfl
  have q9 : (k == 9) = true := by rw [HK.out]; rfl
  have q1 : (k == 1) = false := by rw [HK.out]; rfl
  have q5 : (k == 5) = false := by rw [HK.out]; rfl
  have l5 : decide ((5 : Int) < (ws.length : Int)) = true := decide_eq_true (by have := HL5.out; omega)
  have i5 : (5 : Int) < (ws.length : Int) := by have := HL5.out; omega
  have hS5 : ∀ W' A', HL w0 W' (A' :: bxz b4 :: L) → W'.cell? ⟨b1, o1 + 5, none⟩ = some (.string s5) := fun W' A' HW => by
   obtain ⟨b', o', c', hv, g⟩ := str_at ((h.cons (bxz b4)).cons A' W' HW) HS5.out
   simp only [Value.slice.injEq, Option.some.injEq, Addr.mk.injEq] at hv
   obtain ⟨⟨rfl, rfl, -⟩, -, -⟩ := hv
   exact g
  go_wp2
  go_loopg [9] 6 (fun g i wr => ∃ kk : Nat, i = .int .i64 (1 + (kk : Int)) ∧ kk + g = 6 ∧ HL w0 wr (boxA (b4 + 1) { zA with job := { zJ with st := stK s5 kk } } (.slice none 0 0) (.slice none 0 0) (.slice none 0 0) :: bxz b4 :: L))
  case atStart => exact ⟨0, rfl, rfl, by rw [stK_0]; exact HS⟩
  case round =>
   obtain ⟨kk, rfl, hkk, HK6⟩ := hrel
   clear HS
   by_cases hlt : kk < 6
   ·have hg : 1 + (kk : Int) ≤ 6 := by omega
    have hst := fun W => Ref.state_ok (1 + (kk : Int)) W
    by_cases hs : stW (1 + (kk : Int)) = s5
    ·skip
     have hq : ((stW (1 + (kk : Int))).toList == s5.toList) = true := by rw [← hs]; exact beq_self_eq_true _
     have HN := Lib.hid (stK_hit hlt hs)
     clear hs
     generalize stW (1 + (kk : Int)) = SW at *
     go_wp2
     refine wp_region_held_drew (S := fun w' => w'.cell? ⟨b1, o1 + 5, none⟩ = some (.string s5)) (by kernel_rfl) (hS5 _ _ HK6.drew) (fun hHeld => ?_)
     have Hd := HK6.drew
     clear HK6
     generalize World.drew _ = Wd at *
     refine ztk 0 ?_
     simp only [Act.put, zp]
     refine ztk 2 ?_
     simp only [Act.put, zp]
     refine ztk 3 ?_
     simp only [Act.put, zp]
     refine ztk 4 ?_
     simp only [Act.put, zp]
     refine zry 1 (fun K' hK' => ?_)
     dsimp only [zg1, zg3, zg2]
     go_simp
     go_at_call 34
     refine (hst _).mono ?_
     rintro r w6 ⟨rfl, rfl⟩
     dsimp only
     go_simp
     refine hK'.out _ _ (hS5 _ _ Hd) (fun hHeld => ?_)
     clear hK' K'
     try simp only [Act.put, zp]
     refine ztk 5 ?_
     simp only [Act.put, zp]
     refine wpAnyH_done (by kernel_rfl) ?_ _
     have HS7 : HL w0 _ (boxA (b4 + 1) { zA with job := { zJ with st := 1 + (kk : Int) } } (.slice none 0 0) (.slice none 0 0) (.slice none 0 0) :: bxz b4 :: L) := HL.setCell Hd 7 (.int .i64 (1 + (kk : Int)))
     have m7 := HL.cell Hd 7
     have y7 := HL.frozen Hd 7
     go_wp2
     go_roundg (gk - 1)
     case measure => omega
     case rel => exact ⟨kk + 1, by go_num, by omega, by rw [HN.out]; exact HS7⟩
    ·skip
     have hq : ((stW (1 + (kk : Int))).toList == s5.toList) = false := by rw [beq_eq_false_iff_ne]; exact fun e => hs (bytesSame e)
     have HN := Lib.hid (stK_miss hlt hs)
     clear hs
     generalize stW (1 + (kk : Int)) = SW at *
     go_wp2
     refine wp_region_held_drew (S := fun w' => w'.cell? ⟨b1, o1 + 5, none⟩ = some (.string s5)) (by kernel_rfl) (hS5 _ _ HK6.drew) (fun hHeld => ?_)
     have Hd := HK6.drew
     clear HK6
     generalize World.drew _ = Wd at *
     refine ztk 0 ?_
     simp only [Act.put, zp]
     refine ztk 2 ?_
     simp only [Act.put, zp]
     refine ztk 3 ?_
     simp only [Act.put, zp]
     refine ztk 4 ?_
     simp only [Act.put, zp]
     refine zry 1 (fun K' hK' => ?_)
     dsimp only [zg1, zg3, zg2]
     go_simp
     go_at_call 34
     refine (hst _).mono ?_
     rintro r w6 ⟨rfl, rfl⟩
     dsimp only
     go_simp
     refine hK'.out _ _ (hS5 _ _ Hd) (fun hHeld => ?_)
     clear hK' K'
     try simp only [Act.put, zp]
     refine ztk 5 ?_
     simp only [Act.put, zp]
     refine wpAnyH_done (by kernel_rfl) ?_ _
     go_wp2
     go_roundg (gk - 1)
     case measure => omega
     case rel => exact ⟨kk + 1, by go_num, by omega, by rw [HN.out]; exact Hd⟩
   ·have hg : 6 < 1 + (kk : Int) := by omega
    obtain rfl : kk = 6 := by omega
    rw [stK_6] at HK6
    have hstn : stJ k ws = stN s5 := by
     unfold stJ jbB
     rw [show (k == 9) = true from q9, Bool.true_and, if_pos (decide_eq_true HL5.out), List.getD_eq_getElem?_getD, HS5.out]
     rfl
    have hjw : jW k ws = (ws.take 5 ++ ws.drop 6) := by
     unfold jW jbB
     rw [show (k == 9) = true from q9, Bool.true_and, if_pos (decide_eq_true HL5.out)]
    have hfr0 : firstR k ws = match readV (((ws.take 5 ++ ws.drop 6)).drop 1) with | none => ({ zA with job := { zJ with st := stN s5 } }, false) | some n => (firstN k (stN s5) n, true) := by
     unfold firstR
     rw [if_neg HNE.out, if_neg (by have h := HK.out; omega), hjw, hstn]
     rfl
    have HFR0 := Lib.hid hfr0
    clear hstn hjw hfr0 hS5 hlt hg hkk
    generalize stN s5 = st at *
    obtain ⟨l6, hl6⟩ : ∃ l6, ws.length = l6 + 6 := ⟨ws.length - 6, by have := HL5.out; omega⟩
    obtain ⟨c6, rfl⟩ : ∃ c6, c = c6 + 6 := ⟨c - 6, by omega⟩
    obtain ⟨A6, hA6⟩ : ∃ A', (if c6 = 0 then some (⟨b1, o1, none⟩ : Addr) else some ⟨b1, o1 + 6, none⟩) = A' := ⟨_, rfl⟩
    have hr5 : ∀ W' A' B', HL w0 W' (A' :: B' :: bxz b4 :: L) → Rd 1 (.slice (some ⟨b1, o1, none⟩) 5 (c6 + 6)) (ws.take 5).length (strC (ws.take 5)) W' := fun W' A' B' HW => by
     have h1 := rd_prefix (((h.cons (bxz b4)).cons B').cons A' W' HW) 5 (by omega)
     rw [Nat.mul_one, strC, ← List.map_take] at h1
     rw [show (ws.take 5).length = 5 by rw [List.length_take]; omega]
     exact h1
    have hr6 : ∀ W' A' B', HL w0 W' (A' :: B' :: bxz b4 :: L) → Rd 1 (.slice A6 l6 c6) (ws.drop 6).length (strC (ws.drop 6)) W' := fun W' A' B' HW => by
     have h1 : Rd 1 _ ws.length (strC ws) W' := ((h.cons (bxz b4)).cons B').cons A' W' HW
     rw [hl6] at h1
     rw [show (ws.drop 6).length = l6 by rw [List.length_drop, hl6]; rfl, strC, List.map_drop, ← hA6]
     by_cases hz : c6 = 0
     ·rw [if_pos hz]
      have := rd_suffix h1 6 (by omega) (a' := ⟨b1, o1, none⟩) (.inr (by omega))
      simpa using this
     ·rw [if_neg hz]
      have := rd_suffix h1 6 (by omega) (a' := ⟨b1, o1 + 6, none⟩) (.inl (by rw [add_plain]))
      simpa using this
    have H7 : HL w0 _ (strs w0.heap.size (.slice none 0 0) [] :: boxA (b4 + 1) { zA with job := { zJ with st := st } } (.slice none 0 0) (.slice none 0 0) (.slice none 0 0) :: bxz b4 :: L) := HK6.nilRow _ _ _
    have hx5 := hr5 _ _ _ H7
    have ht5 : (ws.take 5).length = 5 := by rw [List.length_take]; omega
    have hd6 : (ws.drop 6).length = l6 := by rw [List.length_drop, hl6]; rfl
    have hl6' := hl6
    have HL6 := Lib.hid hl6'
    clear hl6' HK6
    rw [hl6]
    go_upto_region 16 with (at_builtin; refine append_strs2 (v := (.slice none 0 0)) (xs := []) (ys := ws.take 5) rfl _ _ rfl H7 rfl rfl hx5 (by rw [ht5]; simp) ?_; intro v7 w7 H8; clear H7 hx5)
    have H9 : HL w0 w7 (strs w0.heap.size v7 (ws.take 5) :: boxA (b4 + 1) { zA with job := { zJ with st := st } } (.slice none 0 0) (.slice none 0 0) (.slice none 0 0) :: bxz b4 :: L) := H8
    clear H8
    obtain ⟨A7, c7, rfl, hc3, hc4⟩ := rd_shape (entRow _ H9)
    unfold maxLen at hc4
    have hx6 := hr6 _ _ _ H9
    have HT5 := Lib.hid ht5; have HD6 := Lib.hid hd6
    clear ht5 hd6
    go_upto_region 17 with (at_builtin; refine append_strs2 (v := .slice A7 (ws.take 5).length c7) (xs := ws.take 5) (ys := ws.drop 6) rfl _ _ rfl H9 rfl rfl hx6 (by rw [HT5.out, HD6.out]; have := HL1.out; have := HL6.out; omega) ?_; intro v8 w8 H10; clear H9 hx6)
    clear hr5 hr6 hA6 h h3
    have hjl := Lib.hid (show ((ws.take 5 ++ ws.drop 6)).length = l6 + 5 by rw [List.length_append, HT5.out, HD6.out]; omega)
    have hjz := Lib.hid (show ∀ x ∈ (ws.take 5 ++ ws.drop 6), x.size ≤ 1000000000 from fun x hx => by
     rcases List.mem_append.1 hx with hx | hx
     ·exact HZ.out x (List.mem_of_mem_take hx)
     ·exact HZ.out x (List.mem_of_mem_drop hx))
    generalize (ws.take 5 ++ ws.drop 6) = jw at *
    obtain ⟨j0, hj0⟩ : ∃ x, jw[0]? = some x := ⟨_, List.getElem?_eq_getElem (by rw [hjl.out]; omega)⟩
    obtain ⟨b8, o8, c8, hv8, -⟩ := str_at (entRow _ H10) hj0
    subst hv8
    obtain ⟨A', c', hv1, hc5, hc6⟩ := rd_shape (entRow _ H10)
    simp only [Value.slice.injEq] at hv1
    obtain ⟨-, -, rfl⟩ := hv1
    unfold maxLen at hc6
    obtain ⟨cc, rfl⟩ : ∃ cc, c8 = cc + 1 := ⟨c8 - 1, by rw [hjl.out] at hc5; omega⟩
    have hle : l6 + 4 ≤ cc := by rw [hjl.out] at hc5; omega
    have hcc0 : ¬ cc = 0 := by omega
    have hwd : (jw.drop 1).length = l6 + 4 := by rw [List.length_drop, hjl.out]; rfl
    have hRs : Strs w0 (strs w0.heap.size (.slice (some ⟨b8, o8, none⟩) jw.length (cc + 1)) jw :: boxA (b4 + 1) { zA with job := { zJ with st := st } } (.slice none 0 0) (.slice none 0 0) (.slice none 0 0) :: bxz b4 :: L) (.slice (some ⟨b8, o8 + 1, none⟩) (l6 + 4) cc) (jw.drop 1) := fun W' HW => by
     have h1 : Rd 1 _ jw.length (strC jw) W' := entRow W' HW
     rw [hjl.out] at h1
     rw [hwd, strC, List.map_drop]
     have := rd_suffix h1 1 (by omega) (a' := ⟨b8, o8 + 1, none⟩) (.inl (by rw [add_plain]))
     simpa using this
    have hrd := Ref.read_ok H10 hRs (fun x hx => hjz.out x (List.mem_of_mem_drop hx)) (by rw [hwd]; have := HL1.out; have := HL6.out; omega)
    clear hRs hj0
    have HWD := Lib.hid hwd
    clear hwd
    have hl0 : (0 : Int) < (l6 : Int) + 5 := by omega
    have hi1 : (1 : Int) ≤ (l6 : Int) + 5 := by omega
    rw [hjl.out]
    rw [show (RefReadsPost w0 (strs w0.heap.size (.slice (some ⟨b8, o8, none⟩) jw.length (cc + 1)) jw :: boxA (b4 + 1) { zA with job := { zJ with st := st } } (.slice none 0 0) (.slice none 0 0) (.slice none 0 0) :: bxz b4 :: L) (jw.drop 1)) = fun e w' => ∃ u, e = .returned (.tuple #[u, .bool true]) ∧ HL w0 w' (intsR w0.heap.size u n :: strs w0.heap.size (.slice (some ⟨b8, o8, none⟩) jw.length (cc + 1)) jw :: boxA (b4 + 1) { zA with job := { zJ with st := st } } (.slice none 0 0) (.slice none 0 0) (.slice none 0 0) :: bxz b4 :: L) from by funext e w'; unfold RefReadsPost; rw [HN.out]] at hrd
    have hfr : firstR k ws = (firstN k st n, true) := by rw [HFR0.out, HN.out]
    have HFR1 := Lib.hid hfr
    clear hfr
    have hn := HNL.out
    go_upto_region 18 with (go_at_call 46; (with_reducible refine hrd.mono ?_); rintro r w9 ⟨u, rfl, H11⟩; clear hrd H10)
    obtain ⟨An, cn, rfl, hn1, hn2⟩ := rd_shape (entRow _ H11)
    unfold maxLen at hn2
    have H6 : HL w0 w9 (boxA (b4 + 1) { zA with job := { zJ with st := st } } (.slice none 0 0) (.slice none 0 0) (.slice none 0 0) :: bxz b4 :: intsR w0.heap.size (.slice An n.length cn) n :: L) := H11.sel 4 [2, 3, 0]
    clear H11
    obtain ⟨x0, hx0⟩ : ∃ x, n[0]? = some x := ⟨_, List.getElem?_eq_getElem (by omega)⟩
    obtain ⟨bn, on, cn', hv, g0⟩ := int_at (entRow _ H6.tail.tail) hx0
    simp only [Value.slice.injEq] at hv
    obtain ⟨rfl, -, rfl⟩ := hv
    rw [Nat.add_zero] at g0
    obtain ⟨x1, hx1⟩ : ∃ x, n[1]? = some x := ⟨_, List.getElem?_eq_getElem (by omega)⟩
    obtain ⟨b', o', c', hv, g1⟩ := int_at (entRow _ H6.tail.tail) hx1
    simp only [Value.slice.injEq, Option.some.injEq, Addr.mk.injEq] at hv
    obtain ⟨⟨rfl, rfl, -⟩, -, -⟩ := hv
    obtain ⟨x2, hx2⟩ : ∃ x, n[2]? = some x := ⟨_, List.getElem?_eq_getElem (by omega)⟩
    obtain ⟨b', o', c', hv, g2⟩ := int_at (entRow _ H6.tail.tail) hx2
    simp only [Value.slice.injEq, Option.some.injEq, Addr.mk.injEq] at hv
    obtain ⟨⟨rfl, rfl, -⟩, -, -⟩ := hv
    obtain ⟨x3, hx3⟩ : ∃ x, n[3]? = some x := ⟨_, List.getElem?_eq_getElem (by omega)⟩
    obtain ⟨b', o', c', hv, g3⟩ := int_at (entRow _ H6.tail.tail) hx3
    simp only [Value.slice.injEq, Option.some.injEq, Addr.mk.injEq] at hv
    obtain ⟨⟨rfl, rfl, -⟩, -, -⟩ := hv
    obtain ⟨x4, hx4⟩ : ∃ x, n[4]? = some x := ⟨_, List.getElem?_eq_getElem (by omega)⟩
    obtain ⟨b', o', c', hv, g4⟩ := int_at (entRow _ H6.tail.tail) hx4
    simp only [Value.slice.injEq, Option.some.injEq, Addr.mk.injEq] at hv
    obtain ⟨⟨rfl, rfl, -⟩, -, -⟩ := hv
    obtain ⟨x5, hx5⟩ : ∃ x, n[5]? = some x := ⟨_, List.getElem?_eq_getElem (by omega)⟩
    obtain ⟨b', o', c', hv, g5⟩ := int_at (entRow _ H6.tail.tail) hx5
    simp only [Value.slice.injEq, Option.some.injEq, Addr.mk.injEq] at hv
    obtain ⟨⟨rfl, rfl, -⟩, -, -⟩ := hv
    have k0n : (0 : Int) < (n.length : Int) := by omega
    have k0m : 0 < n.length := by omega
    have k1n : (1 : Int) < (n.length : Int) := by omega
    have k1m : 1 < n.length := by omega
    have k2n : (2 : Int) < (n.length : Int) := by omega
    have k2m : 2 < n.length := by omega
    have k3n : (3 : Int) < (n.length : Int) := by omega
    have k3m : 3 < n.length := by omega
    have k4n : (4 : Int) < (n.length : Int) := by omega
    have k4m : 4 < n.length := by omega
    have k5n : (5 : Int) < (n.length : Int) := by omega
    have k5m : 5 < n.length := by omega
    have hfr : firstR k ws = ({ zA with job := ⟨x0, x1, x2, x3, st, x4, x5, n.drop 6⟩ }, true) := by
     rw [HFR1.out]
     unfold firstN
     rw [if_neg (by have h := HK.out; omega), if_pos ⟨HK.out, HNL.out⟩]
     simp [List.getD_eq_getElem?_getD, hx0, hx1, hx2, hx3, hx4, hx5]
    have HFR := Lib.hid hfr
    have hSn : ∀ W' A' B' M', HL w0 W' (A' :: B' :: intsR w0.heap.size (.slice (some ⟨bn, on, none⟩) n.length cn) n :: M') → W'.cell? ⟨bn, on, none⟩ = some (.int .i64 x0) ∧ W'.cell? ⟨bn, on + 1, none⟩ = some (.int .i64 x1) ∧ W'.cell? ⟨bn, on + 2, none⟩ = some (.int .i64 x2) ∧ W'.cell? ⟨bn, on + 3, none⟩ = some (.int .i64 x3) ∧ W'.cell? ⟨bn, on + 4, none⟩ = some (.int .i64 x4) ∧ W'.cell? ⟨bn, on + 5, none⟩ = some (.int .i64 x5) := fun W' A' B' M' HW => by
     obtain ⟨b', o', c', hv, e0⟩ := int_at (entRow _ HW.tail.tail) hx0
     simp only [Value.slice.injEq, Option.some.injEq, Addr.mk.injEq] at hv
     obtain ⟨⟨rfl, rfl, -⟩, -, -⟩ := hv
     obtain ⟨b', o', c', hv, e1⟩ := int_at (entRow _ HW.tail.tail) hx1
     simp only [Value.slice.injEq, Option.some.injEq, Addr.mk.injEq] at hv
     obtain ⟨⟨rfl, rfl, -⟩, -, -⟩ := hv
     obtain ⟨b', o', c', hv, e2⟩ := int_at (entRow _ HW.tail.tail) hx2
     simp only [Value.slice.injEq, Option.some.injEq, Addr.mk.injEq] at hv
     obtain ⟨⟨rfl, rfl, -⟩, -, -⟩ := hv
     obtain ⟨b', o', c', hv, e3⟩ := int_at (entRow _ HW.tail.tail) hx3
     simp only [Value.slice.injEq, Option.some.injEq, Addr.mk.injEq] at hv
     obtain ⟨⟨rfl, rfl, -⟩, -, -⟩ := hv
     obtain ⟨b', o', c', hv, e4⟩ := int_at (entRow _ HW.tail.tail) hx4
     simp only [Value.slice.injEq, Option.some.injEq, Addr.mk.injEq] at hv
     obtain ⟨⟨rfl, rfl, -⟩, -, -⟩ := hv
     obtain ⟨b', o', c', hv, e5⟩ := int_at (entRow _ HW.tail.tail) hx5
     simp only [Value.slice.injEq, Option.some.injEq, Addr.mk.injEq] at hv
     obtain ⟨⟨rfl, rfl, -⟩, -, -⟩ := hv
     rw [Nat.add_zero] at e0
     exact ⟨e0, e1, e2, e3, e4, e5⟩
    obtain ⟨nn, hnn⟩ : ∃ nn, n.length = nn + 6 := ⟨n.length - 6, by omega⟩
    obtain ⟨cm, rfl⟩ : ∃ cm, cn = cm + 6 := ⟨cn - 6, by omega⟩
    obtain ⟨AD, hAD⟩ : ∃ A', (if cm = 0 then some (⟨bn, on, none⟩ : Addr) else some ⟨bn, on + 6, none⟩) = A' := ⟨_, rfl⟩
    have hdl : (n.drop 6).length = nn := by rw [List.length_drop, hnn]; rfl
    have hle6 : nn ≤ cm := by omega
    have hD6 : ∀ A' B', Ints w0 (A' :: B' :: intsR w0.heap.size (.slice (some ⟨bn, on, none⟩) n.length (cm + 6)) n :: L) (.slice AD nn cm) (n.drop 6) := fun A' B' W' HW => by
     have h1 : Rd 1 _ n.length (intC n) W' := entRow W' HW.tail.tail
     rw [hnn] at h1
     rw [hdl, intC, List.map_drop, ← hAD]
     by_cases hz : cm = 0
     ·rw [if_pos hz]
      have := rd_suffix h1 6 (by omega) (a' := ⟨bn, on, none⟩) (.inr (by omega))
      simpa using this
     ·rw [if_neg hz]
      have := rd_suffix h1 6 (by omega) (a' := ⟨bn, on + 6, none⟩) (.inl (by rw [add_plain]))
      simpa using this
    have lk : decide ((6 : Int) ≤ (nn : Int) + 6) = true := decide_eq_true (by omega)
    have hi6 : (6 : Int) ≤ (nn : Int) + 6 := by omega
    have z0n : (0 : Int) < (nn : Int) + 6 := by omega
    have z1n : (1 : Int) < (nn : Int) + 6 := by omega
    have z2n : (2 : Int) < (nn : Int) + 6 := by omega
    have z3n : (3 : Int) < (nn : Int) + 6 := by omega
    have z4n : (4 : Int) < (nn : Int) + 6 := by omega
    have z5n : (5 : Int) < (nn : Int) + 6 := by omega
    have HDL := Lib.hid hdl; have HNN := Lib.hid hnn; have HSn := Lib.hid hSn; have HDD := Lib.hid hD6; have HNQ := Lib.hid (readV_len _ _ HN.out)
    rw [hnn]
    clear hfr hn g0 g1 g2 g3 g4 g5 hx0 hx1 hx2 hx3 hx4 hx5 hdl hSn hD6 hnn k0n k1n k2n k3n k4n k5n k0m k1m k2m k3m k4m k5m
    go_upto_region 23 with (fail)
    refine wp_region_held_drew (S := fun w' => w'.cell? ⟨bn, on, none⟩ = some (.int .i64 x0) ∧ w'.cell? ⟨bn, on + 1, none⟩ = some (.int .i64 x1) ∧ w'.cell? ⟨bn, on + 2, none⟩ = some (.int .i64 x2) ∧ w'.cell? ⟨bn, on + 3, none⟩ = some (.int .i64 x3) ∧ w'.cell? ⟨bn, on + 4, none⟩ = some (.int .i64 x4) ∧ w'.cell? ⟨bn, on + 5, none⟩ = some (.int .i64 x5) ∧ w'.cell? ⟨b4 + 1, 7, none⟩ = some (.int .i64 st)) (by kernel_rfl) (⟨(HSn.out _ _ _ _ H6.drew).1, (HSn.out _ _ _ _ H6.drew).2.1, (HSn.out _ _ _ _ H6.drew).2.2.1, (HSn.out _ _ _ _ H6.drew).2.2.2.1, (HSn.out _ _ _ _ H6.drew).2.2.2.2.1, (HSn.out _ _ _ _ H6.drew).2.2.2.2.2, HL.cell H6.drew 7⟩) (fun hHeld => ?_)
    have Hd := H6.drew
    clear H6
    generalize World.drew _ = Wd at *
    refine ztk 0 ?_
    simp only [Act.put, zp]
    refine ztk 1 ?_
    simp only [Act.put, zp]
    refine ztk 2 ?_
    simp only [Act.put, zp]
    refine ztk 3 ?_
    simp only [Act.put, zp]
    refine ztk 4 ?_
    simp only [Act.put, zp]
    refine ztk 5 ?_
    simp only [Act.put, zp]
    refine ztk 6 ?_
    simp only [Act.put, zp]
    refine ztk 7 ?_
    simp only [Act.put, zp]
    refine ztk 8 ?_
    simp only [Act.put, zp]
    refine ztk 9 ?_
    simp only [Act.put, zp]
    refine ztk 10 ?_
    simp only [Act.put, zp]
    refine ztk 11 ?_
    simp only [Act.put, zp]
    refine ztk 12 ?_
    simp only [Act.put, zp]
    refine ztk 13 ?_
    simp only [Act.put, zp]
    refine ztk 14 ?_
    simp only [Act.put, zp]
    refine ztk 15 ?_
    simp only [Act.put, zp]
    refine ztk 16 ?_
    simp only [Act.put, zp]
    refine ztk 17 ?_
    simp only [Act.put, zp]
    refine ztk 18 ?_
    simp only [Act.put, zp]
    refine ztk 19 ?_
    simp only [Act.put, zp]
    refine ztk 20 ?_
    simp only [Act.put, zp]
    refine ztk 21 ?_
    simp only [Act.put, zp]
    refine ztk 22 ?_
    simp only [Act.put, zp]
    refine zry 23 (fun K' hK' => ?_)
    dsimp only [zg1, zg3, zg2]
    go_simp
    have hcp := Ref.copied_ok Hd (HDD.out _ _) (by rw [HDL.out]; have := HL1.out; have := HL6.out; have := HWD.out; have := HNQ.out; have := HNN.out; omega)
    rw [HDL.out] at hcp
    go_at_call 67
    refine hcp.mono ?_
    rintro r w10 ⟨AC, cc9, rfl, HC⟩
    clear hcp
    dsimp only
    go_simp
    have HC2 : HL w0 w10 (boxA (b4 + 1) { zA with job := { zJ with st := st } } (.slice none 0 0) (.slice none 0 0) (.slice none 0 0) :: bxz b4 :: intsR w0.heap.size (.slice (some ⟨bn, on, none⟩) n.length (cm + 6)) n :: intsR w0.heap.size (.slice AC nn cc9) (n.drop 6) :: L) := HC.sel 4 [1, 2, 3, 0]
    have m0 : World.cell? _ ⟨b4 + 1, 3, none⟩ = some (.int .i64 0) := HL.cell HC2 3
    have y0 := HL.frozen HC2 3
    have m1 : World.cell? _ ⟨b4 + 1, 4, none⟩ = some (.int .i64 0) := HL.cell HC2 4
    have y1 := HL.frozen HC2 4
    have m2 : World.cell? _ ⟨b4 + 1, 5, none⟩ = some (.int .i64 0) := HL.cell HC2 5
    have y2 := HL.frozen HC2 5
    have m3 : World.cell? _ ⟨b4 + 1, 6, none⟩ = some (.int .i64 0) := HL.cell HC2 6
    have y3 := HL.frozen HC2 6
    have m4 : World.cell? _ ⟨b4 + 1, 7, none⟩ = some (.int .i64 st) := HL.cell HC2 7
    have y4 := HL.frozen HC2 7
    have m5 : World.cell? _ ⟨b4 + 1, 8, none⟩ = some (.int .i64 0) := HL.cell HC2 8
    have y5 := HL.frozen HC2 8
    have m6 : World.cell? _ ⟨b4 + 1, 9, none⟩ = some (.int .i64 0) := HL.cell HC2 9
    have y6 := HL.frozen HC2 9
    have mm7 : World.cell? _ ⟨b4 + 1, 10, none⟩ = some (.slice none 0 0) := HL.cell HC2 10
    have yy7 := HL.frozen HC2 10
    refine hK'.out _ _ (⟨(HSn.out _ _ _ _ HC2).1, (HSn.out _ _ _ _ HC2).2.1, (HSn.out _ _ _ _ HC2).2.2.1, (HSn.out _ _ _ _ HC2).2.2.2.1, (HSn.out _ _ _ _ HC2).2.2.2.2.1, (HSn.out _ _ _ _ HC2).2.2.2.2.2, HL.cell HC2 7⟩) (fun hHeld => ?_)
    clear hK' K'
    try simp only [Act.put, zp]
    refine ztk 24 ?_
    simp only [Act.put, zp]
    refine ztk 25 ?_
    simp only [Act.put, zp]
    refine zry 26 (fun K' hK' => ?_)
    dsimp only [zg1, zg3, zg2]
    go_simp
    have t0 : HL w0 _ (boxA (b4 + 1) { zA with job := ⟨x0, 0, 0, 0, st, 0, 0, []⟩ } (.slice none 0 0) (.slice none 0 0) (.slice none 0 0) :: bxz b4 :: intsR w0.heap.size (.slice (some ⟨bn, on, none⟩) n.length (cm + 6)) n :: intsR w0.heap.size (.slice AC nn cc9) (n.drop 6) :: L) := HL.setCell HC2 3 (.int .i64 x0)
    have t1 : HL w0 _ (boxA (b4 + 1) { zA with job := ⟨x0, x1, 0, 0, st, 0, 0, []⟩ } (.slice none 0 0) (.slice none 0 0) (.slice none 0 0) :: bxz b4 :: intsR w0.heap.size (.slice (some ⟨bn, on, none⟩) n.length (cm + 6)) n :: intsR w0.heap.size (.slice AC nn cc9) (n.drop 6) :: L) := HL.setCell t0 4 (.int .i64 x1)
    have t2 : HL w0 _ (boxA (b4 + 1) { zA with job := ⟨x0, x1, x2, 0, st, 0, 0, []⟩ } (.slice none 0 0) (.slice none 0 0) (.slice none 0 0) :: bxz b4 :: intsR w0.heap.size (.slice (some ⟨bn, on, none⟩) n.length (cm + 6)) n :: intsR w0.heap.size (.slice AC nn cc9) (n.drop 6) :: L) := HL.setCell t1 5 (.int .i64 x2)
    have t3 : HL w0 _ (boxA (b4 + 1) { zA with job := ⟨x0, x1, x2, x3, st, 0, 0, []⟩ } (.slice none 0 0) (.slice none 0 0) (.slice none 0 0) :: bxz b4 :: intsR w0.heap.size (.slice (some ⟨bn, on, none⟩) n.length (cm + 6)) n :: intsR w0.heap.size (.slice AC nn cc9) (n.drop 6) :: L) := HL.setCell t2 6 (.int .i64 x3)
    have t4 : HL w0 _ (boxA (b4 + 1) { zA with job := ⟨x0, x1, x2, x3, st, 0, 0, []⟩ } (.slice none 0 0) (.slice none 0 0) (.slice none 0 0) :: bxz b4 :: intsR w0.heap.size (.slice (some ⟨bn, on, none⟩) n.length (cm + 6)) n :: intsR w0.heap.size (.slice AC nn cc9) (n.drop 6) :: L) := HL.setCell t3 7 (.int .i64 st)
    have t5 : HL w0 _ (boxA (b4 + 1) { zA with job := ⟨x0, x1, x2, x3, st, x4, 0, []⟩ } (.slice none 0 0) (.slice none 0 0) (.slice none 0 0) :: bxz b4 :: intsR w0.heap.size (.slice (some ⟨bn, on, none⟩) n.length (cm + 6)) n :: intsR w0.heap.size (.slice AC nn cc9) (n.drop 6) :: L) := HL.setCell t4 8 (.int .i64 x4)
    have t6 : HL w0 _ (boxA (b4 + 1) { zA with job := ⟨x0, x1, x2, x3, st, x4, x5, []⟩ } (.slice none 0 0) (.slice none 0 0) (.slice none 0 0) :: bxz b4 :: intsR w0.heap.size (.slice (some ⟨bn, on, none⟩) n.length (cm + 6)) n :: intsR w0.heap.size (.slice AC nn cc9) (n.drop 6) :: L) := HL.setCell t5 9 (.int .i64 x5)
    have t7 : HL w0 _ (boxA (b4 + 1) { zA with job := ⟨x0, x1, x2, x3, st, x4, x5, n.drop 6⟩ } (.slice none 0 0) (.slice AC nn cc9) (.slice none 0 0) :: bxz b4 :: intsR w0.heap.size (.slice (some ⟨bn, on, none⟩) n.length (cm + 6)) n :: intsR w0.heap.size (.slice AC nn cc9) (n.drop 6) :: L) := HL.setCell t6 10 (.slice AC nn cc9)
    refine hK'.out _ _ (⟨(HSn.out _ _ _ _ t7).1, (HSn.out _ _ _ _ t7).2.1, (HSn.out _ _ _ _ t7).2.2.1, (HSn.out _ _ _ _ t7).2.2.2.1, (HSn.out _ _ _ _ t7).2.2.2.2.1, (HSn.out _ _ _ _ t7).2.2.2.2.2, HL.cell t7 7⟩) (fun hHeld => ?_)
    clear hK' K'
    try simp only [Act.put, zp]
    refine wpAnyH_done (by kernel_rfl) ?_ _
    clear hHeld m0 m1 m2 m3 m4 m5 m6 mm7 y0 y1 y2 y3 y4 y5 y6 yy7 t0 t1 t2 t3 t4 t5 t6 HC HC2 Hd
    go_upto_region 31 with (fail)
    generalize World.setCell _ _ _ = W7 at *
    have G1 : _ = some (Obj.cells (ansA { zA with job := ⟨x0, x1, x2, x3, st, x4, x5, n.drop 6⟩ } (.slice none 0 0) (.slice AC nn cc9) (.slice none 0 0)) 32 (0, 0)) := t7.head
    have G3 : _ = some (Obj.cells _ 32 (0, 0)) := t7.tail.head
    have HT := HL.setWhole (cells := ansA { zA with job := ⟨x0, x1, x2, x3, st, x4, x5, n.drop 6⟩ } (.slice none 0 0) (.slice AC nn cc9) (.slice none 0 0)) t7.tail
    go_wp2_with (first
     | (have g1 := G1; refine wpList_load_row rfl 32 _ rfl (b4 + 1) rfl 32 _ (0, 0) _ g1 Tryz.underlying32 rfl (ansA_size _ _ _ _) ?_; clear g1 G1)
     | (refine wpList_store_row rfl 32 _ _ rfl b4 (ansA { zA with job := ⟨x0, x1, x2, x3, st, x4, x5, n.drop 6⟩ } (.slice none 0 0) (.slice AC nn cc9) (.slice none 0 0)) rfl rfl 32 _ G3 (ansA_size _ _ _ _) rfl (ansA_one _ _ _ _ _ _ _ _ _ _) ?_))
    have G5 := HT.head
    refine bodyPost_ret (results_two (by rfl) _ _ b4 32 _ (0, 0) _ _ (by rfl) (by rfl) G5 Tryz.underlying32 rfl (ansA_size _ _ _ _)) rfl ?_
    have HTT := HT.sel 3 [2]
    rw [HFR.out]
    refine ⟨[intsR w0.heap.size (.slice AC nn cc9) (n.drop 6)], AC, cc9, ?_, ?_, HTT⟩
    ·simp only [HDL.out]; rfl
    ·simp only [HDL.out]; have := (entRow (L := []) : Ints w0 [intsR w0.heap.size (.slice AC nn cc9) (n.drop 6)] _ _); exact this
end
open Go.RowKit Go.Proofs.HL Go.Proofs.An
section
variable {w0 w : World} {L : List At} {v : Value}
theorem Ref.first_ok (hD : Doors w0) (H : HL w0 w L) {ws : List ByteArray} (h : Strs w0 L v ws) (hz : ∀ s ∈ ws, s.size ≤ 1000000000) (hpos : 0 < ws.length) (hl : ws.length ≤ 1048577) (k : Int) :
  Calls Tryz.prog 45 #[.int .i64 k, v] w (FirstPost w0 L (firstR k ws)) := by
 by_cases he : ws.headD ⟨#[]⟩ = errorW ∧ ws.length = 2
 ·exact Ref.fi_err hD H h hz hpos hl k he.1 he.2
 by_cases k11 : k = 11
 ·exact Ref.fi_use hD H h hz hpos hl k he k11
 by_cases k9 : k = 9
 ·by_cases h5 : 5 < ws.length
  ·cases hr : readV ((ws.take 5 ++ ws.drop 6).drop 1) with
   | none => exact Ref.fi_jbad hD H h hz hpos hl k he k9 h5 hr
   | some n =>
    by_cases h6 : 6 ≤ n.length
    ·exact Ref.fi_j6 hD H h hz hpos hl k he k9 h5 hr h6
    ·exact Ref.fi_jno hD H h hz hpos hl k he k9 h5 hr (by omega)
  ·have hjb : jbB k ws = false := by
    unfold jbB
    rw [decide_eq_false h5, Bool.and_false]
   cases hr : readV (ws.drop 1) with
   | none => exact Ref.fi_bad9 hD H h hz hpos hl k he k9 hr hjb
   | some n =>
    have hn := readV_len _ _ hr
    rw [List.length_drop] at hn
    exact Ref.fi_no9 hD H h hz hpos hl k he k9 hr (by omega) hjb
 ·have hjb : jbB k ws = false := by
   unfold jbB
   rw [show (k == 9) = false by simp [k9], Bool.false_and]
  cases hr : readV (ws.drop 1) with
  | none => exact Ref.fi_bad hD H h hz hpos hl k he ⟨k11, k9⟩ hr hjb
  | some n =>
   by_cases k1 : k = 1
   ·by_cases hn : n.length = 1
    ·exact Ref.fi_1 hD H h hz hpos hl k he k1 hr hn hjb
    ·exact Ref.fi_no1 hD H h hz hpos hl k he k1 hr hn hjb
   by_cases k5 : k = 5
   ·by_cases hn : n.length = 1
    ·exact Ref.fi_5 hD H h hz hpos hl k he k5 hr hn hjb
    ·exact Ref.fi_no5 hD H h hz hpos hl k he k5 hr hn hjb
   by_cases k10 : k = 10
   ·by_cases hn : n.length = 2
    ·exact Ref.fi_10 hD H h hz hpos hl k he k10 hr hn hjb
    ·exact Ref.fi_no10 hD H h hz hpos hl k he k10 hr hn hjb
   by_cases k12 : k = 12
   ·by_cases hn : n.length = 1
    ·exact Ref.fi_12 hD H h hz hpos hl k he k12 hr hn hjb
    ·exact Ref.fi_no12 hD H h hz hpos hl k he k12 hr hn hjb
   by_cases k13 : k = 13
   ·by_cases hn : n.length = 9
    ·exact Ref.fi_13 hD H h hz hpos hl k he k13 hr hn hjb
    ·exact Ref.fi_no13 hD H h hz hpos hl k he k13 hr hn hjb
   exact Ref.fi_no0 hD H h hz hpos hl k he ⟨k11, k1, k5, k9, k10, k12, k13⟩ hr rfl hjb
end
end Go.Proofs.YtdekbbffoaphhaaGreatDoor

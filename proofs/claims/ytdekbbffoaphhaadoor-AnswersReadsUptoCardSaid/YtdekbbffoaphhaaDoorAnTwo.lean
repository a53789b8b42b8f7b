/- Whether two events are alike: the law's way and the reference's. -/
import Derived.Test.YtdekbbffoaphhaaDoorAnSame
set_option linter.unusedVariables false
set_option linter.unusedSimpArgs false
namespace Go.Proofs.An
def sameB (e f : Ev) : Bool := e.kind == f.kind && e.job == f.job && e.tm == f.tm && e.nd == f.nd && e.lm == f.lm && decide (e.list = f.list)
theorem sameB_0 {e f : Ev} (h : (e.kind == f.kind) = false) : sameB e f = false := by simp [sameB, h]
theorem sameB_1 {e f : Ev} (h : (e.job == f.job) = false) : sameB e f = false := by simp [sameB, h]
theorem sameB_2 {e f : Ev} (h : (e.tm == f.tm) = false) : sameB e f = false := by simp [sameB, h]
theorem sameB_3 {e f : Ev} (h : (e.nd == f.nd) = false) : sameB e f = false := by simp [sameB, h]
theorem sameB_4 {e f : Ev} (h : (e.lm == f.lm) = false) : sameB e f = false := by simp [sameB, h]
theorem sameB_5 {e f : Ev} (h : decide (e.list = f.list) = false) : sameB e f = false := by simp only [sameB, h, Bool.and_false]
theorem sameB_6 {e f : Ev} (h0 : (e.kind == f.kind) = true) (h1 : (e.job == f.job) = true) (h2 : (e.tm == f.tm) = true) (h3 : (e.nd == f.nd) = true) (h4 : (e.lm == f.lm) = true) : sameB e f = decide (e.list = f.list) := by simp only [sameB, h0, h1, h2, h3, h4, Bool.true_and]
end Go.Proofs.An
namespace Go.Proofs.YtdekbbffoaphhaaDoor
open Go.RowKit Go.Proofs.HL Go.Proofs.An
section
variable {w0 w : World} {L : List At}
set_option maxRecDepth 100000 in
set_option maxHeartbeats 4000000 in
theorem same_ok (H : HL w0 w L) (e f : Ev) (v v' : Value) (h : Ints w0 L v e.list) (h' : Ints w0 L v' f.list) :
    Calls Tryd.prog 23 #[evV e v, evV f v'] w fun r w' => r = .returned (.bool (sameB e f)) ∧ HL w0 w' L := by
  obtain ⟨A, c, rfl, hc1, hc2⟩ := rd_shape (h w H)
  obtain ⟨A', c', rfl, hc1', hc2'⟩ := rd_shape (h' w H)
  unfold maxLen at hc2 hc2'
  have H1 := HL.allocE H e (.slice A e.list.length c)
  have H2 := HL.allocE H1 f (.slice A' f.list.length c')
  rw [World.size_alloc] at H2
  obtain ⟨n0, n1, n2, n3, n4, n5⟩ := boxE_cells H2.tail
  obtain ⟨m0, m1, m2, m3, m4, m5⟩ := boxE_cells H2
  unfold evV
  have g := (h.cons (boxE w.heap.size e (.slice A e.list.length c))).cons (boxE (w.heap.size + 1) f (.slice A' f.list.length c'))
  have g' := (h'.cons (boxE w.heap.size e (.slice A e.list.length c))).cons (boxE (w.heap.size + 1) f (.slice A' f.list.length c'))
  clear h h' H H1
  go_enter Tryd.func23, Tryd.ntmps23
  go_upto_region 1 with (fail)
  generalize World.alloc (World.alloc _ _) _ = W at *
  generalize w.heap.size = b at *
  cases q0 : (e.kind != f.kind)
  case true =>
    have HB := Lib.hid (sameB_0 (by simpa [bne] using q0))
    clear g g'
    go_wp2
    go_ret
    exact ⟨retBo HB.out, H2.tail.tail⟩
  have E0 := Lib.hid (show (e.kind == f.kind) = true by simpa [bne] using q0)
  cases q1 : (e.job != f.job)
  case true =>
    have HB := Lib.hid (sameB_1 (by simpa [bne] using q1))
    clear g g'
    go_wp2
    go_ret
    exact ⟨retBo HB.out, H2.tail.tail⟩
  have E1 := Lib.hid (show (e.job == f.job) = true by simpa [bne] using q1)
  cases q2 : (e.tm != f.tm)
  case true =>
    have HB := Lib.hid (sameB_2 (by simpa [bne] using q2))
    clear g g'
    go_wp2
    go_ret
    exact ⟨retBo HB.out, H2.tail.tail⟩
  have E2 := Lib.hid (show (e.tm == f.tm) = true by simpa [bne] using q2)
  cases q3 : (e.nd != f.nd)
  case true =>
    have HB := Lib.hid (sameB_3 (by simpa [bne] using q3))
    clear g g'
    go_wp2
    go_ret
    exact ⟨retBo HB.out, H2.tail.tail⟩
  have E3 := Lib.hid (show (e.nd == f.nd) = true by simpa [bne] using q3)
  cases q4 : (e.lm != f.lm)
  case true =>
    have HB := Lib.hid (sameB_4 (by simpa [bne] using q4))
    clear g g'
    go_wp2
    go_ret
    exact ⟨retBo HB.out, H2.tail.tail⟩
  have E4 := Lib.hid (show (e.lm == f.lm) = true by simpa [bne] using q4)
  have HB := Lib.hid (sameB_6 E0.out E1.out E2.out E3.out E4.out)
  by_cases hlm : e.list.length = f.list.length
  case neg =>
    have HN := Lib.hid (sameB_5 (len_no hlm))
    have hi : ((e.list.length : Int) == (f.list.length : Int)) = false := by simp; omega
    have hi2 : ((e.list.length : Int) != (f.list.length : Int)) = true := by simp; omega
    clear g g'
    go_wp2
    go_ret
    exact ⟨retBo HN.out, H2.tail.tail⟩
  have hi : ((e.list.length : Int) == (f.list.length : Int)) = true := by simp [hlm]
  have hi2 : ((e.list.length : Int) != (f.list.length : Int)) = false := by simp [hlm]
  go_wp2
  have HC := Lib.hid n5
  have HC' := Lib.hid m5
  clear n0 n1 n2 n3 n4 n5 m0 m1 m2 m3 m4 m5
  go_loopg [51] e.list.length (fun g i wr => ∃ k : Nat, i = .int .i64 k ∧ k + g = e.list.length ∧ e.list.take k = f.list.take k ∧ HL w0 wr (boxE (b + 1) f (.slice A' f.list.length c') :: boxE b e (.slice A e.list.length c) :: L))
  case atStart => exact ⟨0, rfl, by omega, rfl, H2⟩
  case round =>
    obtain ⟨k, rfl, hk, hno, HK⟩ := hrel
    have HNO := Lib.hid hno
    clear hno H2
    obtain ⟨-, -, -, -, -, n5⟩ := boxE_cells HK.tail
    obtain ⟨-, -, -, -, -, m5⟩ := boxE_cells HK
    by_cases hlt : k < e.list.length
    · obtain ⟨x, hx⟩ : ∃ x, e.list[k]? = some x := ⟨_, List.getElem?_eq_getElem hlt⟩
      obtain ⟨y, hy⟩ : ∃ y, f.list[k]? = some y := ⟨_, List.getElem?_eq_getElem (by omega)⟩
      obtain ⟨b1, o1, c1, hv, d0⟩ := int_at (g _ HK) hx
      obtain ⟨b2, o2, c2, hv2, d1⟩ := int_at (g' _ HK) hy
      simp only [Value.slice.injEq] at hv hv2
      obtain ⟨rfl, -, rfl⟩ := hv
      obtain ⟨rfl, -, rfl⟩ := hv2
      have hlt' : k < f.list.length := by omega
      by_cases hn : x = y
      · have HN := Lib.hid (take_step hx hy HNO.out hn)
        have hxy : (x == y) = true := by simp [hn]
        clear hx hy g g' hn
        go_wp2
        go_quiet (fail)
        go_wp2
        go_roundg (gk - 1)
        case measure => omega
        case rel => exact ⟨k + 1, by go_num, by omega, HN.out, HK.drewN _⟩
      · have HN := Lib.hid (sameB_5 (take_no hx hy hn))
        have hxy : (x == y) = false := by simp [hn]
        clear hx hy g g' hn
        go_wp2
        go_quiet (fail)
        go_wp2
        go_ret
        exact ⟨retBo HN.out, (HK.drewN _).tail.tail⟩
    · have HD := Lib.hid (HB.out.trans (take_all (by omega) hlm HNO.out))
      clear g g'
      go_wp2
      go_ret
      exact ⟨retBo HD.out, HK.tail.tail⟩
set_option maxRecDepth 100000 in
set_option maxHeartbeats 4000000 in
theorem Ref.same_ok (H : HL w0 w L) (e f : Ev) (v v' : Value) (h : Ints w0 L v e.list) (h' : Ints w0 L v' f.list) :
    Calls Tryd.prog 47 #[evV e v, evV f v'] w fun r w' => r = .returned (.bool (sameB e f)) ∧ HL w0 w' L := by
  obtain ⟨A, c, rfl, hc1, hc2⟩ := rd_shape (h w H)
  obtain ⟨A', c', rfl, hc1', hc2'⟩ := rd_shape (h' w H)
  unfold maxLen at hc2 hc2'
  have H1 := HL.allocE H e (.slice A e.list.length c)
  have H2 := HL.allocE H1 f (.slice A' f.list.length c')
  rw [World.size_alloc] at H2
  obtain ⟨n0, n1, n2, n3, n4, n5⟩ := boxE_cells H2.tail
  obtain ⟨m0, m1, m2, m3, m4, m5⟩ := boxE_cells H2
  unfold evV
  have g := (h.cons (boxE w.heap.size e (.slice A e.list.length c))).cons (boxE (w.heap.size + 1) f (.slice A' f.list.length c'))
  have g' := (h'.cons (boxE w.heap.size e (.slice A e.list.length c))).cons (boxE (w.heap.size + 1) f (.slice A' f.list.length c'))
  clear h h' H H1
  go_enter Tryd.func47, Tryd.ntmps47
  go_upto_region 1 with (fail)
  generalize World.alloc (World.alloc _ _) _ = W at *
  generalize w.heap.size = b at *
  cases h0 : (e.kind == f.kind)
  case false =>
    have HB := Lib.hid (sameB_0 h0)
    clear g g'
    go_wp2
    go_ret
    exact ⟨retBo HB.out, H2.tail.tail⟩
  cases h1 : (e.job == f.job)
  case false =>
    have HB := Lib.hid (sameB_1 h1)
    clear g g'
    go_wp2
    go_ret
    exact ⟨retBo HB.out, H2.tail.tail⟩
  cases h2 : (e.tm == f.tm)
  case false =>
    have HB := Lib.hid (sameB_2 h2)
    clear g g'
    go_wp2
    go_ret
    exact ⟨retBo HB.out, H2.tail.tail⟩
  cases h3 : (e.nd == f.nd)
  case false =>
    have HB := Lib.hid (sameB_3 h3)
    clear g g'
    go_wp2
    go_ret
    exact ⟨retBo HB.out, H2.tail.tail⟩
  cases h4 : (e.lm == f.lm)
  case false =>
    have HB := Lib.hid (sameB_4 h4)
    clear g g'
    go_wp2
    go_ret
    exact ⟨retBo HB.out, H2.tail.tail⟩
  have HB := Lib.hid (sameB_6 h0 h1 h2 h3 h4)
  have hcall := Ref.numbers_ok H2 g g'
  clear g g' H2
  go_wp2_with (go_at_call 74; refine hcall.mono ?_; rintro r wr ⟨rfl, HK⟩)
  go_ret
  exact ⟨retBo HB.out, HK.tail.tail⟩
end
end Go.Proofs.YtdekbbffoaphhaaDoor

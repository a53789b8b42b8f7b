/- The reference's numbers (two lists alike), its digits. -/
import Derived.Test.YtdekbbffoaphhaaDoorAnRight
set_option linter.unusedVariables false
set_option linter.unusedSimpArgs false
namespace Go.Proofs.An
theorem take_step {l m : List Int} {k : Nat} {x y : Int} (hx : l[k]? = some x) (hy : m[k]? = some y) (h : l.take k = m.take k) (e : x = y) : l.take (k + 1) = m.take (k + 1) := by
  rw [List.take_add_one, List.take_add_one, hx, hy, h, e]
theorem take_no {l m : List Int} {k : Nat} {x y : Int} (hx : l[k]? = some x) (hy : m[k]? = some y) (e : x ≠ y) : decide (l = m) = false := by
  rw [decide_eq_false_iff_not]
  rintro rfl
  rw [hx] at hy
  exact e (by simpa using hy)
theorem take_all {l m : List Int} {k : Nat} (hk : l.length ≤ k) (hlm : l.length = m.length) (h : l.take k = m.take k) : decide (l = m) = true := by
  rw [List.take_of_length_le hk, List.take_of_length_le (by omega)] at h
  simp [h]
theorem len_no {l m : List Int} (h : l.length ≠ m.length) : decide (l = m) = false := by
  rw [decide_eq_false_iff_not]
  rintro rfl
  exact h rfl
end Go.Proofs.An
namespace Go.Proofs.YtdekbbffoaphhaaDoor
open Go.RowKit Go.Proofs.HL Go.Proofs.An
section
variable {w0 w : World} {L : List At}
set_option maxRecDepth 100000 in
set_option maxHeartbeats 2000000 in
theorem Ref.numbers_ok {v v' : Value} {l m : List Int} (H : HL w0 w L) (h : Ints w0 L v l) (h' : Ints w0 L v' m) :
    Calls Tryd.prog 74 #[v, v'] w fun e w' => e = .returned (.bool (decide (l = m))) ∧ HL w0 w' L := by
  obtain ⟨A, c, rfl, hc1, hc2⟩ := rd_shape (h w H)
  obtain ⟨A', c', rfl, hc1', hc2'⟩ := rd_shape (h' w H)
  unfold maxLen at hc2 hc2'
  go_enter Tryd.func74, Tryd.ntmps74
  by_cases hlm : l.length = m.length
  · have hi : ((l.length : Int) == (m.length : Int)) = true := by simp [hlm]
    go_wp2
    go_loopg [13] l.length (fun g i wr => ∃ k : Nat, i = .int .i64 k ∧ k + g = l.length ∧ l.take k = m.take k ∧ HL w0 wr L)
    case atStart => exact ⟨0, rfl, by omega, rfl, H⟩
    case round =>
      obtain ⟨k, rfl, hk, hno, HK⟩ := hrel
      have HNO := Lib.hid hno
      clear hno
      by_cases hlt : k < l.length
      · obtain ⟨x, hx⟩ : ∃ x, l[k]? = some x := ⟨_, List.getElem?_eq_getElem hlt⟩
        obtain ⟨y, hy⟩ : ∃ y, m[k]? = some y := ⟨_, List.getElem?_eq_getElem (by omega)⟩
        obtain ⟨b1, o1, c1, hv, d0⟩ := int_at (h _ HK) hx
        obtain ⟨b2, o2, c2, hv2, d1⟩ := int_at (h' _ HK) hy
        simp only [Value.slice.injEq] at hv hv2
        obtain ⟨rfl, -, rfl⟩ := hv
        obtain ⟨rfl, -, rfl⟩ := hv2
        have hlt' : k < m.length := by omega
        by_cases hn : x = y
        · have HN := Lib.hid (take_step hx hy HNO.out hn)
          have hxy : (x == y) = true := by simp [hn]
          clear hx hy h h' hn
          go_wp2
          go_quiet (fail)
          go_wp2
          go_roundg (gk - 1)
          case measure => omega
          case rel => exact ⟨k + 1, by go_num, by omega, HN.out, HK.drewN _⟩
        · have HB := Lib.hid (take_no hx hy hn)
          have hxy : (x == y) = false := by simp [hn]
          clear hx hy h h' hn
          go_wp2
          go_quiet (fail)
          go_wp2
          go_ret
          exact ⟨retBo HB.out, HK.drewN _⟩
      · have HD := Lib.hid (take_all (by omega) hlm HNO.out)
        go_wp2
        go_ret
        exact ⟨retBo HD.out, HK⟩
  · have HB := Lib.hid (len_no hlm)
    have hi : ((l.length : Int) == (m.length : Int)) = false := by simp; omega
    clear h h'
    go_wp2
    go_ret
    exact ⟨retBo HB.out, H⟩
theorem Ref.digits9_ok (hD : Doors w0) (H : HL w0 w L) (n : Int) (h0 : -9223372036854775808 ≤ n) (h1 : n ≤ 9223372036854775807) :
    Calls Tryd.prog 72 #[.int .i64 n] w fun e w' => e = .returned (.string ⟨(Lib.itoa n).toArray⟩) ∧ HL w0 w' L := by
  go_enter Tryd.func72, Tryd.ntmps72
  go_wp2_with (go_at_call 37; refine (itoa_ok hD H n h0 h1).mono ?_; rintro e w' ⟨rfl, H'⟩)
  go_ret
  exact ⟨rfl, H'⟩
end
end Go.Proofs.YtdekbbffoaphhaaDoor

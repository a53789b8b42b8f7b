/- The law's own small helpers: lists alike. -/
import Derived.Test.YtebibcaahjmjfaaPrRefB
import Derived.Laws.StructEq
set_option linter.unusedVariables false
set_option linter.unusedSimpArgs false
namespace Go.Proofs.Ytebibcaahjmjfaa
open Go.RowKit Go.Proofs.HL Go.Proofs.HL.Pr
theorem eq_of_take {α : Type} {a b : List α} (hl : a.length = b.length) (h : ∀ j x y, j < a.length → a[j]? = some x → b[j]? = some y → x = y) : a = b := by
  apply List.ext_getElem hl
  intro j h1 h2
  exact h j _ _ h1 (List.getElem?_eq_getElem h1) (List.getElem?_eq_getElem h2)
theorem sameSteps_neq (x0 x1 y0 y1 : Int) (w : World) : (binOp .neq 34 (.agg #[.int .i64 x0, .int .i64 x1]) (.agg #[.int .i64 y0, .int .i64 y1])).run Try.prog w = .ok (.bool (!(x0 == y0) || !(x1 == y1))) w := by
  have hu : Try.prog.underlying 34 = some (.struct (Try.prog.fieldsOf 34)) := by kernel_rfl
  have hp : Try.prog.stoodInHeld 34 = false := by kernel_rfl
  rw [run_neq_struct, run_equalIn_agg _ _ _ _ _ hu hp]
  clear hu hp
  simp [go_sem]
  by_cases h0 : x0 = y0 <;> by_cases h1 : x1 = y1 <;> simp [h0, h1]
set_option maxRecDepth 100000 in
set_option maxHeartbeats 2000000 in
theorem sameSteps_ok {w0 w : World} {L : List At} {u v : Value} {a b : List Sp} (H : HL w0 w L) (ha : Stps w0 L u a) (hb : Stps w0 L v b) :
    Calls Try.prog 19 #[u, v] w fun e w' => e = .returned (.bool (decide (a = b))) ∧ HL w0 w' L := by
  obtain ⟨A, c, rfl, hc1, hc2⟩ := rd_shape (ha w H)
  obtain ⟨B, d, rfl, hd1, hd2⟩ := rd_shape (hb w H)
  unfold maxLen at hc2 hd2
  have hq := sameSteps_neq
  by_cases hlen : a.length = b.length
  · have hne : (a.length != b.length) = false := by simp [hlen]
    have hge : ((a.length : Int) != b.length) = false := by simp [hlen]
    have Hl := Lib.hid hlen
    clear hlen
    go_enter Try.func19, Try.ntmps19
    go_wp2
    go_loopg [5] a.length (fun g i wr => ∃ k : Nat, i = .int .i64 k ∧ k + g = a.length ∧ (∀ j x y, j < k → a[j]? = some x → b[j]? = some y → x = y) ∧ HL w0 wr L)
    case atStart => exact ⟨0, rfl, by omega, (fun _ _ _ h => by omega), H⟩
    case round =>
      obtain ⟨k, rfl, hk, hno, HK⟩ := hrel
      have Hno := Lib.hid hno
      clear hno H
      by_cases hlt : k < a.length
      · obtain ⟨x, hx⟩ : ∃ x, a[k]? = some x := ⟨_, List.getElem?_eq_getElem hlt⟩
        obtain ⟨y, hy⟩ : ∃ y, b[k]? = some y := ⟨_, List.getElem?_eq_getElem (by rw [← Hl.out]; exact hlt)⟩
        obtain ⟨b1, o1, c1, hv, d0, d1⟩ := stp_at (ha wr HK) hx
        simp only [Value.slice.injEq] at hv
        obtain ⟨rfl, -, rfl⟩ := hv
        obtain ⟨b2, o2, c2, hv, e0, e1⟩ := stp_at (hb wr HK) hy
        simp only [Value.slice.injEq] at hv
        obtain ⟨rfl, -, rfl⟩ := hv
        have hkb : k < b.length := by rw [← Hl.out]; exact hlt
        have Hx := Lib.hid hx; have Hy := Lib.hid hy
        clear hx hy
        by_cases hxy : x = y
        · subst hxy
          go_wp2
          go_quiet (fail)
          go_wp2
          go_roundg (gk - 1)
          case measure => omega
          case rel =>
            refine ⟨k + 1, by go_num, by omega, fun j x' y' hj hx' hy' => ?_, HK.drewN _⟩
            rcases Nat.lt_or_ge j k with h | h
            · exact Hno.out j x' y' h hx' hy'
            · obtain rfl : j = k := by omega
              rw [Hx.out] at hx'
              rw [Hy.out] at hy'
              exact (Option.some.inj hx').symm.trans (Option.some.inj hy')
        · have hab : a ≠ b := fun e => hxy (by subst e; exact Option.some.inj (Hx.out.symm.trans Hy.out))
          have hd : decide (a = b) = false := by simp [hab]
          have Hd := Lib.hid hd
          clear hab hd
          have hcmp : (!(x.at_ == y.at_) || !(x.free == y.free)) = true := by
            cases x; cases y
            simp only [Sp.mk.injEq] at hxy
            simp
            omega
          clear hxy
          go_wp2
          go_quiet (fail)
          go_wp2
          go_ret
          exact ⟨retB Hd.out, HK.drewN _⟩
      · have hab : a = b := eq_of_take Hl.out (fun j x y hj => Hno.out j x y (by omega))
        have hd : decide (a = b) = true := by simp [hab]
        have Hd := Lib.hid hd
        clear hab hd
        go_wp2
        go_ret
        exact ⟨retB Hd.out, HK⟩
  · have hne : ((a.length : Int) != b.length) = true := by simp; omega
    have hd : decide (a = b) = false := by simp; intro e; exact hlen (by rw [e])
    rw [hd]
    clear hd
    go_enter Try.func19, Try.ntmps19
    go_wp2
    go_ret
    exact ⟨rfl, H⟩

theorem sameRuns_neq (x0 x1 y0 y1 : Int) (w : World) : (binOp .neq 42 (.agg #[.int .i64 x0, .int .i64 x1]) (.agg #[.int .i64 y0, .int .i64 y1])).run Try.prog w = .ok (.bool (!(x0 == y0) || !(x1 == y1))) w := by
  have hu : Try.prog.underlying 42 = some (.struct (Try.prog.fieldsOf 42)) := by kernel_rfl
  have hp : Try.prog.stoodInHeld 42 = false := by kernel_rfl
  rw [run_neq_struct, run_equalIn_agg _ _ _ _ _ hu hp]
  clear hu hp
  simp [go_sem]
  by_cases h0 : x0 = y0 <;> by_cases h1 : x1 = y1 <;> simp [h0, h1]
set_option maxRecDepth 100000 in
set_option maxHeartbeats 2000000 in
theorem sameRuns_ok {w0 w : World} {L : List At} {u v : Value} {a b : List Rn} (H : HL w0 w L) (ha : Runs w0 L u a) (hb : Runs w0 L v b) :
    Calls Try.prog 39 #[u, v] w fun e w' => e = .returned (.bool (decide (a = b))) ∧ HL w0 w' L := by
  obtain ⟨A, c, rfl, hc1, hc2⟩ := rd_shape (ha w H)
  obtain ⟨B, d, rfl, hd1, hd2⟩ := rd_shape (hb w H)
  unfold maxLen at hc2 hd2
  have hq := sameRuns_neq
  by_cases hlen : a.length = b.length
  · have hne : (a.length != b.length) = false := by simp [hlen]
    have hge : ((a.length : Int) != b.length) = false := by simp [hlen]
    have Hl := Lib.hid hlen
    clear hlen
    go_enter Try.func39, Try.ntmps39
    go_wp2
    go_loopg [5] a.length (fun g i wr => ∃ k : Nat, i = .int .i64 k ∧ k + g = a.length ∧ (∀ j x y, j < k → a[j]? = some x → b[j]? = some y → x = y) ∧ HL w0 wr L)
    case atStart => exact ⟨0, rfl, by omega, (fun _ _ _ h => by omega), H⟩
    case round =>
      obtain ⟨k, rfl, hk, hno, HK⟩ := hrel
      have Hno := Lib.hid hno
      clear hno H
      by_cases hlt : k < a.length
      · obtain ⟨x, hx⟩ : ∃ x, a[k]? = some x := ⟨_, List.getElem?_eq_getElem hlt⟩
        obtain ⟨y, hy⟩ : ∃ y, b[k]? = some y := ⟨_, List.getElem?_eq_getElem (by rw [← Hl.out]; exact hlt)⟩
        obtain ⟨b1, o1, c1, hv, d0, d1⟩ := run_at (ha wr HK) hx
        simp only [Value.slice.injEq] at hv
        obtain ⟨rfl, -, rfl⟩ := hv
        obtain ⟨b2, o2, c2, hv, e0, e1⟩ := run_at (hb wr HK) hy
        simp only [Value.slice.injEq] at hv
        obtain ⟨rfl, -, rfl⟩ := hv
        have hkb : k < b.length := by rw [← Hl.out]; exact hlt
        have Hx := Lib.hid hx; have Hy := Lib.hid hy
        clear hx hy
        by_cases hxy : x = y
        · subst hxy
          go_wp2
          go_quiet (fail)
          go_wp2
          go_roundg (gk - 1)
          case measure => omega
          case rel =>
            refine ⟨k + 1, by go_num, by omega, fun j x' y' hj hx' hy' => ?_, HK.drewN _⟩
            rcases Nat.lt_or_ge j k with h | h
            · exact Hno.out j x' y' h hx' hy'
            · obtain rfl : j = k := by omega
              rw [Hx.out] at hx'
              rw [Hy.out] at hy'
              exact (Option.some.inj hx').symm.trans (Option.some.inj hy')
        · have hab : a ≠ b := fun e => hxy (by subst e; exact Option.some.inj (Hx.out.symm.trans Hy.out))
          have hd : decide (a = b) = false := by simp [hab]
          have Hd := Lib.hid hd
          clear hab hd
          have hcmp : (!(x.nodes == y.nodes) || !(x.fin == y.fin)) = true := by
            cases x; cases y
            simp only [Rn.mk.injEq] at hxy
            simp
            omega
          clear hxy
          go_wp2
          go_quiet (fail)
          go_wp2
          go_ret
          exact ⟨retB Hd.out, HK.drewN _⟩
      · have hab : a = b := eq_of_take Hl.out (fun j x y hj => Hno.out j x y (by omega))
        have hd : decide (a = b) = true := by simp [hab]
        have Hd := Lib.hid hd
        clear hab hd
        go_wp2
        go_ret
        exact ⟨retB Hd.out, HK⟩
  · have hne : ((a.length : Int) != b.length) = true := by simp; omega
    have hd : decide (a = b) = false := by simp; intro e; exact hlen (by rw [e])
    rw [hd]
    clear hd
    go_enter Try.func39, Try.ntmps39
    go_wp2
    go_ret
    exact ⟨rfl, H⟩

end Go.Proofs.Ytebibcaahjmjfaa

/- The pass law's own small helpers: lists alike, plans alike. -/
import Derived.Test.YtebibcaahjmjfaaPaRank
set_option linter.unusedVariables false
set_option linter.unusedSimpArgs false
namespace Go.Proofs.Ytebibcaahjmjfaa
open Go.RowKit Go.Proofs.HL Go.Proofs.HL.Pr Go.Proofs.HL.Pa
abbrev Ints (w0 : World) (L : List At) (v : Value) (l : List Int) : Prop := Ent w0 L (Rd 1 v l.length (l.map fun j => .int .i64 j))
theorem Ints.cons {w0 : World} {L : List At} {v : Value} {l : List Int} (h : Ints w0 L v l) (A : At) : Ints w0 (A :: L) v l := Ent.cons h A
theorem map_one (S : List Int) : (S.map fun j => Value.int .i64 j) = S.flatMap fun j => [Value.int .i64 j] := by
  induction S with
  | nil => rfl
  | cons x S ih => rw [List.map_cons, List.flatMap_cons, ih]; rfl
theorem int_at {w : World} {v : Value} {l : List Int} (h : Rd 1 v l.length (l.map fun j => .int .i64 j) w) {k : Nat} {x : Int} (hx : l[k]? = some x) :
    ∃ b o c, v = .slice (some ⟨b, o, none⟩) l.length c ∧ w.cell? ⟨b, o + k, none⟩ = some (.int .i64 x) := by
  rw [map_one] at h
  obtain ⟨b, o, c, h1, -, -, h2⟩ := rd_elem (fun j => [Value.int .i64 j]) 1 (fun _ => rfl) (by decide) h hx
  have := h2 0 _ rfl
  rw [Nat.mul_one, Nat.add_zero] at this
  exact ⟨b, o, c, h1, this⟩
theorem sameWants15_neq (x0 x1 x2 y0 y1 y2 : Int) (w : World) : (binOp .neq 60 (.agg #[.int .i64 x0, .int .i64 x1, .int .i64 x2]) (.agg #[.int .i64 y0, .int .i64 y1, .int .i64 y2])).run Try.prog w = .ok (.bool (!(x0 == y0) || !(x1 == y1) || !(x2 == y2))) w := by
  have hu : Try.prog.underlying 60 = some (.struct (Try.prog.fieldsOf 60)) := by kernel_rfl
  have hp : Try.prog.stoodInHeld 60 = false := by kernel_rfl
  rw [run_neq_struct, run_equalIn_agg _ _ _ _ _ hu hp]
  clear hu hp
  simp [go_sem]
  by_cases h0 : x0 = y0 <;> by_cases h1 : x1 = y1 <;> by_cases h2 : x2 = y2 <;> simp [h0, h1, h2]
set_option maxRecDepth 100000 in
set_option maxHeartbeats 2000000 in
theorem sameWants15_ok {w0 w : World} {L : List At} {u v : Value} {a b : List Wn} (H : HL w0 w L) (ha : Wants w0 L u a) (hb : Wants w0 L v b) :
    Calls Try.prog 48 #[u, v] w fun e w' => e = .returned (.bool (decide (a = b))) ∧ HL w0 w' L := by
  obtain ⟨A, c, rfl, hc1, hc2⟩ := rd_shape (ha w H)
  obtain ⟨B, d, rfl, hd1, hd2⟩ := rd_shape (hb w H)
  unfold maxLen at hc2 hd2
  have hq := sameWants15_neq
  by_cases hlen : a.length = b.length
  · have hne : (a.length != b.length) = false := by simp [hlen]
    have hge : ((a.length : Int) != b.length) = false := by simp [hlen]
    have Hl := Lib.hid hlen
    clear hlen
    go_enter Try.func48, Try.ntmps48
    go_wp2
    go_loopg [5] a.length (fun g i wr => ∃ k : Nat, i = .int .i64 k ∧ k + g = a.length ∧ (∀ j x y, j < k → a[j]? = some x → b[j]? = some y → x = y) ∧ HL w0 wr L)
    case atStart => exact ⟨0, rfl, by omega, (fun _ _ _ h => by omega), H⟩
    case round =>
      obtain ⟨k, rfl, hk, hno, HK⟩ := hrel
      have Hno := Lib.hid hno
      clear hno H
      by_cases hlt : k < a.length
      · obtain ⟨x, hx⟩ : ∃ x, a[k]? = some x := ⟨_, List.getElem?_eq_getElem hlt⟩
        obtain ⟨y, hy⟩ : ∃ y, b[k]? = some y := ⟨_, List.getElem?_eq_getElem (by rw [← Hl.out]; exact hlt)⟩
        obtain ⟨b1, o1, c1, hv, d0, d1, d2⟩ := wn_at (ha wr HK) hx
        simp only [Value.slice.injEq] at hv
        obtain ⟨rfl, -, rfl⟩ := hv
        obtain ⟨b2, o2, c2, hv, e0, e1, e2⟩ := wn_at (hb wr HK) hy
        simp only [Value.slice.injEq] at hv
        obtain ⟨rfl, -, rfl⟩ := hv
        have hkb : k < b.length := by rw [← Hl.out]; exact hlt
        have Hx := Lib.hid hx; have Hy := Lib.hid hy
        clear hx hy
        by_cases hxy : x = y
        · subst hxy
          go_wp2
          go_quiet (fail)
          go_wp2
          go_roundg (gk - 1)
          case measure => omega
          case rel =>
            refine ⟨k + 1, by go_num, by omega, fun j x' y' hj hx' hy' => ?_, HK.drewN _⟩
            rcases Nat.lt_or_ge j k with h | h
            · exact Hno.out j x' y' h hx' hy'
            · obtain rfl : j = k := by omega
              rw [Hx.out] at hx'
              rw [Hy.out] at hy'
              exact (Option.some.inj hx').symm.trans (Option.some.inj hy')
        · have hab : a ≠ b := fun e => hxy (by subst e; exact Option.some.inj (Hx.out.symm.trans Hy.out))
          have hd : decide (a = b) = false := by simp [hab]
          have Hd := Lib.hid hd
          clear hab hd
          have hcmp : (!(x.job == y.job) || !(x.nodes == y.nodes) || !(x.limit == y.limit)) = true := by
            cases x; cases y
            simp only [Wn.mk.injEq] at hxy
            simp
            omega
          clear hxy
          go_wp2
          go_quiet (fail)
          go_wp2
          go_ret
          exact ⟨retB Hd.out, HK.drewN _⟩
      · have hab : a = b := eq_of_take Hl.out (fun j x y hj => Hno.out j x y (by omega))
        have hd : decide (a = b) = true := by simp [hab]
        have Hd := Lib.hid hd
        clear hab hd
        go_wp2
        go_ret
        exact ⟨retB Hd.out, HK⟩
  · have hne : ((a.length : Int) != b.length) = true := by simp; omega
    have hd : decide (a = b) = false := by simp; intro e; exact hlen (by rw [e])
    rw [hd]
    clear hd
    go_enter Try.func48, Try.ntmps48
    go_wp2
    go_ret
    exact ⟨rfl, H⟩

theorem sameRuns15_neq (x0 x1 y0 y1 : Int) (w : World) : (binOp .neq 42 (.agg #[.int .i64 x0, .int .i64 x1]) (.agg #[.int .i64 y0, .int .i64 y1])).run Try.prog w = .ok (.bool (!(x0 == y0) || !(x1 == y1))) w := by
  have hu : Try.prog.underlying 42 = some (.struct (Try.prog.fieldsOf 42)) := by kernel_rfl
  have hp : Try.prog.stoodInHeld 42 = false := by kernel_rfl
  rw [run_neq_struct, run_equalIn_agg _ _ _ _ _ hu hp]
  clear hu hp
  simp [go_sem]
  by_cases h0 : x0 = y0 <;> by_cases h1 : x1 = y1 <;> simp [h0, h1]
set_option maxRecDepth 100000 in
set_option maxHeartbeats 2000000 in
theorem sameRuns15_ok {w0 w : World} {L : List At} {u v : Value} {a b : List Rn} (H : HL w0 w L) (ha : Runs w0 L u a) (hb : Runs w0 L v b) :
    Calls Try.prog 49 #[u, v] w fun e w' => e = .returned (.bool (decide (a = b))) ∧ HL w0 w' L := by
  obtain ⟨A, c, rfl, hc1, hc2⟩ := rd_shape (ha w H)
  obtain ⟨B, d, rfl, hd1, hd2⟩ := rd_shape (hb w H)
  unfold maxLen at hc2 hd2
  have hq := sameRuns15_neq
  by_cases hlen : a.length = b.length
  · have hne : (a.length != b.length) = false := by simp [hlen]
    have hge : ((a.length : Int) != b.length) = false := by simp [hlen]
    have Hl := Lib.hid hlen
    clear hlen
    go_enter Try.func49, Try.ntmps49
    go_wp2
    go_loopg [5] a.length (fun g i wr => ∃ k : Nat, i = .int .i64 k ∧ k + g = a.length ∧ (∀ j x y, j < k → a[j]? = some x → b[j]? = some y → x = y) ∧ HL w0 wr L)
    case atStart => exact ⟨0, rfl, by omega, (fun _ _ _ h => by omega), H⟩
    case round =>
      obtain ⟨k, rfl, hk, hno, HK⟩ := hrel
      have Hno := Lib.hid hno
      clear hno H
      by_cases hlt : k < a.length
      · obtain ⟨x, hx⟩ : ∃ x, a[k]? = some x := ⟨_, List.getElem?_eq_getElem hlt⟩
        obtain ⟨y, hy⟩ : ∃ y, b[k]? = some y := ⟨_, List.getElem?_eq_getElem (by rw [← Hl.out]; exact hlt)⟩
        obtain ⟨b1, o1, c1, hv, d0, d1⟩ := run_at (ha wr HK) hx
        simp only [Value.slice.injEq] at hv
        obtain ⟨rfl, -, rfl⟩ := hv
        obtain ⟨b2, o2, c2, hv, e0, e1⟩ := run_at (hb wr HK) hy
        simp only [Value.slice.injEq] at hv
        obtain ⟨rfl, -, rfl⟩ := hv
        have hkb : k < b.length := by rw [← Hl.out]; exact hlt
        have Hx := Lib.hid hx; have Hy := Lib.hid hy
        clear hx hy
        by_cases hxy : x = y
        · subst hxy
          go_wp2
          go_quiet (fail)
          go_wp2
          go_roundg (gk - 1)
          case measure => omega
          case rel =>
            refine ⟨k + 1, by go_num, by omega, fun j x' y' hj hx' hy' => ?_, HK.drewN _⟩
            rcases Nat.lt_or_ge j k with h | h
            · exact Hno.out j x' y' h hx' hy'
            · obtain rfl : j = k := by omega
              rw [Hx.out] at hx'
              rw [Hy.out] at hy'
              exact (Option.some.inj hx').symm.trans (Option.some.inj hy')
        · have hab : a ≠ b := fun e => hxy (by subst e; exact Option.some.inj (Hx.out.symm.trans Hy.out))
          have hd : decide (a = b) = false := by simp [hab]
          have Hd := Lib.hid hd
          clear hab hd
          have hcmp : (!(x.nodes == y.nodes) || !(x.fin == y.fin)) = true := by
            cases x; cases y
            simp only [Rn.mk.injEq] at hxy
            simp
            omega
          clear hxy
          go_wp2
          go_quiet (fail)
          go_wp2
          go_ret
          exact ⟨retB Hd.out, HK.drewN _⟩
      · have hab : a = b := eq_of_take Hl.out (fun j x y hj => Hno.out j x y (by omega))
        have hd : decide (a = b) = true := by simp [hab]
        have Hd := Lib.hid hd
        clear hab hd
        go_wp2
        go_ret
        exact ⟨retB Hd.out, HK⟩
  · have hne : ((a.length : Int) != b.length) = true := by simp; omega
    have hd : decide (a = b) = false := by simp; intro e; exact hlen (by rw [e])
    rw [hd]
    clear hd
    go_enter Try.func49, Try.ntmps49
    go_wp2
    go_ret
    exact ⟨rfl, H⟩

set_option maxRecDepth 100000 in
set_option maxHeartbeats 2000000 in
theorem sameInts15_ok {w0 w : World} {L : List At} {u v : Value} {a b : List Int} (H : HL w0 w L) (ha : Ints w0 L u a) (hb : Ints w0 L v b) :
    Calls Try.prog 27 #[u, v] w fun e w' => e = .returned (.bool (decide (a = b))) ∧ HL w0 w' L := by
  obtain ⟨A, c, rfl, hc1, hc2⟩ := rd_shape (ha w H)
  obtain ⟨B, d, rfl, hd1, hd2⟩ := rd_shape (hb w H)
  unfold maxLen at hc2 hd2
  by_cases hlen : a.length = b.length
  · have hne : (a.length != b.length) = false := by simp [hlen]
    have hge : ((a.length : Int) != b.length) = false := by simp [hlen]
    have Hl := Lib.hid hlen
    clear hlen
    go_enter Try.func27, Try.ntmps27
    go_wp2
    go_loopg [5] a.length (fun g i wr => ∃ k : Nat, i = .int .i64 k ∧ k + g = a.length ∧ (∀ j x y, j < k → a[j]? = some x → b[j]? = some y → x = y) ∧ HL w0 wr L)
    case atStart => exact ⟨0, rfl, by omega, (fun _ _ _ h => by omega), H⟩
    case round =>
      obtain ⟨k, rfl, hk, hno, HK⟩ := hrel
      have Hno := Lib.hid hno
      clear hno H
      by_cases hlt : k < a.length
      · obtain ⟨x, hx⟩ : ∃ x, a[k]? = some x := ⟨_, List.getElem?_eq_getElem hlt⟩
        obtain ⟨y, hy⟩ : ∃ y, b[k]? = some y := ⟨_, List.getElem?_eq_getElem (by rw [← Hl.out]; exact hlt)⟩
        obtain ⟨b1, o1, c1, hv, d0⟩ := int_at (ha wr HK) hx
        simp only [Value.slice.injEq] at hv
        obtain ⟨rfl, -, rfl⟩ := hv
        obtain ⟨b2, o2, c2, hv, e0⟩ := int_at (hb wr HK) hy
        simp only [Value.slice.injEq] at hv
        obtain ⟨rfl, -, rfl⟩ := hv
        have hkb : k < b.length := by rw [← Hl.out]; exact hlt
        have Hx := Lib.hid hx; have Hy := Lib.hid hy
        clear hx hy
        by_cases hxy : x = y
        · subst hxy
          go_wp2
          go_quiet (fail)
          go_wp2
          go_roundg (gk - 1)
          case measure => omega
          case rel =>
            refine ⟨k + 1, by go_num, by omega, fun j x' y' hj hx' hy' => ?_, HK.drewN _⟩
            rcases Nat.lt_or_ge j k with h | h
            · exact Hno.out j x' y' h hx' hy'
            · obtain rfl : j = k := by omega
              rw [Hx.out] at hx'
              rw [Hy.out] at hy'
              exact (Option.some.inj hx').symm.trans (Option.some.inj hy')
        · have hab : a ≠ b := fun e => hxy (by subst e; exact Option.some.inj (Hx.out.symm.trans Hy.out))
          have hd : decide (a = b) = false := by simp [hab]
          have Hd := Lib.hid hd
          clear hab hd
          have hcmp : (x != y) = true := by simp [hxy]
          have hcmp2 : decide (x = y) = false := decide_eq_false hxy
          clear hxy
          go_wp2
          go_quiet (fail)
          go_wp2
          go_ret
          exact ⟨retB Hd.out, HK.drewN _⟩
      · have hab : a = b := eq_of_take Hl.out (fun j x y hj => Hno.out j x y (by omega))
        have hd : decide (a = b) = true := by simp [hab]
        have Hd := Lib.hid hd
        clear hab hd
        go_wp2
        go_ret
        exact ⟨retB Hd.out, HK⟩
  · have hne : ((a.length : Int) != b.length) = true := by simp; omega
    have hd : decide (a = b) = false := by simp; intro e; exact hlen (by rw [e])
    rw [hd]
    clear hd
    go_enter Try.func27, Try.ntmps27
    go_wp2
    go_ret
    exact ⟨rfl, H⟩


theorem entInts {w0 : World} {base : Nat} {v : Value} {S : List Int} (L' : List At) : Ints w0 (intsR base v S :: L') v S := fun w H => by
  have h : w.ownsRow base 3 1 v S.length (S.map fun j => .int .i64 j) := H.head
  exact rd_row h
abbrev plV (u : Value) (h s e : Int) : Value := .agg #[u, .int .i64 h, .int .i64 s, .int .i64 e]
set_option maxRecDepth 100000 in
set_option maxHeartbeats 2000000 in
theorem same15_ok {w0 w : World} {L : List At} {u v : Value} {a b : List Int} {h1 s1 e1 h2 s2 e2 : Int} (H : HL w0 w L) (ha : Ints w0 L u a) (hb : Ints w0 L v b) :
    Calls Try.prog 26 #[plV u h1 s1 e1, plV v h2 s2 e2] w fun e w' => e = .returned (.bool (decide (a = b ∧ h1 = h2 ∧ s1 = s2 ∧ e1 = e2))) ∧ HL w0 w' L := by
  have HB := (H.alloc (.cells #[u, .int .i64 h1, .int .i64 s1, .int .i64 e1] 50)).alloc (.cells #[v, .int .i64 h2, .int .i64 s2, .int .i64 e2] 50)
  rw [World.size_alloc] at HB
  have hsm := sameInts15_ok HB ((ha.cons _).cons _) ((hb.cons _).cons _)
  obtain ⟨A, c, rfl, -, -⟩ := rd_shape (ha w H)
  obtain ⟨B, d, rfl, -, -⟩ := rd_shape (hb w H)
  unfold plV
  by_cases h : a = b ∧ h1 = h2 ∧ s1 = s2 ∧ e1 = e2
  · obtain ⟨rfl, rfl, rfl, rfl⟩ := h
    rw [decide_eq_true rfl] at hsm
    have Hd := Lib.hid (show decide (a = a ∧ h1 = h1 ∧ s1 = s1 ∧ e1 = e1) = true by simp)
    rw [Hd.out]
    go_enter Try.func26, Try.ntmps26
    go_wp2_with (go_at_call 27; refine hsm.mono ?_; rintro e w1 ⟨rfl, H1⟩; clear hsm HB; have c1 := H1.swap.cell 1; have c2 := H1.swap.cell 2; have c3 := H1.swap.cell 3; have d1 := H1.cell 1; have d2 := H1.cell 2; have d3 := H1.cell 3)
    go_ret
    exact ⟨rfl, H1.tail.tail⟩
  · have Hd := Lib.hid (show decide (a = b ∧ h1 = h2 ∧ s1 = s2 ∧ e1 = e2) = false from decide_eq_false h)
    rw [Hd.out]
    have hx : decide (a = b) = false ∨ (h1 == h2) = false ∨ (s1 == s2) = false ∨ (e1 == e2) = false := by
      by_cases q1 : a = b
      · by_cases q2 : h1 = h2
        · by_cases q3 : s1 = s2
          · by_cases q4 : e1 = e2
            · exact absurd ⟨q1, q2, q3, q4⟩ h
            · simp [q4]
          · simp [q3]
        · simp [q2]
      · simp [q1]
    have Hx := Lib.hid hx
    clear h hx
    go_enter Try.func26, Try.ntmps26
    generalize hA : decide (a = b) = qa at *
    generalize hB : (h1 == h2) = qh at *
    generalize hC : (s1 == s2) = qs at *
    generalize hD : (e1 == e2) = qe at *
    cases qa <;> cases qh <;> cases qs <;> cases qe <;> (first | (exfalso; have := Hx.out; simp at this; done) | skip)
    all_goals
      go_wp2_with (go_at_call 27; refine hsm.mono ?_; rintro e w1 ⟨rfl, H1⟩; clear hsm HB; have c1 := H1.swap.cell 1; have c2 := H1.swap.cell 2; have c3 := H1.swap.cell 3; have d1 := H1.cell 1; have d2 := H1.cell 2; have d3 := H1.cell 3)
      go_ret
      exact ⟨rfl, H1.tail.tail⟩
end Go.Proofs.Ytebibcaahjmjfaa

/- Whether an event may be. -/
import Derived.Test.YtdekbbffoaphhaaDoorAnReads
import Derived.Deep.DeepCutAuto
import Derived.Deep.CutBlock
set_option linter.unusedVariables false
set_option linter.unusedSimpArgs false
namespace Go.Proofs.An
theorem okK_1 {e : Ev} (h : e.kind = 1) : okK e = noneB e := by simp [okK, h]
theorem okK_2 {e : Ev} (h : e.kind = 2) : okK e = (bareB e && ris e.list) := by simp [okK, h]
theorem okK_3 {e : Ev} (h : e.kind = 3) : okK e = (decide (3 ≤ e.nd) && decide (e.nd ≤ 6) && e.lm == 0 && noneB e) := by simp [okK, h]
theorem okK_4 {e : Ev} (h : e.kind = 4) : okK e = (bareB e && noneB e) := by simp [okK, h]
theorem okK_5 {e : Ev} (h : e.kind = 5) : okK e = (bareB e && e.job == 0 && sgn e.list) := by simp [okK, h]
theorem okK_6 {e : Ev} (h : e.kind = 6 ∨ e.kind = 7) : okK e = (bareB e && e.job == 0 && noneB e) := by rcases h with h | h <;> simp [okK, h]
theorem okK_no {e : Ev} (h1 : e.kind ≠ 1) (h2 : e.kind ≠ 2) (h3 : e.kind ≠ 3) (h4 : e.kind ≠ 4) (h5 : e.kind ≠ 5) (h6 : e.kind ≠ 6) (h7 : e.kind ≠ 7) : okK e = false := by simp [okK, h1, h2, h3, h4, h5, h6, h7]
end Go.Proofs.An
namespace Go.Proofs.YtdekbbffoaphhaaDoor
open Go.RowKit Go.Proofs.HL Go.Proofs.An
def evV (e : Ev) (v : Value) : Value := .agg #[.int .i64 e.kind, .int .i64 e.job, .int .i64 e.tm, .int .i64 e.nd, .int .i64 e.lm, v]
def boxE (b : Nat) (e : Ev) (v : Value) : At := blk b (.cells #[.int .i64 e.kind, .int .i64 e.job, .int .i64 e.tm, .int .i64 e.nd, .int .i64 e.lm, v] 36)
section
variable {w0 w : World} {L : List At} {v : Value} {b : Nat} {e : Ev}
theorem HL.allocE (H : HL w0 w L) (e : Ev) (v : Value) : HL w0 (w.alloc (.cells #[.int .i64 e.kind, .int .i64 e.job, .int .i64 e.tm, .int .i64 e.nd, .int .i64 e.lm, v] 36)) (boxE w.heap.size e v :: L) := H.alloc _
theorem boxE_cells (H : HL w0 w (boxE b e v :: L)) : w.cell? ⟨b, 0, none⟩ = some (.int .i64 e.kind) ∧ w.cell? ⟨b, 1, none⟩ = some (.int .i64 e.job) ∧ w.cell? ⟨b, 2, none⟩ = some (.int .i64 e.tm) ∧ w.cell? ⟨b, 3, none⟩ = some (.int .i64 e.nd) ∧ w.cell? ⟨b, 4, none⟩ = some (.int .i64 e.lm) ∧ w.cell? ⟨b, 5, none⟩ = some v :=
  ⟨HL.cell H 0, HL.cell H 1, HL.cell H 2, HL.cell H 3, HL.cell H 4, HL.cell H 5⟩
theorem boxE_froz (H : HL w0 w (boxE b e v :: L)) : w.frozen? ⟨b, 0, none⟩ = false ∧ w.frozen? ⟨b, 1, none⟩ = false ∧ w.frozen? ⟨b, 2, none⟩ = false ∧ w.frozen? ⟨b, 3, none⟩ = false ∧ w.frozen? ⟨b, 4, none⟩ = false ∧ w.frozen? ⟨b, 5, none⟩ = false :=
  ⟨HL.frozen H 0, HL.frozen H 1, HL.frozen H 2, HL.frozen H 3, HL.frozen H 4, HL.frozen H 5⟩
theorem ne_beq {k n : Int} (h : k ≠ n) : (k == n) = false := by simp [h]
set_option maxRecDepth 100000 in
set_option maxHeartbeats 4000000 in
theorem right_ok (H : HL w0 w L) (e : Ev) (h : Ints w0 L v e.list) :
    Calls Tryd.prog 43 #[evV e v] w fun r w' => r = .returned (.bool (right e)) ∧ HL w0 w' L := by
  obtain ⟨A, c, rfl, hc1, hc2⟩ := rd_shape (h w H)
  unfold maxLen at hc2
  have H1 := HL.allocE H e (.slice A e.list.length c)
  have hrd := h.cons (boxE w.heap.size e (.slice A e.list.length c)) _ H1
  obtain ⟨n0, n1, n2, n3, n4, n5⟩ := boxE_cells H1
  unfold evV
  generalize hb1 : w.heap.size = b1 at *
  clear H h
  go_enter Tryd.func43, Tryd.ntmps43
  go_upto_region 1 with (fail)
  have HB1 := Lib.hid hb1
  clear hb1
  generalize World.alloc _ _ = W at *
  go_cut [3] (fun t3 wc => t3 = .bool (bareB e) ∧ W = wc)
  case first =>
    have hd : bareB e = (e.nd == 0 && e.lm == 0) := rfl
    cases hb1 : (e.nd == 0)
    · rw [hb1] at hd
      have HD := Lib.hid hd
      clear hd
      go_wp2
      go_meet
      exact ⟨by rw [HD.out]; rfl, rfl⟩
    · cases hb2 : (e.lm == 0)
      · rw [hb1, hb2] at hd
        have HD := Lib.hid hd
        clear hd
        go_wp2
        go_meet
        exact ⟨by rw [HD.out]; rfl, rfl⟩
      · rw [hb1, hb2] at hd
        have HD := Lib.hid hd
        clear hd
        go_wp2
        go_meet
        exact ⟨by rw [HD.out]; rfl, rfl⟩
  case rest =>
    obtain ⟨rfl, rfl⟩ := hcut
    go_upto_region 2 with (fail)
    go_cut [4] (fun t4 wc => t4 = .bool (noneB e) ∧ W = wc)
    case first =>
      by_cases hz : e.list.length = 0
      · have hd : noneB e = true := by simp [noneB, hz]
        have hq : ((e.list.length : Int) == 0) = true := by simp [hz]
        have HD := Lib.hid hd; have HZ := Lib.hid hz
        clear hd hz
        go_wp2
        go_meet
        exact ⟨by rw [HD.out], rfl⟩
      · have hd : noneB e = false := by simp [noneB, hz]
        have hq : ((e.list.length : Int) == 0) = false := by simp [hz]
        have HD := Lib.hid hd; have HZ := Lib.hid hz
        clear hd hz
        go_wp2
        go_meet
        exact ⟨by rw [HD.out], rfl⟩
    case rest =>
      obtain ⟨rfl, rfl⟩ := hcut
      have hri := rises_ok hrd
      have hsi := signs_ok hrd
      have o1 := okK_1 (e := e); have o2 := okK_2 (e := e); have o3 := okK_3 (e := e); have o4 := okK_4 (e := e); have o5 := okK_5 (e := e); have o6 := okK_6 (e := e); have o7 := okK_no (e := e)
      have hright : right e = (okK e && sgn [e.job, e.tm, e.nd, e.lm]) := rfl
      have HR := Lib.hid hright
      clear hright
      generalize bareB e = B1 at *
      generalize noneB e = B2 at *
      generalize ris e.list = R at *
      generalize sgn e.list = S at *
      generalize hOK : okK e = OK at *
      have O1 := Lib.hid o1; have O2 := Lib.hid o2; have O3 := Lib.hid o3; have O4 := Lib.hid o4; have O5 := Lib.hid o5; have O6 := Lib.hid o6; have O7 := Lib.hid o7
      clear o1 o2 o3 o4 o5 o6 o7 hOK
      go_upto_block 0 with (fail)
      go_cut [5] (fun t5 wc => t5 = .bool OK ∧ W = wc)
      case first =>
        by_cases k1 : e.kind = 1
        · have HD := Lib.hid (O1.out k1)
          have qk : (e.kind == 1) = true := by simp [k1]

          have q2 : (e.kind == 2) = false := by simp [k1]
          clear k1
          go_wp2
          go_meet
          exact ⟨by rw [HD.out], rfl⟩
        by_cases k2 : e.kind = 2
        · have HD := Lib.hid (O2.out k2)
          have qk : (e.kind == 2) = true := by simp [k2]
          have q1 : (e.kind == 1) = false := by simp [k2]

          clear k2
          cases B1
          · go_wp2
            go_meet
            exact ⟨by rw [HD.out]; rfl, rfl⟩
          · go_wp2_with (go_at_call 71; refine hri.mono ?_; rintro r w3 ⟨rfl, rfl⟩)
            go_meet
            exact ⟨by rw [HD.out]; rfl, rfl⟩
        have q1 := ne_beq k1; have q2 := ne_beq k2
        by_cases k3 : e.kind = 3
        · have HD := Lib.hid (O3.out k3)
          have qk : (e.kind == 3) = true := by simp [k3]
          clear k3
          by_cases m1 : 3 ≤ e.nd
          · by_cases m2 : e.nd ≤ 6
            · cases m3 : (e.lm == 0)
              · go_wp2
                go_meet
                exact ⟨by rw [HD.out, m3]; simp, rfl⟩
              · go_wp2
                go_meet
                exact ⟨by rw [HD.out, m3]; simp [m1, m2], rfl⟩
            · have d2 : decide (e.nd ≤ 6) = false := decide_eq_false m2
              go_wp2
              go_meet
              exact ⟨by rw [HD.out, d2]; simp, rfl⟩
          · have d2 : decide (3 ≤ e.nd) = false := decide_eq_false m1
            go_wp2
            go_meet
            exact ⟨by rw [HD.out, d2]; simp, rfl⟩
        have q3 := ne_beq k3
        by_cases k4 : e.kind = 4
        · have HD := Lib.hid (O4.out k4)
          have qk : (e.kind == 4) = true := by simp [k4]
          clear k4
          cases B1
          · go_wp2
            go_meet
            exact ⟨by rw [HD.out]; rfl, rfl⟩
          · go_wp2
            go_meet
            exact ⟨by rw [HD.out]; rfl, rfl⟩
        have q4 := ne_beq k4
        by_cases k5 : e.kind = 5
        · have HD := Lib.hid (O5.out k5)
          have qk : (e.kind == 5) = true := by simp [k5]
          clear k5
          cases B1
          · go_wp2
            go_meet
            exact ⟨by rw [HD.out]; rfl, rfl⟩
          · cases m3 : (e.job == 0)
            · go_wp2
              go_meet
              exact ⟨by rw [HD.out, m3]; rfl, rfl⟩
            · go_wp2_with (go_at_call 70; refine hsi.mono ?_; rintro r w3 ⟨rfl, rfl⟩)
              go_meet
              exact ⟨by rw [HD.out, m3]; rfl, rfl⟩
        have q5 := ne_beq k5
        by_cases k6 : e.kind = 6
        · have HD := Lib.hid (O6.out (.inl k6))
          have qk : (e.kind == 6) = true := by simp [k6]
          clear k6
          cases B1
          · go_wp2
            go_meet
            exact ⟨by rw [HD.out]; rfl, rfl⟩
          · cases m3 : (e.job == 0)
            · go_wp2
              go_meet
              exact ⟨by rw [HD.out, m3]; rfl, rfl⟩
            · go_wp2
              go_meet
              exact ⟨by rw [HD.out, m3]; rfl, rfl⟩
        have q6 := ne_beq k6
        by_cases k7 : e.kind = 7
        · have HD := Lib.hid (O6.out (.inr k7))
          have qk : (e.kind == 7) = true := by simp [k7]
          clear k7
          cases B1
          · go_wp2
            go_meet
            exact ⟨by rw [HD.out]; rfl, rfl⟩
          · cases m3 : (e.job == 0)
            · go_wp2
              go_meet
              exact ⟨by rw [HD.out, m3]; rfl, rfl⟩
            · go_wp2
              go_meet
              exact ⟨by rw [HD.out, m3]; rfl, rfl⟩
        have q7 := ne_beq k7
        have HD := Lib.hid (O7.out k1 k2 k3 k4 k5 k6 k7)
        clear k1 k2 k3 k4 k5 k6 k7
        go_wp2
        go_meet
        exact ⟨by rw [HD.out], rfl⟩
      case rest =>
        obtain ⟨rfl, rfl⟩ := hcut
        clear hri hsi hrd
        cases OK
        · go_wp2
          go_ret
          exact ⟨retBo (by rw [HR.out]; rfl), H1.tail⟩
        · have hsg := signs_ok (w := W.alloc (.cells #[.int .i64 e.job, .int .i64 e.tm, .int .i64 e.nd, .int .i64 e.lm] 3)) (l := [e.job, e.tm, e.nd, e.lm]) (rd_new (cs := intC [e.job, e.tm, e.nd, e.lm]) (b := W.heap.size) rfl rfl (by unfold maxLen; simp))
          have H2 := H1.tail.alloc' (.cells #[.int .i64 e.job, .int .i64 e.tm, .int .i64 e.nd, .int .i64 e.lm] 3)
          go_wp2_with (go_at_call 70; refine hsg.mono ?_; rintro r w3 ⟨rfl, rfl⟩)
          go_ret
          exact ⟨retBo (by rw [HR.out]; rfl), H2⟩
end
end Go.Proofs.YtdekbbffoaphhaaDoor

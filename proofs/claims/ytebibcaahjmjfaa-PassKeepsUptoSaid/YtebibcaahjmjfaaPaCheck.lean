/- The reference's check of a pass's numbers. -/
import Derived.Test.YtebibcaahjmjfaaPaBox
set_option linter.unusedVariables false
set_option linter.unusedSimpArgs false
namespace Go.Proofs.Ytebibcaahjmjfaa
open Go.RowKit Go.Proofs.HL Go.Proofs.HL.Pr Go.Proofs.HL.Pa
def ckN (b : Bool) : Int := match b with | true => 0 | false => 150
theorem retN {b : Bool} (h : b = false) : Ending.returned (.int .i64 150) = .returned (.int .i64 (ckN b)) := by rw [h]; rfl
theorem retO {b : Bool} (h : b = true) : Ending.returned (.int .i64 0) = .returned (.int .i64 (ckN b)) := by rw [h]; rfl
section
variable {w0 w : World} {L : List At} {v u : Value} {ws : List Wn} {l : List Rn}
set_option maxRecDepth 100000 in
set_option maxHeartbeats 8000000 in
theorem Ref.check_ok (H : HL w0 w L) (hW : Wants w0 L v ws) (hr : Runs w0 L u l) (hl : l.length ≤ 8796093022208) (now free holder : Int) :
    Calls Try.prog 31 #[.int .i64 now, .int .i64 free, v, .int .i64 holder, u] w fun e w' => e = .returned (.int .i64 (ckN (mayB now free ws holder l))) ∧ HL w0 w' L := by
  have hright := Ref.right_ok H hr free
  obtain ⟨A, c, rfl, hc1, hc2⟩ := rd_shape (hW w H)
  obtain ⟨B, d, rfl, hd1, hd2⟩ := rd_shape (hr w H)
  unfold maxLen at hc2 hd2
  by_cases h0 : 0 ≤ now ∧ now ≤ 2199023255552
  case neg =>
    have Hf := Lib.hid (show mayB now free ws holder l = false by rw [Bool.eq_false_iff]; intro h; exact h0 ⟨(mayB_iff.1 h).1.1, (mayB_iff.1 h).1.2.1⟩)
    have h1 : now < 0 ∨ (0 ≤ now ∧ 2199023255552 < now) := by omega
    clear h0
    go_enter Try.func31, Try.ntmps31
    rcases h1 with h1 | ⟨h1, h2⟩
    all_goals
      go_wp2
      go_ret
      exact ⟨retN Hf.out, H⟩
  obtain ⟨n0, n1⟩ := h0
  by_cases hrt : rightB free l = true
  case neg =>
    have Hf := Lib.hid (show mayB now free ws holder l = false by
      rw [Bool.eq_false_iff]; intro h
      have h2 := mayB_iff.1 h
      exact hrt (rightB_iff.2 ⟨h2.1.2.2.1, h2.1.2.2.2, fun r hr => ⟨(h2.2.1 r hr).1, (h2.2.1 r hr).2.1⟩⟩))
    rw [show rightB free l = false by simpa using hrt] at hright
    clear hrt
    go_enter Try.func31, Try.ntmps31
    go_wp2_with (go_at_call 36; refine hright.mono ?_; rintro e w1 ⟨rfl, rfl⟩; clear hright)
    go_ret
    exact ⟨retN Hf.out, H⟩
  rw [hrt] at hright
  obtain ⟨f0, f1, f2⟩ := rightB_iff.1 hrt
  have F2 := Lib.hid f2
  clear hrt f2
  go_enter Try.func31, Try.ntmps31
  go_wp2_with (go_at_call 36; refine hright.mono ?_; rintro e w1 ⟨rfl, rfl⟩; clear hright)
  go_loopg [12, 11] l.length (fun g i s wr => ∃ k : Nat, i = .int .i64 k ∧ s = .int .i64 (free + sumN (l.take k)) ∧ k + g = l.length ∧ (∀ r ∈ l.take k, now < r.fin ∧ r.fin ≤ 4398046511104) ∧ HL w0 wr L)
  case atStart => exact ⟨0, rfl, by simp [sumN], by omega, (fun _ h => by simp at h), H⟩
  case round =>
    obtain ⟨k, rfl, rfl, hk, hok, HK⟩ := hrel
    clear H
    have Hok := Lib.hid hok; clear hok
    by_cases hlt : k < l.length
    · obtain ⟨y, hy⟩ : ∃ y, l[k]? = some y := ⟨_, List.getElem?_eq_getElem hlt⟩
      obtain ⟨b, o, c', hv, d0, d1⟩ := run_at (hr wr HK) hy
      simp only [Value.slice.injEq] at hv
      obtain ⟨rfl, -, rfl⟩ := hv
      have hyb := F2.out y (List.mem_of_getElem? hy)
      have Hy := Lib.hid hy; clear hy
      by_cases h4 : y.fin ≤ now
      · have Hf : Hid (mayB now free ws holder l = false) := Lib.hid (by
          rw [Bool.eq_false_iff]; intro h; have := (mayB_iff.1 h).2.1 y (List.mem_of_getElem? Hy.out); unfold sumAll at this; omega)
        go_wp2
        go_ret
        exact ⟨retN Hf.out, HK⟩
      by_cases h5 : 4398046511104 < y.fin
      · have Hf : Hid (mayB now free ws holder l = false) := Lib.hid (by
          rw [Bool.eq_false_iff]; intro h; have := (mayB_iff.1 h).2.1 y (List.mem_of_getElem? Hy.out); unfold sumAll at this; omega)
        go_wp2
        go_ret
        exact ⟨retN Hf.out, HK⟩
      have hsb := sumN_bd (l := l.take k) (fun r h => F2.out r (List.mem_of_mem_take h))
      have hlk : (l.take k).length ≤ 8796093022208 := by rw [List.length_take]; omega
      generalize hq : sumN (l.take k) = q at *
      have hwr : IntKind.i64.wrap (free + q + y.nodes) = free + q + y.nodes := IntWalk.i64_in _ (by omega)
      have Hq := Lib.hid hq
      clear hq hsb hlk
      go_wp2
      go_roundg (gk - 1)
      case measure => omega
      case rel =>
        refine ⟨k + 1, by go_num, ?_, by omega, ?_, HK⟩
        · rw [take_succ_at Hy.out, sumN_append, Hq.out]; simp only [sumN]; congr 1; omega
        · rw [take_succ_at Hy.out]
          intro r hr'
          rcases List.mem_append.1 hr' with h | h
          · exact Hok.out r h
          · obtain rfl : r = y := by simpa using h
            omega
    · obtain rfl : k = l.length := by omega
      rw [List.take_length] at *
      have hb0 : (holder == -1) = decide (holder = -1) := by rw [Bool.eq_iff_iff]; simp
      go_wp2
      go_loopg [14, 13] ws.length (fun g i s wr => ∃ (k : Nat) (q : Bool), i = .int .i64 k ∧ s = .bool q ∧ (q = true ↔ holder = -1 ∨ holder ∈ (ws.take k).map (·.job)) ∧ k + g = ws.length ∧ (∀ x ∈ ws.take k, 0 ≤ x.job ∧ 1 ≤ x.nodes ∧ x.nodes ≤ 256 ∧ x.nodes ≤ sumAll free l ∧ 1 ≤ x.limit ∧ x.limit ≤ 1048576) ∧ ((ws.take k).map (·.job)).Nodup ∧ HL w0 wr L)
      case atStart => exact ⟨0, _, rfl, rfl, by simp, by omega, (fun _ h => by simp at h), by simp, HK⟩
      case round =>
        obtain ⟨k, q, rfl, rfl, hq, hk2, hokW, hnd, HM⟩ := hrel
        clear HK
        have HokW := Lib.hid hokW; have Hnd := Lib.hid hnd; have Hq := Lib.hid hq; clear hokW hnd hq hb0
        by_cases hlt : k < ws.length
        · obtain ⟨x, hx⟩ : ∃ x, ws[k]? = some x := ⟨_, List.getElem?_eq_getElem hlt⟩
          obtain ⟨b, o, c', hv, d0, d1, d2⟩ := wn_at (hW wr HM) hx
          simp only [Value.slice.injEq] at hv
          obtain ⟨rfl, -, rfl⟩ := hv
          have Hx := Lib.hid hx; clear hx
          have HB := HL.allocW HM x
          obtain ⟨x0, x1, x2⟩ := boxW_cells HB
          by_cases h2 : x.job < 0
          · have Hf : Hid (mayB now free ws holder l = false) := Lib.hid (by
              rw [Bool.eq_false_iff]; intro h; have := (mayB_iff.1 h).2.2.1 x (List.mem_of_getElem? Hx.out); unfold sumAll at this; omega)
            go_wp2
            go_ret
            exact ⟨retN Hf.out, HB.tail⟩
          by_cases h3 : x.nodes < 1
          · have Hf : Hid (mayB now free ws holder l = false) := Lib.hid (by
              rw [Bool.eq_false_iff]; intro h; have := (mayB_iff.1 h).2.2.1 x (List.mem_of_getElem? Hx.out); unfold sumAll at this; omega)
            go_wp2
            go_ret
            exact ⟨retN Hf.out, HB.tail⟩
          by_cases h4 : 256 < x.nodes
          · have Hf : Hid (mayB now free ws holder l = false) := Lib.hid (by
              rw [Bool.eq_false_iff]; intro h; have := (mayB_iff.1 h).2.2.1 x (List.mem_of_getElem? Hx.out); unfold sumAll at this; omega)
            go_wp2
            go_ret
            exact ⟨retN Hf.out, HB.tail⟩
          by_cases h5 : free + sumN l < x.nodes
          · have Hf : Hid (mayB now free ws holder l = false) := Lib.hid (by
              rw [Bool.eq_false_iff]; intro h; have := (mayB_iff.1 h).2.2.1 x (List.mem_of_getElem? Hx.out); unfold sumAll at this; omega)
            go_wp2
            go_ret
            exact ⟨retN Hf.out, HB.tail⟩
          by_cases h6 : x.limit < 1
          · have Hf : Hid (mayB now free ws holder l = false) := Lib.hid (by
              rw [Bool.eq_false_iff]; intro h; have := (mayB_iff.1 h).2.2.1 x (List.mem_of_getElem? Hx.out); unfold sumAll at this; omega)
            go_wp2
            go_ret
            exact ⟨retN Hf.out, HB.tail⟩
          by_cases h7 : 1048576 < x.limit
          · have Hf : Hid (mayB now free ws holder l = false) := Lib.hid (by
              rw [Bool.eq_false_iff]; intro h; have := (mayB_iff.1 h).2.2.1 x (List.mem_of_getElem? Hx.out); unfold sumAll at this; omega)
            go_wp2
            go_ret
            exact ⟨retN Hf.out, HB.tail⟩
          have okx : 0 ≤ x.job ∧ 1 ≤ x.nodes ∧ x.nodes ≤ 256 ∧ x.nodes ≤ sumAll free l ∧ 1 ≤ x.limit ∧ x.limit ≤ 1048576 := by unfold sumAll; omega
          have Hokx := Lib.hid okx; clear okx
          go_wp2
          clear x0 x1 x2 d0 d1 d2 HM
          obtain ⟨gO, hgO⟩ : ∃ n : Nat, n = gk := ⟨_, rfl⟩
          generalize World.alloc wr _ = W4 at *
          generalize wr.heap.size = b15 at *
          go_loopg [16] k (fun g i wr => ∃ j : Nat, i = .int .i64 j ∧ j + g = k ∧ (∀ i y, i < j → ws[i]? = some y → y.job ≠ x.job) ∧ HL w0 wr (boxW b15 x :: L))
          case atStart => exact ⟨0, rfl, by omega, (fun _ _ h => by omega), HB⟩
          case round =>
            obtain ⟨j, rfl, hj, hno, HI⟩ := hrel
            have Hno := Lib.hid hno
            clear hno HB
            obtain ⟨x0, x1, x2⟩ := boxW_cells HI
            by_cases hlj : j < k
            · obtain ⟨y, hy⟩ : ∃ y, ws[j]? = some y := ⟨_, List.getElem?_eq_getElem (by omega)⟩
              obtain ⟨b', o', c'', hv, d0, d1, d2⟩ := wn_at (hW wr HI.tail) hy
              simp only [Value.slice.injEq, Option.some.injEq, Addr.mk.injEq] at hv
              obtain ⟨⟨rfl, rfl, -⟩, -, -⟩ := hv
              have Hy := Lib.hid hy; clear hy
              have hjl : j < ws.length := by omega
              by_cases hxy : y.job = x.job
              · have Hf := Lib.hid (show mayB now free ws holder l = false by
                  rw [Bool.eq_false_iff]; intro h
                  refine dup_no Hx.out ?_ (mayB_iff.1 h).2.2.2.1
                  rw [← hxy]
                  refine List.mem_map_of_mem ?_
                  rw [List.mem_take_iff_getElem]
                  obtain ⟨hj2, e⟩ := List.getElem?_eq_some_iff.1 Hy.out
                  exact ⟨j, by omega, e⟩)
                have z1 : (y.job == x.job) = true := by simp [hxy]
                have z2 : decide (y.job = x.job) = true := decide_eq_true hxy
                clear hxy
                go_wp2
                refine wp_region_cut 8 (by kernel_rfl) (by kernel_rfl) ?_
                simp only [List.take_succ_cons, List.take_zero, List.drop_succ_cons, List.drop_zero]
                repeat (go_big_quiet_step ((fail)))
                refine wpQuiet_nil ?_
                intro nq
                go_wp2
                go_ret
                exact ⟨retN Hf.out, (HI.drewN nq).tail⟩
              · have z1 : (y.job == x.job) = false := by simp [hxy]
                have z2 : decide (y.job = x.job) = false := decide_eq_false hxy
                have Hxy := Lib.hid hxy
                clear hxy
                go_wp2
                refine wp_region_cut 8 (by kernel_rfl) (by kernel_rfl) ?_
                simp only [List.take_succ_cons, List.take_zero, List.drop_succ_cons, List.drop_zero]
                repeat (go_big_quiet_step ((fail)))
                refine wpQuiet_nil ?_
                intro nq
                go_wp2
                go_roundg (gk - 1)
                case measure => omega
                case rel =>
                  refine ⟨j + 1, by go_num, by omega, fun i z hi hz => ?_, HI.drewN nq⟩
                  rcases Nat.lt_or_ge i j with h | h
                  · exact Hno.out i z h hz
                  · obtain rfl : i = j := by omega
                    rw [Hy.out] at hz
                    obtain rfl := Option.some.inj hz
                    exact Hxy.out
            · have hnin : x.job ∉ (ws.take k).map (·.job) := fun h => by
                obtain ⟨y, hy, e⟩ := List.mem_map.1 h
                rw [List.mem_take_iff_getElem] at hy
                obtain ⟨i, hi, rfl⟩ := hy
                exact Hno.out i _ (by omega) (List.getElem?_eq_getElem (by omega)) e
              have Hnin := Lib.hid hnin; clear hnin
              have hfin : ∀ q' : Bool, (q' = true ↔ q = true ∨ x.job = holder) → (q' = true ↔ holder = -1 ∨ holder ∈ (ws.take (k + 1)).map (·.job)) := fun q' hq' => by
                rw [hq', Hq.out, take_succ_at Hx.out, List.map_append, List.mem_append]
                simp only [List.map_cons, List.map_nil, List.mem_singleton]
                constructor
                · rintro ((h | h) | h)
                  · exact .inl h
                  · exact .inr (.inl h)
                  · exact .inr (.inr h.symm)
                · rintro (h | h | h)
                  · exact .inl (.inl h)
                  · exact .inl (.inr h)
                  · exact .inr h.symm
              have hrest : ∀ (W : World) (q' : Bool), (q' = true ↔ q = true ∨ x.job = holder) → HL w0 W (boxW b15 x :: L) → ∃ (k' : Nat) (q'' : Bool), Value.int .i64 ((k : Int) + 1) = .int .i64 k' ∧ Value.bool q' = .bool q'' ∧ (q'' = true ↔ holder = -1 ∨ holder ∈ (ws.take k').map (·.job)) ∧ k' + (gO - 1) = ws.length ∧ (∀ x ∈ ws.take k', 0 ≤ x.job ∧ 1 ≤ x.nodes ∧ x.nodes ≤ 256 ∧ x.nodes ≤ sumAll free l ∧ 1 ≤ x.limit ∧ x.limit ≤ 1048576) ∧ ((ws.take k').map (·.job)).Nodup ∧ HL w0 W L := fun W q' hq' HH => by
                refine ⟨k + 1, q', by push_cast; rfl, rfl, hfin q' hq', by omega, ?_, ?_, HH.tail⟩
                · rw [take_succ_at Hx.out]
                  intro r hr'
                  rcases List.mem_append.1 hr' with h | h
                  · exact HokW.out r h
                  · obtain rfl : r = x := by simpa using h
                    exact Hokx.out
                · rw [take_succ_at Hx.out, List.map_append, List.nodup_append]
                  refine ⟨Hnd.out, by simp, fun a ha b' hb e => ?_⟩
                  obtain rfl : b' = x.job := by simpa using hb
                  exact Hnin.out (e ▸ ha)
              have Hrest := Lib.hid hrest
              clear hfin hrest
              cases q with
              | true =>
                go_wp2
                go_roundg (gO - 1)
                case measure => omega
                case rel => exact Hrest.out _ _ (by simp) HI
              | false =>
                by_cases hxh : x.job = holder
                · have z1 : (x.job == holder) = true := by simp [hxh]
                  have z2 : decide (x.job = holder) = true := decide_eq_true hxh
                  have Hxh := Lib.hid hxh; clear hxh
                  go_wp2
                  go_roundg (gO - 1)
                  case measure => omega
                  case rel => exact Hrest.out _ true (by simp [Hxh.out]) HI
                · have z1 : (x.job == holder) = false := by simp [hxh]
                  have z2 : decide (x.job = holder) = false := decide_eq_false hxh
                  have Hxh := Lib.hid hxh; clear hxh
                  go_wp2
                  go_roundg (gO - 1)
                  case measure => omega
                  case rel => exact Hrest.out _ false (by simp [Hxh.out]) HI
        · obtain rfl : k = ws.length := by omega
          rw [List.take_length] at *
          cases q with
          | true =>
            have Hf := Lib.hid (mayB_iff.2 ⟨⟨n0, n1, f0, f1⟩, (fun r hr => ⟨(F2.out r hr).1, (F2.out r hr).2, (Hok.out r hr).1, (Hok.out r hr).2⟩), HokW.out, Hnd.out, Hq.out.1 rfl⟩)
            go_wp2
            go_ret
            exact ⟨retO Hf.out, HM⟩
          | false =>
            have Hf := Lib.hid (show mayB now free ws holder l = false by
              rw [Bool.eq_false_iff]; intro h
              have := Hq.out.2 (mayB_iff.1 h).2.2.2.2
              cases this)
            go_wp2
            go_ret
            exact ⟨retN Hf.out, HM⟩
end
end Go.Proofs.Ytebibcaahjmjfaa

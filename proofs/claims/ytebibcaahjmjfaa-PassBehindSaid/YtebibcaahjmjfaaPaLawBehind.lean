/- Who comes last changes nothing ahead. -/
import Derived.Test.YtebibcaahjmjfaaPaBox
import Derived.Test.YtebibcaahjmjfaaPaPlainB
set_option linter.unusedVariables false
set_option linter.unusedSimpArgs false
namespace Go.Proofs.Ytebibcaahjmjfaa
open Go.RowKit Go.Proofs.HL Go.Proofs.HL.Pr Go.Proofs.HL.Pa
set_option maxRecDepth 100000 in
set_option maxHeartbeats 16000000 in
theorem behind_law {w : World} {vw vr : Value} {ws : List Wn} {l : List Rn} (now free holder : Int) (x : Wn) (hv : Rd 3 vw ws.length (ws.flatMap encW) w) (hr : Rd 2 vr l.length (l.flatMap encR) w)
    (hws : ws.length * 24 ≤ 140737488351232) (hl : l.length * 16 ≤ 140737488351232) :
    Calls Try.prog 10 #[.agg #[.int .i64 now, .int .i64 free, vw, .int .i64 holder, vr], wnV x] w fun e w' => e = .returned (.bool true) ∧ Below w.heap.size w w' := by
  have hW : ∀ L, Wants w L vw ws := fun L W H => rd_old H hv
  have hR : ∀ L, Runs w L vr l := fun L W H => rd_old H hr
  have hl2 : l.length ≤ 8796093021952 := by omega
  obtain ⟨A, c, rfl, hc1, hc2⟩ := rd_shape hv
  obtain ⟨B, d, rfl, hd1, hd2⟩ := rd_shape hr
  unfold maxLen at hc2 hd2
  have H0 := HL.allocW (HL.allocA (HL.start w) now free (.slice A ws.length c) holder (.slice B l.length d)) x
  rw [World.size_alloc] at H0
  unfold wnV
  generalize hbA : w.heap.size = bA at H0
  cases hm : mayB now free ws holder l with
  | false =>
    have hP := fun W (H : HL w W [boxW (bA + 1) x, boxA bA now free (.slice A ws.length c) holder (.slice B l.length d)]) => pass_no H (hW _) (hR _) hl2 now free holder hm
    simp only [planV] at hP
    subst hbA
    go_enter Try.func10, Try.ntmps10
    go_wp2_with (first
      | (go_at_call 23; refine (shown15_ok H0).mono ?_; rintro e w1 ⟨rfl, H1⟩; clear H0; obtain ⟨a0, a1, a2, a3, a4⟩ := boxA_cells (H1.sel 2 [1]))
      | (go_at_call 28; refine (hP _ H1).mono ?_; rintro e w2 ⟨rfl, H2⟩; clear H1 a0 a1 a2 a3 a4))
    go_ret
    exact ⟨rfl, (HL.allocP H2 (.slice none 0 0) 0 0 0).below⟩
  | true =>
    have hP := fun W (H : HL w W [boxW (bA + 1) x, boxA bA now free (.slice A ws.length c) holder (.slice B l.length d)]) => pass_ok H (hW _) (hR _) hl2 now free holder hm
    simp only [planV] at hP
    subst hbA
    go_enter Try.func10, Try.ntmps10
    go_wp2_with (first
      | (go_at_call 23; refine (shown15_ok H0).mono ?_; rintro e w1 ⟨rfl, H1⟩; clear H0; obtain ⟨a0, a1, a2, a3, a4⟩ := boxA_cells (H1.sel 2 [1]))
      | (go_at_call 28; refine (hP _ H1).mono ?_; rintro e w2 ⟨u2, rfl, H2⟩; clear H1 a0 a1 a2 a3 a4 hP; obtain ⟨A2, c2, e2, -, -, -⟩ := row_shape (show w2.ownsRow w.heap.size 3 1 u2 _ _ from H2.head); generalize hn2 : (passD now free ws holder l).starts.length = n2 at e2; subst e2;
          have H3 := HL.allocP H2 (.slice A2 n2 c2) (passC now free ws holder l).holder (passC now free ws holder l).shadow (passC now free ws holder l).extra;
          have H4 := emptyRuns H3;
          obtain ⟨a0, a1, a2, a3, a4⟩ := boxA_cells (H4.sel 5 [4])))
    rw [World.size_alloc] at H4
    clear H2 H3 a0 a1 a2 a3
    have hS2 : ∀ m : List Rn, l.Perm m → Like (passC now free ws holder l) (passC now free ws holder m) ∧ Like (passD now free ws holder l) (passD now free ws holder m) ∧ mayB now free ws holder m = true := fun m h => ⟨passC_perm h now free holder ws, passD_perm h now free holder ws, (mayB_perm h).symm.trans hm⟩
    have hM := fun (hx : mayB now free (ws ++ [x]) holder l = true) (h3 : 0 ≤ (passC now free ws holder l).holder) => And.intro (passC_more hm hx h3) (passD_more hm hx h3)
    generalize hC1 : passC now free ws holder l = C1 at *
    generalize hD1 : passD now free ws holder l = D1 at *
    have HS2 := Lib.hid hS2; have HM := Lib.hid hM
    clear hS2 hM hC1 hD1
    generalize hB5 : w2.heap.size = b5 at *
    go_loopg [7, 8] l.length (fun g u i wr => ∃ j : Nat, i = .int .i64 ((l.length : Int) - 1 - j) ∧ j + g = l.length ∧ HL w wr [runsAt w.heap.size u (l.reverse.take j), boxP b5 (.slice A2 n2 c2) C1.holder C1.shadow C1.extra, intsR w.heap.size (.slice A2 n2 c2) D1.starts, boxW (w.heap.size + 1) x, boxA w.heap.size now free (.slice A ws.length c) holder (.slice B l.length d)])
    case atStart => exact ⟨0, by go_num, by omega, H4⟩
    case round =>
      obtain ⟨j, rfl, hj, HK⟩ := hrel
      clear H4 a4
      by_cases hlt : j < l.length
      · obtain ⟨q, hq⟩ : ∃ q, l.length = q + j + 1 := ⟨l.length - 1 - j, by omega⟩
        obtain ⟨y, hy⟩ : ∃ y, l[q]? = some y := ⟨_, List.getElem?_eq_getElem (by omega)⟩
        obtain ⟨b, o, c', hv', d0, d1⟩ := run_at (hR _ wr HK) hy
        simp only [Value.slice.injEq] at hv'
        obtain ⟨rfl, -, rfl⟩ := hv'
        have hsub : ((l.length : Int) - 1 - j) = q := by omega
        have htk : l.reverse.take (j + 1) = l.reverse.take j ++ [y] := by
          rw [List.take_add_one, List.getElem?_reverse (by omega), show l.length - 1 - j = q by omega, hy]; rfl
        have hb : (l.reverse.take j).length + [y].length ≤ 8796093022208 := by simp only [List.length_cons, List.length_nil, List.length_take, List.length_reverse]; omega
        have hql : q < l.length := by omega
        obtain ⟨-, -, -, -, a4⟩ := boxA_cells (HK.sel 5 [4])
        have HA := HK.alloc' (.cells #[.int .i64 y.nodes, .int .i64 y.fin] 42)
        have hr2 := rd_run (w := wr) (x := y)
        have Htk := Lib.hid htk; have Hq := Lib.hid hq
        rw [hsub]
        clear hy htk hq HK hsub
        go_wp2_with (at_builtin; refine append_runs (v := u7) (xv := .slice (some ⟨wr.heap.size, 0, none⟩) 1 1) (xs := l.reverse.take j) (ys := [y]) rfl _ _ rfl HA rfl rfl hr2 hb ?_; intro z w5 H5; clear HA hr2)
        go_roundg (gk - 1)
        case measure => omega
        case rel => exact ⟨j + 1, by have := Hq.out; congr 1; omega, by omega, by rw [Htk.out]; exact H5⟩
      · have hjn : l.reverse.take j = l.reverse := List.take_of_length_le (by rw [List.length_reverse]; omega)
        rw [hjn] at HK
        have hsub : ((l.length : Int) - 1 - j) = -1 := by omega
        rw [hsub]
        clear hjn hsub
        obtain ⟨B7, d7, rfl, -, -, -⟩ := row_shape HK.head
        rw [List.length_reverse] at HK ⊢
        obtain ⟨lc, ld, m2⟩ := HS2.out l.reverse (List.reverse_perm l).symm
        have hP2 := pass_ok HK (hW _) (entRuns _) (by rw [List.length_reverse]; exact hl2) now free holder m2
        simp only [planV] at hP2
        rw [← lc.holder, ← lc.shadow, ← lc.extra, ← ld.starts] at hP2
        have hwl : ws.length + [x].length ≤ 5864062014805 := by simp only [List.length_cons, List.length_nil]; omega
        have hw0 : ([] : List Wn).length + ws.length ≤ 5864062014805 := by simp only [List.length_nil]; omega
        obtain ⟨a0, a1, a2, a3, -⟩ := boxA_cells (HK.sel 5 [4])
        clear lc ld m2 hlt
        cases hm3 : mayB now free (ws ++ [x]) holder l with
        | false =>
          have hP3 := fun W K v (H : HL w W (wantsAt w.heap.size v (ws ++ [x]) :: K)) => pass_no H (entWants _) (hR _) hl2 now free holder hm3
          simp only [planV] at hP3
          clear hm3
          go_wp2_with (first
            | (go_at_call 28; (with_reducible refine hP2.mono ?_); rintro e w6 ⟨u6, rfl, H6⟩; clear hP2 HK a0 a1 a2 a3; obtain ⟨A6, c6, e6, -, -, -⟩ := row_shape (show w6.ownsRow w.heap.size 3 1 u6 _ _ from H6.head); generalize hn6 : D1.starts.length = n6 at e6; subst e6; have H7 := HL.allocP H6 (.slice A6 n6 c6) C1.holder C1.shadow C1.extra; obtain ⟨q0, q1, q2, q3⟩ := boxP_cells H7; obtain ⟨p0, p1, p2, p3⟩ := boxP_cells (H7.sel 4 [3]))
            | (go_at_call 26; have hs := same15_ok (a := D1.starts) (b := D1.starts) (u := .slice A2 n2 c2) (v := .slice A6 n6 c6) (h1 := C1.holder) (s1 := C1.shadow) (e1 := C1.extra) (h2 := C1.holder) (s2 := C1.shadow) (e2 := C1.extra) H7 (show Ints w _ (.slice A2 n2 c2) D1.starts from fun W H => rdInts (H.sel 5 [4])) (show Ints w _ (.slice A6 n6 c6) D1.starts from fun W H => rdInts H.tail); rw [decide_eq_true ⟨rfl, rfl, rfl, rfl⟩] at hs; (with_reducible refine hs.mono ?_); clear hs; rintro e w8 ⟨rfl, H8⟩; generalize w6.heap.size = b9 at H8; clear H7 q0 q1 q2 q3 p0 p1 p2 p3; have H9 := emptyWants H8; obtain ⟨-, -, a2, -, -⟩ := boxA_cells (H9.sel 8 [7]); have hr9 := hW _ _ (H8.alloc' (.cells #[] 60)))
            | (at_builtin; refine append_wants (v := .slice (some ⟨w8.heap.size, 0, none⟩) 0 0) (xv := .slice A ws.length c) (xs := []) (ys := ws) rfl _ _ rfl H9 rfl rfl hr9 hw0 ?_; intro z10 w10 H10; clear H9 hr9 a2; rw [List.nil_append] at H10; obtain ⟨x0, x1, x2⟩ := boxW_cells (H10.sel 7 [6]); have HA := H10.alloc' (.cells #[.int .i64 x.job, .int .i64 x.nodes, .int .i64 x.limit] 60); have hrx := rd_wn (w := w10) (x := x))
            | (at_builtin; refine append_wants (v := z10) (xv := .slice (some ⟨w10.heap.size, 0, none⟩) 1 1) (xs := ws) (ys := [x]) rfl _ _ rfl HA rfl rfl hrx hwl ?_; intro z11 w11 H11; clear H10 HA hrx x0 x1 x2; obtain ⟨a0, a1, -, a3, a4⟩ := boxA_cells (H11.sel 8 [7]))
            | (go_at_call 28; refine (hP3 _ _ _ H11).mono ?_; rintro e w12 ⟨rfl, H12⟩; clear hP3 H11 a0 a1 a3 a4; have H13 := H12.sel 8 [1, 2, 3, 4, 5, 6, 7]; obtain ⟨q0, q1, q2, q3⟩ := boxP_cells H13; obtain ⟨y0, y1, y2, y3⟩ := boxP_frozen H13; have H14 := boxP_set (u' := .slice none 0 0) (h' := 0) (s' := 0) (e' := 0) H13))
          go_ret
          exact ⟨rfl, H14.below⟩
        | true =>
          have hP3 := fun W K v (H : HL w W (wantsAt w.heap.size v (ws ++ [x]) :: K)) => pass_ok H (entWants _) (hR _) hl2 now free holder hm3
          simp only [planV] at hP3
          by_cases h3 : C1.holder < 0
          · clear hm3 HM
            generalize passC now free (ws ++ [x]) holder l = C2 at *
            generalize passD now free (ws ++ [x]) holder l = D2 at *
            go_wp2_with (first
              | (go_at_call 28; (with_reducible refine hP2.mono ?_); rintro e w6 ⟨u6, rfl, H6⟩; clear hP2 HK a0 a1 a2 a3; obtain ⟨A6, c6, e6, -, -, -⟩ := row_shape (show w6.ownsRow w.heap.size 3 1 u6 _ _ from H6.head); generalize hn6 : D1.starts.length = n6 at e6; subst e6; have H7 := HL.allocP H6 (.slice A6 n6 c6) C1.holder C1.shadow C1.extra; obtain ⟨q0, q1, q2, q3⟩ := boxP_cells H7; obtain ⟨p0, p1, p2, p3⟩ := boxP_cells (H7.sel 4 [3]))
              | (go_at_call 26; have hs := same15_ok (a := D1.starts) (b := D1.starts) (u := .slice A2 n2 c2) (v := .slice A6 n6 c6) (h1 := C1.holder) (s1 := C1.shadow) (e1 := C1.extra) (h2 := C1.holder) (s2 := C1.shadow) (e2 := C1.extra) H7 (show Ints w _ (.slice A2 n2 c2) D1.starts from fun W H => rdInts (H.sel 5 [4])) (show Ints w _ (.slice A6 n6 c6) D1.starts from fun W H => rdInts H.tail); rw [decide_eq_true ⟨rfl, rfl, rfl, rfl⟩] at hs; (with_reducible refine hs.mono ?_); clear hs; rintro e w8 ⟨rfl, H8⟩; generalize w6.heap.size = b9 at H8; clear H7 q0 q1 q2 q3 p0 p1 p2 p3; have H9 := emptyWants H8; obtain ⟨-, -, a2, -, -⟩ := boxA_cells (H9.sel 8 [7]); have hr9 := hW _ _ (H8.alloc' (.cells #[] 60)))
              | (at_builtin; refine append_wants (v := .slice (some ⟨w8.heap.size, 0, none⟩) 0 0) (xv := .slice A ws.length c) (xs := []) (ys := ws) rfl _ _ rfl H9 rfl rfl hr9 hw0 ?_; intro z10 w10 H10; clear H9 hr9 a2; rw [List.nil_append] at H10; obtain ⟨x0, x1, x2⟩ := boxW_cells (H10.sel 7 [6]); have HA := H10.alloc' (.cells #[.int .i64 x.job, .int .i64 x.nodes, .int .i64 x.limit] 60); have hrx := rd_wn (w := w10) (x := x))
              | (at_builtin; refine append_wants (v := z10) (xv := .slice (some ⟨w10.heap.size, 0, none⟩) 1 1) (xs := ws) (ys := [x]) rfl _ _ rfl HA rfl rfl hrx hwl ?_; intro z11 w11 H11; clear H10 HA hrx x0 x1 x2; obtain ⟨a0, a1, -, a3, a4⟩ := boxA_cells (H11.sel 8 [7]))
              | (go_at_call 28; refine (hP3 _ _ _ H11).mono ?_; rintro e w12 ⟨u12, rfl, H12⟩; clear hP3 H11 a0 a1 a3 a4; obtain ⟨A12, c12, e12, -, hn12, hc12⟩ := row_shape (show w12.ownsRow w.heap.size 3 1 u12 _ _ from H12.head); generalize D2.starts.length = n12 at e12 hn12; subst e12; have H13 := H12.sel 9 [2, 3, 4, 5, 6, 7, 8, 0, 1]; obtain ⟨q0, q1, q2, q3⟩ := boxP_cells H13; obtain ⟨y0, y1, y2, y3⟩ := boxP_frozen H13; have H14 := boxP_set (u' := .slice A12 n12 c12) (h' := C2.holder) (s' := C2.shadow) (e' := C2.extra) H13; obtain ⟨s0, s1, s2, s3⟩ := boxP_cells H14; obtain ⟨t0, t1, t2, t3⟩ := boxP_cells (H14.sel 4 [3])))
            go_ret
            exact ⟨rfl, H14.below⟩
          · obtain ⟨e1, e2⟩ := HM.out hm3 (by omega)
            rw [e1] at hP3
            clear hm3 e1
            rcases e2 with e2 | e2
            · rw [e2] at hP3
              go_wp2_with (first
                | (go_at_call 28; (with_reducible refine hP2.mono ?_); rintro e w6 ⟨u6, rfl, H6⟩; clear hP2 HK a0 a1 a2 a3; obtain ⟨A6, c6, e6, -, -, -⟩ := row_shape (show w6.ownsRow w.heap.size 3 1 u6 _ _ from H6.head); generalize hn6 : D1.starts.length = n6 at e6; subst e6; have H7 := HL.allocP H6 (.slice A6 n6 c6) C1.holder C1.shadow C1.extra; obtain ⟨q0, q1, q2, q3⟩ := boxP_cells H7; obtain ⟨p0, p1, p2, p3⟩ := boxP_cells (H7.sel 4 [3]))
                | (go_at_call 26; have hs := same15_ok (a := D1.starts) (b := D1.starts) (u := .slice A2 n2 c2) (v := .slice A6 n6 c6) (h1 := C1.holder) (s1 := C1.shadow) (e1 := C1.extra) (h2 := C1.holder) (s2 := C1.shadow) (e2 := C1.extra) H7 (show Ints w _ (.slice A2 n2 c2) D1.starts from fun W H => rdInts (H.sel 5 [4])) (show Ints w _ (.slice A6 n6 c6) D1.starts from fun W H => rdInts H.tail); rw [decide_eq_true ⟨rfl, rfl, rfl, rfl⟩] at hs; (with_reducible refine hs.mono ?_); clear hs; rintro e w8 ⟨rfl, H8⟩; generalize w6.heap.size = b9 at H8; clear H7 q0 q1 q2 q3 p0 p1 p2 p3; have H9 := emptyWants H8; obtain ⟨-, -, a2, -, -⟩ := boxA_cells (H9.sel 8 [7]); have hr9 := hW _ _ (H8.alloc' (.cells #[] 60)))
                | (at_builtin; refine append_wants (v := .slice (some ⟨w8.heap.size, 0, none⟩) 0 0) (xv := .slice A ws.length c) (xs := []) (ys := ws) rfl _ _ rfl H9 rfl rfl hr9 hw0 ?_; intro z10 w10 H10; clear H9 hr9 a2; rw [List.nil_append] at H10; obtain ⟨x0, x1, x2⟩ := boxW_cells (H10.sel 7 [6]); have HA := H10.alloc' (.cells #[.int .i64 x.job, .int .i64 x.nodes, .int .i64 x.limit] 60); have hrx := rd_wn (w := w10) (x := x))
                | (at_builtin; refine append_wants (v := z10) (xv := .slice (some ⟨w10.heap.size, 0, none⟩) 1 1) (xs := ws) (ys := [x]) rfl _ _ rfl HA rfl rfl hrx hwl ?_; intro z11 w11 H11; clear H10 HA hrx x0 x1 x2; obtain ⟨a0, a1, -, a3, a4⟩ := boxA_cells (H11.sel 8 [7]))
                | (go_at_call 28; refine (hP3 _ _ _ H11).mono ?_; rintro e w12 ⟨u12, rfl, H12⟩; clear hP3 H11 a0 a1 a3 a4; obtain ⟨A12, c12, e12, -, hn12, hc12⟩ := row_shape (show w12.ownsRow w.heap.size 3 1 u12 _ _ from H12.head); rw [hn2] at e12 hn12; subst e12; have H13 := H12.sel 9 [2, 3, 4, 5, 6, 7, 8, 0, 1]; obtain ⟨q0, q1, q2, q3⟩ := boxP_cells H13; obtain ⟨y0, y1, y2, y3⟩ := boxP_frozen H13; have H14 := boxP_set (u' := .slice A12 (n2) c12) (h' := C1.holder) (s' := C1.shadow) (e' := C1.extra) H13; obtain ⟨s0, s1, s2, s3⟩ := boxP_cells H14; obtain ⟨t0, t1, t2, t3⟩ := boxP_cells (H14.sel 4 [3])))
              generalize World.setCell _ _ _ = W9 at *
              clear H13 q0 q1 q2 q3 y0 y1 y2 y3
              refine wp_region_cut 33 (by kernel_rfl) (by kernel_rfl) ?_
              simp only [List.take_succ_cons, List.take_zero, List.drop_succ_cons, List.drop_zero]
              repeat (go_big_quiet_step ((fail)))
              refine wpQuiet_nil ?_
              intro nq
              have HN := H14.drewN nq
              have hs := sameInts15_ok (a := D1.starts) (b := D1.starts) (u := .slice A12 n2 c12) (v := .slice A2 n2 c2) HN (show Ints w _ (.slice A12 n2 c12) D1.starts from fun W H => rdInts (H.sel 8 [7])) (show Ints w _ (.slice A2 n2 c2) D1.starts from fun W H => rdInts (H.sel 5 [4]))
              rw [decide_eq_true rfl] at hs
              clear s0 s1 s2 s3 t0 t1 t2 t3
              go_wp2_with (go_at_call 27; (with_reducible refine hs.mono ?_); clear hs; rintro e w15 ⟨rfl, H15⟩; obtain ⟨s0, s1, s2, s3⟩ := boxP_cells H15; obtain ⟨x0, -, -⟩ := boxW_cells (H15.sel 6 [5]))
              refine wp_region_cut 23 (by kernel_rfl) (by kernel_rfl) ?_
              simp only [List.take_succ_cons, List.take_zero, List.drop_succ_cons, List.drop_zero]
              repeat (go_big_quiet_step ((fail)))
              refine wpQuiet_nil ?_
              intro nr
              go_wp2
              go_ret
              exact ⟨rfl, (H15.drewN nr).below⟩
            · rw [e2] at hP3
              have z1 : decide ((n2 : Int) + 1 < n2) = false := decide_eq_false (by omega)
              have z2 : ((n2 : Int) + 1 == n2) = false := by rw [beq_eq_false_iff_ne]; omega
              have z3 : decide ((n2 : Int) + 1 = n2) = false := decide_eq_false (by omega)
              go_wp2_with (first
                | (go_at_call 28; (with_reducible refine hP2.mono ?_); rintro e w6 ⟨u6, rfl, H6⟩; clear hP2 HK a0 a1 a2 a3; obtain ⟨A6, c6, e6, -, -, -⟩ := row_shape (show w6.ownsRow w.heap.size 3 1 u6 _ _ from H6.head); generalize hn6 : D1.starts.length = n6 at e6; subst e6; have H7 := HL.allocP H6 (.slice A6 n6 c6) C1.holder C1.shadow C1.extra; obtain ⟨q0, q1, q2, q3⟩ := boxP_cells H7; obtain ⟨p0, p1, p2, p3⟩ := boxP_cells (H7.sel 4 [3]))
                | (go_at_call 26; have hs := same15_ok (a := D1.starts) (b := D1.starts) (u := .slice A2 n2 c2) (v := .slice A6 n6 c6) (h1 := C1.holder) (s1 := C1.shadow) (e1 := C1.extra) (h2 := C1.holder) (s2 := C1.shadow) (e2 := C1.extra) H7 (show Ints w _ (.slice A2 n2 c2) D1.starts from fun W H => rdInts (H.sel 5 [4])) (show Ints w _ (.slice A6 n6 c6) D1.starts from fun W H => rdInts H.tail); rw [decide_eq_true ⟨rfl, rfl, rfl, rfl⟩] at hs; (with_reducible refine hs.mono ?_); clear hs; rintro e w8 ⟨rfl, H8⟩; generalize w6.heap.size = b9 at H8; clear H7 q0 q1 q2 q3 p0 p1 p2 p3; have H9 := emptyWants H8; obtain ⟨-, -, a2, -, -⟩ := boxA_cells (H9.sel 8 [7]); have hr9 := hW _ _ (H8.alloc' (.cells #[] 60)))
                | (at_builtin; refine append_wants (v := .slice (some ⟨w8.heap.size, 0, none⟩) 0 0) (xv := .slice A ws.length c) (xs := []) (ys := ws) rfl _ _ rfl H9 rfl rfl hr9 hw0 ?_; intro z10 w10 H10; clear H9 hr9 a2; rw [List.nil_append] at H10; obtain ⟨x0, x1, x2⟩ := boxW_cells (H10.sel 7 [6]); have HA := H10.alloc' (.cells #[.int .i64 x.job, .int .i64 x.nodes, .int .i64 x.limit] 60); have hrx := rd_wn (w := w10) (x := x))
                | (at_builtin; refine append_wants (v := z10) (xv := .slice (some ⟨w10.heap.size, 0, none⟩) 1 1) (xs := ws) (ys := [x]) rfl _ _ rfl HA rfl rfl hrx hwl ?_; intro z11 w11 H11; clear H10 HA hrx x0 x1 x2; obtain ⟨a0, a1, -, a3, a4⟩ := boxA_cells (H11.sel 8 [7]))
                | (go_at_call 28; refine (hP3 _ _ _ H11).mono ?_; rintro e w12 ⟨u12, rfl, H12⟩; clear hP3 H11 a0 a1 a3 a4; obtain ⟨A12, c12, e12, -, hn12, hc12⟩ := row_shape (show w12.ownsRow w.heap.size 3 1 u12 _ _ from H12.head); rw [List.length_append, List.length_singleton, hn2] at e12 hn12; subst e12; have H13 := H12.sel 9 [2, 3, 4, 5, 6, 7, 8, 0, 1]; obtain ⟨q0, q1, q2, q3⟩ := boxP_cells H13; obtain ⟨y0, y1, y2, y3⟩ := boxP_frozen H13; have H14 := boxP_set (u' := .slice A12 (n2 + 1) c12) (h' := C1.holder) (s' := C1.shadow) (e' := C1.extra) H13; obtain ⟨s0, s1, s2, s3⟩ := boxP_cells H14; obtain ⟨t0, t1, t2, t3⟩ := boxP_cells (H14.sel 4 [3])))
              have hcc : c12 ≤ 9223372036854775807 := hc12
              generalize World.setCell _ _ _ = W9 at *
              clear H13 q0 q1 q2 q3 y0 y1 y2 y3
              refine wp_region_cut 33 (by kernel_rfl) (by kernel_rfl) ?_
              simp only [List.take_succ_cons, List.take_zero, List.drop_succ_cons, List.drop_zero]
              repeat (go_big_quiet_step ((fail)))
              refine wpQuiet_nil ?_
              intro nq
              have HN := H14.drewN nq
              have hs := sameInts15_ok (a := D1.starts) (b := D1.starts) (u := .slice A12 n2 c12) (v := .slice A2 n2 c2) HN (show Ints w _ (.slice A12 n2 c12) D1.starts from fun W H => (by have h := entIntsPre (H.sel 8 [7]) (by rw [List.length_append, List.length_singleton, hn2]); rwa [hn2] at h ⊢)) (show Ints w _ (.slice A2 n2 c2) D1.starts from fun W H => rdInts (H.sel 5 [4]))
              rw [decide_eq_true rfl] at hs
              clear s0 s1 s2 s3 t0 t1 t2 t3
              go_wp2_with (go_at_call 27; (with_reducible refine hs.mono ?_); clear hs; rintro e w15 ⟨rfl, H15⟩; obtain ⟨s0, s1, s2, s3⟩ := boxP_cells H15; obtain ⟨x0, -, -⟩ := boxW_cells (H15.sel 6 [5]); obtain ⟨b12, o12, cc12, hv12, el⟩ := int_at (rdInts (H15.sel 8 [7])) (k := n2) (x := x.job) (by rw [← hn2]; simp); simp only [Value.slice.injEq] at hv12; obtain ⟨rfl, -, -⟩ := hv12)
              refine wp_region_cut 23 (by kernel_rfl) (by kernel_rfl) ?_
              simp only [List.take_succ_cons, List.take_zero, List.drop_succ_cons, List.drop_zero]
              repeat (go_big_quiet_step ((fail)))
              refine wpQuiet_nil ?_
              intro nr
              go_wp2
              go_ret
              exact ⟨rfl, (H15.drewN nr).below⟩
end Go.Proofs.Ytebibcaahjmjfaa

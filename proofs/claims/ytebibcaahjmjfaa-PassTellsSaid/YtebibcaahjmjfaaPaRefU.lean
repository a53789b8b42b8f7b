/- The reference's pass. -/
import Derived.Test.YtebibcaahjmjfaaPaRefT
import Derived.Test.YtebibcaahjmjfaaPaCheck
import Derived.Test.YtebibcaahjmjfaaPaRefSh
import Derived.Deep.RegionHeld3
set_option linter.unusedVariables false
set_option linter.unusedSimpArgs false
namespace Go.Proofs.Ytebibcaahjmjfaa
open Go.RowKit Go.Proofs.HL Go.Proofs.HL.Pr Go.Proofs.HL.Pa
section
variable {w0 w : World} {L : List At} {v u : Value} {ws : List Wn} {l : List Rn}
set_option maxRecDepth 100000 in
set_option maxHeartbeats 16000000 in
theorem Ref.pass_ok (H : HL w0 w L) (hW : Wants w0 L v ws) (hr : Runs w0 L u l) (hwl : ws.length ≤ 5864062014805) (hl : l.length ≤ 8796093021952) (now free holder : Int) (hm : mayB now free ws holder l = true) :
    Calls Try.prog 25 #[.int .i64 now, .int .i64 free, v, .int .i64 holder, u] w fun e w' => ∃ u', e = .returned (.tuple #[planV u' (passC now free ws holder l), .int .i64 0]) ∧ HL w0 w' (intsR w0.heap.size u' (passD now free ws holder l).starts :: L) := by
  obtain ⟨A, c, rfl, hc1, hc2⟩ := rd_shape (hW w H)
  obtain ⟨B, d, rfl, hd1, hd2⟩ := rd_shape (hr w H)
  unfold maxLen at hc2 hd2
  have H1 := HL.allocP H (.slice none 0 0) 0 0 0
  have hck := Ref.check_ok H1 (hW.cons _) (hr.cons _) (by omega) now free holder
  rw [hm] at hck
  simp only [ckN] at hck
  obtain ⟨⟨n0, n1, f0, f1⟩, -, hww, hnd, -⟩ := mayB_iff.1 hm
  have Hm := Lib.hid hm; have Hww := Lib.hid hww; have Hnd := Lib.hid hnd
  have htold := passA_told hm
  have HT := Lib.hid htold
  clear hm hww hnd htold
  generalize hb10 : w.heap.size = b10 at *
  have hLB : ∀ (X : List At), Ent w0 (X ++ (boxP b10 (.slice none 0 0) 0 0 0 :: L)) (Rd 3 (.slice A ws.length c) ws.length (ws.flatMap encW)) := fun X W H => hW W (H.drops.tail)
  go_enter Try.func25, Try.ntmps25
  go_wp2_with (first
    | (go_at_call 31; refine hck.mono ?_; rintro e w1 ⟨rfl, H2⟩; clear hck H1;
        have H3 : HL w0 (w1.alloc (.cells #[] 3)) (intsR w0.heap.size (.slice (some ⟨w1.heap.size, 0, none⟩) 0 0) [] :: _) := (H2.alloc (.cells #[] 3)).rowOf (n := 0) (k := 1) (cs := []) rfl (by decide);
        have H4 := H3.alloc (.cells #[.int .i64 now, .int .i64 free, .slice A ws.length c, .slice B l.length d, .slice (some ⟨w1.heap.size, 0, none⟩) 0 0] 89);
        rw [World.size_alloc] at H4))
  have H5 : At15 w0 _ (w1.heap.size + 1) ws (rs0 now free holder l) (.slice A ws.length c) (.slice B l.length d) (.slice (some ⟨w1.heap.size, 0, none⟩) 0 0) (boxP b10 (.slice none 0 0) 0 0 0 :: L) := ⟨H4, by show Wants w0 _ _ (Pa.leftOf ws []); rw [Pa.left_nil]; exact hW.cons _, Ent.cons hr _⟩
  clear H2 H3 H4
  generalize World.alloc (World.alloc w1 _) _ = W1 at *
  generalize w1.heap.size + 1 = p at *
  generalize Value.slice (some ⟨w1.heap.size, 0, none⟩) 0 0 = us0 at *
  go_cut [55] (fun s55 wc => s55 = .bool (decide ((passA now free ws holder l).1.holder ≠ holder)) ∧ At15 w0 wc p ws (rs0 now free holder l) (.slice A ws.length c) (.slice B l.length d) us0 (boxP b10 (.slice none 0 0) 0 0 0 :: L))
  case first =>
    rcases HT.out with ⟨rfl, hA⟩ | ⟨x, hx, hj, h0, hA⟩
    · have Hd := Lib.hid (show decide ((passA now free ws (-1) l).1.holder ≠ -1) = false by rw [hA]; exact decide_eq_false (fun h => h rfl))
      clear hA
      refine wp_region_cut 19 (by kernel_rfl) (by kernel_rfl) ?_
      simp only [List.take_succ_cons, List.take_zero, List.drop_succ_cons, List.drop_zero]
      repeat (go_big_quiet_step ((fail)))
      refine wpQuiet_nil ?_
      intro nq
      go_wp2
      go_meet
      case rel => exact ⟨by rw [Hd.out], ⟨H5.hl.drewN nq, H5.left, H5.runs⟩⟩
    · obtain ⟨k, hk, hkx⟩ := List.getElem_of_mem hx
      have hgk : ws[k]? = some x := by rw [List.getElem?_eq_getElem hk, hkx]
      have hat := fun n => at15_ok (H5.hl.drewN n) (List.mem_cons_self ..) (x := x) (k := k) (left := ws) (fun W HH => hW W (HH.tail.tail.tail)) hgk (fun j y hjk hy e => by
        have hj2 := (List.getElem?_eq_some_iff.1 hy)
        obtain ⟨hj3, rfl⟩ := hj2
        have := (List.getElem_inj (h₀ := by simpa using hj3) (h₁ := by simpa using hk) Hnd.out).1 (by simpa [hkx] using e)
        omega)
      rw [hj] at hat
      obtain ⟨b, o, c', hv, d0, d1, d2⟩ := wn_at (hW W1 H5.hl.tail.tail.tail) hgk
      simp only [Value.slice.injEq] at hv
      obtain ⟨rfl, -, rfl⟩ := hv
      have c1 : W1.cell? ⟨p, 1, none⟩ = some (.int .i64 free) := rr_cell H5.hl (List.mem_cons_self ..) 1
      have c2 : W1.cell? ⟨p, 2, none⟩ = some (.slice (some ⟨b, o, none⟩) ws.length c) := rr_cell H5.hl (List.mem_cons_self ..) 2
      have z0 : decide (0 ≤ holder) = true := decide_eq_true h0
      have zk : (0 : Int) ≤ (k : Int) := by omega
      have zl : (k : Int) < (ws.length : Int) := by omega
      rcases hA with ⟨hf, hA⟩ | ⟨hf, hA⟩
      · have Hd := Lib.hid (show decide ((passA now free ws holder l).1.holder ≠ holder) = true by rw [hA]; exact decide_eq_true (by show (-1 : Int) ≠ holder; omega))
        have z1 : decide (x.nodes ≤ free) = true := decide_eq_true hf
        clear hA hf hgk hkx d0 d2
        refine wp_region_cut 19 (by kernel_rfl) (by kernel_rfl) ?_
        simp only [List.take_succ_cons, List.take_zero, List.drop_succ_cons, List.drop_zero]
        repeat (go_big_quiet_step ((go_at_call 50; exact Calls.quiet_of_same ((hat _).mono fun e w' h => ⟨h.1, h.2.symm⟩))))
        refine wpQuiet_nil ?_
        intro nq
        go_wp2
        go_meet
        case rel => exact ⟨by rw [Hd.out], ⟨H5.hl.drewN nq, H5.left, H5.runs⟩⟩
      · have Hd := Lib.hid (show decide ((passA now free ws holder l).1.holder ≠ holder) = false by rw [hA]; exact decide_eq_false (fun h => h rfl))
        have z1 : decide (x.nodes ≤ free) = false := decide_eq_false (by omega)
        clear hA hf hgk hkx d0 d2
        refine wp_region_cut 19 (by kernel_rfl) (by kernel_rfl) ?_
        simp only [List.take_succ_cons, List.take_zero, List.drop_succ_cons, List.drop_zero]
        repeat (go_big_quiet_step ((go_at_call 50; exact Calls.quiet_of_same ((hat _).mono fun e w' h => ⟨h.1, h.2.symm⟩))))
        refine wpQuiet_nil ?_
        intro nq
        go_wp2
        go_meet
        case rel => exact ⟨by rw [Hd.out], ⟨H5.hl.drewN nq, H5.left, H5.runs⟩⟩
  case rest =>
    obtain ⟨rfl, H6⟩ := hcut
    clear H5
    go_upto_if 55 with (fail)
    go_cut [3] (fun s3 wc => ∃ (vl vr us : Value) (X : List At), s3 = .int .i64 (passA now free ws holder l).1.holder ∧ At15 w0 wc p ws (passA now free ws holder l).1 vl vr us (X ++ (boxP b10 (.slice none 0 0) 0 0 0 :: L)) ∧ ∃ T, Pa.Told now free ws l (passA now free ws holder l).1 T)
    case first =>
      rcases HT.out with ⟨rfl, hA⟩ | ⟨x, hx, hj, h0, ⟨hf, hA⟩ | ⟨hf, hA⟩⟩
      · rw [show decide ((passA now free ws (-1) l).1.holder ≠ -1) = false by rw [hA]; exact decide_eq_false (fun h => h rfl)]
        have HA := Lib.hid hA; clear hA
        go_wp2
        go_meet
        case rel =>
          rw [HA.out]
          exact ⟨_, _, _, [], rfl, H6, [], Told.begin ..⟩
      · obtain ⟨k, hk, hkx⟩ := List.getElem_of_mem hx
        have hgk : ws[k]? = some x := by rw [List.getElem?_eq_getElem hk, hkx]
        have hat := at15_ok H6.hl (List.mem_cons_self ..) (x := x) (k := k) (left := ws) (fun W HH => hW W (HH.tail.tail.tail)) hgk (fun j y hjk hy e => by
          obtain ⟨hj3, rfl⟩ := List.getElem?_eq_some_iff.1 hy
          have := (List.getElem_inj (h₀ := by simpa using hj3) (h₁ := by simpa using hk) Hnd.out).1 (by simpa [hkx] using e)
          omega)
        rw [hj] at hat
        have hst := start15_told (i := k) (x := x) H6 Hm.out hl hwl (Told.begin ..) (by show (Pa.leftOf ws [])[k]? = _; rw [Pa.left_nil]; exact hgk) hf
        rw [show decide ((passA now free ws holder l).1.holder ≠ holder) = true by rw [hA]; exact decide_eq_true (by show (-1 : Int) ≠ holder; omega)]
        have HA := Lib.hid hA; clear hA hf hgk hkx
        go_wp2_with (first
          | (go_at_call 50; refine hat.mono ?_; rintro e w7 ⟨rfl, rfl⟩; clear hat)
          | (go_at_call 51; refine hst.mono ?_; rintro e w8 ⟨vl8, vr8, us8, X8, rfl, H8, told8⟩; clear hst H6))
        go_meet
        case rel =>
          rw [HA.out]
          exact ⟨vl8, vr8, us8, X8, rfl, ⟨H8.hl, H8.left, H8.runs⟩, _, told8.same rfl rfl rfl rfl⟩
      · rw [show decide ((passA now free ws holder l).1.holder ≠ holder) = false by rw [hA]; exact decide_eq_false (fun h => h rfl)]
        have HA := Lib.hid hA; clear hA
        go_wp2
        go_meet
        case rel =>
          rw [HA.out]
          exact ⟨_, _, _, [], rfl, H6, [], Told.begin ..⟩
    case rest =>
      obtain ⟨vl7, vr7, us7, X7, rfl, H7, T7, told7⟩ := hcut
      clear H6
      go_upto_if 62 with (fail)
      go_cut [3, 62] (fun s3 s62 wc => ∃ (vl vr us : Value) (X : List At), s3 = .int .i64 (passB now free ws holder l).1.holder ∧ At15 w0 wc p ws (passB now free ws holder l).1 vl vr us (X ++ (boxP b10 (.slice none 0 0) 0 0 0 :: L)) ∧ ∃ T, Pa.Told now free ws l (passB now free ws holder l).1 T)
      case first =>
        by_cases hh : (passA now free ws holder l).1.holder = -1
        · have HB := Lib.hid (show passB now free ws holder l = rankedP (passA now free ws holder l).1 ws by unfold passB; rw [if_pos hh])
          generalize (passA now free ws holder l).1 = sA at *
          rw [show decide (sA.holder < 0) = true from decide_eq_true (by omega)]
          have Hh := Lib.hid hh
          clear hh
          go_wp2
          go_loopg [82] (Pa.leftOf ws sA.starts).length (fun g u82 wr => ∃ (s : RS) (vl vr us : Value) (X : List At) (T : List Wn), (Pa.leftOf ws s.starts).length = g ∧ rankedP sA ws = rankedP s ws ∧ s.holder = -1 ∧ At15 w0 wr p ws s vl vr us (X ++ (boxP b10 (.slice none 0 0) 0 0 0 :: L)) ∧ Pa.Told now free ws l s T)
          case atStart => exact ⟨sA, vl7, vr7, us7, X7, T7, rfl, rfl, Hh.out, H7, told7⟩
          case round =>
            obtain ⟨s, vl, vr, us, X, T, hg, hR, hsh, HK, told⟩ := hrel
            clear H7
            have HR := Lib.hid hR; have Hsh := Lib.hid hsh; have Htold := Lib.hid told
            clear hR hsh told
            have hlw := HK.left _ HK.hl.tail.tail
            obtain ⟨A', c', rfl, hd1', hd2'⟩ := rd_shape hlw
            unfold maxLen at hd2'
            have c2 : wr.cell? ⟨p, 2, none⟩ = some (.slice A' (Pa.leftOf ws s.starts).length c') := rr_cell HK.hl (List.mem_cons_self ..) 2
            have c1 : wr.cell? ⟨p, 1, none⟩ = some (.int .i64 s.free) := rr_cell HK.hl (List.mem_cons_self ..) 1
            cases hL : Pa.leftOf ws s.starts with
            | nil =>
              have hfin := Lib.hid (HB.out.trans (HR.out.trans (ranked_none hL)))
              rw [hL] at c2 hg
              rw [List.length_nil] at c2
              go_wp2
              refine wp_region_cut 20 (by kernel_rfl) (by kernel_rfl) ?_
              simp only [List.take_succ_cons, List.take_zero, List.drop_succ_cons, List.drop_zero]
              repeat (go_big_quiet_step ((fail)))
              refine wpQuiet_nil ?_
              intro nq
              have c2' : (wr.drewN nq).cell? ⟨p, 2, none⟩ = some (.slice A' 0 c') := c2
              go_wp2
              go_meet
              case rel =>
                rw [hfin.out]
                exact ⟨_, vr, us, X, by rw [Hsh.out, Hh.out], ⟨HK.hl.drewN nq, HK.left, HK.runs⟩, T, Htold.out⟩
            | cons x rest =>
              obtain ⟨b, o, c'', hv, d0, d1, d2⟩ := wn_at hlw (k := 0) (x := x) (by rw [hL]; rfl)
              simp only [Value.slice.injEq] at hv
              obtain ⟨rfl, -, rfl⟩ := hv
              have hn : (Pa.leftOf ws s.starts).length = rest.length + 1 := by rw [hL]; rfl
              rw [hn] at c2
              rw [Nat.zero_mul, Nat.add_zero] at d0 d1 d2
              have hz : (0 : Int) < ((rest.length + 1 : Nat) : Int) := by omega
              by_cases hf : x.nodes ≤ s.free
              · have hst := fun n => start15_told (i := 0) (x := x) (w := wr.drewN n) ⟨HK.hl.drewN n, HK.left, HK.runs⟩ Hm.out hl hwl Htold.out (by rw [hL]; rfl) hf
                have hnx := Lib.hid (HR.out.trans (ranked_step Hnd.out hL hf))
                have hle := Lib.hid (left_start Hnd.out (S := s.starts) (i := 0) (x := x) (by rw [hL]; rfl))
                have z1 : decide (x.nodes ≤ s.free) = true := decide_eq_true hf
                clear hf d0 d2
                go_wp2
                refine wp_region_cut 20 (by kernel_rfl) (by kernel_rfl) ?_
                simp only [List.take_succ_cons, List.take_zero, List.drop_succ_cons, List.drop_zero]
                repeat (go_big_quiet_step ((fail)))
                refine wpQuiet_nil ?_
                intro nq
                go_wp2_with (go_at_call 51; refine (hst _).mono ?_; rintro e w8 ⟨vl8, vr8, us8, X8, rfl, H8, told8⟩; clear hst HK)
                go_roundg rest.length
                case measure => omega
                case rel =>
                  refine ⟨startP s x, vl8, vr8, us8, X8 ++ X, _, ?_, hnx.out, Hsh.out, by rw [List.append_assoc]; exact H8, told8⟩
                  show (Pa.leftOf ws (s.starts ++ [x.job])).length = _
                  rw [hle.out, hL]
                  rfl
              · have hfin := Lib.hid (HB.out.trans (HR.out.trans (ranked_stop hL hf)))
                have z1 : decide (x.nodes ≤ s.free) = false := decide_eq_false hf
                clear hf
                go_wp2
                refine wp_region_cut 20 (by kernel_rfl) (by kernel_rfl) ?_
                simp only [List.take_succ_cons, List.take_zero, List.drop_succ_cons, List.drop_zero]
                repeat (go_big_quiet_step ((fail)))
                refine wpQuiet_nil ?_
                intro nq
                have c2' : (wr.drewN nq).cell? ⟨p, 2, none⟩ = some (.slice (some ⟨b, o, none⟩) (rest.length + 1) c') := c2
                have d0' : (wr.drewN nq).cell? ⟨b, o, none⟩ = some (.int .i64 x.job) := d0
                go_wp2
                go_meet
                case rel =>
                  rw [hfin.out]
                  exact ⟨_, vr, us, X, rfl, ⟨HK.hl.drewN nq, HK.left, HK.runs⟩, T, Htold.out.same rfl rfl rfl rfl⟩
        · have hge : 0 ≤ (passA now free ws holder l).1.holder := by
            rcases HT.out with ⟨rfl, hA⟩ | ⟨x, hx, hj, h0, ⟨hf, hA⟩ | ⟨hf, hA⟩⟩
            · rw [hA] at hh; exact absurd rfl hh
            · rw [hA] at hh; exact absurd rfl hh
            · rw [hA]; exact h0
          have HB := Lib.hid (show passB now free ws holder l = passA now free ws holder l by unfold passB; rw [if_neg hh])
          clear hh
          have z0 : decide ((passA now free ws holder l).1.holder < 0) = false := decide_eq_false (by omega)
          go_wp2
          go_meet
          case rel =>
            rw [HB.out]
            exact ⟨vl7, vr7, us7, X7, rfl, H7, T7, told7⟩
      case rest =>
        obtain ⟨vl9, vr9, us9, X9, rfl, H9, T9, told9⟩ := hcut
        clear H7 told7
        obtain ⟨-, -, hsh, hex, -, hheld⟩ := passB_told Hm.out
        have hC : passC now free ws holder l = pinS now (passB now free ws holder l) := rfl
        have hD : passD now free ws holder l = if 0 ≤ (passC now free ws holder l).holder then ws.foldl fillStep (passC now free ws holder l) else passC now free ws holder l := rfl
        generalize passB now free ws holder l = PB at *
        obtain ⟨s, need⟩ := PB
        dsimp only at H9 told9 hsh hex hheld
        have HC := Lib.hid hC; have HD := Lib.hid hD
        clear hC hD
        obtain ⟨A9, c9, e9, -, -, -⟩ := row_shape (show wc.ownsRow w0.heap.size 3 1 us9 _ _ from H9.hl.tail.head)
        generalize s.starts.length = n9 at e9
        subst e9
        rcases hheld with ⟨hh, -⟩ | ⟨h, hhw, hh, hneed, hfree, hnot⟩
        · have hC2 := Lib.hid (show passC now free ws holder l = s by rw [HC.out]; unfold pinS; exact if_neg (by show ¬ 0 ≤ s.holder; omega))
          have hD2 := Lib.hid (show passD now free ws holder l = s by rw [HD.out, hC2.out]; exact if_neg (by omega))
          have HF := HL.toFront H9.hl
          obtain ⟨q0, q1, q2, q3⟩ := boxP_cells HF
          obtain ⟨y0, y1, y2, y3⟩ := boxP_frozen HF
          have c4 : wc.cell? ⟨p, 4, none⟩ = some (.slice A9 n9 c9) := rr_cell H9.hl (List.mem_cons_self ..) 4
          have HG := boxP_set (u' := .slice A9 n9 c9) (h' := -1) (s' := 0) (e' := 0) HF
          dsimp only
          rw [hh]
          go_wp2
          clear y0 y1 y2 y3 q0 q1 q2 q3 c4 HF
          generalize World.setCell _ _ _ = W9 at *
          obtain ⟨c0, c1, c2, c3⟩ := boxP_cells HG
          (try simp only [Exit.inBlock, Exit.then]); refine bodyPost_ret (by simp [results, Try.results25, go_sem, c0, c1, c2, c3]; try rfl) rfl ?_
          rw [hC2.out, hD2.out]
          refine ⟨.slice A9 n9 c9, ?_, HL.skip HG.tail⟩
          unfold planV
          rw [hh, hsh, hex]
        · obtain ⟨sa, sm, sb, hsd⟩ : ∃ a m b, shadowAll now s.free s.runs h.nodes = (a, m, b) := ⟨_, _, _, rfl⟩
          have okh := Hww.out h hhw
          have h0 : 0 ≤ s.holder := by rw [hh]; exact okh.1
          have hC2 := Lib.hid (show passC now free ws holder l = { s with shadow := sa, extra := sm } by rw [HC.out]; unfold pinS; dsimp only; rw [if_pos h0, hneed, hsd])
          have hD2 := Lib.hid (show passD now free ws holder l = ws.foldl fillStep { s with shadow := sa, extra := sm } by rw [HD.out, hC2.out]; exact if_pos h0)
          obtain ⟨hrt, hfin, -⟩ := told9.right Hm.out
          have hfew := told9.few Hm.out
          have hrl : s.runs.length ≤ 8796093022208 := by rw [told9.truns, List.length_append, List.length_map]; omega
          have hex2 := shadow_ex (now := now) (free := s.free) (need := h.nodes) hrl
          rw [hsd] at hex2
          have hroom := stepsAll_room (free := s.free) n0 (by omega) hfin
          have hsh2 := fun W (HH : HL w0 W (rr p s.now s.free vl9 vr9 (.slice A9 n9 c9) :: intsR w0.heap.size (.slice A9 n9 c9) s.starts :: (X9 ++ (boxP b10 (.slice none 0 0) 0 0 0 :: L)))) => Ref.shadow_ok2 now s.free h.nodes hroom HH (show Runs w0 _ vr9 s.runs from fun W HH => H9.runs W HH.tail.tail) hrl
          rw [hsd] at hsh2
          simp only [shV] at hsh2
          obtain ⟨k, hk, hkx⟩ := List.getElem_of_mem (Pa.left_mem.2 ⟨hhw, hnot⟩)
          have hgk : (Pa.leftOf ws s.starts)[k]? = some h := by rw [List.getElem?_eq_getElem hk, hkx]
          have hat := fun n => at15_ok (H9.hl.drewN n) (List.mem_cons_self ..) (x := h) (k := k) (left := Pa.leftOf ws s.starts) (fun W HH => H9.left W HH.tail.tail) hgk (fun j y hjk hy e => by
            obtain ⟨hj3, rfl⟩ := List.getElem?_eq_some_iff.1 hy
            have := (List.getElem_inj (h₀ := by simpa using hj3) (h₁ := by simpa using hk) (Pa.left_nodup Hnd.out s.starts)).1 (by simpa [hkx] using e)
            omega)
          rw [← hh] at hat
          obtain ⟨b, o, c', rfl, d0, d1, d2⟩ := wn_at (H9.left _ H9.hl.tail.tail) hgk
          have c1 : wc.cell? ⟨p, 1, none⟩ = some (.int .i64 s.free) := rr_cell H9.hl (List.mem_cons_self ..) 1
          have c2 : wc.cell? ⟨p, 2, none⟩ = some (.slice (some ⟨b, o, none⟩) (Pa.leftOf ws s.starts).length c') := rr_cell H9.hl (List.mem_cons_self ..) 2
          have c3 : wc.cell? ⟨p, 3, none⟩ = some vr9 := rr_cell H9.hl (List.mem_cons_self ..) 3
          have zk : (0 : Int) ≤ (k : Int) := by omega
          have zl : (k : Int) < ((Pa.leftOf ws s.starts).length : Int) := by omega
          have Hhh := Lib.hid hh
          clear hgk hkx d0 d2 hroom hfin hsd hh hneed hnot
          dsimp only
          go_wp2
          refine wp_region_plan [(19, 1), (7, 0)] (by kernel_rfl) (by kernel_rfl) ⟨fun w' => ∃ k, w' = wc.drewN k, ⟨1, rfl⟩, ?_⟩
          simp only [List.take_succ_cons, List.take_zero, List.drop_succ_cons, List.drop_zero]
          repeat (go_big_quiet_step ((go_at_call 50; exact Calls.quiet_of_same ((hat _).mono fun e w' h => ⟨h.1, h.2.symm⟩))))
          refine wpQuiet_nil ?_
          rintro _ ⟨nq, rfl⟩
          go_wp2_with (go_at_call 17; refine (hsh2 _ (H9.hl.drewN nq)).mono ?_; rintro e w10 ⟨rfl, H10⟩; clear hsh2 hat c1 c2 c3 d1)
          refine ⟨fun w' => ∃ k, w' = w10.drewN k, ⟨0, rfl⟩, ?_⟩
          simp only [List.take_succ_cons, List.take_zero, List.drop_succ_cons, List.drop_zero]
          repeat (go_big_quiet_step ((fail)))
          refine wpQuiet_nil ?_
          rintro _ ⟨nr, rfl⟩
          go_wp2
          unfold wpPlan
          have H11 : At15 w0 (w10.drewN nr) p ws { s with shadow := sa, extra := sm } (.slice (some ⟨b, o, none⟩) (Pa.leftOf ws s.starts).length c') vr9 (.slice A9 n9 c9) (X9 ++ (boxP b10 (.slice none 0 0) 0 0 0 :: L)) := ⟨H10.drewN nr, H9.left, H9.runs⟩
          clear H10 H9
          generalize World.drewN w10 nr = W11 at *
          go_wp2
          go_loopg [17, 18] (Pa.leftOf ws s.starts).length (fun g v17 v18 wr => ∃ (q : RS) (vl vr us : Value) (X : List At) (T : List Wn) (i : Nat), v17 = .int .i64 q.extra ∧ v18 = .int .i64 i ∧ ((Pa.leftOf ws q.starts).drop i).length = g ∧ passD now free ws holder l = ((Pa.leftOf ws q.starts).drop i).foldl fillStep q ∧ q.holder = s.holder ∧ q.shadow = sa ∧ (0 ≤ q.extra ∧ q.extra ≤ 4503599627370496) ∧ At15 w0 wr p ws q vl vr us (X ++ (boxP b10 (.slice none 0 0) 0 0 0 :: L)) ∧ Pa.Told now free ws l q T)
          case atStart => exact ⟨{ s with shadow := sa, extra := sm }, _, vr9, _, X9, T9, 0, rfl, rfl, rfl, by rw [hD2.out, List.drop_zero]; exact (fill_left ws { s with shadow := sa, extra := sm } s.starts (fun _ h => h)).symm, rfl, rfl, hex2, H11, told9.same rfl rfl rfl rfl⟩
          case round =>
            obtain ⟨q, vl, vr, us, X, T, i, rfl, rfl, hg, hfold, hqh, hqs, hqe, HK, told⟩ := hrel
            clear H11
            have Hfold := Lib.hid hfold; have Htold := Lib.hid told
            clear hfold told
            have hlw := HK.left _ HK.hl.tail.tail
            obtain ⟨A', c', rfl, hd1', hd2'⟩ := rd_shape hlw
            unfold maxLen at hd2'
            have c2 : wr.cell? ⟨p, 2, none⟩ = some (.slice A' (Pa.leftOf ws q.starts).length c') := rr_cell HK.hl (List.mem_cons_self ..) 2
            have hqn : q.now = now := Htold.out.tnow
            obtain ⟨hrt, -, -⟩ := Htold.out.right Hm.out
            have hqf := rightB_iff.1 hrt
            obtain ⟨qf0, qf1, -⟩ := hqf
            replace hqh := Lib.hid hqh
            cases hdr : (Pa.leftOf ws q.starts).drop i with
            | nil =>
              have hge : ((Pa.leftOf ws q.starts).length : Int) ≤ (i : Int) := by have := congrArg List.length hdr; rw [List.length_drop, List.length_nil] at this; omega
              obtain ⟨A8, c8, e8, -, -, -⟩ := row_shape (show wr.ownsRow w0.heap.size 3 1 us _ _ from HK.hl.tail.head)
              generalize q.starts.length = n8 at e8
              subst e8
              have hD3 := Lib.hid (show passD now free ws holder l = q by rw [Hfold.out, hdr]; rfl)
              have HF := HL.toFront HK.hl
              obtain ⟨q0, q1, q2, q3⟩ := boxP_cells HF
              obtain ⟨y0, y1, y2, y3⟩ := boxP_frozen HF
              have c4 : wr.cell? ⟨p, 4, none⟩ = some (.slice A8 n8 c8) := rr_cell HK.hl (List.mem_cons_self ..) 4
              have HG := boxP_set (u' := .slice A8 n8 c8) (h' := s.holder) (s' := sa) (e' := sm) HF
              clear hdr hg hqs
              go_wp2
              clear y0 y1 y2 y3 q0 q1 q2 q3 c4 HF
              generalize World.setCell _ _ _ = W9 at *
              obtain ⟨c0, c1, c2, c3⟩ := boxP_cells HG
              (try simp only [Exit.inBlock, Exit.then]); refine bodyPost_ret (by simp [results, Try.results25, go_sem, c0, c1, c2, c3]; try rfl) rfl ?_
              rw [hC2.out, hD3.out]
              exact ⟨.slice A8 n8 c8, rfl, HL.skip HG.tail⟩
            | cons x rest =>
              have hgx : (Pa.leftOf ws q.starts)[i]? = some x := by
                have := congrArg (fun l => l[0]?) hdr
                simp only [List.getElem?_drop, Nat.add_zero, List.getElem?_cons_zero] at this
                exact this
              have hrest : (Pa.leftOf ws q.starts).drop (i + 1) = rest := by
                have := congrArg (fun l => l.drop 1) hdr
                simp only [List.drop_drop, List.drop_succ_cons, List.drop_zero] at this
                exact this
              obtain ⟨b, o, c'', hv, d0, d1, d2⟩ := wn_at hlw hgx
              simp only [Value.slice.injEq] at hv
              obtain ⟨rfl, -, rfl⟩ := hv
              have hil := (List.getElem?_eq_some_iff.1 hgx).1
              have hlti : (i : Int) < ((Pa.leftOf ws q.starts).length : Int) := by omega
              obtain ⟨hxw, hno⟩ := left_mem.1 (List.mem_of_getElem? hgx)
              have okx := Hww.out x hxw
              have Hgx := Lib.hid hgx; have Hrest := Lib.hid hrest
              replace Hfold := Lib.hid (show passD now free ws holder l = rest.foldl fillStep (fillStep q x) by rw [Hfold.out, hdr]; rfl)
              rw [hdr, List.length_cons] at hg
              have c1 : wr.cell? ⟨p, 1, none⟩ = some (.int .i64 q.free) := rr_cell HK.hl (List.mem_cons_self ..) 1
              have HB := HL.allocW HK.hl x
              obtain ⟨x0, x1, x2⟩ := boxW_cells HB
              have c1' : (wr.alloc (.cells #[.int .i64 x.job, .int .i64 x.nodes, .int .i64 x.limit] 60)).cell? ⟨p, 1, none⟩ = some (.int .i64 q.free) := rr_cell HB (List.mem_cons_of_mem _ (List.mem_cons_self ..)) 1
              have hwr : IntKind.i64.wrap (now + x.limit) = now + x.limit := IntWalk.i64_in _ (by omega)
              clear hgx hrest hdr hxw hlw
              by_cases k1 : x.job = s.holder
              · have z1 : (x.job == s.holder) = true := by rw [k1]; simp
                have z2 : decide (x.job = s.holder) = true := decide_eq_true k1
                have K1 := Lib.hid k1; clear k1
                have hnx := Lib.hid (show fillStep q x = q by unfold fillStep; exact if_pos (.inr (.inl (K1.out.trans hqh.out.symm))))
                clear hno
                go_wp2
                refine wp_region_cut 27 (by kernel_rfl) (by kernel_rfl) ?_
                simp only [List.take_succ_cons, List.take_zero, List.drop_succ_cons, List.drop_zero]
                repeat (go_big_quiet_step ((fail)))
                refine wpQuiet_nil ?_
                intro nq
                have HD := HB.drewN nq
                clear HB x0 x1 x2 c1 c1' c2 d0 d1 d2
                go_wp2
                go_roundg rest.length
                case measure => omega
                case rel =>
                  exact ⟨q, _, vr, us, X, T, i + 1, rfl, by go_num, by rw [← Hrest.out], by rw [Hfold.out, hnx.out, Hrest.out], hqh.out, hqs, hqe, ⟨HD.tail, HK.left, HK.runs⟩, Htold.out⟩
              have z1 : (x.job == s.holder) = false := by rw [beq_eq_false_iff_ne]; exact k1
              have z2 : decide (x.job = s.holder) = false := decide_eq_false k1
              have K1 := Lib.hid k1; clear k1
              have Hno := Lib.hid hno
              by_cases k2 : q.free < x.nodes
              · have z3 : decide (q.free < x.nodes) = true := decide_eq_true k2
                have hnx := Lib.hid (show fillStep q x = q by unfold fillStep; exact if_pos (.inr (.inr k2)))
                clear hno
                go_wp2
                refine wp_region_cut 27 (by kernel_rfl) (by kernel_rfl) ?_
                simp only [List.take_succ_cons, List.take_zero, List.drop_succ_cons, List.drop_zero]
                repeat (go_big_quiet_step ((fail)))
                refine wpQuiet_nil ?_
                intro nq
                have HD := HB.drewN nq
                clear HB x0 x1 x2 c1 c1' c2 d0 d1 d2
                go_wp2
                go_roundg rest.length
                case measure => omega
                case rel =>
                  exact ⟨q, _, vr, us, X, T, i + 1, rfl, by go_num, by rw [← Hrest.out], by rw [Hfold.out, hnx.out, Hrest.out], hqh.out, hqs, hqe, ⟨HD.tail, HK.left, HK.runs⟩, Htold.out⟩
              have z3 : decide (q.free < x.nodes) = false := decide_eq_false k2
              have hf0 : ¬ (x.job ∈ q.starts ∨ x.job = q.holder ∨ q.free < x.nodes) := fun h => by
                rcases h with h | h | h
                · exact Hno.out h
                · exact K1.out (h.trans hqh.out)
                · exact k2 h
              have Hf0 := Lib.hid hf0; clear hf0
              by_cases k3 : now + x.limit ≤ sa
              · have z4 : decide (sa < now + x.limit) = false := decide_eq_false (by omega)
                have hnx := Lib.hid (show fillStep q x = startP q x by unfold fillStep; rw [if_neg Hf0.out, hqn, hqs]; exact if_pos k3)
                have hst := fun W (HH : HL w0 W (rr p q.now q.free (.slice (some ⟨b, o, none⟩) (Pa.leftOf ws q.starts).length c') vr us :: intsR w0.heap.size us q.starts :: (X ++ (boxP b10 (.slice none 0 0) 0 0 0 :: L)))) => start15_told (s := q) (i := i) (x := x) ⟨HH, HK.left, HK.runs⟩ Hm.out hl hwl (Htold.out.same rfl rfl rfl rfl) Hgx.out (show x.nodes ≤ q.free by omega)
                clear hno
                go_wp2
                refine wp_region_cut 27 (by kernel_rfl) (by kernel_rfl) ?_
                simp only [List.take_succ_cons, List.take_zero, List.drop_succ_cons, List.drop_zero]
                repeat (go_big_quiet_step ((fail)))
                refine wpQuiet_nil ?_
                intro nq
                have HD := HB.drewN nq
                clear HB x0 x1 x2 c1 c1' c2 d0 d1 d2
                obtain ⟨x0, x1, x2⟩ := boxW_cells HD
                go_wp2_with (go_at_call 51; refine (hst _ HD.tail).mono ?_; rintro e w8 ⟨vl8, vr8, us8, X8, rfl, H8, told8⟩; clear hst HD)
                go_roundg rest.length
                case measure => omega
                case rel =>
                  have hle := left_start Hnd.out (S := q.starts) (i := i) (x := x) Hgx.out
                  have hdr2 : (Pa.leftOf ws (startP q x).starts).drop i = rest := by
                    show (Pa.leftOf ws (q.starts ++ [x.job])).drop i = rest
                    rw [hle, drop_erase, Hrest.out]
                  exact ⟨startP q x, vl8, vr8, us8, X8 ++ X, _, i, rfl, rfl, by rw [hdr2], by rw [Hfold.out, hnx.out, hdr2], hqh.out, hqs, hqe, by rw [List.append_assoc]; exact H8, told8⟩
              have z4 : decide (sa < now + x.limit) = true := decide_eq_true (by omega)
              by_cases k4 : x.nodes ≤ q.extra
              · have z5 : decide (q.extra < x.nodes) = false := decide_eq_false (by omega)
                have hnx := Lib.hid (show fillStep q x = startP { q with extra := q.extra - x.nodes } x by unfold fillStep; rw [if_neg Hf0.out, hqn, hqs, if_neg k3]; exact if_pos k4)
                have hst := fun W (HH : HL w0 W (rr p q.now q.free (.slice (some ⟨b, o, none⟩) (Pa.leftOf ws q.starts).length c') vr us :: intsR w0.heap.size us q.starts :: (X ++ (boxP b10 (.slice none 0 0) 0 0 0 :: L)))) => start15_told (s := { q with extra := q.extra - x.nodes }) (i := i) (x := x) ⟨HH, HK.left, HK.runs⟩ Hm.out hl hwl (Htold.out.same rfl rfl rfl rfl) Hgx.out (show x.nodes ≤ q.free by omega)
                clear hno
                go_wp2
                refine wp_region_cut 27 (by kernel_rfl) (by kernel_rfl) ?_
                simp only [List.take_succ_cons, List.take_zero, List.drop_succ_cons, List.drop_zero]
                repeat (go_big_quiet_step ((fail)))
                refine wpQuiet_nil ?_
                intro nq
                have HD := HB.drewN nq
                clear HB x0 x1 x2 c1 c1' c2 d0 d1 d2
                obtain ⟨x0, x1, x2⟩ := boxW_cells HD
                go_wp2_with (go_at_call 51; refine (hst _ HD.tail).mono ?_; rintro e w8 ⟨vl8, vr8, us8, X8, rfl, H8, told8⟩; clear hst HD)
                go_roundg rest.length
                case measure => omega
                case rel =>
                  have hle := left_start Hnd.out (S := q.starts) (i := i) (x := x) Hgx.out
                  have hdr2 : (Pa.leftOf ws (startP { q with extra := q.extra - x.nodes } x).starts).drop i = rest := by
                    show (Pa.leftOf ws (q.starts ++ [x.job])).drop i = rest
                    rw [hle, drop_erase, Hrest.out]
                  exact ⟨startP { q with extra := q.extra - x.nodes } x, vl8, vr8, us8, X8 ++ X, _, i, by go_num, rfl, by rw [hdr2], by rw [Hfold.out, hnx.out, hdr2], hqh.out, hqs, by show 0 ≤ q.extra - x.nodes ∧ q.extra - x.nodes ≤ 4503599627370496; exact ⟨by omega, by omega⟩, by rw [List.append_assoc]; exact H8, told8⟩
              have z5 : decide (q.extra < x.nodes) = true := decide_eq_true (by omega)
              have hnx := Lib.hid (show fillStep q x = q by unfold fillStep; rw [if_neg Hf0.out, hqn, hqs, if_neg k3]; exact if_neg k4)
              clear hno
              go_wp2
              refine wp_region_cut 27 (by kernel_rfl) (by kernel_rfl) ?_
              simp only [List.take_succ_cons, List.take_zero, List.drop_succ_cons, List.drop_zero]
              repeat (go_big_quiet_step ((fail)))
              refine wpQuiet_nil ?_
              intro nq
              have HD := HB.drewN nq
              clear HB x0 x1 x2 c1 c1' c2 d0 d1 d2
              go_wp2
              go_roundg rest.length
              case measure => omega
              case rel =>
                exact ⟨q, _, vr, us, X, T, i + 1, rfl, by go_num, by rw [← Hrest.out], by rw [Hfold.out, hnx.out, Hrest.out], hqh.out, hqs, hqe, ⟨HD.tail, HK.left, HK.runs⟩, Htold.out⟩
end
end Go.Proofs.Ytebibcaahjmjfaa

/- As many as can be, and nobody else. -/
import Derived.Test.YtebibcaahjmjfaaPaWant
import Derived.Test.YtebibcaahjmjfaaPaWholeQ
import Derived.Test.YtebibcaahjmjfaaPaRefSh
import Derived.Deep.RegionHeld3
set_option linter.unusedVariables false
set_option linter.unusedSimpArgs false
namespace Go.Proofs.Ytebibcaahjmjfaa
open Go.RowKit Go.Proofs.HL Go.Proofs.HL.Pr Go.Proofs.HL.Pa
theorem not_in_take {S : List Int} (hn : S.Nodup) {k : Nat} {x : Int} (hx : S[k]? = some x) : x ∉ S.take k := by
  intro h
  obtain ⟨hk, rfl⟩ := List.getElem?_eq_some_iff.1 hx
  obtain ⟨j, hj, e⟩ := List.getElem_of_mem h
  rw [List.length_take] at hj
  rw [List.getElem_take] at e
  have := (List.getElem_inj (h₀ := by omega) (h₁ := hk) hn).1 e
  omega
set_option maxRecDepth 100000 in
set_option maxHeartbeats 16000000 in
theorem whole_law {w : World} {vw vr : Value} {ws : List Wn} {l : List Rn} (now free holder : Int) (hv : Rd 3 vw ws.length (ws.flatMap encW) w) (hr : Rd 2 vr l.length (l.flatMap encR) w)
    (hws : ws.length * 24 ≤ 140737488351232) (hl : l.length * 16 ≤ 140737488351232) :
    Calls Try.prog 8 #[.agg #[.int .i64 now, .int .i64 free, vw, .int .i64 holder, vr]] w fun e w' => e = .returned (.bool true) ∧ Below w.heap.size w w' := by
  have hW : ∀ L, Wants w L vw ws := fun L W H => rd_old H hv
  have hR : ∀ L, Runs w L vr l := fun L W H => rd_old H hr
  have hl2 : l.length ≤ 8796093021952 := by omega
  obtain ⟨A, c, rfl, hc1, hc2⟩ := rd_shape hv
  obtain ⟨B, d, rfl, hd1, hd2⟩ := rd_shape hr
  unfold maxLen at hc2 hd2
  have H0 := HL.allocA (HL.start w) now free (.slice A ws.length c) holder (.slice B l.length d)
  cases hm : mayB now free ws holder l with
  | false =>
    have hP := fun W (H : HL w W [boxA w.heap.size now free (.slice A ws.length c) holder (.slice B l.length d)]) => pass_no H (hW _) (hR _) hl2 now free holder hm
    simp only [planV] at hP
    go_enter Try.func8, Try.ntmps8
    go_wp2_with (first
      | (go_at_call 23; refine (shown15_ok H0).mono ?_; rintro e w1 ⟨rfl, H1⟩; clear H0; obtain ⟨a0, a1, a2, a3, a4⟩ := boxA_cells H1)
      | (go_at_call 28; refine (hP _ H1).mono ?_; rintro e w2 ⟨rfl, H2⟩; clear H1 a0 a1 a2 a3 a4))
    go_ret
    exact ⟨rfl, (HL.allocP H2 (.slice none 0 0) 0 0 0).below⟩
  | true =>
    have hP := fun W (H : HL w W [boxA w.heap.size now free (.slice A ws.length c) holder (.slice B l.length d)]) => pass_ok H (hW _) (hR _) hl2 now free holder hm
    simp only [planV] at hP
    obtain ⟨T, told, nohold, old, none_, held⟩ := whole hm
    obtain ⟨⟨n0, n1, f0, f1⟩, -, hww, hnd, hho⟩ := mayB_iff.1 hm
    have hfew := told.few hm
    obtain ⟨hrt, hfin, -⟩ := told.right hm
    have hbd : ∀ k, 0 ≤ sumW (T.take k) ∧ sumW (T.take k) ≤ sumW T := fun k => sumW_bd (fun x hx => ⟨(hww x hx).2.1, (hww x hx).2.2.1⟩) told.tmem k
    have hfr := (rightB_iff.1 hrt).1
    have hS : (passD now free ws holder l).starts.length = T.length := by rw [told.tstarts, List.length_map]
    generalize hC1 : passC now free ws holder l = C1 at *
    generalize hD1 : passD now free ws holder l = D1 at *
    have Told' := Lib.hid told; have Nohold := Lib.hid nohold; have Old := Lib.hid old; have None' := Lib.hid none_; have Held := Lib.hid held
    have Hww := Lib.hid hww; have Hnd := Lib.hid hnd; have Hho := Lib.hid hho; have Hrt := Lib.hid hrt; have Hfin := Lib.hid hfin; have Hbd := Lib.hid hbd; have HSl := Lib.hid hS
    have hT2 : 0 ≤ free - sumW T := by rw [← told.tfree]; exact hfr
    clear told nohold old none_ held hww hnd hho hrt hfin hbd hm hC1 hD1 hfr hS
    go_enter Try.func8, Try.ntmps8
    go_wp2_with (first
      | (go_at_call 23; refine (shown15_ok H0).mono ?_; rintro e w1 ⟨rfl, H1⟩; clear H0; obtain ⟨a0, a1, a2, a3, a4⟩ := boxA_cells H1)
      | (go_at_call 28; refine (hP _ H1).mono ?_; rintro e w2 ⟨u2, rfl, H2⟩; clear H1 a0 a1 a2 a3 a4 hP; obtain ⟨A2, c2, e2, -, hn2, hc2'⟩ := row_shape (show w2.ownsRow w.heap.size 3 1 u2 _ _ from H2.head); rw [HSl.out] at e2 hn2; subst e2; have H3 := HL.allocP H2 (.slice A2 T.length c2) C1.holder C1.shadow C1.extra; have H4 := emptyRuns H3; rw [World.size_alloc] at H4; obtain ⟨-, a1, -, -, -⟩ := boxA_cells (H3.sel 3 [2]); obtain ⟨-, -, -, -, a4⟩ := boxA_cells (H4.sel 4 [3]); have hr4 := hR _ _ (H3.alloc' (.cells #[] 42)))
      | (at_builtin; refine append_runs (v := .slice (some ⟨w2.heap.size + 1, 0, none⟩) 0 0) (xv := .slice B l.length d) (xs := []) (ys := l) rfl _ _ rfl H4 rfl rfl hr4 (by simp only [List.length_nil]; omega) ?_; intro z5 w5 H5; clear H4 hr4 H2 H3 a1 a4; rw [List.nil_append] at H5; generalize w2.heap.size = b3 at *))
    go_loopg [7, 5, 6] T.length (fun g i fr rn wr => ∃ k : Nat, i = .int .i64 k ∧ k + g = T.length ∧ fr = .int .i64 (free - sumW (T.take k)) ∧ HL w wr [runsAt w.heap.size rn (l ++ (T.take k).map (runOf now)), boxP b3 (.slice A2 T.length c2) C1.holder C1.shadow C1.extra, intsR w.heap.size (.slice A2 T.length c2) D1.starts, boxA w.heap.size now free (.slice A ws.length c) holder (.slice B l.length d)])
    case atStart => exact ⟨0, rfl, by omega, by simp [sumW], by simpa using H5⟩
    case round =>
      obtain ⟨k, rfl, hk, rfl, HK⟩ := hrel
      clear H5
      obtain ⟨p0, p1, p2, p3⟩ := boxP_cells (HK.sel 4 [1])
      by_cases hlt : k < T.length
      · obtain ⟨x, hx⟩ : ∃ x, T[k]? = some x := ⟨_, List.getElem?_eq_getElem hlt⟩
        have hsx : D1.starts[k]? = some x.job := by rw [Told'.out.tstarts, List.getElem?_map, hx]; rfl
        have hxw := Told'.out.tmem x (List.mem_of_getElem? hx)
        obtain ⟨b2, o2, cc2, hv2, el⟩ := int_at (rdInts (HK.sel 4 [2])) hsx
        simp only [Value.slice.injEq] at hv2
        obtain ⟨rfl, hv2, -⟩ := hv2
        have hwant := wantL_mem Hnd.out hxw
        have hSs : ∀ w', HL w w' [runsAt w.heap.size u6 (l ++ (T.take k).map (runOf now)), boxP b3 (.slice (some ⟨b2, o2, none⟩) T.length c2) C1.holder C1.shadow C1.extra, intsR w.heap.size (.slice (some ⟨b2, o2, none⟩) T.length c2) D1.starts, boxA w.heap.size now free (.slice A ws.length c) holder (.slice B l.length d)] → w'.cell? ⟨w.heap.size, 2, none⟩ = some (.slice A ws.length c) ∧ w'.cell? ⟨b3, 0, none⟩ = some (.slice (some ⟨b2, o2, none⟩) T.length c2) ∧ w'.cell? ⟨b2, o2 + k, none⟩ = some (.int .i64 x.job) := fun w' H => ⟨(boxA_cells (H.sel 4 [3])).2.2.1, (boxP_cells (H.sel 4 [1])).1, by
          obtain ⟨b', o', c', hv', el'⟩ := int_at (rdInts (H.sel 4 [2])) hsx
          simp only [Value.slice.injEq, Option.some.injEq, Addr.mk.injEq] at hv'
          obtain ⟨⟨rfl, rfl, -⟩, -, -⟩ := hv'
          exact el'⟩
        have Hx := Lib.hid hx; have Hxw := Lib.hid hxw
        have Hok := Lib.hid (Hww.out x hxw); have Hsx := Lib.hid hsx
        have hw1 := fun W (H : HL w W [runsAt w.heap.size u6 (l ++ (T.take k).map (runOf now)), boxP b3 (.slice (some ⟨b2, o2, none⟩) T.length c2) C1.holder C1.shadow C1.extra, intsR w.heap.size (.slice (some ⟨b2, o2, none⟩) T.length c2) D1.starts, boxA w.heap.size now free (.slice A ws.length c) holder (.slice B l.length d)]) => want_ok H (hW _) x.job
        have hw2 := fun W (H : HL w W (boxW wr.heap.size ⟨0, 0, 0⟩ :: [runsAt w.heap.size u6 (l ++ (T.take k).map (runOf now)), boxP b3 (.slice (some ⟨b2, o2, none⟩) T.length c2) C1.holder C1.shadow C1.extra, intsR w.heap.size (.slice (some ⟨b2, o2, none⟩) T.length c2) D1.starts, boxA w.heap.size now free (.slice A ws.length c) holder (.slice B l.length d)])) => want_ok H (hW _) x.job
        rw [hwant] at hw1 hw2
        simp only [Option.getD_some, Option.isSome_some, wnV] at hw1 hw2
        have HSs := Lib.hid hSs
        clear hx hsx hxw hwant hv2 el hSs p1 p2 p3
        go_wp2
        go_cut [8, 9] (fun s8 s9 wc => ∃ b8, s8 = .pointer (some ⟨b8, 0, none⟩) ∧ s9 = .bool true ∧ HL w wc (boxW b8 x :: [runsAt w.heap.size u6 (l ++ (T.take k).map (runOf now)), boxP b3 (.slice (some ⟨b2, o2, none⟩) T.length c2) C1.holder C1.shadow C1.extra, intsR w.heap.size (.slice (some ⟨b2, o2, none⟩) T.length c2) D1.starts, boxA w.heap.size now free (.slice A ws.length c) holder (.slice B l.length d)]))
        case first =>
          have HD := HK.drew
          have HE := (HL.allocW HK ⟨0, 0, 0⟩).drew
          have S1 := HSs.out _ HD
          have S2 := HSs.out _ HE.tail
          go_region_held3 (fun w' => w'.cell? ⟨w.heap.size, 2, none⟩ = some (.slice A ws.length c) ∧ w'.cell? ⟨b3, 0, none⟩ = some (.slice (some ⟨b2, o2, none⟩) T.length c2) ∧ w'.cell? ⟨b2, o2 + k, none⟩ = some (.int .i64 x.job)) (first | assumption | (exact S3) | (exact S4) | (exact S5) | go_keep)
           ((go_at_call 29; first
              | ((with_reducible refine (hw1 _ HD).mono ?_); rintro e w6 ⟨rfl, H6⟩; have S3 := HSs.out _ H6; have H7 := HL.allocW H6 x; have S4 := HSs.out _ H7.tail; have S5 := HSs.out _ (HL.allocW H6 ⟨0, 0, 0⟩).tail)
              | ((with_reducible refine (hw2 _ HE).mono ?_); rintro e w6 ⟨rfl, H6⟩; have S3 := HSs.out _ H6.tail; obtain ⟨z0, z1, z2⟩ := boxW_cells H6; have y0 := HL.frozen H6 0; have y1 := HL.frozen H6 1; have y2 := HL.frozen H6 2; have H7 := ((HL.setCell H6 0 (.int .i64 x.job)).setCell 1 (.int .i64 x.nodes)).setCell 2 (.int .i64 x.limit); have S4 := HSs.out _ H7.tail; have S5 := S4)))
          all_goals
           go_wp2
           go_meet
           case rel => exact ⟨_, rfl, rfl, H7⟩
        case rest =>
          obtain ⟨b8, rfl, rfl, H8⟩ := hcut
          have hnot := not_in_take (by rw [Told'.out.tstarts]; exact Told'.out.tnodup) Hsx.out
          have hfit := Told'.out.tfits k x Hx.out
          have hbk := Hbd.out k
          have okx := Hok.out
          have hne : (x.job == C1.holder) = false := by rw [beq_eq_false_iff_ne]; exact Nohold.out x (List.mem_of_getElem? Hx.out)
          have hne2 : decide (x.job = C1.holder) = false := decide_eq_false (Nohold.out x (List.mem_of_getElem? Hx.out))
          have hft : decide (free - sumW (T.take k) < x.nodes) = false := decide_eq_false (by omega)
          have hkl : (D1.starts.take k).length = k := by rw [List.length_take, HSl.out]; omega
          have hhas := fun W (H : HL w W (boxW b8 x :: [runsAt w.heap.size u6 (l ++ (T.take k).map (runOf now)), boxP b3 (.slice (some ⟨b2, o2, none⟩) T.length c2) C1.holder C1.shadow C1.extra, intsR w.heap.size (.slice (some ⟨b2, o2, none⟩) T.length c2) D1.starts, boxA w.heap.size now free (.slice A ws.length c) holder (.slice B l.length d)])) => has_ok H (show Ints w _ (.slice (some ⟨b2, o2, none⟩) k c2) (D1.starts.take k) from fun W H => (by
            have H' : HL w W (intsR w.heap.size (.slice (some ⟨b2, o2, none⟩) T.length c2) D1.starts :: _) := H.sel 5 [3]
            rw [← List.take_append_drop k D1.starts] at H'
            have h := entIntsPre H' (by rw [List.take_append_drop]; exact HSl.out)
            rwa [hkl] at h ⊢)) x.job
          rw [decide_eq_false hnot] at hhas
          have hsl : sumW (T.take (k + 1)) = sumW (T.take k) + x.nodes := by rw [take_succ_at Hx.out, sumW_append]; simp only [sumW]; omega
          have hrl : l ++ (T.take (k + 1)).map (runOf now) = (l ++ (T.take k).map (runOf now)) ++ [runOf now x] := by rw [take_succ_at Hx.out, List.map_append, List.append_assoc]; rfl
          have hbl : (l ++ (T.take k).map (runOf now)).length + [runOf now x].length ≤ 8796093022208 := by simp only [List.length_append, List.length_map, List.length_cons, List.length_nil, List.length_take]; omega
          have Hsl2 := Lib.hid hsl; have Hrl := Lib.hid hrl
          obtain ⟨x0, x1, x2⟩ := boxW_cells H8
          obtain ⟨p0, p1, -, -⟩ := boxP_cells (H8.sel 5 [2])
          clear hnot hfit hsl hrl
          go_wp2
          refine wp_region_plan [(9, 3), (11, 1)] (by kernel_rfl) (by kernel_rfl) ⟨fun w' => ∃ k, w' = wc.drewN k, ⟨1, rfl⟩, ?_⟩
          simp only [List.take_succ_cons, List.take_zero, List.drop_succ_cons, List.drop_zero]
          repeat (go_big_quiet_step ((fail)))
          refine wpQuiet_nil ?_
          rintro _ ⟨nq, rfl⟩
          have H9 := H8.drewN nq
          clear H8 x0 x1 x2 p0 p1
          go_wp2_with (go_at_call 30; refine (hhas _ H9).mono ?_; rintro e w10 ⟨rfl, H10⟩; clear hhas H9)
          obtain ⟨x0, x1, x2⟩ := boxW_cells H10
          obtain ⟨p0, p1, -, -⟩ := boxP_cells (H10.sel 5 [2])
          refine ⟨fun w' => ∃ k, w' = w10.drewN k, ⟨0, rfl⟩, ?_⟩
          simp only [List.take_succ_cons, List.take_zero, List.drop_succ_cons, List.drop_zero]
          repeat (go_big_quiet_step ((fail)))
          refine wpQuiet_nil ?_
          rintro _ ⟨nr, rfl⟩
          have H11 := H10.drewN nr
          clear H10 x0 x1 x2 p0 p1
          generalize World.drewN w10 nr = W11 at *
          obtain ⟨x0, x1, x2⟩ := boxW_cells H11
          obtain ⟨a0, -, -, -, -⟩ := boxA_cells (H11.sel 5 [4])
          have HA := (H11.sel 5 [1, 2, 3, 4]).alloc' (.cells #[.int .i64 x.nodes, .int .i64 (now + x.limit)] 42)
          have hr2 := rd_run (w := W11) (x := runOf now x)
          go_wp2
          unfold wpPlan
          go_wp2_with (at_builtin; refine append_runs (v := u6) (xv := .slice (some ⟨W11.heap.size, 0, none⟩) 1 1) (xs := l ++ (T.take k).map (runOf now)) (ys := [runOf now x]) rfl _ _ rfl HA rfl rfl hr2 hbl ?_; intro z12 w12 H12; clear HA hr2)
          go_roundg (gk - 1)
          case measure => omega
          case rel => exact ⟨k + 1, by go_num, by omega, by rw [Hsl2.out]; congr 1; omega, by rw [Hrl.out]; exact H12⟩
      · obtain rfl : k = T.length := by omega
        rw [List.take_length, ← Told'.out.truns] at HK
        rw [List.take_length, ← Told'.out.tfree]
        rw [← Told'.out.tfree] at hT2
        clear hlt p0 p1 p2 p3
        obtain ⟨-, a1, a2, a3, -⟩ := boxA_cells (HK.sel 4 [3])
        obtain ⟨p0, -, -, -⟩ := boxP_cells (HK.sel 4 [1])
        have hO := want_ok HK (hW _) holder
        obtain ⟨o, ho⟩ : ∃ o, wantL ws holder = o := ⟨_, rfl⟩
        rw [ho] at hO
        simp only [wnV] at hO
        have HO := Lib.hid ho; clear ho
        go_wp2_with (go_at_call 29; refine hO.mono ?_; rintro e w6 ⟨rfl, H6⟩; clear hO HK a1 a2 a3 p0; have HX := HL.allocW H6 (o.getD ⟨0, 0, 0⟩); obtain ⟨x0, x1, x2⟩ := boxW_cells HX; obtain ⟨a0, a1, -, a3, -⟩ := boxA_cells (HX.sel 5 [4]); obtain ⟨p0, p1, -, -⟩ := boxP_cells (HX.sel 5 [2]))
        generalize World.alloc w6 _ = W6 at *
        generalize w6.heap.size = b10 at *
        go_cut [155] (fun s155 wc => s155 = .bool false ∧ HL w wc [boxW b10 (o.getD ⟨0, 0, 0⟩), runsAt w.heap.size u6 D1.runs, boxP b3 (.slice A2 T.length c2) C1.holder C1.shadow C1.extra, intsR w.heap.size (.slice A2 T.length c2) D1.starts, boxA w.heap.size now free (.slice A ws.length c) holder (.slice B l.length d)])
        case first =>
          cases o with
          | none =>
            simp only [Option.getD_none] at x0 x1 x2 HX ⊢
            rw [show (none : Option Wn).isSome = false from rfl]
            refine wp_region_cut 40 (by kernel_rfl) (by kernel_rfl) ?_
            simp only [List.take_succ_cons, List.take_zero, List.drop_succ_cons, List.drop_zero]
            repeat (go_big_quiet_step ((fail)))
            refine wpQuiet_nil ?_
            intro nq
            go_wp2
            go_meet
            case rel => exact ⟨rfl, HX.drewN nq⟩
          | some x =>
            simp only [Option.getD_some] at x0 x1 x2 HX ⊢
            rw [show (some x : Option Wn).isSome = true from rfl]
            have hxm : x ∈ ws := List.mem_of_find?_eq_some HO.out
            have hxj : x.job = holder := by have := List.find?_some HO.out; simpa using this
            obtain ⟨o1, o2⟩ := Old.out x hxm hxj
            by_cases hf : x.nodes ≤ free
            · obtain ⟨T', hT'⟩ := o1 hf
              have hS0 : D1.starts[0]? = some holder := by rw [Told'.out.tstarts, hT', List.map_cons, hxj]; rfl
              obtain ⟨b2, o2', cc2, hv2, el⟩ := int_at (rdInts (HX.sel 5 [3])) hS0
              simp only [Value.slice.injEq] at hv2
              obtain ⟨rfl, -, -⟩ := hv2
              have hlen : 1 ≤ T.length := by rw [hT']; simp
              have z1 : ((T.length : Int) == 0) = false := by rw [beq_eq_false_iff_ne]; omega
              have z2 : decide ((T.length : Int) = 0) = false := decide_eq_false (by omega)
              have z3 : decide (x.nodes ≤ free) = true := decide_eq_true hf
              have z4 : decide (free < x.nodes) = false := decide_eq_false (by omega)
              rw [Nat.add_zero] at el
              clear hT' o1 o2 hS0 hf
              refine wp_region_cut 40 (by kernel_rfl) (by kernel_rfl) ?_
              simp only [List.take_succ_cons, List.take_zero, List.drop_succ_cons, List.drop_zero]
              repeat (go_big_quiet_step ((fail)))
              refine wpQuiet_nil ?_
              intro nq
              go_wp2
              go_meet
              case rel => exact ⟨rfl, HX.drewN nq⟩
            · have hC := o2 (by omega)
              have z3 : decide (x.nodes ≤ free) = false := decide_eq_false hf
              have z4 : decide (free < x.nodes) = true := decide_eq_true (by omega)
              have z5 : (C1.holder != holder) = false := by rw [hC]; simp
              have z6 : (C1.holder == holder) = true := by rw [hC]; simp
              have z7 : decide (C1.holder = holder) = true := decide_eq_true hC
              clear hC o1 o2 hf
              refine wp_region_cut 40 (by kernel_rfl) (by kernel_rfl) ?_
              simp only [List.take_succ_cons, List.take_zero, List.drop_succ_cons, List.drop_zero]
              repeat (go_big_quiet_step ((fail)))
              refine wpQuiet_nil ?_
              intro nq
              go_wp2
              go_meet
              case rel => exact ⟨rfl, HX.drewN nq⟩
        case rest =>
          obtain ⟨rfl, HR⟩ := hcut
          clear HX x0 x1 x2 a0 a1 a3 p0 p1 H6
          obtain ⟨p0, p1, p2, p3⟩ := boxP_cells (HR.sel 5 [2])
          obtain ⟨-, -, a2, -, -⟩ := boxA_cells (HR.sel 5 [4])
          by_cases hC : C1.holder < 0
          · obtain ⟨e1, e2, e3, e4⟩ := None'.out hC
            have z1 : (C1.holder == -1) = true := by rw [e1]; rfl
            have z2 : (C1.shadow == 0) = true := by rw [e2]; rfl
            have z3 : (C1.extra == 0) = true := by rw [e3]; rfl
            have z4 : ((T.length : Int) == ws.length) = true := by rw [e4]; simp
            have y1 : decide (C1.holder = -1) = true := decide_eq_true e1
            have y2 : decide (C1.shadow = 0) = true := decide_eq_true e2
            have y3 : decide (C1.extra = 0) = true := decide_eq_true e3
            have y4 : decide ((T.length : Int) = ws.length) = true := decide_eq_true (by rw [e4])
            clear e1 e2 e3 e4
            go_wp2
            go_ret
            exact ⟨rfl, HR.below⟩
          · obtain ⟨h, hh, hj, hfree, more, hsd, hle, hall⟩ := Held.out (by omega)
            have hO2 := want_ok HR (hW _) C1.holder
            rw [show wantL ws C1.holder = some h by rw [← hj]; exact wantL_mem Hnd.out hh] at hO2
            simp only [Option.getD_some, Option.isSome_some, wnV] at hO2
            have hroom := stepsAll_room (free := D1.free) n0 (by omega) Hfin.out
            have hlen : D1.runs.length ≤ 8796093022208 := by rw [Told'.out.truns, List.length_append, List.length_map]; omega
            have hsh := fun W b12 (H : HL w W [boxW b12 h, boxW b10 (o.getD ⟨0, 0, 0⟩), runsAt w.heap.size u6 D1.runs, boxP b3 (.slice A2 T.length c2) C1.holder C1.shadow C1.extra, intsR w.heap.size (.slice A2 T.length c2) D1.starts, boxA w.heap.size now free (.slice A ws.length c) holder (.slice B l.length d)]) => Ref.shadow_ok2 now D1.free h.nodes hroom H (show Runs w _ u6 D1.runs from fun W H => rd_row (H.sel 3 [2]).head) hlen
            rw [hsd] at hsh
            simp only [shV] at hsh
            have Hall := Lib.hid hall; have Hj := Lib.hid hj
            clear hroom hsd hall hh hj hlen
            go_wp2_with (first
              | (go_at_call 29; refine hO2.mono ?_; rintro e w7 ⟨rfl, H7⟩; clear hO2 HR a2 p0 p1 p2 p3; have HY := HL.allocW H7 h; obtain ⟨y0, y1, y2⟩ := boxW_cells HY; obtain ⟨a0, -, -, -, -⟩ := boxA_cells (HY.sel 6 [5]))
              | (go_at_call 17; refine (hsh _ _ HY).mono ?_; rintro e w8 ⟨rfl, H8⟩; clear hsh HY y0 y1 y2 a0; generalize w7.heap.size = b12 at *; obtain ⟨p0, p1, p2, p3⟩ := boxP_cells (H8.sel 6 [3])))
            clear p0 p1 p2 p3
            go_loopg [16] ws.length (fun g i wr => ∃ k : Nat, i = .int .i64 k ∧ k + g = ws.length ∧ HL w wr [boxW b12 h, boxW b10 (o.getD ⟨0, 0, 0⟩), runsAt w.heap.size u6 D1.runs, boxP b3 (.slice A2 T.length c2) C1.holder C1.shadow C1.extra, intsR w.heap.size (.slice A2 T.length c2) D1.starts, boxA w.heap.size now free (.slice A ws.length c) holder (.slice B l.length d)])
            case atStart => exact ⟨0, rfl, by omega, H8⟩
            case round =>
              obtain ⟨k, rfl, hk, HK⟩ := hrel
              clear H8
              obtain ⟨a0, -, a2, -, -⟩ := boxA_cells (HK.sel 6 [5])
              by_cases hlt : k < ws.length
              · obtain ⟨x, hx⟩ : ∃ x, ws[k]? = some x := ⟨_, List.getElem?_eq_getElem hlt⟩
                have hxm := List.mem_of_getElem? hx
                have okx := Hww.out x hxm
                obtain ⟨b, o', c', hv', d0, d1, d2⟩ := wn_at (hW _ wr HK) hx
                simp only [Value.slice.injEq] at hv'
                obtain ⟨rfl, -, rfl⟩ := hv'
                have HM := HL.allocW HK x
                obtain ⟨x0, x1, x2⟩ := boxW_cells HM
                obtain ⟨a0, -, -, -, -⟩ := boxA_cells (HM.sel 7 [6])
                obtain ⟨p0, p1, p2, -⟩ := boxP_cells (HM.sel 7 [4])
                have hhas := has_ok HM (show Ints w _ (.slice A2 T.length c2) D1.starts from fun W H => by (have h := rdInts (H.sel 6 [5]); exact h)) x.job
                have Hxm := Lib.hid hxm; have Hx := Lib.hid hx
                clear hx hxm
                by_cases c1 : x.job = C1.holder
                · have z1 : (x.job == C1.holder) = true := by rw [c1]; simp
                  have z2 : decide (x.job = C1.holder) = true := decide_eq_true c1
                  clear c1
                  go_wp2
                  go_roundg (gk - 1)
                  case measure => omega
                  case rel => exact ⟨k + 1, by go_num, by omega, HM.sel 7 [1, 2, 3, 4, 5, 6]⟩
                have z1 : (x.job == C1.holder) = false := by rw [beq_eq_false_iff_ne]; exact c1
                have z2 : decide (x.job = C1.holder) = false := decide_eq_false c1
                by_cases c2 : x.job ∈ D1.starts
                · rw [decide_eq_true c2] at hhas
                  clear c1 c2
                  go_wp2_with (go_at_call 30; refine hhas.mono ?_; rintro e w9 ⟨rfl, H9⟩; clear hhas HM a0 x0 x1 x2 p0 p1 p2; obtain ⟨x0, x1, x2⟩ := boxW_cells H9; obtain ⟨a0, -, -, -, -⟩ := boxA_cells (H9.sel 7 [6]); obtain ⟨p0, p1, p2, -⟩ := boxP_cells (H9.sel 7 [4]))
                  go_roundg (gk - 1)
                  case measure => omega
                  case rel => exact ⟨k + 1, by go_num, by omega, H9.sel 7 [1, 2, 3, 4, 5, 6]⟩
                rw [decide_eq_false c2] at hhas
                by_cases c3 : D1.free < x.nodes
                · clear c1 c2
                  go_wp2_with (go_at_call 30; refine hhas.mono ?_; rintro e w9 ⟨rfl, H9⟩; clear hhas HM a0 x0 x1 x2 p0 p1 p2; obtain ⟨x0, x1, x2⟩ := boxW_cells H9; obtain ⟨a0, -, -, -, -⟩ := boxA_cells (H9.sel 7 [6]); obtain ⟨p0, p1, p2, -⟩ := boxP_cells (H9.sel 7 [4]))
                  go_roundg (gk - 1)
                  case measure => omega
                  case rel => exact ⟨k + 1, by go_num, by omega, H9.sel 7 [1, 2, 3, 4, 5, 6]⟩
                obtain ⟨g1, g2⟩ := Hall.out x Hxm.out c1 c2 (by omega)
                have g3 : C1.shadow < now + x.limit := by omega
                have g4 : more < x.nodes := by omega
                clear c1 c2 g1 g2
                go_wp2_with (go_at_call 30; refine hhas.mono ?_; rintro e w9 ⟨rfl, H9⟩; clear hhas HM a0 x0 x1 x2 p0 p1 p2; obtain ⟨x0, x1, x2⟩ := boxW_cells H9; obtain ⟨a0, -, -, -, -⟩ := boxA_cells (H9.sel 7 [6]); obtain ⟨p0, p1, p2, -⟩ := boxP_cells (H9.sel 7 [4]))
                go_roundg (gk - 1)
                case measure => omega
                case rel => exact ⟨k + 1, by go_num, by omega, H9.sel 7 [1, 2, 3, 4, 5, 6]⟩
              · go_wp2
                go_ret
                exact ⟨rfl, HK.below⟩
end Go.Proofs.Ytebibcaahjmjfaa

/- The law ProfileRises. -/
import Derived.Test.YtebibcaahjmjfaaPrShown
set_option linter.unusedVariables false
set_option linter.unusedSimpArgs false
namespace Go.Proofs.Ytebibcaahjmjfaa
open Go.RowKit Go.Proofs.HL Go.Proofs.HL.Pr

theorem stepsAll_cases (now free : Int) (l : List Rn) : (rightB free l = true ∧ stepsAll now free l = stepsS now free l) ∨ (stepsAll now free l = [] ∧ ∀ t need, atAll now free l t = 0 ∧ shadowAll now free l need = (0, 0, false)) := by
  by_cases hf : rightB free l = true
  · exact .inl ⟨hf, by unfold stepsAll; rw [if_pos hf]⟩
  · refine .inr ⟨by unfold stepsAll; rw [if_neg hf], fun t need => ⟨by unfold atAll; rw [if_neg (fun h => hf h.1)], ?_⟩⟩
    unfold shadowAll stepsAll
    rw [if_neg hf]
    simp [shadowL]

set_option maxRecDepth 100000 in
set_option maxHeartbeats 4000000 in
theorem rises_law {w : World} {v : Value} {l : List Rn} (hv : Rd 2 v l.length (l.flatMap encR) w) (hl : l.length ≤ 8796093021952) (now free t need : Int) :
    Calls Try.prog 5 #[.int .i64 now, .int .i64 free, v, .int .i64 t, .int .i64 need] w fun e w' => e = .returned (.bool true) ∧ Below w.heap.size w w' := by
  have hR : ∀ L, Runs w L v l := fun L W H => rd_old H hv
  obtain ⟨A, c, rfl, hc1, hc2⟩ := rd_shape hv
  unfold maxLen at hc2
  have hs := stepsAll_cases now free l
  rcases hs with ⟨hf, hst⟩ | ⟨hst, hz⟩
  · have hsh : shadowAll now free l need = if need < 0 then (0, 0, false) else shadowL need (stepsS now free l) := by unfold shadowAll; rw [hst]
    have hat : atAll now free l t = wantL t 0 (stepsS now free l) := by rw [← goA_all, hst, wantL_goA (riseS hf)]
    have hrise := riseS (now := now) hf
    have hlast := fun x => lastS (now := now) (free := free) (l := l) (x := x)
    have hx0 : (stepsS now free l)[0]? = some ⟨now, atS free l now⟩ := rfl
    have hlen := stepsS_length now free l
    have hbd := stepsS_bd (now := now) hf
    have hsteps := fun L W (H : HL w W L) => steps_ok H (hR L) hl now free
    rw [hst] at hsteps
    generalize stepsS now free l = T at *
    generalize hZ : shadowAll now free l need = Z at *
    obtain ⟨z1, z2, z3⟩ := Z
    generalize hY : atAll now free l t = Y at *
    have Hsh := Lib.hid hsh; have Hat := Lib.hid hat; have Hr := Lib.hid hrise; have Hlast := Lib.hid hlast; have Hx0 := Lib.hid hx0; have Hbd := Lib.hid hbd; have Hf := Lib.hid hf
    have HY := Lib.hid hY; have HZ := Lib.hid hZ
    have h1 : 1 ≤ T.length := (List.getElem?_eq_some_iff.1 hx0).1
    clear hsh hat hrise hlast hx0 hbd hst hY hZ hf
    go_enter Try.func5, Try.ntmps5
    go_wp2_with (first
      | (go_at_call 12; refine (shown_ok (HL.start w)).mono ?_; rintro e w1 ⟨rfl, H⟩)
      | (go_at_call 14; refine (hsteps _ _ H).mono ?_; rintro e w2 ⟨u, rfl, H2⟩; clear H hsteps; obtain ⟨B, d, hu, hd1, hd2⟩ := rd_shape (ownStps H2); subst hu; unfold maxLen at hd2)
      | (go_at_call 16; refine (shadow_ok H2 (hR _) hl _ _ _).mono ?_; rw [HZ.out]; simp only [shV]; rintro e w3 ⟨rfl, H3⟩; clear H2))
    have Hlen : Hid (T.length ≤ l.length + 1) := Lib.hid hlen
    have hr3 := hR _ w3 H3
    go_loop [15, 16] (fun a i => ∃ k : Nat, i = .int .i64 k ∧ k ≤ l.length ∧ a = .int .i64 (free + sumN (l.take k))) (fun _ i => l.length - (intOf i).toNat)
    case atStart => exact ⟨0, rfl, by omega, by simp [sumN]⟩
    case round =>
      obtain ⟨k, rfl, hk, rfl⟩ := hrel
      by_cases hlt : k < l.length
      · obtain ⟨x, hx⟩ : ∃ x, l[k]? = some x := ⟨_, List.getElem?_eq_getElem hlt⟩
        obtain ⟨b, o, c', hv', d0, d1⟩ := run_at hr3 hx
        simp only [Value.slice.injEq] at hv'
        obtain ⟨rfl, -, rfl⟩ := hv'
        have hb1 := sumN_take_bd Hf.out k
        have hb2 := ((rightB_iff.1 Hf.out).2.2 x (List.mem_of_getElem? hx))
        have Hs := Lib.hid (sumN_take_succ hx)
        clear hx
        go_wp2
        go_round
        case rel => exact ⟨k + 1, by go_num, by omega, by rw [Hs.out]; go_num⟩
        case measure => simp [intOf]; omega
      · obtain ⟨n, hn⟩ : ∃ n, T.length = n + 1 := ⟨T.length - 1, by omega⟩
        have hkn : l.take k = l := List.take_of_length_le (by omega)
        obtain ⟨y, hy⟩ : ∃ y, T[n]? = some y := ⟨_, List.getElem?_eq_getElem (by omega)⟩
        have hyf := Hlast.out y (by rw [hn]; exact hy)
        obtain ⟨b, o, c', hv', d0, -⟩ := stp_at (ownStps H3) Hx0.out
        simp only [Value.slice.injEq] at hv'
        obtain ⟨rfl, -, rfl⟩ := hv'
        obtain ⟨b1, o1, c1', hv', -, d1⟩ := stp_at (ownStps H3) hy
        simp only [Value.slice.injEq, Option.some.injEq, Addr.mk.injEq] at hv'
        obtain ⟨⟨rfl, rfl, -⟩, -, rfl⟩ := hv'
        rw [Nat.zero_mul, Nat.add_zero] at d0
        rw [hyf] at d1
        rw [hkn]
        simp only [hn] at hd1 H3 ⊢
        have Hn := Lib.hid hn
        clear hn hkn hyf hy hlen h1 hr3
        go_wp2
        clear d0 d1
        go_loopg [17, 18, 19] (n + 1) (fun g wv f i wr => ∃ (k : Nat) (wz fz : Int), i = .int .i64 k ∧ k + g = n + 1 ∧ wv = .int .i64 wz ∧ f = .int .i64 fz ∧ wantL t 0 T = wantL t wz (T.drop k) ∧ FirstAt need T k fz ∧ HL w wr [stpsAt w.heap.size (.slice (some ⟨b, o, none⟩) (n + 1) d) T])
        case atStart => exact ⟨0, 0, -1, rfl, by omega, rfl, rfl, rfl, .inl ⟨rfl, fun _ => rfl⟩, H3⟩
        case round =>
          obtain ⟨k2, wz, fz, rfl, hk2, rfl, rfl, hw, hF, HK⟩ := hrel
          clear H3
          have hrK := ownStps HK
          by_cases hlt2 : k2 < n + 1
          · obtain ⟨x, hx⟩ : ∃ x, T[k2]? = some x := ⟨_, List.getElem?_eq_getElem (by rw [Hn.out]; exact hlt2)⟩
            obtain ⟨b1, o1, c1', hv', d0, d1⟩ := stp_at hrK hx
            simp only [Value.slice.injEq, Option.some.injEq, Addr.mk.injEq] at hv'
            obtain ⟨⟨rfl, rfl, -⟩, -, rfl⟩ := hv'
            have Hx := Lib.hid hx; have Hw := Lib.hid (hw.trans (wantL_step hx)); have HF := Lib.hid hF
            have hxb := Hbd.out x (List.mem_of_getElem? hx)
            have hst : ∀ (c : Prop), c → (fz < 0 ∧ 0 ≤ need ∧ need ≤ x.free) ∨ 0 ≤ fz ∨ (fz < 0 ∧ need < 0) ∨ (fz < 0 ∧ 0 ≤ need ∧ x.free < need) := fun _ _ => by omega
            have hcase := hst True trivial
            clear hst hx hw hF
            rcases k2 with _ | k1
            · rw [Nat.zero_mul, Nat.add_zero] at d0 d1
              clear hrK
              rcases hcase with ⟨q1, q2, q3⟩ | q1 | ⟨q1, q2⟩ | ⟨q1, q2, q3⟩
              all_goals
                by_cases hat' : x.at_ ≤ t
                all_goals
                  go_wp2
                  go_quiet (fail)
                  go_wp2
                  go_roundg (gk - 1)
                  case measure => omega
                  case rel => exact ⟨0 + 1, _, _, by go_num, by omega, rfl, rfl, by have := Hw.out; first | rwa [if_pos hat'] at this | rwa [if_neg (show ¬ x.at_ ≤ t by omega)] at this, by first | exact HF.out.found Hx.out q1 q2 q3 | exact HF.out.stay Hx.out (by omega), HK.drewN _⟩
            · obtain ⟨x', hx'⟩ : ∃ x, T[k1]? = some x := ⟨_, List.getElem?_eq_getElem (by rw [Hn.out]; omega)⟩
              obtain ⟨b1, o1, c1', hv', e0, e1⟩ := stp_at hrK hx'
              simp only [Value.slice.injEq, Option.some.injEq, Addr.mk.injEq] at hv'
              obtain ⟨⟨rfl, rfl, -⟩, -, -⟩ := hv'
              obtain ⟨r1, r2⟩ := Hr.out.next hx' Hx.out
              have hw1 : IntKind.i64.wrap ((k1 : Int) + 1 - 1) = k1 := by rw [IntWalk.i64_in _ (by omega)]; omega
              have hw2 : IntKind.i64.wrap (k1 : Int) = k1 := by rw [IntWalk.i64_in _ (by omega)]
              have hk1 : (k1 : Int) < (n : Int) + 1 := by omega
              have hdc1 : decide (x.at_ ≤ x'.at_) = false := by simp; omega
              have hdc2 : decide (x.free ≤ x'.free) = false := by simp; omega
              clear hrK hx'
              rcases hcase with ⟨q1, q2, q3⟩ | q1 | ⟨q1, q2⟩ | ⟨q1, q2, q3⟩
              all_goals
                by_cases hat' : x.at_ ≤ t
                all_goals
                  go_wp2
                  go_quiet (fail)
                  go_wp2
                  go_roundg (gk - 1)
                  case measure => omega
                  case rel => exact ⟨k1 + 1 + 1, _, _, by go_num, by omega, rfl, rfl, by have := Hw.out; first | rwa [if_pos hat'] at this | rwa [if_neg (show ¬ x.at_ ≤ t by omega)] at this, by first | exact HF.out.found Hx.out q1 q2 q3 | exact HF.out.stay Hx.out (by omega), HK.drewN _⟩
          · have hnil : T.drop k2 = [] := List.drop_eq_nil_of_le (by rw [Hn.out]; omega)
            rw [hnil] at hw
            have hYw : Y = wz := Hat.out.trans hw
            subst hYw
            have hcase : (fz = -1 ∧ z1 = 0 ∧ z2 = 0 ∧ z3 = false) ∨ ∃ (j : Nat) (y : Sp), fz = j ∧ T[j]? = some y ∧ 0 ≤ need ∧ need ≤ y.free ∧ z1 = y.at_ ∧ z2 = y.free - need ∧ z3 = true := by
              have h1 := Hsh.out
              rcases hF with ⟨hf1, hs⟩ | ⟨j, y, hf1, hy, hn1, hn2, hs⟩
              · refine .inl ⟨hf1, ?_⟩
                have h2 : (z1, z2, z3) = (0, 0, false) := by
                  rw [h1]
                  split
                  · rfl
                  · rw [hs (by omega), hnil]; rfl
                simpa using h2
              · refine .inr ⟨j, y, hf1, hy, hn1, hn2, ?_⟩
                rw [if_neg (by omega), hs] at h1
                simpa using h1
            clear hw hnil hF
            rcases hcase with ⟨rfl, rfl, rfl, rfl⟩ | ⟨j, y, rfl, hy, hn1, hn2, rfl, rfl, rfl⟩
            · clear hrK
              go_wp2_with (go_at_call 15; refine (atAll_ok HK (hR _) hl _ _ _).mono ?_; rw [HY.out]; rintro e w4 ⟨rfl, H4⟩; clear HK)
              go_ret
              exact ⟨rfl, H4.below⟩
            · have hjT : j < n + 1 := by rw [← Hn.out]; exact (List.getElem?_eq_some_iff.1 hy).1
              have hyb := Hbd.out y (List.mem_of_getElem? hy)
              have Hy := Lib.hid hy
              clear hrK hy
              go_wp2_with (go_at_call 15; refine (atAll_ok HK (hR _) hl _ _ _).mono ?_; rw [HY.out]; rintro e w4 ⟨rfl, H4⟩; clear HK;
                              obtain ⟨b1, o1, c1', hv', d0, d1⟩ := stp_at (ownStps H4) Hy.out; simp only [Value.slice.injEq, Option.some.injEq, Addr.mk.injEq] at hv'; obtain ⟨⟨e1, e2, -⟩, -, -⟩ := hv'; subst e1; subst e2)
              go_ret
              exact ⟨rfl, H4.below⟩
  · have hat := (hz t need).1
    have hsh := (hz t need).2
    have hsteps := fun L W (H : HL w W L) => steps_ok H (hR L) hl now free
    rw [hst] at hsteps
    have Hsh := Lib.hid hsh; have Hat := Lib.hid hat
    clear hst hz hat hsh
    go_enter Try.func5, Try.ntmps5
    go_wp2_with (first
      | (go_at_call 12; refine (shown_ok (HL.start w)).mono ?_; rintro e w1 ⟨rfl, H⟩)
      | (go_at_call 14; refine (hsteps _ _ H).mono ?_; rintro e w2 ⟨u, rfl, H2⟩; clear H hsteps; obtain ⟨B, d, hu, hd1, hd2⟩ := rd_shape (ownStps H2); subst hu)
      | (go_at_call 16; refine (shadow_ok H2 (hR _) hl _ _ _).mono ?_; rw [Hsh.out]; simp only [shV]; rintro e w3 ⟨rfl, H3⟩; clear H2)
      | (go_at_call 15; refine (atAll_ok H3 (hR _) hl _ _ _).mono ?_; rw [Hat.out]; rintro e w4 ⟨rfl, H4⟩; clear H3))
    go_ret
    exact ⟨rfl, H4.below⟩
end Go.Proofs.Ytebibcaahjmjfaa

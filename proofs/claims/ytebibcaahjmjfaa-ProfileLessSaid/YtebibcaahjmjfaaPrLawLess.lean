/- The law ProfileLess. -/
import Derived.Test.YtebibcaahjmjfaaPrShown
import Derived.Test.YtebibcaahjmjfaaPrPlainC
set_option linter.unusedVariables false
set_option linter.unusedSimpArgs false
namespace Go.Proofs.Ytebibcaahjmjfaa
open Go.RowKit Go.Proofs.HL Go.Proofs.HL.Pr

theorem set_fin (e : Int) : ∀ (m : List Rn) (p : Nat) (x : Rn), m[p]? = some x → (m.flatMap encR).set (p * 2 + 1) (.int .i64 e) = (m.set p ⟨x.nodes, e⟩).flatMap encR
  | [], p, x, h => by simp at h
  | y :: m, 0, x, h => by
    simp only [List.getElem?_cons_zero, Option.some.injEq] at h
    subst h
    simp [encR]
  | y :: m, p + 1, x, h => by
    simp only [List.getElem?_cons_succ] at h
    have ih := set_fin e m p x h
    rw [List.set_cons_succ, List.flatMap_cons, List.flatMap_cons, ← ih, show (p + 1) * 2 + 1 = p * 2 + 1 + 2 by omega]
    simp [encR]
theorem run_pre {W : World} {A : Option Addr} {c k : Nat} {l : List Rn} (h : Rd 2 (.slice A l.length c) l.length (l.flatMap encR) W) (hk : k ≤ l.length) : Rd 2 (.slice A k c) (l.take k).length ((l.take k).flatMap encR) W := by
  have h1 := rd_prefix h k hk
  have e : (l.flatMap encR).take (k * 2) = (l.take k).flatMap encR := by
    clear h1 h
    induction l generalizing k with
    | nil => simp
    | cons x m ih =>
      cases k with
      | zero => simp
      | succ k =>
        rw [List.take_succ_cons, List.flatMap_cons, List.flatMap_cons, ← ih (k := k) (by simpa using hk), show (k + 1) * 2 = k * 2 + 2 by omega]
        simp [encR]
  rw [e] at h1
  rw [show (l.take k).length = k by rw [List.length_take]; omega]
  exact h1
theorem run_suf {W : World} {a a' : Addr} {c lo : Nat} {l : List Rn} (h : Rd 2 (.slice (some a) l.length c) l.length (l.flatMap encR) W) (hl : lo ≤ l.length) (ha : a' = a.add (lo * 2) ∨ l.length = lo) : Rd 2 (.slice (some a') (l.length - lo) (c - lo)) (l.drop lo).length ((l.drop lo).flatMap encR) W := by
  have h1 := rd_suffix h lo hl ha
  have e : (l.flatMap encR).drop (lo * 2) = (l.drop lo).flatMap encR := by
    clear h1 h ha hl
    induction l generalizing lo with
    | nil => simp
    | cons x m ih =>
      cases lo with
      | zero => simp
      | succ k =>
        rw [List.drop_succ_cons, List.flatMap_cons, ← ih, show (k + 1) * 2 = k * 2 + 2 by omega]
        simp [encR]
  rw [e] at h1
  rw [List.length_drop]
  exact h1
/-- What stands behind the run that ends earlier. -/
def EarlyAt (w : World) (l : List Rn) (p : Nat) (x : Rn) (e : Int) (K : List At) (s24 : Value) (wc : World) : Prop :=
  ∃ (g c : Nat) (m : List Rn), s24 = .slice (some ⟨g, 0, none⟩) l.length c ∧ m.length = l.length + 1 ∧ m.take l.length = l.set p ⟨x.nodes, if e < x.fin then e else x.fin⟩ ∧ HL w wc (runsAt w.heap.size (.slice (some ⟨g, 0, none⟩) (l.length + 1) c) m :: K)

set_option maxRecDepth 100000 in
set_option maxHeartbeats 4000000 in
theorem less_law {w : World} {v : Value} {l : List Rn} (hv : Rd 2 v l.length (l.flatMap encR) w) (hl : l.length ≤ 8796093021952) (now free need which fin k : Int) :
    Calls Try.prog 6 #[.int .i64 now, .int .i64 free, v, .int .i64 need, .int .i64 which, .int .i64 fin, .int .i64 k] w fun e w' => e = .returned (.bool true) ∧ Below w.heap.size w w' := by
  have hl0 := hl
  replace hl : l.length ≤ 8796093022000 := by omega
  have hR : ∀ L, Runs w L v l := fun L W H => rd_old H hv
  obtain ⟨A, c, rfl, hc1, hc2⟩ := rd_shape hv
  unfold maxLen at hc2
  obtain ⟨⟨z1, z2, z3⟩, hZ⟩ : ∃ Z, shadowAll now free l need = Z := ⟨_, rfl⟩
  have HZ := Lib.hid hZ
  cases z3 with
  | false =>
    clear hZ
    go_enter Try.func6, Try.ntmps6
    go_wp2_with (first
      | (go_at_call 12; refine (shown_ok (HL.start w)).mono ?_; rintro e w1 ⟨rfl, H⟩)
      | (go_at_call 16; refine (shadow_ok H (hR _) hl _ _ _).mono ?_; rw [HZ.out]; simp only [shV]; rintro e w3 ⟨rfl, H3⟩; clear H))
    go_ret
    exact ⟨rfl, H3.below⟩
  | true =>
    have hrev : shadowAll now free l.reverse need = (z1, z2, true) := by rw [shadowAll_perm (List.reverse_perm l)]; exact hZ
    have Hrev := Lib.hid hrev
    clear hZ hrev
    go_enter Try.func6, Try.ntmps6
    go_wp2_with (first
      | (go_at_call 12; refine (shown_ok (HL.start w)).mono ?_; rintro e w1 ⟨rfl, H⟩)
      | (go_at_call 16; refine (shadow_ok H (hR _) hl _ _ _).mono ?_; rw [HZ.out]; simp only [shV]; rintro e w3 ⟨rfl, H3⟩; clear H; go_frame))
    have H4 := emptyRuns H3
    clear H3
    go_loopg [19, 20] l.length (fun g u i wr => ∃ j : Nat, i = .int .i64 j ∧ j + g = l.length ∧ HL w wr [runsAt w.heap.size u (l.reverse.take j)])
    case atStart => exact ⟨0, rfl, by omega, H4⟩
    case round =>
      obtain ⟨j, rfl, hj, HK⟩ := hrel
      clear H4
      by_cases hlt : j < l.length
      · obtain ⟨q, hq⟩ : ∃ q, l.length = q + j + 1 := ⟨l.length - 1 - j, by omega⟩
        obtain ⟨x, hx⟩ : ∃ x, l[q]? = some x := ⟨_, List.getElem?_eq_getElem (by omega)⟩
        obtain ⟨b, o, c', hv', d0, d1⟩ := run_at (hR _ wr HK) hx
        simp only [Value.slice.injEq] at hv'
        obtain ⟨rfl, -, rfl⟩ := hv'
        have hsub : ((l.length : Int) - 1 - j) = q := by omega
        have htk : l.reverse.take (j + 1) = l.reverse.take j ++ [x] := by
          rw [List.take_add_one, List.getElem?_reverse (by omega), show l.length - 1 - j = q by omega, hx]; rfl
        have hlk : (l.reverse.take j).length ≤ l.length := by rw [List.length_take, List.length_reverse]; omega
        have hb : (l.reverse.take j).length + [x].length ≤ 8796093022208 := by simp only [List.length_cons, List.length_nil]; omega
        have hql : q < l.length := by omega
        have HA := HK.alloc' (.cells #[.int .i64 x.nodes, .int .i64 x.fin] 42)
        have hr2 := rd_run (w := wr) (x := x)
        have Htk := Lib.hid htk
        clear hx htk hq HK
        go_wp2_with (at_builtin; refine append_runs (v := u19) (xv := .slice (some ⟨wr.heap.size, 0, none⟩) 1 1) (xs := l.reverse.take j) (ys := [x]) rfl _ _ rfl HA rfl rfl hr2 hb ?_; intro z w5 H5; clear HA hr2)
        go_roundg (gk - 1)
        case measure => omega
        case rel => exact ⟨j + 1, by go_num, by omega, by rw [Htk.out]; exact H5⟩
      · have hjn : l.reverse.take j = l.reverse := List.take_of_length_le (by rw [List.length_reverse]; omega)
        rw [hjn] at HK
        clear hjn
        obtain ⟨B, d, rfl, -, -, -⟩ := row_shape HK.head
        rw [List.length_reverse] at HK ⊢
        have hrl : l.reverse.length ≤ 8796093022000 := by rw [List.length_reverse]; exact hl
        have hb0 := shadow_right HZ.out
        obtain ⟨f1, f2, f3⟩ := rightB_iff.1 hb0.1
        have hz := shadow_true HZ.out
        have hzb := atS_bd hb0.1 z1
        obtain ⟨cb, hcb⟩ : ∃ cb : Bool, cb = (decide (0 ≤ which) && decide (which < l.length)) := ⟨_, rfl⟩
        have Hcb := Lib.hid hcb; have HF3 := Lib.hid f3; have Hz := Lib.hid hz
        have hn0 := hb0.2
        have hz2 : 0 ≤ z2 ∧ z2 ≤ 256 + 256 * (l.length : Int) := by omega
        clear hcb hb0 f3 hz hzb
        go_upto_region 15 with (go_at_call 16; ((with_reducible refine (shadow_ok HK (entRuns _) hrl _ _ _).mono ?_)); rw [Hrev.out]; simp only [shV]; rintro e w6 ⟨rfl, H6⟩; clear HK)
        go_cut [85] (fun s85 wc => s85 = .bool cb ∧ wc = w6)
        case first =>
          by_cases h0 : 0 ≤ which
          · by_cases h1 : which < l.length
            · have hc : cb = true := by rw [Hcb.out]; simp [h0, h1]
              subst hc
              go_wp2
              go_meet
              exact ⟨by first | rfl | (simp [h1]; done) | (simp; omega), rfl⟩
            · have hc : cb = false := by rw [Hcb.out]; simp [h0, h1]
              subst hc
              go_wp2
              go_meet
              exact ⟨by first | rfl | (simp; done) | (simp; omega), rfl⟩
          · have hc : cb = false := by rw [Hcb.out]; simp [h0]
            subst hc
            have hd : decide (0 ≤ which) = false := by simpa using h0
            go_wp2
            go_meet
            exact ⟨rfl, rfl⟩
        case rest =>
          obtain ⟨rfl, rfl⟩ := hcut
          go_upto_if 85 with (fail)
          go_cut [21, 22, 23, 24, 25] (fun s21 s22 s23 s24 s25 wc => ∃ K, HL w wc K)
          case first =>
            cases cb with
            | false =>
              go_wp2
              go_meet
              exact ⟨_, H6⟩
            | true =>
              have hw := Hcb.out
              simp only [Bool.true_eq, Bool.and_eq_true, decide_eq_true_eq] at hw
              obtain ⟨p, hp⟩ := Int.eq_ofNat_of_zero_le hw.1
              subst hp
              have hpl : p < l.length := by omega
              obtain ⟨x, hx⟩ : ∃ x, l[p]? = some x := ⟨_, List.getElem?_eq_getElem hpl⟩
              have hxn := HF3.out x (List.mem_of_getElem? hx)
              have Hx := Lib.hid hx
              clear hw hx
              go_upto_if 96 with (go_at_call 13; ((with_reducible refine (lend_ok H6 (hR _) hl).mono ?_)); rintro e w7 ⟨u, rfl, H7⟩; clear H6; obtain ⟨A7, c7, hu, -, hcu, hcv⟩ := row_shape H7.head; subst hu; rw [show (l ++ [mark77]).length = l.length + 1 by simp] at H7 hcu ⊢; obtain ⟨g, hg, -⟩ := rowAddr H7 (by simp); subst hg; unfold maxLen at hcv;
                                  obtain ⟨b7, o7, c8, hv7, -, d1⟩ := run_at (rd_row H7.head) (k := p) (x := x) (by rw [List.getElem?_append_left hpl]; exact Hx.out); simp only [Value.slice.injEq, Option.some.injEq, Addr.mk.injEq] at hv7; obtain ⟨⟨e1, e2, -⟩, -, -⟩ := hv7; subst e1; subst e2; rw [Nat.zero_add] at d1)
              have Hpl := Lib.hid hpl
              go_cut [24] (fun s24 wc => EarlyAt w l p x fin [runsAt w.heap.size (.slice B l.length d) l.reverse] s24 wc)
              case first =>
                have H7' : HL w w7 (row w.heap.size 42 2 (.slice (some ⟨g, 0, none⟩) (l.length + 1) c7) (l.length + 1) ((l ++ [mark77]).flatMap encR) :: [runsAt w.heap.size (.slice B l.length d) l.reverse]) := by
                  have := H7; unfold runsAt at this; rw [show (l ++ [mark77]).length = l.length + 1 by simp] at this; exact this
                have f1' := H7'.rowFrozen (List.mem_cons_self ..) (p * 2 + 1)
                have hxm : (l ++ [mark77])[p]? = some x := by rw [List.getElem?_append_left hpl]; exact Hx.out
                by_cases hlt2 : fin < x.fin
                · have HS := H7'.setRow (p * 2 + 1) (.int .i64 fin)
                  rw [set_fin fin _ p x hxm] at HS
                  have Htk : Hid (((l ++ [mark77]).set p ⟨x.nodes, fin⟩).take l.length = l.set p ⟨x.nodes, if fin < x.fin then fin else x.fin⟩) := Lib.hid (by
                    rw [if_pos hlt2, List.set_append_left _ _ hpl, List.take_left' (by simp)])
                  clear H7 H7' hxm
                  go_wp2
                  go_meet
                  refine ⟨g, c7, _, rfl, by simp, Htk.out, ?_⟩
                  unfold runsAt
                  rw [show ((l ++ [mark77]).set p ⟨x.nodes, fin⟩).length = l.length + 1 by simp]
                  exact HS
                · have Htk : Hid ((l ++ [mark77]).take l.length = l.set p ⟨x.nodes, if fin < x.fin then fin else x.fin⟩) := Lib.hid (by
                    rw [if_neg hlt2, List.take_left]
                    obtain ⟨h1, h2⟩ := List.getElem?_eq_some_iff.1 Hx.out
                    have h3 := List.set_getElem_self h1
                    rw [h2] at h3
                    exact h3.symm)
                  clear H7' hxm d1
                  go_wp2
                  go_meet
                  exact ⟨g, c7, _, rfl, by simp, Htk.out, H7⟩
              case rest =>
                obtain ⟨g2, c2, m2, rfl, hm2, htk2, H8⟩ := hcut
                have hP : Runs w (runsAt w.heap.size (.slice (some ⟨g2, 0, none⟩) (l.length + 1) c2) m2 :: [runsAt w.heap.size (.slice B l.length d) l.reverse]) (.slice (some ⟨g2, 0, none⟩) l.length c2) (l.set p ⟨x.nodes, if fin < x.fin then fin else x.fin⟩) := by
                  have := entPrefix (w0 := w) (A := some ⟨g2, 0, none⟩) (c := c2) (base := w.heap.size) (m := m2) (L' := [runsAt w.heap.size (.slice B l.length d) l.reverse]) (k := l.length) hm2.symm (by omega)
                  rwa [htk2] at this
                obtain ⟨a1, m1, he1, he2⟩ := less_early (e := fin) HZ.out Hx.out
                have hlp : (l.set p ⟨x.nodes, if fin < x.fin then fin else x.fin⟩).length ≤ 8796093022000 := by rw [List.length_set]; exact hl
                have He1 := Lib.hid he1
                clear he1 hm2 htk2 d1 H7
                obtain ⟨b, o, c', hv', -, -⟩ := run_at (hR _ wc H8) Hx.out
                simp only [Value.slice.injEq] at hv'
                obtain ⟨rfl, -, rfl⟩ := hv'
                have hb10 : ([] : List Rn).length + (l.take p).length ≤ 8796093022208 := by rw [List.length_take]; simp; omega
                have hb12 : (l.take p).length + (l.drop (p + 1)).length ≤ 8796093022208 := by rw [List.length_take, List.length_drop]; omega
                have hle : (l.eraseIdx p).length ≤ 8796093022000 := by have := List.length_eraseIdx_le l p; omega
                obtain ⟨⟨y1, y2, y3⟩, hY⟩ : ∃ Y, shadowAll now (free + x.nodes) (l.eraseIdx p) need = Y := ⟨_, rfl⟩
                have hyc : (free + x.nodes ≤ 256 ∧ y3 = true ∧ y1 ≤ z1) ∨ 256 < free + x.nodes := by
                  rcases Int.lt_or_le 256 (free + x.nodes) with h | h
                  · exact .inr h
                  · obtain ⟨a', m', h1, h2⟩ := less_gone HZ.out Hx.out h
                    rw [hY] at h1
                    simp only [Prod.mk.injEq] at h1
                    exact .inl ⟨h, h1.2.2, by omega⟩
                have HY := Lib.hid hY
                clear hY
                rcases hyc with ⟨hall, rfl, hy1⟩ | hall
                all_goals
                  by_cases hcp : c = p + 1
                · subst hcp
                  as_aux_lemma =>
                    go_wp2_with (first
                      | (go_at_call 16; ((with_reducible refine (shadow_ok H8 hP hlp _ _ _).mono ?_)); rw [He1.out]; simp only [shV]; rintro e w9 ⟨rfl, H9⟩; clear H8; have H10 := emptyRuns H9; have hr10 := run_pre (hR _ _ H10) (k := p) (by omega); clear H9)
                      | (at_builtin; refine append_runs (v := .slice (some ⟨w9.heap.size, 0, none⟩) 0 0) (xv := .slice (some ⟨b, o, none⟩) p (p + 1)) (xs := []) (ys := l.take p) rfl _ _ rfl H10 rfl rfl hr10 hb10 ?_; intro z11 w11 H12; clear H10 hr10; rw [List.nil_append] at H12; have hr12 : Rd 2 (.slice (some ⟨b, o, none⟩) (l.length - (p + 1)) 0) (l.drop (p + 1)).length ((l.drop (p + 1)).flatMap encR) w11 := (by have := run_suf (a' := ⟨b, o, none⟩) (hR _ _ H12) (lo := p + 1) (by omega) (.inr (by omega)); rwa [Nat.sub_self] at this))
                      | (at_builtin; have hr12' : Rd 2 (.slice (some ⟨b, o, none⟩) 0 0) (l.drop (p + 1)).length ((l.drop (p + 1)).flatMap encR) w11 := (by have := hr12; rwa [show l.length - (p + 1) = 0 by omega] at this); (first | refine append_runs (v := z11) (xv := (.slice (some ⟨b, o, none⟩) 0 0)) (xs := l.take p) (ys := l.drop (p + 1)) rfl _ _ rfl H12 rfl rfl hr12' hb12 ?_ | refine append_runs (v := z11) (xv := (.slice (some ⟨b, o, none⟩) (l.length - (p + 1)) 0)) (xs := l.take p) (ys := l.drop (p + 1)) rfl _ _ rfl H12 rfl rfl hr12 hb12 ?_); intro z13 w13 H13; clear H12 hr12 hr12'; rw [← List.eraseIdx_eq_take_drop_succ] at H13; obtain ⟨b9, o9, c9, hv9, e0, -⟩ := run_at (hR _ _ H13) Hx.out; simp only [Value.slice.injEq, Option.some.injEq, Addr.mk.injEq] at hv9; obtain ⟨⟨e1, e2, -⟩, -, -⟩ := hv9; subst e1; subst e2)
                      | (go_at_call 16; ((with_reducible refine (shadow_ok H13 (entRuns _) hle _ _ _).mono ?_)); rw [HY.out]; simp only [shV]; rintro e w14 ⟨rfl, H14⟩; clear H13;
                            obtain ⟨b9, o9, c9, hv9, e0, -⟩ := run_at (hR _ _ H14) Hx.out; simp only [Value.slice.injEq, Option.some.injEq, Addr.mk.injEq] at hv9; obtain ⟨⟨e1, e2, -⟩, -, -⟩ := hv9; subst e1; subst e2))
                    go_meet
                    exact ⟨_, H14⟩
                · skip
                  as_aux_lemma =>
                    go_wp2_with (first
                      | (go_at_call 16; ((with_reducible refine (shadow_ok H8 hP hlp _ _ _).mono ?_)); rw [He1.out]; simp only [shV]; rintro e w9 ⟨rfl, H9⟩; clear H8; have H10 := emptyRuns H9; have hr10 := run_pre (hR _ _ H10) (k := p) (by omega); clear H9)
                      | (at_builtin; refine append_runs (v := .slice (some ⟨w9.heap.size, 0, none⟩) 0 0) (xv := .slice (some ⟨b, o, none⟩) p c) (xs := []) (ys := l.take p) rfl _ _ rfl H10 rfl rfl hr10 hb10 ?_; intro z11 w11 H12; clear H10 hr10; rw [List.nil_append] at H12; have hr12 : Rd 2 (.slice (some ⟨b, o + (p + 1) * 2, none⟩) (l.length - (p + 1)) (c - (p + 1))) (l.drop (p + 1)).length ((l.drop (p + 1)).flatMap encR) w11 := (run_suf (a' := ⟨b, o + (p + 1) * 2, none⟩) (hR _ _ H12) (lo := p + 1) (by omega) (.inl (add_plain b o _).symm)))
                      | (at_builtin; refine append_runs (v := z11) (xv := (.slice (some ⟨b, o + (p + 1) * 2, none⟩) (l.length - (p + 1)) (c - (p + 1)))) (xs := l.take p) (ys := l.drop (p + 1)) rfl _ _ rfl H12 rfl rfl hr12 hb12 ?_; intro z13 w13 H13; clear H12 hr12; rw [← List.eraseIdx_eq_take_drop_succ] at H13; obtain ⟨b9, o9, c9, hv9, e0, -⟩ := run_at (hR _ _ H13) Hx.out; simp only [Value.slice.injEq, Option.some.injEq, Addr.mk.injEq] at hv9; obtain ⟨⟨e1, e2, -⟩, -, -⟩ := hv9; subst e1; subst e2)
                      | (go_at_call 16; ((with_reducible refine (shadow_ok H13 (entRuns _) hle _ _ _).mono ?_)); rw [HY.out]; simp only [shV]; rintro e w14 ⟨rfl, H14⟩; clear H13;
                            obtain ⟨b9, o9, c9, hv9, e0, -⟩ := run_at (hR _ _ H14) Hx.out; simp only [Value.slice.injEq, Option.some.injEq, Addr.mk.injEq] at hv9; obtain ⟨⟨e1, e2, -⟩, -, -⟩ := hv9; subst e1; subst e2))
                    go_meet
                    exact ⟨_, H14⟩
                · have hall' : decide (free + x.nodes ≤ 256) = false := by simp; omega
                  subst hcp
                  as_aux_lemma =>
                    go_wp2_with (first
                      | (go_at_call 16; ((with_reducible refine (shadow_ok H8 hP hlp _ _ _).mono ?_)); rw [He1.out]; simp only [shV]; rintro e w9 ⟨rfl, H9⟩; clear H8; have H10 := emptyRuns H9; have hr10 := run_pre (hR _ _ H10) (k := p) (by omega); clear H9)
                      | (at_builtin; refine append_runs (v := .slice (some ⟨w9.heap.size, 0, none⟩) 0 0) (xv := .slice (some ⟨b, o, none⟩) p (p + 1)) (xs := []) (ys := l.take p) rfl _ _ rfl H10 rfl rfl hr10 hb10 ?_; intro z11 w11 H12; clear H10 hr10; rw [List.nil_append] at H12; have hr12 : Rd 2 (.slice (some ⟨b, o, none⟩) (l.length - (p + 1)) 0) (l.drop (p + 1)).length ((l.drop (p + 1)).flatMap encR) w11 := (by have := run_suf (a' := ⟨b, o, none⟩) (hR _ _ H12) (lo := p + 1) (by omega) (.inr (by omega)); rwa [Nat.sub_self] at this))
                      | (at_builtin; have hr12' : Rd 2 (.slice (some ⟨b, o, none⟩) 0 0) (l.drop (p + 1)).length ((l.drop (p + 1)).flatMap encR) w11 := (by have := hr12; rwa [show l.length - (p + 1) = 0 by omega] at this); (first | refine append_runs (v := z11) (xv := (.slice (some ⟨b, o, none⟩) 0 0)) (xs := l.take p) (ys := l.drop (p + 1)) rfl _ _ rfl H12 rfl rfl hr12' hb12 ?_ | refine append_runs (v := z11) (xv := (.slice (some ⟨b, o, none⟩) (l.length - (p + 1)) 0)) (xs := l.take p) (ys := l.drop (p + 1)) rfl _ _ rfl H12 rfl rfl hr12 hb12 ?_); intro z13 w13 H13; clear H12 hr12 hr12'; rw [← List.eraseIdx_eq_take_drop_succ] at H13; obtain ⟨b9, o9, c9, hv9, e0, -⟩ := run_at (hR _ _ H13) Hx.out; simp only [Value.slice.injEq, Option.some.injEq, Addr.mk.injEq] at hv9; obtain ⟨⟨e1, e2, -⟩, -, -⟩ := hv9; subst e1; subst e2)
                      | (go_at_call 16; ((with_reducible refine (shadow_ok H13 (entRuns _) hle _ _ _).mono ?_)); rw [HY.out]; simp only [shV]; rintro e w14 ⟨rfl, H14⟩; clear H13;
                            obtain ⟨b9, o9, c9, hv9, e0, -⟩ := run_at (hR _ _ H14) Hx.out; simp only [Value.slice.injEq, Option.some.injEq, Addr.mk.injEq] at hv9; obtain ⟨⟨e1, e2, -⟩, -, -⟩ := hv9; subst e1; subst e2))
                    go_meet
                    exact ⟨_, H14⟩
                · have hall' : decide (free + x.nodes ≤ 256) = false := by simp; omega
                  as_aux_lemma =>
                    go_wp2_with (first
                      | (go_at_call 16; ((with_reducible refine (shadow_ok H8 hP hlp _ _ _).mono ?_)); rw [He1.out]; simp only [shV]; rintro e w9 ⟨rfl, H9⟩; clear H8; have H10 := emptyRuns H9; have hr10 := run_pre (hR _ _ H10) (k := p) (by omega); clear H9)
                      | (at_builtin; refine append_runs (v := .slice (some ⟨w9.heap.size, 0, none⟩) 0 0) (xv := .slice (some ⟨b, o, none⟩) p c) (xs := []) (ys := l.take p) rfl _ _ rfl H10 rfl rfl hr10 hb10 ?_; intro z11 w11 H12; clear H10 hr10; rw [List.nil_append] at H12; have hr12 : Rd 2 (.slice (some ⟨b, o + (p + 1) * 2, none⟩) (l.length - (p + 1)) (c - (p + 1))) (l.drop (p + 1)).length ((l.drop (p + 1)).flatMap encR) w11 := (run_suf (a' := ⟨b, o + (p + 1) * 2, none⟩) (hR _ _ H12) (lo := p + 1) (by omega) (.inl (add_plain b o _).symm)))
                      | (at_builtin; refine append_runs (v := z11) (xv := (.slice (some ⟨b, o + (p + 1) * 2, none⟩) (l.length - (p + 1)) (c - (p + 1)))) (xs := l.take p) (ys := l.drop (p + 1)) rfl _ _ rfl H12 rfl rfl hr12 hb12 ?_; intro z13 w13 H13; clear H12 hr12; rw [← List.eraseIdx_eq_take_drop_succ] at H13; obtain ⟨b9, o9, c9, hv9, e0, -⟩ := run_at (hR _ _ H13) Hx.out; simp only [Value.slice.injEq, Option.some.injEq, Addr.mk.injEq] at hv9; obtain ⟨⟨e1, e2, -⟩, -, -⟩ := hv9; subst e1; subst e2)
                      | (go_at_call 16; ((with_reducible refine (shadow_ok H13 (entRuns _) hle _ _ _).mono ?_)); rw [HY.out]; simp only [shV]; rintro e w14 ⟨rfl, H14⟩; clear H13;
                            obtain ⟨b9, o9, c9, hv9, e0, -⟩ := run_at (hR _ _ H14) Hx.out; simp only [Value.slice.injEq, Option.some.injEq, Addr.mk.injEq] at hv9; obtain ⟨⟨e1, e2, -⟩, -, -⟩ := hv9; subst e1; subst e2))
                    go_meet
                    exact ⟨_, H14⟩
          case rest =>
            obtain ⟨K, HK⟩ := hcut
            clear Hcb
            by_cases hk1 : k < 1
            · go_wp2
              go_ret
              exact ⟨rfl, HK.below⟩
            by_cases hk2 : free < k
            · go_wp2
              go_ret
              exact ⟨rfl, HK.below⟩
            by_cases hk3 : fin ≤ now
            · go_wp2
              go_ret
              exact ⟨rfl, HK.below⟩
            have hmore := less_more (e := fin) HZ.out (show 1 ≤ k by omega) (show k ≤ free by omega)
            obtain ⟨⟨y1, y2, y3⟩, hY⟩ : ∃ Y, shadowAll now (free - k) (l ++ [⟨k, fin⟩]) need = Y := ⟨_, rfl⟩
            rw [hY] at hmore
            have hyc : (now < z1 ∧ fin ≤ z1 ∧ y1 = z1 ∧ y2 = z2 ∧ y3 = true) ∨ (now < z1 ∧ z1 < fin ∧ k ≤ z2 ∧ y1 = z1 ∧ y2 = z2 - k ∧ y3 = true) ∨ z1 ≤ now ∨ (now < z1 ∧ z1 < fin ∧ z2 < k) := by
              rcases Int.lt_or_le now z1 with h | h
              · rcases Int.lt_or_le z1 fin with h2 | h2
                · rcases Int.lt_or_le z2 k with h3 | h3
                  · exact .inr (.inr (.inr ⟨h, h2, h3⟩))
                  · have := hmore.2 h2 h3
                    simp only [Prod.mk.injEq] at this
                    exact .inr (.inl ⟨h, h2, h3, this⟩)
                · have := hmore.1 h2
                  simp only [Prod.mk.injEq] at this
                  exact .inl ⟨h, h2, this⟩
              · exact .inr (.inr (.inl h))
            have HY := Lib.hid hY
            have H10 := emptyRuns HK
            have hr10 := hR _ _ H10
            have hb10 : ([] : List Rn).length + l.length ≤ 8796093022208 := by simp; omega
            have hb12 : l.length + [(⟨k, fin⟩ : Rn)].length ≤ 8796093022208 := by simp; omega
            have hle : (l ++ [(⟨k, fin⟩ : Rn)]).length ≤ 8796093022000 := by simp; omega
            clear hY hmore HK
            rcases hyc with ⟨q1, q2, rfl, rfl, rfl⟩ | ⟨q1, q2, q3, rfl, rfl, rfl⟩ | q1 | ⟨q1, q2, q3⟩
            all_goals
              as_aux_lemma =>
                go_wp2_with (first
                  | (at_builtin; refine append_runs (v := .slice (some ⟨wc.heap.size, 0, none⟩) 0 0) (xv := .slice A l.length c) (xs := []) (ys := l) rfl _ _ rfl H10 rfl rfl hr10 hb10 ?_; intro z11 w11 H12; clear H10 hr10; rw [List.nil_append] at H12; have H13 := H12.alloc' (.cells #[.int .i64 k, .int .i64 fin] 42); have hr13 := rd_run (w := w11) (x := ⟨k, fin⟩); clear H12)
                  | (at_builtin; refine append_runs (v := z11) (xv := .slice (some ⟨w11.heap.size, 0, none⟩) 1 1) (xs := l) (ys := [⟨k, fin⟩]) rfl _ _ rfl H13 rfl rfl hr13 hb12 ?_; intro z13 w13 H14; clear H13 hr13)
                  | (go_at_call 16; ((with_reducible refine (shadow_ok H14 (entRuns _) hle _ _ _).mono ?_)); rw [HY.out]; simp only [shV]; rintro e w15 ⟨rfl, H15⟩; clear H14))
                go_ret
                exact ⟨rfl, H15.below⟩
end Go.Proofs.Ytebibcaahjmjfaa

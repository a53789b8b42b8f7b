/- A pass is asked of lists in memory of their own. -/
import Derived.Test.YtebibcaahjmjfaaPaRefR
import Derived.Deep.RegionHeld3
set_option linter.unusedVariables false
set_option linter.unusedSimpArgs false
namespace Go.Proofs.Ytebibcaahjmjfaa
open Go.RowKit Go.Proofs.HL Go.Proofs.HL.Pr Go.Proofs.HL.Pa
def markW : Wn := ⟨-77, 0, 0⟩
def PassIs (now free : Int) (ws : List Wn) (holder : Int) (l : List Rn) (er h s e : Int) (S : List Int) : Prop :=
  ((mayB now free ws holder l = true ∧ er = 0 ∧ h = (passC now free ws holder l).holder ∧ s = (passC now free ws holder l).shadow ∧ e = (passC now free ws holder l).extra ∧ S = (passD now free ws holder l).starts) ∨ (mayB now free ws holder l = false ∧ er = 150 ∧ h = 0 ∧ s = 0 ∧ e = 0 ∧ S = []))
/-- What a pass answers, whatever the numbers. -/
def PassPost (w0 : World) (now free : Int) (ws : List Wn) (holder : Int) (l : List Rn) (K : List At) (pv : Value) (er : Int) (w' : World) : Prop :=
  ∃ u h s e S, pv = .agg #[u, .int .i64 h, .int .i64 s, .int .i64 e] ∧ HL w0 w' (intsR w0.heap.size u S :: K) ∧ PassIs now free ws holder l er h s e S

theorem set_want (a b c : Int) : ∀ (m : List Wn) (k : Nat), k < m.length → (((m.flatMap encW).set (k * 3) (.int .i64 a)).set (k * 3 + 1) (.int .i64 b)).set (k * 3 + 2) (.int .i64 c) = (m.set k ⟨a, b, c⟩).flatMap encW
  | [], k, h => by simp at h
  | x :: m, 0, h => by simp [encW]
  | x :: m, k + 1, h => by
    have ih := set_want a b c m k (by simpa using h)
    rw [List.set_cons_succ, List.flatMap_cons, List.flatMap_cons, ← ih]
    have e1 : (k + 1) * 3 = k * 3 + 3 := by omega
    rw [e1]
    simp [encW, List.set_append]
section
variable {w0 w : World} {L : List At} {v u : Value} {ws : List Wn} {l : List Rn}
/-- Both answers of a pass in one. -/
theorem pass_any (H : HL w0 w L) (hW : Wants w0 L v ws) (hr : Runs w0 L u l) (hl : l.length ≤ 8796093021952) (now free holder : Int) :
    Calls Try.prog 28 #[.int .i64 now, .int .i64 free, v, .int .i64 holder, u] w fun e w' => ∃ pv er, e = .returned (.tuple #[pv, .int .i64 er]) ∧ PassPost w0 now free ws holder l L pv er w' := by
  cases hm : mayB now free ws holder l with
  | true =>
    refine (pass_ok H hW hr hl now free holder hm).mono ?_
    rintro e w' ⟨u', rfl, H'⟩
    exact ⟨_, _, rfl, u', _, _, _, _, rfl, H', .inl ⟨hm, rfl, rfl, rfl, rfl, rfl⟩⟩
  | false =>
    refine (pass_no H hW hr hl now free holder hm).mono ?_
    rintro e w' ⟨rfl, H'⟩
    exact ⟨_, _, rfl, .slice none 0 0, 0, 0, 0, [], rfl, H'.nilRow _ _ _, .inr ⟨hm, rfl, rfl, rfl, rfl, rfl⟩⟩
set_option maxRecDepth 100000 in
set_option maxHeartbeats 16000000 in
theorem asked_ok {now free holder : Int} (H : HL w0 w L) (hW : Wants w0 L v ws) (hr : Runs w0 L u l) (hwl : ws.length ≤ 5864062014634) (hl : l.length ≤ 8796093021952) :
    Calls Try.prog 24 #[.agg #[.int .i64 now, .int .i64 free, v, .int .i64 holder, u]] w fun e w' => ∃ pv er, e = .returned (.tuple #[pv, .int .i64 er, .bool true]) ∧ PassPost w0 now free ws holder l L pv er w' := by
  obtain ⟨A, c, rfl, hc1, hc2⟩ := rd_shape (hW w H)
  obtain ⟨B, d, rfl, hd1, hd2⟩ := rd_shape (hr w H)
  unfold maxLen at hc2 hd2
  have H1 := HL.allocP (HL.allocA H now free (.slice A ws.length c) holder (.slice B l.length d)) (.slice none 0 0) 0 0 0
  rw [World.size_alloc] at H1
  have hw0 : ([] : List Wn).length + ws.length ≤ 5864062014805 := by simp only [List.length_nil]; omega
  have hw1 : ws.length + [markW].length ≤ 5864062014805 := by simp only [List.length_cons, List.length_nil]; omega
  have hr0 : ([] : List Rn).length + l.length ≤ 8796093022208 := by simp only [List.length_nil]; omega
  have hr1 : l.length + [mark77].length ≤ 8796093022208 := by simp only [List.length_cons, List.length_nil]; omega
  have H2 := emptyWants H1
  have hrd2 := hW _ (H2.sel 3 [])
  obtain ⟨-, -, a2, -, -⟩ := boxA_cells (H2.sel 3 [2])
  rw [World.size_alloc, World.size_alloc] at H2
  go_enter Try.func24, Try.ntmps24
  go_wp2_with (first
    | (at_builtin; refine append_wants (v := .slice (some ⟨w.heap.size + 1 + 1, 0, none⟩) 0 0) (xv := .slice A ws.length c) (xs := []) (ys := ws) rfl _ _ rfl H2 rfl rfl hrd2 hw0 ?_; intro z3 w3 H3; clear H2 hrd2 a2 H1; rw [List.nil_append] at H3; have H4 := H3.alloc' (.cells #[.int .i64 (-77), .int .i64 0, .int .i64 0] 60); have hr4 := rd_wn (w := w3) (x := markW))
    | (at_builtin; refine append_wants (v := z3) (xv := .slice (some ⟨w3.heap.size, 0, none⟩) 1 1) (xs := ws) (ys := [markW]) rfl _ _ rfl H4 rfl rfl hr4 hw1 ?_; intro z5 w5 H5; clear H3 H4 hr4; have H6 := emptyRuns H5; have hr6 := hr _ (H6.sel 4 []); obtain ⟨-, -, -, -, a4⟩ := boxA_cells (H6.sel 4 [3]))
    | (at_builtin; refine append_runs (v := .slice (some ⟨w5.heap.size, 0, none⟩) 0 0) (xv := .slice B l.length d) (xs := []) (ys := l) rfl _ _ rfl H6 rfl rfl hr6 hr0 ?_; intro z7 w7 H7; clear H5 H6 hr6 a4; rw [List.nil_append] at H7; have H8 := H7.alloc' (.cells #[.int .i64 (-77), .int .i64 0] 42); have hr8 := rd_run (w := w7) (x := mark77))
    | (at_builtin; refine append_runs (v := z7) (xv := .slice (some ⟨w7.heap.size, 0, none⟩) 1 1) (xs := l) (ys := [mark77]) rfl _ _ rfl H8 rfl rfl hr8 hr1 ?_; intro z9 w9 H9; clear H7 H8 hr8; have HX := H9.sel 4 [1, 0, 2, 3]))
  obtain ⟨A5, c5, e5, h5, hn5, hm5⟩ := row_shape HX.head
  obtain ⟨A9, c9, e9, h9, hn9, hm9⟩ := row_shape HX.tail.head
  rw [List.length_append, List.length_singleton] at e5 e9 h5 h9 hn5 hn9
  obtain ⟨g5, rfl⟩ := h5.resolve_left (by omega)
  obtain ⟨g9, rfl⟩ := h9.resolve_left (by omega)
  subst e5 e9
  unfold maxLen at hm5 hm9
  replace HX : HL w0 w9 (wantsAt w0.heap.size (.slice (some ⟨g5, 0, none⟩) (ws.length + 1) c5) (ws ++ [markW]) :: runsAt w0.heap.size (.slice (some ⟨g9, 0, none⟩) (l.length + 1) c9) (l ++ [mark77]) :: boxP (w.heap.size + 1) (.slice none 0 0) 0 0 0 :: boxA w.heap.size now free (.slice A ws.length c) holder (.slice B l.length d) :: L) := HX
  clear H9 h5 h9
  have EW : Wants w0 (wantsAt w0.heap.size (.slice (some ⟨g5, 0, none⟩) (ws.length + 1) c5) (ws ++ [markW]) :: runsAt w0.heap.size (.slice (some ⟨g9, 0, none⟩) (l.length + 1) c9) (l ++ [mark77]) :: boxP (w.heap.size + 1) (.slice none 0 0) 0 0 0 :: boxA w.heap.size now free (.slice A ws.length c) holder (.slice B l.length d) :: L) (.slice (some ⟨g5, 0, none⟩) ws.length c5) ws := fun W HH => by
    have h := rd_row HH.head
    have h2 := wn_pre (l := ws ++ [markW]) (k := ws.length) (A := some ⟨g5, 0, none⟩) (c := c5) (by rw [List.length_append, List.length_singleton] at h ⊢; exact h) (by rw [List.length_append]; omega)
    rwa [List.take_left' rfl] at h2
  have ER : Runs w0 (wantsAt w0.heap.size (.slice (some ⟨g5, 0, none⟩) (ws.length + 1) c5) (ws ++ [markW]) :: runsAt w0.heap.size (.slice (some ⟨g9, 0, none⟩) (l.length + 1) c9) (l ++ [mark77]) :: boxP (w.heap.size + 1) (.slice none 0 0) 0 0 0 :: boxA w.heap.size now free (.slice A ws.length c) holder (.slice B l.length d) :: L) (.slice (some ⟨g9, 0, none⟩) l.length c9) l := fun W HH => by
    have h := entPrefix (w0 := w0) (A := some ⟨g9, 0, none⟩) (n := l.length + 1) (c := c9) (base := w0.heap.size) (m := l ++ [mark77]) (L' := L) (k := l.length) (by rw [List.length_append]; rfl) (by rw [List.length_append]; omega) W (HH.sel 4 [1])
    rwa [List.take_left' rfl] at h
  have hz5 : (ws.length : Int) ≤ (c5 : Int) := by omega
  have hz9 : (l.length : Int) ≤ (c9 : Int) := by omega
  go_cut [7, 8] (fun s7 s8 wc => ∃ (b7 : Nat) (A7 : Option Addr) (n7 c7 : Nat) (h s e er : Int) (S : List Int), s7 = .pointer (some ⟨b7, 0, none⟩) ∧ s8 = .int .i64 er ∧ HL w0 wc (boxP b7 (.slice A7 n7 c7) h s e :: intsR w0.heap.size (.slice A7 n7 c7) S :: wantsAt w0.heap.size (.slice (some ⟨g5, 0, none⟩) (ws.length + 1) c5) (ws ++ [markW]) :: runsAt w0.heap.size (.slice (some ⟨g9, 0, none⟩) (l.length + 1) c9) (l ++ [mark77]) :: boxP (w.heap.size + 1) (.slice none 0 0) 0 0 0 :: boxA w.heap.size now free (.slice A ws.length c) holder (.slice B l.length d) :: L) ∧ PassIs now free ws holder l er h s e S)
  case first =>
    have HD := HX.drew
    have HE := (HL.allocP HX (.slice none 0 0) 0 0 0).drew
    have S1 := boxA_cells (HD.sel 4 [3])
    have S2 := boxA_cells (HE.sel 5 [4])
    have hp1 := fun W (HH : HL w0 W (wantsAt w0.heap.size (.slice (some ⟨g5, 0, none⟩) (ws.length + 1) c5) (ws ++ [markW]) :: runsAt w0.heap.size (.slice (some ⟨g9, 0, none⟩) (l.length + 1) c9) (l ++ [mark77]) :: boxP (w.heap.size + 1) (.slice none 0 0) 0 0 0 :: boxA w.heap.size now free (.slice A ws.length c) holder (.slice B l.length d) :: L)) => pass_any HH EW ER hl now free holder
    have hp2 := fun W (HH : HL w0 W (boxP w9.heap.size (.slice none 0 0) 0 0 0 :: wantsAt w0.heap.size (.slice (some ⟨g5, 0, none⟩) (ws.length + 1) c5) (ws ++ [markW]) :: runsAt w0.heap.size (.slice (some ⟨g9, 0, none⟩) (l.length + 1) c9) (l ++ [mark77]) :: boxP (w.heap.size + 1) (.slice none 0 0) 0 0 0 :: boxA w.heap.size now free (.slice A ws.length c) holder (.slice B l.length d) :: L)) => pass_any HH (EW.cons _) (Ent.cons ER _) hl now free holder
    have HEW := Lib.hid EW; have HER := Lib.hid ER
    clear EW ER
    go_region_held3 (fun w' => w'.cell? ⟨w.heap.size, 0, none⟩ = some (.int .i64 now) ∧ w'.cell? ⟨w.heap.size, 1, none⟩ = some (.int .i64 free) ∧ w'.cell? ⟨w.heap.size, 2, none⟩ = some (.slice A ws.length c) ∧ w'.cell? ⟨w.heap.size, 3, none⟩ = some (.int .i64 holder) ∧ w'.cell? ⟨w.heap.size, 4, none⟩ = some (.slice B l.length d)) (first | assumption | (exact S3) | (exact S4) | (exact S5) | go_keep)
     ((go_at_call 28; first
        | ((with_reducible refine (hp1 _ HD).mono ?_); rintro e w10 ⟨pv, er, rfl, u, h, s, e, S, rfl, H10, hq⟩; obtain ⟨A7, c7, e7, -, -, -⟩ := row_shape (show w10.ownsRow w0.heap.size 3 1 u _ _ from H10.head); generalize S.length = n7 at e7; subst e7; have S3 := boxA_cells (H10.sel 5 [4]); have H11 := HL.allocP H10 (.slice A7 n7 c7) h s e; have S4 := boxA_cells (H11.sel 6 [5]); have S5 := boxA_cells ((HL.allocP H10 (.slice none 0 0) 0 0 0).sel 6 [5]))
        | ((with_reducible refine (hp2 _ HE).mono ?_); rintro e w10 ⟨pv, er, rfl, u, h, s, e, S, rfl, H10, hq⟩; obtain ⟨A7, c7, e7, -, -, -⟩ := row_shape (show w10.ownsRow w0.heap.size 3 1 u _ _ from H10.head); generalize S.length = n7 at e7; subst e7; have S3 := boxA_cells (H10.sel 6 [5]); have H12 := H10.sel 2 [1, 0]; obtain ⟨z0, z1, z2, z3⟩ := boxP_cells H12; obtain ⟨y0, y1, y2, y3⟩ := boxP_frozen H12; have H11 := boxP_set (u' := .slice A7 n7 c7) (h' := h) (s' := s) (e' := e) H12; have S4 := boxA_cells (H11.sel 6 [5]); have S5 := S4)))
    all_goals
     go_wp2
     go_meet
     case rel => exact ⟨_, A7, n7, c7, h, s, e, er, S, rfl, rfl, H11, hq⟩
  case rest =>
    obtain ⟨b7, A7, n7, c7, h, s, e, er, S, rfl, rfl, H11, hq⟩ := hcut
    clear HX
    have EW2 : Wants w0 (boxP b7 (.slice A7 n7 c7) h s e :: intsR w0.heap.size (.slice A7 n7 c7) S :: wantsAt w0.heap.size (.slice (some ⟨g5, 0, none⟩) (ws.length + 1) c5) (ws ++ [markW]) :: runsAt w0.heap.size (.slice (some ⟨g9, 0, none⟩) (l.length + 1) c9) (l ++ [mark77]) :: boxP (w.heap.size + 1) (.slice none 0 0) 0 0 0 :: boxA w.heap.size now free (.slice A ws.length c) holder (.slice B l.length d) :: L) (.slice (some ⟨g5, 0, none⟩) ws.length c5) ws := (EW.cons _).cons _
    have ER2 : Runs w0 (boxP b7 (.slice A7 n7 c7) h s e :: intsR w0.heap.size (.slice A7 n7 c7) S :: wantsAt w0.heap.size (.slice (some ⟨g5, 0, none⟩) (ws.length + 1) c5) (ws ++ [markW]) :: runsAt w0.heap.size (.slice (some ⟨g9, 0, none⟩) (l.length + 1) c9) (l ++ [mark77]) :: boxP (w.heap.size + 1) (.slice none 0 0) 0 0 0 :: boxA w.heap.size now free (.slice A ws.length c) holder (.slice B l.length d) :: L) (.slice (some ⟨g9, 0, none⟩) l.length c9) l := Ent.cons (Ent.cons ER _) _
    have hsw := fun W (HH : HL w0 W (boxP b7 (.slice A7 n7 c7) h s e :: intsR w0.heap.size (.slice A7 n7 c7) S :: wantsAt w0.heap.size (.slice (some ⟨g5, 0, none⟩) (ws.length + 1) c5) (ws ++ [markW]) :: runsAt w0.heap.size (.slice (some ⟨g9, 0, none⟩) (l.length + 1) c9) (l ++ [mark77]) :: boxP (w.heap.size + 1) (.slice none 0 0) 0 0 0 :: boxA w.heap.size now free (.slice A ws.length c) holder (.slice B l.length d) :: L)) => sameWants15_ok HH EW2 ((((((hW.cons _).cons _).cons _).cons _).cons _).cons _)
    have hsr := fun W (HH : HL w0 W (boxP b7 (.slice A7 n7 c7) h s e :: intsR w0.heap.size (.slice A7 n7 c7) S :: wantsAt w0.heap.size (.slice (some ⟨g5, 0, none⟩) (ws.length + 1) c5) (ws ++ [markW]) :: runsAt w0.heap.size (.slice (some ⟨g9, 0, none⟩) (l.length + 1) c9) (l ++ [mark77]) :: boxP (w.heap.size + 1) (.slice none 0 0) 0 0 0 :: boxA w.heap.size now free (.slice A ws.length c) holder (.slice B l.length d) :: L)) => sameRuns15_ok HH ER2 (Ent.cons (Ent.cons (Ent.cons (Ent.cons (Ent.cons (Ent.cons hr _) _) _) _) _) _)
    simp only [decide_true] at hsw hsr
    have hm5' : ∀ W, HL w0 W (boxP b7 (.slice A7 n7 c7) h s e :: intsR w0.heap.size (.slice A7 n7 c7) S :: wantsAt w0.heap.size (.slice (some ⟨g5, 0, none⟩) (ws.length + 1) c5) (ws ++ [markW]) :: runsAt w0.heap.size (.slice (some ⟨g9, 0, none⟩) (l.length + 1) c9) (l ++ [mark77]) :: boxP (w.heap.size + 1) (.slice none 0 0) 0 0 0 :: boxA w.heap.size now free (.slice A ws.length c) holder (.slice B l.length d) :: L) → W.cell? ⟨g5, ws.length * 3, none⟩ = some (.int .i64 (-77)) := fun W HH => by
      obtain ⟨b, o, c', hv, d0, -, -⟩ := wn_at (rd_row (HH.sel 4 [2]).head) (k := ws.length) (x := markW) (by simp)
      simp only [Value.slice.injEq, Option.some.injEq, Addr.mk.injEq] at hv
      obtain ⟨⟨rfl, rfl, -⟩, -, -⟩ := hv
      rwa [Nat.zero_add] at d0
    have hm9' : ∀ W, HL w0 W (boxP b7 (.slice A7 n7 c7) h s e :: intsR w0.heap.size (.slice A7 n7 c7) S :: wantsAt w0.heap.size (.slice (some ⟨g5, 0, none⟩) (ws.length + 1) c5) (ws ++ [markW]) :: runsAt w0.heap.size (.slice (some ⟨g9, 0, none⟩) (l.length + 1) c9) (l ++ [mark77]) :: boxP (w.heap.size + 1) (.slice none 0 0) 0 0 0 :: boxA w.heap.size now free (.slice A ws.length c) holder (.slice B l.length d) :: L) → W.cell? ⟨g9, l.length * 2, none⟩ = some (.int .i64 (-77)) := fun W HH => by
      obtain ⟨b, o, c', hv, d0, -⟩ := run_at (rd_row (HH.sel 4 [3]).head) (k := l.length) (x := mark77) (by simp)
      simp only [Value.slice.injEq, Option.some.injEq, Addr.mk.injEq] at hv
      obtain ⟨⟨rfl, rfl, -⟩, -, -⟩ := hv
      rwa [Nat.zero_add] at d0
    have M5 := Lib.hid hm5'; have M9 := Lib.hid hm9'; have Hq := Lib.hid hq
    clear hm5' hm9' EW ER EW2 ER2 hq
    obtain ⟨-, -, a2, -, a4⟩ := boxA_cells (H11.sel 6 [5])
    have zw : (0 : Int) ≤ (ws.length : Int) ∧ (ws.length : Int) < (ws.length : Int) + 1 := by omega
    have zl : (0 : Int) ≤ (l.length : Int) ∧ (l.length : Int) < (l.length : Int) + 1 := by omega
    go_wp2
    refine wp_region_plan [(7, 1), (18, 1), (11, 1)] (by kernel_rfl) (by kernel_rfl) ⟨fun w' => ∃ k, w' = wc.drewN k, ⟨1, rfl⟩, ?_⟩
    simp only [List.take_succ_cons, List.take_zero, List.drop_succ_cons, List.drop_zero]
    repeat (go_big_quiet_step ((fail)))
    refine wpQuiet_nil ?_
    rintro _ ⟨nq, rfl⟩
    go_wp2_with (go_at_call 48; refine (hsw _ (H11.drewN nq)).mono ?_; rintro e1 w12 ⟨rfl, H12⟩; clear hsw H11 a2 a4)
    obtain ⟨-, -, a2, -, a4⟩ := boxA_cells (H12.sel 6 [5])
    have q5 := M5.out _ H12
    refine ⟨fun w' => ∃ k, w' = w12.drewN k, ⟨0, rfl⟩, ?_⟩
    simp only [List.take_succ_cons, List.take_zero, List.drop_succ_cons, List.drop_zero]
    repeat (go_big_quiet_step ((fail)))
    refine wpQuiet_nil ?_
    rintro _ ⟨nr, rfl⟩
    go_wp2_with (go_at_call 49; refine (hsr _ (H12.drewN nr)).mono ?_; rintro e2 w13 ⟨rfl, H13⟩; clear hsr H12 a2 a4 q5)
    obtain ⟨-, -, a2, -, a4⟩ := boxA_cells (H13.sel 6 [5])
    have q9 := M9.out _ H13
    refine ⟨fun w' => ∃ k, w' = w13.drewN k, ⟨0, rfl⟩, ?_⟩
    simp only [List.take_succ_cons, List.take_zero, List.drop_succ_cons, List.drop_zero]
    repeat (go_big_quiet_step ((fail)))
    refine wpQuiet_nil ?_
    rintro _ ⟨ns, rfl⟩
    have H14 := (H13.drewN ns).sel 6 [2, 3, 0, 1, 4, 5]
    clear H13 a2 a4 q9
    generalize World.drewN w13 ns = W14 at *
    go_wp2
    unfold wpPlan
    go_wp2
    replace H14 : HL w0 W14 (wantsAt w0.heap.size (.slice (some ⟨g5, 0, none⟩) (ws.length + 1) c5) (ws ++ [markW]) :: runsAt w0.heap.size (.slice (some ⟨g9, 0, none⟩) (l.length + 1) c9) (l ++ [mark77]) :: boxP b7 (.slice A7 n7 c7) h s e :: intsR w0.heap.size (.slice A7 n7 c7) S :: boxP (w.heap.size + 1) (.slice none 0 0) 0 0 0 :: boxA w.heap.size now free (.slice A ws.length c) holder (.slice B l.length d) :: L) := H14
    clear M5 M9 hW hr H
    go_loopg [10] (ws.length + 1) (fun g2 i wr => ∃ (k : Nat) (m : List Wn), i = .int .i64 k ∧ k + g2 = ws.length + 1 ∧ m.length = ws.length + 1 ∧ HL w0 wr (wantsAt w0.heap.size (.slice (some ⟨g5, 0, none⟩) (ws.length + 1) c5) m :: runsAt w0.heap.size (.slice (some ⟨g9, 0, none⟩) (l.length + 1) c9) (l ++ [mark77]) :: boxP b7 (.slice A7 n7 c7) h s e :: intsR w0.heap.size (.slice A7 n7 c7) S :: boxP (w.heap.size + 1) (.slice none 0 0) 0 0 0 :: boxA w.heap.size now free (.slice A ws.length c) holder (.slice B l.length d) :: L))
    case atStart => exact ⟨0, _, rfl, by omega, by rw [List.length_append]; rfl, H14⟩
    case round =>
      obtain ⟨k, m, rfl, hk, hm, HK⟩ := hrel
      clear H14
      have Hm := Lib.hid hm
      by_cases hlt : k < ws.length + 1
      · obtain ⟨xk, hxk⟩ : ∃ x, m[k]? = some x := ⟨_, List.getElem?_eq_getElem (by omega)⟩
        have HK' : HL w0 wr (row w0.heap.size 60 3 (.slice (some ⟨g5, 0, none⟩) (ws.length + 1) c5) (ws.length + 1) (m.flatMap encW) :: runsAt w0.heap.size (.slice (some ⟨g9, 0, none⟩) (l.length + 1) c9) (l ++ [mark77]) :: boxP b7 (.slice A7 n7 c7) h s e :: intsR w0.heap.size (.slice A7 n7 c7) S :: boxP (w.heap.size + 1) (.slice none 0 0) 0 0 0 :: boxA w.heap.size now free (.slice A ws.length c) holder (.slice B l.length d) :: L) := by
          have := HK; unfold wantsAt at this; rwa [hm] at this
        obtain ⟨b, o, c', hv, d0, d1, d2⟩ := wn_at (rd_row HK.head) hxk
        rw [hm] at hv
        simp only [Value.slice.injEq, Option.some.injEq, Addr.mk.injEq] at hv
        obtain ⟨⟨rfl, rfl, -⟩, -, rfl⟩ := hv
        simp only [Nat.zero_add] at d0 d1 d2
        have f0 := HK'.rowFrozen (List.mem_cons_self ..) (k * 3)
        have f1 := HK'.rowFrozen (List.mem_cons_self ..) (k * 3 + 1)
        have f2 := HK'.rowFrozen (List.mem_cons_self ..) (k * 3 + 2)
        have HS := ((HK'.setRow (k * 3) (.int .i64 5)).setRow (k * 3 + 1) (.int .i64 1)).setRow (k * 3 + 2) (.int .i64 1)
        rw [set_want 5 1 1 m k (by omega)] at HS
        clear HK HK' hm hxk
        go_wp2
        go_roundg (gk - 1)
        case measure => omega
        case rel => exact ⟨k + 1, m.set k ⟨5, 1, 1⟩, by go_num, by omega, by rw [List.length_set]; exact Hm.out, by unfold wantsAt; rw [List.length_set, Hm.out]; exact HS⟩
      · clear hm
        replace HK := HK.swap
        go_wp2
        go_loopg [11] (l.length + 1) (fun g2 i wr => ∃ (k : Nat) (q : List Rn), i = .int .i64 k ∧ k + g2 = l.length + 1 ∧ q.length = l.length + 1 ∧ HL w0 wr (runsAt w0.heap.size (.slice (some ⟨g9, 0, none⟩) (l.length + 1) c9) q :: wantsAt w0.heap.size (.slice (some ⟨g5, 0, none⟩) (ws.length + 1) c5) m :: boxP b7 (.slice A7 n7 c7) h s e :: intsR w0.heap.size (.slice A7 n7 c7) S :: boxP (w.heap.size + 1) (.slice none 0 0) 0 0 0 :: boxA w.heap.size now free (.slice A ws.length c) holder (.slice B l.length d) :: L))
        case atStart => exact ⟨0, _, rfl, by omega, by rw [List.length_append]; rfl, HK⟩
        case round =>
          obtain ⟨j, q, rfl, hj, hq, HJ⟩ := hrel
          clear HK
          have Hqq := Lib.hid hq
          by_cases hlj : j < l.length + 1
          · obtain ⟨xk, hxk⟩ : ∃ x, q[j]? = some x := ⟨_, List.getElem?_eq_getElem (by omega)⟩
            have HK' : HL w0 wr (row w0.heap.size 42 2 (.slice (some ⟨g9, 0, none⟩) (l.length + 1) c9) (l.length + 1) (q.flatMap encR) :: wantsAt w0.heap.size (.slice (some ⟨g5, 0, none⟩) (ws.length + 1) c5) m :: boxP b7 (.slice A7 n7 c7) h s e :: intsR w0.heap.size (.slice A7 n7 c7) S :: boxP (w.heap.size + 1) (.slice none 0 0) 0 0 0 :: boxA w.heap.size now free (.slice A ws.length c) holder (.slice B l.length d) :: L) := by
              have := HJ; unfold runsAt at this; rwa [hq] at this
            have c0 : wr.cell? ⟨g9, j * 2, none⟩ = some (.int .i64 xk.nodes) := HK'.rowCell (List.mem_cons_self ..) _ _ (by
              rw [show j * 2 = j * 2 + 0 by omega, flat_at encR 2 (fun _ => rfl) q j 0 _ hxk (by decide)]; rfl)
            have c1 : wr.cell? ⟨g9, j * 2 + 1, none⟩ = some (.int .i64 xk.fin) := HK'.rowCell (List.mem_cons_self ..) _ _ (by
              rw [flat_at encR 2 (fun _ => rfl) q j 1 _ hxk (by decide)]; rfl)
            have f0 := HK'.rowFrozen (List.mem_cons_self ..) (j * 2)
            have f1 := HK'.rowFrozen (List.mem_cons_self ..) (j * 2 + 1)
            have HS := (HK'.setRow (j * 2) (.int .i64 1)).setRow (j * 2 + 1) (.int .i64 1)
            rw [set_run 1 1 q j (by omega)] at HS
            clear HJ HK' hq hxk
            go_wp2
            go_roundg (gk - 1)
            case measure => omega
            case rel => exact ⟨j + 1, q.set j ⟨1, 1⟩, by go_num, by omega, by rw [List.length_set]; exact Hqq.out, by unfold runsAt; rw [List.length_set, Hqq.out]; exact HS⟩
          · clear hq
            have HP := HJ.sel 5 [4, 2, 3]
            obtain ⟨z0, z1, z2, z3⟩ := boxP_cells HP
            obtain ⟨y0, y1, y2, y3⟩ := boxP_frozen HP
            obtain ⟨p0, p1, p2, p3⟩ := boxP_cells (HP.sel 2 [1])
            have HE := boxP_set (u' := .slice A7 n7 c7) (h' := h) (s' := s) (e' := e) HP
            go_wp2
            clear z0 z1 z2 z3 y0 y1 y2 y3 p0 p1 p2 p3
            generalize World.setCell _ _ _ = W9 at *
            obtain ⟨c0, c1, c2, c3⟩ := boxP_cells HE
            refine bodyPost_ret (by simp [results, Try.results24, go_sem, c0, c1, c2, c3]; try rfl) rfl ?_
            exact ⟨_, er, rfl, _, h, s, e, S, rfl, HE.sel 4 [2], Hq.out⟩
end
end Go.Proofs.Ytebibcaahjmjfaa

/- The law ProfileTells. -/
import Derived.Test.YtebibcaahjmjfaaPrShown
import Derived.Deep.RegionHeld
set_option linter.unusedVariables false
set_option linter.unusedSimpArgs false
namespace Go.Proofs.Ytebibcaahjmjfaa
open Go.RowKit Go.Proofs.HL Go.Proofs.HL.Pr

theorem sliceOuts : SliceOf Try.prog 24 26 1 24 := sliceOf (z := .slice none 0 0) Try.underlying24 (by kernel_rfl) rfl (by decide)
def rowO (base : Nat) (u : Value) (Q : List (Value × List Sp)) : At := row base 26 1 u Q.length (Q.map Prod.fst)
def atsO (base : Nat) (Q : List (Value × List Sp)) : List At := Q.map fun q => stpsAt base q.1 q.2
theorem outs_more {w0 w : World} {u : Value} {Q : List (Value × List Sp)} {v : Value} {T : List Sp} {L : List At} (H : HL w0 w (row w0.heap.size 26 1 u (Q.length + 1) (Q.map Prod.fst ++ [v]) :: stpsAt w0.heap.size v T :: (atsO w0.heap.size Q ++ L))) :
    HL w0 w (rowO w0.heap.size u (Q ++ [(v, T)]) :: (atsO w0.heap.size (Q ++ [(v, T)]) ++ L)) := by
  unfold rowO atsO
  rw [List.length_append, List.map_append, List.map_append]
  refine H.perm (List.Perm.cons _ ?_)
  have := (List.perm_middle (a := stpsAt w0.heap.size v T) (l₁ := atsO w0.heap.size Q) (l₂ := L)).symm
  simpa [atsO] using this
theorem ats_take {base : Nat} : ∀ (Q : List (Value × List Sp)) (k : Nat) (q : Value × List Sp), Q[k]? = some q → (atsO base Q).Perm (stpsAt base q.1 q.2 :: atsO base (Q.eraseIdx k))
  | [], k, q, h => by simp at h
  | x :: Q, 0, q, h => by
    simp only [List.getElem?_cons_zero, Option.some.injEq] at h
    subst h
    exact List.Perm.refl _
  | x :: Q, k + 1, q, h => by
    simp only [List.getElem?_cons_succ] at h
    exact ((ats_take Q k q h).cons _).trans (List.Perm.swap ..)
theorem ats_set {base : Nat} (Q : List (Value × List Sp)) (k : Nat) (q q' : Value × List Sp) (h : Q[k]? = some q) : (atsO base (Q.set k q')).Perm (stpsAt base q'.1 q'.2 :: atsO base (Q.eraseIdx k)) := by
  have hk := (List.getElem?_eq_some_iff.1 h).1
  have := ats_take (base := base) (Q.set k q') k q' (by rw [List.getElem?_set_self hk])
  rwa [List.eraseIdx_set_eq] at this
theorem set_stp (a b : Int) : ∀ (m : List Sp) (k : Nat), k < m.length → ((m.flatMap encS).set (k * 2) (.int .i64 a)).set (k * 2 + 1) (.int .i64 b) = (m.set k ⟨a, b⟩).flatMap encS
  | [], k, h => by simp at h
  | x :: m, 0, h => by simp [encS]
  | x :: m, k + 1, h => by
    have ih := set_stp a b m k (by simpa using h)
    rw [List.set_cons_succ, List.flatMap_cons, List.flatMap_cons, ← ih]
    have e1 : (k + 1) * 2 = k * 2 + 2 := by omega
    rw [e1]
    simp [encS, List.set_append]
theorem set_same {α : Type} {l : List α} {k : Nat} {a : α} (h : l[k]? = some a) : l.set k a = l := by
  obtain ⟨h1, h2⟩ := List.getElem?_eq_some_iff.1 h
  have h3 := List.set_getElem_self h1
  rwa [h2] at h3
/-- Whose steps they are. -/
def wasO (l l2 : List Rn) (j : Nat) : List Rn := if j = 1 then l2 else l

set_option maxRecDepth 100000 in
set_option maxHeartbeats 4000000 in
theorem tells_law {w : World} {v v2 : Value} {l l2 : List Rn} (hv : Rd 2 v l.length (l.flatMap encR) w) (hl : l.length ≤ 8796093021952) (hv2 : Rd 2 v2 l2.length (l2.flatMap encR) w) (hl2 : l2.length ≤ 8796093021952) (now free t need : Int) :
    Calls Try.prog 3 #[.int .i64 now, .int .i64 free, v, v2, .int .i64 t, .int .i64 need] w fun e w' => e = .returned (.bool true) ∧ Below w.heap.size w w' := by
  have hl0 := hl
  replace hl : l.length ≤ 8796093022000 := by omega
  have hl20 := hl2
  replace hl2 : l2.length ≤ 8796093022000 := by omega
  have hR : ∀ L, Runs w L v l := fun L W H => rd_old H hv
  have hR2 : ∀ L, Runs w L v2 l2 := fun L W H => rd_old H hv2
  obtain ⟨A, c, rfl, hc1, hc2⟩ := rd_shape hv
  obtain ⟨A2, c2, rfl, hc3, hc4⟩ := rd_shape hv2
  unfold maxLen at hc2 hc4
  go_enter Try.func3, Try.ntmps3
  go_wp2_with (go_at_call 12; refine (shown_ok (HL.start w)).mono ?_; rintro e w1 ⟨rfl, H⟩; have H1 := (H.alloc (.cells #[] 26)).rowOf (k := 1) (n := 0) (cs := []) rfl (by decide); clear H)
  go_loopg [13, 14] 3 (fun g u i wr => ∃ (k : Nat) (Q : List (Value × List Sp)), i = .int .i64 k ∧ k + g = 3 ∧ Q.length = k ∧ (∀ j q, Q[j]? = some q → q.2 = stepsAll now free (wasO l l2 j)) ∧ HL w wr (rowO w.heap.size u Q :: (atsO w.heap.size Q ++ [])))
  case atStart => exact ⟨0, [], rfl, rfl, rfl, (fun j q h => by simp at h), H1⟩
  case round =>
    obtain ⟨k, Q, rfl, hk, hQl, hQ, HK⟩ := hrel
    have HQ := Lib.hid hQ
    clear H1 hQ
    have hk4 : (k = 0 ∧ gk = 3) ∨ (k = 1 ∧ gk = 2) ∨ (k = 2 ∧ gk = 1) ∨ (k = 3 ∧ gk = 0) := by omega
    rcases hk4 with ⟨rfl, rfl⟩ | ⟨rfl, rfl⟩ | ⟨rfl, rfl⟩ | ⟨rfl, rfl⟩
    · have Hk := Lib.hid hQl
      have hk3 : Q.length ≤ 3 := by omega
      clear hQl
      have hP7 := fun (A7 : Option Addr) (c7 : Nat) (L' : List At) => (show Runs w (runsAt w.heap.size (.slice A7 (l.length + 1) c7) (l ++ [mark77]) :: L') (.slice A7 l.length c7) l from by
        have := entPrefix (w0 := w) (A := A7) (n := l.length + 1) (c := c7) (base := w.heap.size) (m := l ++ [mark77]) (L' := L') (k := l.length) (by simp) (by simp)
        rwa [List.take_left] at this)
      obtain ⟨⟨z1, z2, z3⟩, hZ⟩ : ∃ Z, shadowAll now free l need = Z := ⟨_, rfl⟩
      obtain ⟨Y, hY⟩ : ∃ Y, atAll now free l t = Y := ⟨_, rfl⟩
      obtain ⟨T, hT⟩ : ∃ T, stepsAll now free l = T := ⟨_, rfl⟩
      have hTl := stepsAll_length now free l
      rw [hT] at hTl
      have HZ := Lib.hid hZ; have HY := Lib.hid hY; have HT := Lib.hid hT
      clear hZ hY hT
      go_wp2_with (first
        | (go_at_call 13; ((with_reducible refine (lend_ok HK (hR _) hl).mono ?_)); rintro e w1 ⟨u, rfl, H1⟩; clear HK; obtain ⟨A7, c7, hu, -, hcu, hcv⟩ := row_shape H1.head; subst hu; rw [show (l ++ [mark77]).length = l.length + 1 by simp] at H1 hcu ⊢; unfold maxLen at hcv)
        | (go_at_call 14; ((with_reducible refine (steps_ok H1 (hP7 _ _ _) hl now free).mono ?_)); rw [HT.out]; rintro e w2 ⟨a, rfl, H2⟩; clear H1; obtain ⟨A9, c9, ha, -, -⟩ := rd_shape (ownStps H2); subst ha)
        | (go_at_call 15; ((with_reducible refine (atAll_ok H2 ((hP7 _ _ _).cons _) hl now free t).mono ?_)); rw [HY.out]; rintro e w3 ⟨rfl, H3⟩; clear H2)
        | (go_at_call 16; ((with_reducible refine (shadow_ok H3 ((hP7 _ _ _).cons _) hl now free need).mono ?_)); rw [HZ.out]; simp only [shV]; rintro e w4 ⟨rfl, H4⟩; clear H3)
        | (go_at_call 17; ((with_reducible refine (Ref.shadow_ok H4 (hR _) hl now free need).mono ?_)); rw [HZ.out]; simp only [shV]; rintro e w5 ⟨rfl, H5⟩; clear H4)
        | (go_at_call 18; ((with_reducible refine (Ref.steps_ok H5 (hR _) hl now free).mono ?_)); rw [HT.out]; rintro e w6 ⟨b, rfl, H6⟩; clear H5)
        | (go_at_call 19; refine (sameSteps_ok (a := T) (b := T) H6 (show Stps w _ (.slice A9 T.length c9) T from fun W H => rd_row H.tail.head) (show Stps w _ b T from fun W H => rd_row H.head)).mono ?_; rw [decide_eq_true rfl]; rintro e w7 ⟨rfl, H7⟩; clear H6)
        | (go_at_call 20; ((with_reducible refine (Ref.atAll_ok H7 (hR _) hl now free t).mono ?_)); rw [HY.out]; rintro e w8 ⟨rfl, rfl⟩)
        | (go_at_call 21; have H8 := H7.sel 4 [2, 0, 1, 3]; refine (still_ok H8 (hR _) hl).mono ?_; rintro e w9 ⟨m', rfl, hm', H9⟩; clear H7 H8 hm'; have H10 := (H9.alloc' (.cells #[.slice A9 T.length c9] 26)).sel 4 [3, 2]; clear H9)
        | (at_builtin; refine wpList_append_hl sliceOuts rfl _ _ rfl (v := u13) (xv := .slice (some ⟨w9.heap.size, 0, none⟩) 1 1) (n := Q.length) (m := 1) (xs := Q.map Prod.fst) (news := [.slice A9 T.length c9]) H10 rfl rfl (rd_one rfl) (by simp [Value.oneCell']) (by unfold maxLen; omega) (by omega) ?_; intro v13 w13 H13 _; clear H10))
      go_roundg (2)
      case measure => omega
      case rel =>
        refine ⟨1, Q ++ [(.slice A9 T.length c9, T)], by go_num, by omega, by rw [List.length_append, Hk.out]; rfl, fun j q hq => ?_, ?_⟩
        · rcases Nat.lt_or_ge j 0 with h | h
          · rw [List.getElem?_append_left (by rw [Hk.out]; omega)] at hq
            exact HQ.out j q hq
          · have hj : j = 0 := by have := (List.getElem?_eq_some_iff.1 hq).1; rw [List.length_append, Hk.out] at this; simp at this; omega
            subst hj
            rw [List.getElem?_append_right (by rw [Hk.out]; omega), Hk.out] at hq
            simp at hq
            subst hq
            exact HT.out.symm
        · exact outs_more H13
    · have Hk := Lib.hid hQl
      have hk3 : Q.length ≤ 3 := by omega
      clear hQl
      have hP7 := fun (A7 : Option Addr) (c7 : Nat) (L' : List At) => (show Runs w (runsAt w.heap.size (.slice A7 (l2.length + 1) c7) (l2 ++ [mark77]) :: L') (.slice A7 l2.length c7) l2 from by
        have := entPrefix (w0 := w) (A := A7) (n := l2.length + 1) (c := c7) (base := w.heap.size) (m := l2 ++ [mark77]) (L' := L') (k := l2.length) (by simp) (by simp)
        rwa [List.take_left] at this)
      obtain ⟨⟨z1, z2, z3⟩, hZ⟩ : ∃ Z, shadowAll now free l2 need = Z := ⟨_, rfl⟩
      obtain ⟨Y, hY⟩ : ∃ Y, atAll now free l2 t = Y := ⟨_, rfl⟩
      obtain ⟨T, hT⟩ : ∃ T, stepsAll now free l2 = T := ⟨_, rfl⟩
      have hTl := stepsAll_length now free l2
      rw [hT] at hTl
      have HZ := Lib.hid hZ; have HY := Lib.hid hY; have HT := Lib.hid hT
      clear hZ hY hT
      go_wp2_with (first
        | (go_at_call 13; ((with_reducible refine (lend_ok HK (hR2 _) hl2).mono ?_)); rintro e w1 ⟨u, rfl, H1⟩; clear HK; obtain ⟨A7, c7, hu, -, hcu, hcv⟩ := row_shape H1.head; subst hu; rw [show (l2 ++ [mark77]).length = l2.length + 1 by simp] at H1 hcu ⊢; unfold maxLen at hcv)
        | (go_at_call 14; ((with_reducible refine (steps_ok H1 (hP7 _ _ _) hl2 now free).mono ?_)); rw [HT.out]; rintro e w2 ⟨a, rfl, H2⟩; clear H1; obtain ⟨A9, c9, ha, -, -⟩ := rd_shape (ownStps H2); subst ha)
        | (go_at_call 15; ((with_reducible refine (atAll_ok H2 ((hP7 _ _ _).cons _) hl2 now free t).mono ?_)); rw [HY.out]; rintro e w3 ⟨rfl, H3⟩; clear H2)
        | (go_at_call 16; ((with_reducible refine (shadow_ok H3 ((hP7 _ _ _).cons _) hl2 now free need).mono ?_)); rw [HZ.out]; simp only [shV]; rintro e w4 ⟨rfl, H4⟩; clear H3)
        | (go_at_call 17; ((with_reducible refine (Ref.shadow_ok H4 (hR2 _) hl2 now free need).mono ?_)); rw [HZ.out]; simp only [shV]; rintro e w5 ⟨rfl, H5⟩; clear H4)
        | (go_at_call 18; ((with_reducible refine (Ref.steps_ok H5 (hR2 _) hl2 now free).mono ?_)); rw [HT.out]; rintro e w6 ⟨b, rfl, H6⟩; clear H5)
        | (go_at_call 19; refine (sameSteps_ok (a := T) (b := T) H6 (show Stps w _ (.slice A9 T.length c9) T from fun W H => rd_row H.tail.head) (show Stps w _ b T from fun W H => rd_row H.head)).mono ?_; rw [decide_eq_true rfl]; rintro e w7 ⟨rfl, H7⟩; clear H6)
        | (go_at_call 20; ((with_reducible refine (Ref.atAll_ok H7 (hR2 _) hl2 now free t).mono ?_)); rw [HY.out]; rintro e w8 ⟨rfl, rfl⟩)
        | (go_at_call 21; have H8 := H7.sel 4 [2, 0, 1, 3]; refine (still_ok H8 (hR2 _) hl2).mono ?_; rintro e w9 ⟨m', rfl, hm', H9⟩; clear H7 H8 hm'; have H10 := (H9.alloc' (.cells #[.slice A9 T.length c9] 26)).sel 4 [3, 2]; clear H9)
        | (at_builtin; refine wpList_append_hl sliceOuts rfl _ _ rfl (v := u13) (xv := .slice (some ⟨w9.heap.size, 0, none⟩) 1 1) (n := Q.length) (m := 1) (xs := Q.map Prod.fst) (news := [.slice A9 T.length c9]) H10 rfl rfl (rd_one rfl) (by simp [Value.oneCell']) (by unfold maxLen; omega) (by omega) ?_; intro v13 w13 H13 _; clear H10))
      go_roundg (1)
      case measure => omega
      case rel =>
        refine ⟨2, Q ++ [(.slice A9 T.length c9, T)], by go_num, by omega, by rw [List.length_append, Hk.out]; rfl, fun j q hq => ?_, ?_⟩
        · rcases Nat.lt_or_ge j 1 with h | h
          · rw [List.getElem?_append_left (by rw [Hk.out]; omega)] at hq
            exact HQ.out j q hq
          · have hj : j = 1 := by have := (List.getElem?_eq_some_iff.1 hq).1; rw [List.length_append, Hk.out] at this; simp at this; omega
            subst hj
            rw [List.getElem?_append_right (by rw [Hk.out]; omega), Hk.out] at hq
            simp at hq
            subst hq
            exact HT.out.symm
        · exact outs_more H13
    · have Hk := Lib.hid hQl
      have hk3 : Q.length ≤ 3 := by omega
      clear hQl
      have hP7 := fun (A7 : Option Addr) (c7 : Nat) (L' : List At) => (show Runs w (runsAt w.heap.size (.slice A7 (l.length + 1) c7) (l ++ [mark77]) :: L') (.slice A7 l.length c7) l from by
        have := entPrefix (w0 := w) (A := A7) (n := l.length + 1) (c := c7) (base := w.heap.size) (m := l ++ [mark77]) (L' := L') (k := l.length) (by simp) (by simp)
        rwa [List.take_left] at this)
      obtain ⟨⟨z1, z2, z3⟩, hZ⟩ : ∃ Z, shadowAll now free l need = Z := ⟨_, rfl⟩
      obtain ⟨Y, hY⟩ : ∃ Y, atAll now free l t = Y := ⟨_, rfl⟩
      obtain ⟨T, hT⟩ : ∃ T, stepsAll now free l = T := ⟨_, rfl⟩
      have hTl := stepsAll_length now free l
      rw [hT] at hTl
      have HZ := Lib.hid hZ; have HY := Lib.hid hY; have HT := Lib.hid hT
      clear hZ hY hT
      go_wp2_with (first
        | (go_at_call 13; ((with_reducible refine (lend_ok HK (hR _) hl).mono ?_)); rintro e w1 ⟨u, rfl, H1⟩; clear HK; obtain ⟨A7, c7, hu, -, hcu, hcv⟩ := row_shape H1.head; subst hu; rw [show (l ++ [mark77]).length = l.length + 1 by simp] at H1 hcu ⊢; unfold maxLen at hcv)
        | (go_at_call 14; ((with_reducible refine (steps_ok H1 (hP7 _ _ _) hl now free).mono ?_)); rw [HT.out]; rintro e w2 ⟨a, rfl, H2⟩; clear H1; obtain ⟨A9, c9, ha, -, -⟩ := rd_shape (ownStps H2); subst ha)
        | (go_at_call 15; ((with_reducible refine (atAll_ok H2 ((hP7 _ _ _).cons _) hl now free t).mono ?_)); rw [HY.out]; rintro e w3 ⟨rfl, H3⟩; clear H2)
        | (go_at_call 16; ((with_reducible refine (shadow_ok H3 ((hP7 _ _ _).cons _) hl now free need).mono ?_)); rw [HZ.out]; simp only [shV]; rintro e w4 ⟨rfl, H4⟩; clear H3)
        | (go_at_call 17; ((with_reducible refine (Ref.shadow_ok H4 (hR _) hl now free need).mono ?_)); rw [HZ.out]; simp only [shV]; rintro e w5 ⟨rfl, H5⟩; clear H4)
        | (go_at_call 18; ((with_reducible refine (Ref.steps_ok H5 (hR _) hl now free).mono ?_)); rw [HT.out]; rintro e w6 ⟨b, rfl, H6⟩; clear H5)
        | (go_at_call 19; refine (sameSteps_ok (a := T) (b := T) H6 (show Stps w _ (.slice A9 T.length c9) T from fun W H => rd_row H.tail.head) (show Stps w _ b T from fun W H => rd_row H.head)).mono ?_; rw [decide_eq_true rfl]; rintro e w7 ⟨rfl, H7⟩; clear H6)
        | (go_at_call 20; ((with_reducible refine (Ref.atAll_ok H7 (hR _) hl now free t).mono ?_)); rw [HY.out]; rintro e w8 ⟨rfl, rfl⟩)
        | (go_at_call 21; have H8 := H7.sel 4 [2, 0, 1, 3]; refine (still_ok H8 (hR _) hl).mono ?_; rintro e w9 ⟨m', rfl, hm', H9⟩; clear H7 H8 hm'; have H10 := (H9.alloc' (.cells #[.slice A9 T.length c9] 26)).sel 4 [3, 2]; clear H9)
        | (at_builtin; refine wpList_append_hl sliceOuts rfl _ _ rfl (v := u13) (xv := .slice (some ⟨w9.heap.size, 0, none⟩) 1 1) (n := Q.length) (m := 1) (xs := Q.map Prod.fst) (news := [.slice A9 T.length c9]) H10 rfl rfl (rd_one rfl) (by simp [Value.oneCell']) (by unfold maxLen; omega) (by omega) ?_; intro v13 w13 H13 _; clear H10))
      go_roundg (0)
      case measure => omega
      case rel =>
        refine ⟨3, Q ++ [(.slice A9 T.length c9, T)], by go_num, by omega, by rw [List.length_append, Hk.out]; rfl, fun j q hq => ?_, ?_⟩
        · rcases Nat.lt_or_ge j 2 with h | h
          · rw [List.getElem?_append_left (by rw [Hk.out]; omega)] at hq
            exact HQ.out j q hq
          · have hj : j = 2 := by have := (List.getElem?_eq_some_iff.1 hq).1; rw [List.length_append, Hk.out] at this; simp at this; omega
            subst hj
            rw [List.getElem?_append_right (by rw [Hk.out]; omega), Hk.out] at hq
            simp at hq
            subst hq
            exact HT.out.symm
        · exact outs_more H13
    · have hq3 : ∀ q ∈ Q, q.2.length ≤ 8796093022001 := fun q hq => by
        obtain ⟨j, hj, rfl⟩ := List.getElem_of_mem hq
        rw [HQ.out j _ (List.getElem?_eq_getElem hj)]
        unfold wasO
        split
        · have := stepsAll_length now free l2; omega
        · have := stepsAll_length now free l; omega
      have Hk := Lib.hid hQl; have Hq3 := Lib.hid hq3
      clear hQl hq3
      have HK3 : HL w wr (row w.heap.size 26 1 u13 3 (Q.map Prod.fst) :: (atsO w.heap.size Q ++ [])) := by
        have := HK; unfold rowO at this; rw [Hk.out] at this; exact this
      obtain ⟨G, d, rfl, hG, hd1, hd2⟩ := row_shape (show wr.ownsRow w.heap.size 26 1 u13 3 (Q.map Prod.fst) from HK3.head)
      obtain ⟨g, rfl⟩ := hG.resolve_left (by omega)
      clear HK
      go_wp2
      go_loopg [27] 3 (fun g2 i wr => ∃ (k : Nat) (Q2 : List (Value × List Sp)), i = .int .i64 k ∧ k + g2 = 3 ∧ Q2.length = 3 ∧ (∀ j q, k ≤ j → Q2[j]? = some q → q.2 = stepsAll now free (wasO l l2 j)) ∧ HL w wr (row w.heap.size 26 1 (.slice (some ⟨g, 0, none⟩) 3 d) 3 (Q2.map Prod.fst) :: (atsO w.heap.size Q2 ++ [])))
      case atStart => exact ⟨0, Q, rfl, rfl, Hk.out, (fun j q _ h => HQ.out j q h), HK3⟩
      case round =>
        obtain ⟨k, Q2, rfl, hk, hQl2, hQ2, HK⟩ := hrel
        have hk4 : (k = 0 ∧ gk = 3) ∨ (k = 1 ∧ gk = 2) ∨ (k = 2 ∧ gk = 1) ∨ (k = 3 ∧ gk = 0) := by omega
        clear HK3
        rcases hk4 with ⟨rfl, rfl⟩ | ⟨rfl, rfl⟩ | ⟨rfl, rfl⟩ | ⟨rfl, rfl⟩
        · obtain ⟨⟨a, T⟩, hq⟩ : ∃ q, Q2[0]? = some q := ⟨_, List.getElem?_eq_getElem (by omega)⟩
          have hT : stepsAll now free l = T := (hQ2 0 _ (Nat.le_refl _) hq).symm
          have hTl := stepsAll_length now free l
          rw [hT] at hTl
          have H1 := HK.perm (List.Perm.cons _ (((ats_take Q2 0 _ hq).append_right []).trans (List.Perm.refl _)))
          have H2 := H1.swap
          obtain ⟨A9, c9, ha, hA9, hd9, hd8⟩ := row_shape (show wr.ownsRow w.heap.size 34 2 a T.length (T.flatMap encS) from H2.head)
          subst ha
          have hvk : (Q2.map Prod.fst)[0]? = some (.slice A9 T.length c9) := by rw [List.getElem?_map, hq]; rfl
          have S1 : wr.drew.cell? ⟨g, 0, none⟩ = some (.slice A9 T.length c9) := (H2.drew.swap).rowCell (E := 26) (List.mem_cons_self ..) 0 _ hvk
          have HX := H2.drew
          have HT := Lib.hid hT; have Hq := Lib.hid hq; have HQ2 := Lib.hid hQ2; have Hk2 := Lib.hid hQl2; have Hvk := Lib.hid hvk
          unfold maxLen at hd8
          clear hT hq hQ2 hQl2 hvk HK H1 H2
          go_wp2
          go_region_held (fun w' => w'.cell? ⟨g, 0, none⟩ = some (.slice A9 T.length c9)) (first | assumption | go_keep)
            (first
              | (go_at_call 18; refine (Ref.steps_ok HX (hR _) hl now free).mono ?_; rw [HT.out]; rintro e w2 ⟨b, rfl, H3⟩; clear HX S1; have S1 : w2.cell? ⟨g, 0, none⟩ = some (.slice A9 T.length c9) := (H3.sel 3 [2]).rowCell (E := 26) (List.mem_cons_self ..) 0 _ Hvk.out)
              | (go_at_call 19; refine (sameSteps_ok (a := T) (b := T) H3 (show Stps w _ (.slice A9 T.length c9) T from fun W H => rd_row H.tail.head) (show Stps w _ b T from fun W H => rd_row H.head)).mono ?_; rw [decide_eq_true rfl]; rintro e w3 ⟨rfl, H4⟩; clear H3 S1; have S1 : w3.cell? ⟨g, 0, none⟩ = some (.slice A9 T.length c9) := (H4.sel 3 [2]).rowCell (E := 26) (List.mem_cons_self ..) 0 _ Hvk.out))
          have H5 := H4.sel 3 [1, 2]
          clear H4 S1
          go_wp2
          go_loopg [29] T.length (fun g4 i wq => ∃ (j : Nat) (T1 : List Sp), i = .int .i64 j ∧ j + g4 = T.length ∧ T1.length = T.length ∧ HL w wq (row w.heap.size 34 2 (.slice A9 T.length c9) T.length (T1.flatMap encS) :: row w.heap.size 26 1 (.slice (some ⟨g, 0, none⟩) 3 d) 3 (Q2.map Prod.fst) :: (atsO w.heap.size (Q2.eraseIdx 0) ++ [])))
          case atStart => exact ⟨0, T, rfl, by omega, rfl, H5⟩
          case round =>
            obtain ⟨j, T1, rfl, hj, hT1, HJ⟩ := hrel
            clear H5
            have S1 : wr.cell? ⟨g, 0, none⟩ = some (.slice A9 T.length c9) := (HJ.swap).rowCell (E := 26) (List.mem_cons_self ..) 0 _ Hvk.out
            have HT1 := Lib.hid hT1
            by_cases hlt : j < T.length
            · obtain ⟨ga, rfl⟩ := hA9.resolve_left (by omega)
              obtain ⟨x, hx⟩ : ∃ x, T1[j]? = some x := ⟨_, List.getElem?_eq_getElem (by omega)⟩
              have c0 : wr.cell? ⟨ga, j * 2, none⟩ = some (.int .i64 x.at_) := HJ.rowCell (List.mem_cons_self ..) _ _ (by
                rw [show j * 2 = j * 2 + 0 by omega, flat_at encS 2 (fun _ => rfl) T1 j 0 _ hx (by decide)]; rfl)
              have c1 : wr.cell? ⟨ga, j * 2 + 1, none⟩ = some (.int .i64 x.free) := HJ.rowCell (List.mem_cons_self ..) _ _ (by
                rw [flat_at encS 2 (fun _ => rfl) T1 j 1 _ hx (by decide)]; rfl)
              have f0 := HJ.rowFrozen (List.mem_cons_self ..) (j * 2)
              have f1 := HJ.rowFrozen (List.mem_cons_self ..) (j * 2 + 1)
              have HS := (HJ.setRow (j * 2) (.int .i64 (-9))).setRow (j * 2 + 1) (.int .i64 (-9))
              rw [set_stp (-9) (-9) T1 j (by omega)] at HS
              clear HJ hT1 hx
              go_wp2
              go_roundg (gk - 1)
              case measure => omega
              case rel => exact ⟨j + 1, T1.set j ⟨-9, -9⟩, by go_num, by omega, by rw [List.length_set]; exact HT1.out, HS⟩
            · have H6 : HL w wr (stpsAt w.heap.size (.slice A9 T.length c9) T1 :: row w.heap.size 26 1 (.slice (some ⟨g, 0, none⟩) 3 d) 3 ((Q2.map Prod.fst).set 0 (.slice A9 T.length c9)) :: (atsO w.heap.size (Q2.eraseIdx 0) ++ [])) := by
                unfold stpsAt
                rw [HT1.out, set_same Hvk.out]
                exact HJ
              clear HJ hT1
              go_wp2
              clear S1
              go_loopg [30] 9 (fun g6 i wq => ∃ (j2 : Nat) (a1 : Value) (T2 : List Sp), i = .int .i64 j2 ∧ j2 + g6 = 9 ∧ T2.length = T.length + j2 ∧ HL w wq (stpsAt w.heap.size a1 T2 :: row w.heap.size 26 1 (.slice (some ⟨g, 0, none⟩) 3 d) 3 ((Q2.map Prod.fst).set 0 a1) :: (atsO w.heap.size (Q2.eraseIdx 0) ++ [])))
              case atStart => exact ⟨0, _, T1, rfl, rfl, HT1.out, H6⟩
              case round =>
                obtain ⟨j2, a1, T2, rfl, hj2, hT2, HJ2⟩ := hrel
                clear H6
                have HT2 := Lib.hid hT2
                have hkl : 0 < (Q2.map Prod.fst).length := by rw [List.length_map, Hk2.out]; omega
                have Hkl := Lib.hid hkl
                by_cases hlt2 : j2 < 9
                · obtain ⟨A1, c1, rfl, -, -, -⟩ := row_shape (show wr.ownsRow w.heap.size 34 2 a1 T2.length (T2.flatMap encS) from HJ2.head)
                  have S1 : wr.cell? ⟨g, 0, none⟩ = some (.slice A1 T2.length c1) := (HJ2.swap).rowCell (E := 26) (List.mem_cons_self ..) 0 _ (List.getElem?_set_self hkl)
                  have HA := HJ2.alloc' (.cells #[.int .i64 (-8), .int .i64 0] 34)
                  have hr2 := rd_stp (w := wr) (x := ⟨-8, 0⟩)
                  have hb : T2.length + [(⟨-8, 0⟩ : Sp)].length ≤ 8796093022208 := by simp only [List.length_cons, List.length_nil]; omega
                  clear HJ2 hT2 hkl
                  go_wp2_with (at_builtin; refine append_stps (v := .slice A1 T2.length c1) (xv := .slice (some ⟨wr.heap.size, 0, none⟩) 1 1) (xs := T2) (ys := [⟨-8, 0⟩]) rfl _ _ rfl HA rfl rfl hr2 hb ?_; intro z w5 H7; clear HA hr2 S1; obtain ⟨A5, c5, hz, -, -, -⟩ := row_shape H7.head; generalize (T2 ++ [(⟨-8, 0⟩ : Sp)]).length = n5 at hz; subst hz; have f5 := (H7.swap).rowFrozen (List.mem_cons_self ..) 0; have S5 := (H7.swap).rowCell (E := 26) (List.mem_cons_self ..) 0 _ (List.getElem?_set_self Hkl.out); have HS := (H7.swap).setRow 0 (.slice A5 n5 c5); rw [List.set_set] at HS; clear H7)
                  go_roundg (gk - 1)
                  case measure => omega
                  case rel => exact ⟨j2 + 1, .slice A5 n5 c5, T2 ++ [⟨-8, 0⟩], by go_num, by omega, by rw [List.length_append, HT2.out]; rfl, HS.swap⟩
                · clear hT2 hkl
                  go_wp2
                  go_roundg (2)
                  case measure => omega
                  case rel =>
                    refine ⟨1, Q2.set 0 (a1, T2), by go_num, by omega, by rw [List.length_set]; exact Hk2.out, fun j q hj hq => ?_, ?_⟩
                    · rw [List.getElem?_set_ne (by omega)] at hq
                      exact HQ2.out j q (by omega) hq
                    · rw [List.map_set]
                      exact (HJ2.swap).perm (List.Perm.cons _ ((ats_set Q2 0 _ (a1, T2) Hq.out).symm.append_right []))
        · obtain ⟨⟨a, T⟩, hq⟩ : ∃ q, Q2[1]? = some q := ⟨_, List.getElem?_eq_getElem (by omega)⟩
          have hT : stepsAll now free l2 = T := (hQ2 1 _ (Nat.le_refl _) hq).symm
          have hTl := stepsAll_length now free l2
          rw [hT] at hTl
          have H1 := HK.perm (List.Perm.cons _ (((ats_take Q2 1 _ hq).append_right []).trans (List.Perm.refl _)))
          have H2 := H1.swap
          obtain ⟨A9, c9, ha, hA9, hd9, hd8⟩ := row_shape (show wr.ownsRow w.heap.size 34 2 a T.length (T.flatMap encS) from H2.head)
          subst ha
          have hvk : (Q2.map Prod.fst)[1]? = some (.slice A9 T.length c9) := by rw [List.getElem?_map, hq]; rfl
          have S1 : wr.drew.cell? ⟨g, 1, none⟩ = some (.slice A9 T.length c9) := (H2.drew.swap).rowCell (E := 26) (List.mem_cons_self ..) 1 _ hvk
          have HX := H2.drew
          have HT := Lib.hid hT; have Hq := Lib.hid hq; have HQ2 := Lib.hid hQ2; have Hk2 := Lib.hid hQl2; have Hvk := Lib.hid hvk
          unfold maxLen at hd8
          clear hT hq hQ2 hQl2 hvk HK H1 H2
          go_wp2
          go_region_held (fun w' => w'.cell? ⟨g, 1, none⟩ = some (.slice A9 T.length c9)) (first | assumption | go_keep)
            (first
              | (go_at_call 18; refine (Ref.steps_ok HX (hR2 _) hl2 now free).mono ?_; rw [HT.out]; rintro e w2 ⟨b, rfl, H3⟩; clear HX S1; have S1 : w2.cell? ⟨g, 1, none⟩ = some (.slice A9 T.length c9) := (H3.sel 3 [2]).rowCell (E := 26) (List.mem_cons_self ..) 1 _ Hvk.out)
              | (go_at_call 19; refine (sameSteps_ok (a := T) (b := T) H3 (show Stps w _ (.slice A9 T.length c9) T from fun W H => rd_row H.tail.head) (show Stps w _ b T from fun W H => rd_row H.head)).mono ?_; rw [decide_eq_true rfl]; rintro e w3 ⟨rfl, H4⟩; clear H3 S1; have S1 : w3.cell? ⟨g, 1, none⟩ = some (.slice A9 T.length c9) := (H4.sel 3 [2]).rowCell (E := 26) (List.mem_cons_self ..) 1 _ Hvk.out))
          have H5 := H4.sel 3 [1, 2]
          clear H4 S1
          go_wp2
          go_loopg [29] T.length (fun g4 i wq => ∃ (j : Nat) (T1 : List Sp), i = .int .i64 j ∧ j + g4 = T.length ∧ T1.length = T.length ∧ HL w wq (row w.heap.size 34 2 (.slice A9 T.length c9) T.length (T1.flatMap encS) :: row w.heap.size 26 1 (.slice (some ⟨g, 0, none⟩) 3 d) 3 (Q2.map Prod.fst) :: (atsO w.heap.size (Q2.eraseIdx 1) ++ [])))
          case atStart => exact ⟨0, T, rfl, by omega, rfl, H5⟩
          case round =>
            obtain ⟨j, T1, rfl, hj, hT1, HJ⟩ := hrel
            clear H5
            have S1 : wr.cell? ⟨g, 1, none⟩ = some (.slice A9 T.length c9) := (HJ.swap).rowCell (E := 26) (List.mem_cons_self ..) 1 _ Hvk.out
            have HT1 := Lib.hid hT1
            by_cases hlt : j < T.length
            · obtain ⟨ga, rfl⟩ := hA9.resolve_left (by omega)
              obtain ⟨x, hx⟩ : ∃ x, T1[j]? = some x := ⟨_, List.getElem?_eq_getElem (by omega)⟩
              have c0 : wr.cell? ⟨ga, j * 2, none⟩ = some (.int .i64 x.at_) := HJ.rowCell (List.mem_cons_self ..) _ _ (by
                rw [show j * 2 = j * 2 + 0 by omega, flat_at encS 2 (fun _ => rfl) T1 j 0 _ hx (by decide)]; rfl)
              have c1 : wr.cell? ⟨ga, j * 2 + 1, none⟩ = some (.int .i64 x.free) := HJ.rowCell (List.mem_cons_self ..) _ _ (by
                rw [flat_at encS 2 (fun _ => rfl) T1 j 1 _ hx (by decide)]; rfl)
              have f0 := HJ.rowFrozen (List.mem_cons_self ..) (j * 2)
              have f1 := HJ.rowFrozen (List.mem_cons_self ..) (j * 2 + 1)
              have HS := (HJ.setRow (j * 2) (.int .i64 (-9))).setRow (j * 2 + 1) (.int .i64 (-9))
              rw [set_stp (-9) (-9) T1 j (by omega)] at HS
              clear HJ hT1 hx
              go_wp2
              go_roundg (gk - 1)
              case measure => omega
              case rel => exact ⟨j + 1, T1.set j ⟨-9, -9⟩, by go_num, by omega, by rw [List.length_set]; exact HT1.out, HS⟩
            · have H6 : HL w wr (stpsAt w.heap.size (.slice A9 T.length c9) T1 :: row w.heap.size 26 1 (.slice (some ⟨g, 0, none⟩) 3 d) 3 ((Q2.map Prod.fst).set 1 (.slice A9 T.length c9)) :: (atsO w.heap.size (Q2.eraseIdx 1) ++ [])) := by
                unfold stpsAt
                rw [HT1.out, set_same Hvk.out]
                exact HJ
              clear HJ hT1
              go_wp2
              clear S1
              go_loopg [30] 9 (fun g6 i wq => ∃ (j2 : Nat) (a1 : Value) (T2 : List Sp), i = .int .i64 j2 ∧ j2 + g6 = 9 ∧ T2.length = T.length + j2 ∧ HL w wq (stpsAt w.heap.size a1 T2 :: row w.heap.size 26 1 (.slice (some ⟨g, 0, none⟩) 3 d) 3 ((Q2.map Prod.fst).set 1 a1) :: (atsO w.heap.size (Q2.eraseIdx 1) ++ [])))
              case atStart => exact ⟨0, _, T1, rfl, rfl, HT1.out, H6⟩
              case round =>
                obtain ⟨j2, a1, T2, rfl, hj2, hT2, HJ2⟩ := hrel
                clear H6
                have HT2 := Lib.hid hT2
                have hkl : 1 < (Q2.map Prod.fst).length := by rw [List.length_map, Hk2.out]; omega
                have Hkl := Lib.hid hkl
                by_cases hlt2 : j2 < 9
                · obtain ⟨A1, c1, rfl, -, -, -⟩ := row_shape (show wr.ownsRow w.heap.size 34 2 a1 T2.length (T2.flatMap encS) from HJ2.head)
                  have S1 : wr.cell? ⟨g, 1, none⟩ = some (.slice A1 T2.length c1) := (HJ2.swap).rowCell (E := 26) (List.mem_cons_self ..) 1 _ (List.getElem?_set_self hkl)
                  have HA := HJ2.alloc' (.cells #[.int .i64 (-8), .int .i64 0] 34)
                  have hr2 := rd_stp (w := wr) (x := ⟨-8, 0⟩)
                  have hb : T2.length + [(⟨-8, 0⟩ : Sp)].length ≤ 8796093022208 := by simp only [List.length_cons, List.length_nil]; omega
                  clear HJ2 hT2 hkl
                  go_wp2_with (at_builtin; refine append_stps (v := .slice A1 T2.length c1) (xv := .slice (some ⟨wr.heap.size, 0, none⟩) 1 1) (xs := T2) (ys := [⟨-8, 0⟩]) rfl _ _ rfl HA rfl rfl hr2 hb ?_; intro z w5 H7; clear HA hr2 S1; obtain ⟨A5, c5, hz, -, -, -⟩ := row_shape H7.head; generalize (T2 ++ [(⟨-8, 0⟩ : Sp)]).length = n5 at hz; subst hz; have f5 := (H7.swap).rowFrozen (List.mem_cons_self ..) 1; have S5 := (H7.swap).rowCell (E := 26) (List.mem_cons_self ..) 1 _ (List.getElem?_set_self Hkl.out); have HS := (H7.swap).setRow 1 (.slice A5 n5 c5); rw [List.set_set] at HS; clear H7)
                  go_roundg (gk - 1)
                  case measure => omega
                  case rel => exact ⟨j2 + 1, .slice A5 n5 c5, T2 ++ [⟨-8, 0⟩], by go_num, by omega, by rw [List.length_append, HT2.out]; rfl, HS.swap⟩
                · clear hT2 hkl
                  go_wp2
                  go_roundg (1)
                  case measure => omega
                  case rel =>
                    refine ⟨2, Q2.set 1 (a1, T2), by go_num, by omega, by rw [List.length_set]; exact Hk2.out, fun j q hj hq => ?_, ?_⟩
                    · rw [List.getElem?_set_ne (by omega)] at hq
                      exact HQ2.out j q (by omega) hq
                    · rw [List.map_set]
                      exact (HJ2.swap).perm (List.Perm.cons _ ((ats_set Q2 1 _ (a1, T2) Hq.out).symm.append_right []))
        · obtain ⟨⟨a, T⟩, hq⟩ : ∃ q, Q2[2]? = some q := ⟨_, List.getElem?_eq_getElem (by omega)⟩
          have hT : stepsAll now free l = T := (hQ2 2 _ (Nat.le_refl _) hq).symm
          have hTl := stepsAll_length now free l
          rw [hT] at hTl
          have H1 := HK.perm (List.Perm.cons _ (((ats_take Q2 2 _ hq).append_right []).trans (List.Perm.refl _)))
          have H2 := H1.swap
          obtain ⟨A9, c9, ha, hA9, hd9, hd8⟩ := row_shape (show wr.ownsRow w.heap.size 34 2 a T.length (T.flatMap encS) from H2.head)
          subst ha
          have hvk : (Q2.map Prod.fst)[2]? = some (.slice A9 T.length c9) := by rw [List.getElem?_map, hq]; rfl
          have S1 : wr.drew.cell? ⟨g, 2, none⟩ = some (.slice A9 T.length c9) := (H2.drew.swap).rowCell (E := 26) (List.mem_cons_self ..) 2 _ hvk
          have HX := H2.drew
          have HT := Lib.hid hT; have Hq := Lib.hid hq; have HQ2 := Lib.hid hQ2; have Hk2 := Lib.hid hQl2; have Hvk := Lib.hid hvk
          unfold maxLen at hd8
          clear hT hq hQ2 hQl2 hvk HK H1 H2
          go_wp2
          go_region_held (fun w' => w'.cell? ⟨g, 2, none⟩ = some (.slice A9 T.length c9)) (first | assumption | go_keep)
            (first
              | (go_at_call 18; refine (Ref.steps_ok HX (hR _) hl now free).mono ?_; rw [HT.out]; rintro e w2 ⟨b, rfl, H3⟩; clear HX S1; have S1 : w2.cell? ⟨g, 2, none⟩ = some (.slice A9 T.length c9) := (H3.sel 3 [2]).rowCell (E := 26) (List.mem_cons_self ..) 2 _ Hvk.out)
              | (go_at_call 19; refine (sameSteps_ok (a := T) (b := T) H3 (show Stps w _ (.slice A9 T.length c9) T from fun W H => rd_row H.tail.head) (show Stps w _ b T from fun W H => rd_row H.head)).mono ?_; rw [decide_eq_true rfl]; rintro e w3 ⟨rfl, H4⟩; clear H3 S1; have S1 : w3.cell? ⟨g, 2, none⟩ = some (.slice A9 T.length c9) := (H4.sel 3 [2]).rowCell (E := 26) (List.mem_cons_self ..) 2 _ Hvk.out))
          have H5 := H4.sel 3 [1, 2]
          clear H4 S1
          go_wp2
          go_loopg [29] T.length (fun g4 i wq => ∃ (j : Nat) (T1 : List Sp), i = .int .i64 j ∧ j + g4 = T.length ∧ T1.length = T.length ∧ HL w wq (row w.heap.size 34 2 (.slice A9 T.length c9) T.length (T1.flatMap encS) :: row w.heap.size 26 1 (.slice (some ⟨g, 0, none⟩) 3 d) 3 (Q2.map Prod.fst) :: (atsO w.heap.size (Q2.eraseIdx 2) ++ [])))
          case atStart => exact ⟨0, T, rfl, by omega, rfl, H5⟩
          case round =>
            obtain ⟨j, T1, rfl, hj, hT1, HJ⟩ := hrel
            clear H5
            have S1 : wr.cell? ⟨g, 2, none⟩ = some (.slice A9 T.length c9) := (HJ.swap).rowCell (E := 26) (List.mem_cons_self ..) 2 _ Hvk.out
            have HT1 := Lib.hid hT1
            by_cases hlt : j < T.length
            · obtain ⟨ga, rfl⟩ := hA9.resolve_left (by omega)
              obtain ⟨x, hx⟩ : ∃ x, T1[j]? = some x := ⟨_, List.getElem?_eq_getElem (by omega)⟩
              have c0 : wr.cell? ⟨ga, j * 2, none⟩ = some (.int .i64 x.at_) := HJ.rowCell (List.mem_cons_self ..) _ _ (by
                rw [show j * 2 = j * 2 + 0 by omega, flat_at encS 2 (fun _ => rfl) T1 j 0 _ hx (by decide)]; rfl)
              have c1 : wr.cell? ⟨ga, j * 2 + 1, none⟩ = some (.int .i64 x.free) := HJ.rowCell (List.mem_cons_self ..) _ _ (by
                rw [flat_at encS 2 (fun _ => rfl) T1 j 1 _ hx (by decide)]; rfl)
              have f0 := HJ.rowFrozen (List.mem_cons_self ..) (j * 2)
              have f1 := HJ.rowFrozen (List.mem_cons_self ..) (j * 2 + 1)
              have HS := (HJ.setRow (j * 2) (.int .i64 (-9))).setRow (j * 2 + 1) (.int .i64 (-9))
              rw [set_stp (-9) (-9) T1 j (by omega)] at HS
              clear HJ hT1 hx
              go_wp2
              go_roundg (gk - 1)
              case measure => omega
              case rel => exact ⟨j + 1, T1.set j ⟨-9, -9⟩, by go_num, by omega, by rw [List.length_set]; exact HT1.out, HS⟩
            · have H6 : HL w wr (stpsAt w.heap.size (.slice A9 T.length c9) T1 :: row w.heap.size 26 1 (.slice (some ⟨g, 0, none⟩) 3 d) 3 ((Q2.map Prod.fst).set 2 (.slice A9 T.length c9)) :: (atsO w.heap.size (Q2.eraseIdx 2) ++ [])) := by
                unfold stpsAt
                rw [HT1.out, set_same Hvk.out]
                exact HJ
              clear HJ hT1
              go_wp2
              clear S1
              go_loopg [30] 9 (fun g6 i wq => ∃ (j2 : Nat) (a1 : Value) (T2 : List Sp), i = .int .i64 j2 ∧ j2 + g6 = 9 ∧ T2.length = T.length + j2 ∧ HL w wq (stpsAt w.heap.size a1 T2 :: row w.heap.size 26 1 (.slice (some ⟨g, 0, none⟩) 3 d) 3 ((Q2.map Prod.fst).set 2 a1) :: (atsO w.heap.size (Q2.eraseIdx 2) ++ [])))
              case atStart => exact ⟨0, _, T1, rfl, rfl, HT1.out, H6⟩
              case round =>
                obtain ⟨j2, a1, T2, rfl, hj2, hT2, HJ2⟩ := hrel
                clear H6
                have HT2 := Lib.hid hT2
                have hkl : 2 < (Q2.map Prod.fst).length := by rw [List.length_map, Hk2.out]; omega
                have Hkl := Lib.hid hkl
                by_cases hlt2 : j2 < 9
                · obtain ⟨A1, c1, rfl, -, -, -⟩ := row_shape (show wr.ownsRow w.heap.size 34 2 a1 T2.length (T2.flatMap encS) from HJ2.head)
                  have S1 : wr.cell? ⟨g, 2, none⟩ = some (.slice A1 T2.length c1) := (HJ2.swap).rowCell (E := 26) (List.mem_cons_self ..) 2 _ (List.getElem?_set_self hkl)
                  have HA := HJ2.alloc' (.cells #[.int .i64 (-8), .int .i64 0] 34)
                  have hr2 := rd_stp (w := wr) (x := ⟨-8, 0⟩)
                  have hb : T2.length + [(⟨-8, 0⟩ : Sp)].length ≤ 8796093022208 := by simp only [List.length_cons, List.length_nil]; omega
                  clear HJ2 hT2 hkl
                  go_wp2_with (at_builtin; refine append_stps (v := .slice A1 T2.length c1) (xv := .slice (some ⟨wr.heap.size, 0, none⟩) 1 1) (xs := T2) (ys := [⟨-8, 0⟩]) rfl _ _ rfl HA rfl rfl hr2 hb ?_; intro z w5 H7; clear HA hr2 S1; obtain ⟨A5, c5, hz, -, -, -⟩ := row_shape H7.head; generalize (T2 ++ [(⟨-8, 0⟩ : Sp)]).length = n5 at hz; subst hz; have f5 := (H7.swap).rowFrozen (List.mem_cons_self ..) 2; have S5 := (H7.swap).rowCell (E := 26) (List.mem_cons_self ..) 2 _ (List.getElem?_set_self Hkl.out); have HS := (H7.swap).setRow 2 (.slice A5 n5 c5); rw [List.set_set] at HS; clear H7)
                  go_roundg (gk - 1)
                  case measure => omega
                  case rel => exact ⟨j2 + 1, .slice A5 n5 c5, T2 ++ [⟨-8, 0⟩], by go_num, by omega, by rw [List.length_append, HT2.out]; rfl, HS.swap⟩
                · clear hT2 hkl
                  go_wp2
                  go_roundg (0)
                  case measure => omega
                  case rel =>
                    refine ⟨3, Q2.set 2 (a1, T2), by go_num, by omega, by rw [List.length_set]; exact Hk2.out, fun j q hj hq => ?_, ?_⟩
                    · rw [List.getElem?_set_ne (by omega)] at hq
                      exact HQ2.out j q (by omega) hq
                    · rw [List.map_set]
                      exact (HJ2.swap).perm (List.Perm.cons _ ((ats_set Q2 2 _ (a1, T2) Hq.out).symm.append_right []))
        · go_wp2
          go_ret
          exact ⟨rfl, HK.below⟩
end Go.Proofs.Ytebibcaahjmjfaa

/- The law VerbsBack. -/
import Derived.Test.YtdekbbffoaphhaaDoorVeShown
import Derived.Test.YtdekbbffoaphhaaDoorVeBackP
set_option linter.unusedVariables false
set_option linter.unusedSimpArgs false
namespace Go.Proofs.YtdekbbffoaphhaaDoor
open Go.RowKit Go.Proofs.HL Go.Proofs.Ve
theorem CmOk.zero (k : Int) : CmOk (zeroC k) := ⟨by show (0 : Nat) ≤ _; omega, by show (0 : Nat) ≤ _; omega, fun f => by unfold numF zeroC; dsimp only; split <;> (try split) <;> (try split) <;> (try split) <;> decide⟩
theorem CmOk.setT {o : Cm} (h : CmOk o) (f : Nat) {s : ByteArray} (hs : s.size ≤ 140737488351232) : CmOk (setT o f s) := by
  unfold Ve.setT
  split
  · exact ⟨hs, h.par, h.nums⟩
  · exact ⟨h.name, hs, h.nums⟩
theorem CmOk.setN {o : Cm} (h : CmOk o) (f : Nat) {n : Int} (hn : -9223372036854775808 ≤ n ∧ n ≤ 9223372036854775807) : CmOk (setN o f n) := by
  have a2 := h.nums 2; have a3 := h.nums 3; have a4 := h.nums 4; have a5 := h.nums 5; have a6 := h.nums 6
  simp only [numF] at a2 a3 a4 a5 a6
  simp at a2 a3 a4 a5 a6
  have key : ∀ (a b c d e : Int) (k : Int) (x y : ByteArray), (-9223372036854775808 ≤ a ∧ a ≤ 9223372036854775807) → (-9223372036854775808 ≤ b ∧ b ≤ 9223372036854775807) → (-9223372036854775808 ≤ c ∧ c ≤ 9223372036854775807) → (-9223372036854775808 ≤ d ∧ d ≤ 9223372036854775807) → (-9223372036854775808 ≤ e ∧ e ≤ 9223372036854775807) → ∀ g, -9223372036854775808 ≤ numF ⟨k, x, y, a, b, c, d, e⟩ g ∧ numF ⟨k, x, y, a, b, c, d, e⟩ g ≤ 9223372036854775807 := by
    intro a b c d e k x y ha hb hc hd he g
    unfold numF
    dsimp only
    split
    · exact ha
    · split
      · exact hb
      · split
        · exact hc
        · split
          · exact hd
          · exact he
  obtain ⟨k, x, y, a, b, c, d, e⟩ := o
  dsimp only at a2 a3 a4 a5 a6
  unfold Ve.setN
  split
  · exact ⟨h.name, h.par, key _ _ _ _ _ _ _ _ hn a3 a4 a5 a6⟩
  · split
    · exact ⟨h.name, h.par, key _ _ _ _ _ _ _ _ a2 hn a4 a5 a6⟩
    · split
      · exact ⟨h.name, h.par, key _ _ _ _ _ _ _ _ a2 a3 hn a5 a6⟩
      · split
        · exact ⟨h.name, h.par, key _ _ _ _ _ _ _ _ a2 a3 a4 hn a6⟩
        · exact ⟨h.name, h.par, key _ _ _ _ _ _ _ _ a2 a3 a4 a5 hn⟩
theorem CmOk.read : ∀ (fs : List Nat) (o p : Cm) (ws : List ByteArray), CmOk o → (∀ x ∈ ws, x.size ≤ 140737488351232) → readAll o fs ws = some p → CmOk p
  | [], o, p, ws, h, _, hr => by obtain rfl : o = p := Option.some.inj hr; exact h
  | f :: fs, o, p, [], h, _, hr => by cases hr
  | f :: fs, o, p, s :: r, h, hw, hr => by
    simp only [readAll] at hr
    cases h1 : readF o f s with
    | none => rw [h1] at hr; cases hr
    | some o1 =>
      rw [h1] at hr
      refine CmOk.read fs o1 p r ?_ (fun x hx => hw x (List.mem_cons_of_mem _ hx)) hr
      unfold readF at h1
      split at h1
      · split at h1
        · obtain rfl := Option.some.inj h1; exact h.setT f (hw s (List.mem_cons_self ..))
        · cases h1
      · split at h1
        · rename_i n hA
          split at h1
          · obtain rfl := Option.some.inj h1; exact h.setN f (Lib.atoiAll_bounds hA)
          · cases h1
        · cases h1
theorem CmOk.parse {line : ByteArray} (hl : line.size ≤ 140737488351232) {d : Cm} (h : parseR line = (d, 0)) : CmOk d := by
  unfold parseR at h
  split at h
  · simp at h
  · unfold parseW at h
    split at h
    · simp at h
    · split at h
      · split at h
        · simp at h
        · rename_i c hc
          obtain rfl : c = d := by simpa using h
          refine CmOk.read _ _ _ _ (CmOk.zero _) (fun x hx => ?_) hc
          have := split_size _ _ _ _ (List.mem_of_mem_tail hx)
          omega
      · simp at h
theorem print_small {c : Cm} (h : checkB c = true) (hc : CmOk c) : (⟨(printL c).toArray⟩ : ByteArray).size ≤ 140737488351232 := by
  have ht := there h hc.nums
  unfold parseR at ht
  split at ht
  · simp at ht
  · omega
set_option maxRecDepth 100000 in
set_option maxHeartbeats 8000000 in
theorem verbsBack_law {w : World} (hD : Doors w) {c : Cm} (hc : CmOk c) {line : ByteArray} (hl : line.size ≤ 140737488351232) :
    Calls Tryd.prog 5 #[cmV c, .string line] w fun e w' => e = .returned (.bool true) ∧ Below w.heap.size w w' := by
  have H0 := HL.allocC (HL.start w) c
  have hs := shown_ok hD H0
  obtain ⟨d, e2, hde⟩ : ∃ d e2, parseR line = (d, e2) := ⟨_, _, rfl⟩
  have hpl := fun W L' (HH : HL w W L') => by have := parse_ok hD HH line hl; rw [hde] at this; exact this
  have hcn : c.name.size ≤ 9223372036854775807 := by have := hc.name; omega
  have hcp : c.par.size ≤ 9223372036854775807 := by have := hc.par; omega
  have hck := fun W L' (HH : HL w W L') => check_ok HH c hcn hcp
  generalize hb1 : w.heap.size = b1 at *
  clear H0
  cases hb : checkB c with
  | true =>
    have hsm := print_small hb hc
    have hth := there hb hc.nums
    obtain ⟨s, hs1⟩ : ∃ s : ByteArray, (⟨(printL c).toArray⟩ : ByteArray) = s := ⟨_, rfl⟩
    have hp1 := fun W L' (HH : HL w W L') => by have := print_ok hD HH c hc hb; rw [hs1] at this; exact this
    rw [hs1] at hsm hth
    have hps := fun W L' (HH : HL w W L') => by have := parse_ok hD HH s hsm; rw [hth] at this; exact this
    rw [checkN_yes hb] at hck
    have hcmp := fun W => cmd_neq c c W
    rw [show neqC c c = false from by simp [neqC]] at hcmp
    have HB := Lib.hid hb; have HC := Lib.hid hc; have HS1 := Lib.hid hs1; have HTH := Lib.hid hth
    clear hb hc hs1 hth hsm
    by_cases he : e2 = 0
    · subst he
      have hd := CmOk.parse hl hde
      obtain ⟨hbd, hpd⟩ := back hde
      have hline : (⟨(printL d).toArray⟩ : ByteArray) = line := bytes_same (by rw [Go.ByteArray.toList_eq, Go.ByteArray.toList_eq, hpd])
      have hp2 := fun W L' (HH : HL w W L') => by have := print_ok hD HH d hd hbd; rw [hline] at this; exact this
      have hck2 := fun W L' (HH : HL w W L') => by have := check_ok HH d (by have := hd.name; omega) (by have := hd.par; omega); rw [checkN_yes hbd] at this; exact this
      have HBD := Lib.hid hbd; have HDD := Lib.hid hd; have HPD := Lib.hid hpd
      clear hbd hd hpd hline hde
      unfold cmV at *
      go_enter Tryd.func5, Tryd.ntmps5
      go_wp2_with (first
        | (go_at_call 10; refine hs.mono ?_; rintro e w1 ⟨rfl, H1⟩; clear hs; obtain ⟨n0, n1, n2, n3, n4, n5, n6, n7⟩ := boxC_cells H1)
        | (go_at_call 15; first | ((with_reducible refine (hp1 _ _ H1).mono ?_); rintro e w2 ⟨rfl, H2⟩; clear H1 n0 n1 n2 n3 n4 n5 n6 n7; obtain ⟨n0, n1, n2, n3, n4, n5, n6, n7⟩ := boxC_cells H2) | ((with_reducible refine (hp2 _ _ H7).mono ?_); rintro e w8 ⟨rfl, H8⟩; clear H7 x0 x1 x2 x3 x4 x5 x6 x7; obtain ⟨x0, x1, x2, x3, x4, x5, x6, x7⟩ := boxC_cells H8))
        | (go_at_call 17; first | ((with_reducible refine (hck _ _ H2).mono ?_); rintro e w3 ⟨rfl, H3⟩; clear H2 n0 n1 n2 n3 n4 n5 n6 n7; obtain ⟨n0, n1, n2, n3, n4, n5, n6, n7⟩ := boxC_cells H3) | ((with_reducible refine (hck2 _ _ H8).mono ?_); rintro e w9 ⟨rfl, H9⟩; clear H8))
        | (go_at_call 11; first | ((with_reducible refine (hps _ _ H3).mono ?_); rintro e w4 ⟨rfl, H4⟩; clear H3 n0 n1 n2 n3 n4 n5 n6 n7; have H5 := HL.allocC H4 c; obtain ⟨n0, n1, n2, n3, n4, n5, n6, n7⟩ := boxC_cells (H5.sel 2 [1, 0]); obtain ⟨m0, m1, m2, m3, m4, m5, m6, m7⟩ := boxC_cells H5) | ((with_reducible refine (hpl _ _ H5).mono ?_); rintro e w6 ⟨rfl, H6⟩; have H7 := HL.allocC H6 d; obtain ⟨x0, x1, x2, x3, x4, x5, x6, x7⟩ := boxC_cells H7)))
      go_ret
      exact ⟨rfl, by rw [← hb1]; exact H9.below⟩
    · have hz : d = zeroC 0 := by have := parse_err (line := line) (by rw [hde]; exact he); rw [hde] at this; exact this
      subst hz
      have hcz := fun W => cmd_eql (zeroC 0) (zeroC 0) W
      rw [show (!neqC (zeroC 0) (zeroC 0)) = true from by simp [neqC]] at hcz
      have he2 : (e2 != 0) = true := by simp [he]
      have HE := Lib.hid he
      clear he hde
      unfold cmV at *
      simp only [zeroC] at *
      go_enter Tryd.func5, Tryd.ntmps5
      go_wp2_with (first
        | (go_at_call 10; refine hs.mono ?_; rintro e w1 ⟨rfl, H1⟩; clear hs; obtain ⟨n0, n1, n2, n3, n4, n5, n6, n7⟩ := boxC_cells H1)
        | (go_at_call 15; first | ((with_reducible refine (hp1 _ _ H1).mono ?_); rintro e w2 ⟨rfl, H2⟩; clear H1 n0 n1 n2 n3 n4 n5 n6 n7; obtain ⟨n0, n1, n2, n3, n4, n5, n6, n7⟩ := boxC_cells H2))
        | (go_at_call 17; first | ((with_reducible refine (hck _ _ H2).mono ?_); rintro e w3 ⟨rfl, H3⟩; clear H2 n0 n1 n2 n3 n4 n5 n6 n7; obtain ⟨n0, n1, n2, n3, n4, n5, n6, n7⟩ := boxC_cells H3))
        | (go_at_call 11; first | ((with_reducible refine (hps _ _ H3).mono ?_); rintro e w4 ⟨rfl, H4⟩; clear H3 n0 n1 n2 n3 n4 n5 n6 n7; have H5 := HL.allocC H4 c; obtain ⟨n0, n1, n2, n3, n4, n5, n6, n7⟩ := boxC_cells (H5.sel 2 [1, 0]); obtain ⟨m0, m1, m2, m3, m4, m5, m6, m7⟩ := boxC_cells H5) | ((with_reducible refine (hpl _ _ H5).mono ?_); rintro e w6 ⟨rfl, H6⟩; have H7 := HL.allocC H6 (zeroC 0); obtain ⟨x0, x1, x2, x3, x4, x5, x6, x7⟩ := boxC_cells H7)))
      go_ret
      exact ⟨rfl, by rw [← hb1]; exact H7.below⟩
  | false =>
    have hp1 := fun W L' (HH : HL w W L') => print_no HH c hc hb
    rw [checkN_no hb] at hck
    have HB := Lib.hid hb; have HC := Lib.hid hc
    clear hb hc
    by_cases he : e2 = 0
    · subst he
      have hd := CmOk.parse hl hde
      obtain ⟨hbd, hpd⟩ := back hde
      have hline : (⟨(printL d).toArray⟩ : ByteArray) = line := bytes_same (by rw [Go.ByteArray.toList_eq, Go.ByteArray.toList_eq, hpd])
      have hp2 := fun W L' (HH : HL w W L') => by have := print_ok hD HH d hd hbd; rw [hline] at this; exact this
      have hck2 := fun W L' (HH : HL w W L') => by have := check_ok HH d (by have := hd.name; omega) (by have := hd.par; omega); rw [checkN_yes hbd] at this; exact this
      have HBD := Lib.hid hbd; have HDD := Lib.hid hd; have HPD := Lib.hid hpd
      clear hbd hd hpd hline hde
      unfold cmV at *
      go_enter Tryd.func5, Tryd.ntmps5
      go_wp2_with (first
        | (go_at_call 10; refine hs.mono ?_; rintro e w1 ⟨rfl, H1⟩; clear hs; obtain ⟨n0, n1, n2, n3, n4, n5, n6, n7⟩ := boxC_cells H1)
        | (go_at_call 15; first | ((with_reducible refine (hp1 _ _ H1).mono ?_); rintro e w2 ⟨rfl, H2⟩; clear H1 n0 n1 n2 n3 n4 n5 n6 n7; obtain ⟨n0, n1, n2, n3, n4, n5, n6, n7⟩ := boxC_cells H2) | ((with_reducible refine (hp2 _ _ H7).mono ?_); rintro e w8 ⟨rfl, H8⟩; clear H7 x0 x1 x2 x3 x4 x5 x6 x7; obtain ⟨x0, x1, x2, x3, x4, x5, x6, x7⟩ := boxC_cells H8))
        | (go_at_call 17; first | ((with_reducible refine (hck _ _ H2).mono ?_); rintro e w3 ⟨rfl, H3⟩; clear H2 n0 n1 n2 n3 n4 n5 n6 n7; obtain ⟨n0, n1, n2, n3, n4, n5, n6, n7⟩ := boxC_cells H3) | ((with_reducible refine (hck2 _ _ H8).mono ?_); rintro e w9 ⟨rfl, H9⟩; clear H8))
        | (go_at_call 11; first | ((with_reducible refine (hpl _ _ H3).mono ?_); rintro e w6 ⟨rfl, H6⟩; have H7 := HL.allocC H6 d; obtain ⟨x0, x1, x2, x3, x4, x5, x6, x7⟩ := boxC_cells H7)))
      go_ret
      exact ⟨rfl, by rw [← hb1]; exact H9.below⟩
    · have hz : d = zeroC 0 := by have := parse_err (line := line) (by rw [hde]; exact he); rw [hde] at this; exact this
      subst hz
      have hcz := fun W => cmd_eql (zeroC 0) (zeroC 0) W
      rw [show (!neqC (zeroC 0) (zeroC 0)) = true from by simp [neqC]] at hcz
      have he2 : (e2 != 0) = true := by simp [he]
      have HE := Lib.hid he
      clear he hde
      unfold cmV at *
      simp only [zeroC] at *
      go_enter Tryd.func5, Tryd.ntmps5
      go_wp2_with (first
        | (go_at_call 10; refine hs.mono ?_; rintro e w1 ⟨rfl, H1⟩; clear hs; obtain ⟨n0, n1, n2, n3, n4, n5, n6, n7⟩ := boxC_cells H1)
        | (go_at_call 15; first | ((with_reducible refine (hp1 _ _ H1).mono ?_); rintro e w2 ⟨rfl, H2⟩; clear H1 n0 n1 n2 n3 n4 n5 n6 n7; obtain ⟨n0, n1, n2, n3, n4, n5, n6, n7⟩ := boxC_cells H2))
        | (go_at_call 17; first | ((with_reducible refine (hck _ _ H2).mono ?_); rintro e w3 ⟨rfl, H3⟩; clear H2 n0 n1 n2 n3 n4 n5 n6 n7; obtain ⟨n0, n1, n2, n3, n4, n5, n6, n7⟩ := boxC_cells H3))
        | (go_at_call 11; first | ((with_reducible refine (hpl _ _ H3).mono ?_); rintro e w6 ⟨rfl, H6⟩; have H7 := HL.allocC H6 (zeroC 0); obtain ⟨x0, x1, x2, x3, x4, x5, x6, x7⟩ := boxC_cells H7)))
      go_ret
      exact ⟨rfl, by rw [← hb1]; exact H7.below⟩
end Go.Proofs.YtdekbbffoaphhaaDoor

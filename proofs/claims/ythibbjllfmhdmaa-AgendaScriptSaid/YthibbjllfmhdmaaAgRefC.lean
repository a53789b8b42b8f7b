/- The reference's agendas: Add. -/
import Derived.Test.YthibbjllfmhdmaaAgRefB
set_option linter.unusedVariables false
set_option linter.unusedSimpArgs false
namespace Go.Proofs.Ythibbjllfmhdmaa.Ref
open Go.RowKit Go.Proofs.HL AgInt

def ltT (t : Th) (at_ id : Int) : Prop := t.at_ < at_ ∨ t.at_ = at_ ∧ t.id < id
section
variable {w0 w : World} {L : List At} {p : Nat} {v : Value} {l : List Th}
theorem rd_empty {w : World} {a : Addr} {c : Nat} (h : c ≤ maxLen) : Rd 3 (.slice (some a) 0 c) ([] : List Th).length (([] : List Th).flatMap encT) w := ⟨rfl, by simp, some a, c, rfl, Nat.zero_le _, h, (fun e => nomatch e), fun ad hd j u hu => by simp at hu⟩
set_option maxRecDepth 100000 in
set_option maxHeartbeats 2000000 in
theorem add_ok (H : HL w0 w (blk p (ob v) :: vw v l :: L)) (hl : l.length ≤ 4398046511104) (id at_ x : Int) : Calls Try.prog 41 #[.pointer (some ⟨p, 0, none⟩), .int .i64 id, .int .i64 at_, .int .i64 x] w fun e w' =>
    (e = .returned (.int .i64 30) ∧ (∃ t ∈ l, t.id = id) ∧ HL w0 w' (blk p (ob v) :: vw v l :: L)) ∨
    e = .returned (.int .i64 0) ∧ (∀ t ∈ l, t.id ≠ id) ∧ ∃ k : Nat, k ≤ l.length ∧ (∀ j t, j < k → l[j]? = some t → ltT t at_ id) ∧ (∀ t, l[k]? = some t → ¬ ltT t at_ id) ∧
      ∃ u, HL w0 w' (blk p (ob u) :: vw u (l.take k ++ ⟨id, at_, x⟩ :: l.drop k) :: L) := by
  have hf := find_ok H (by omega) id
  rcases ix_cases l id with ⟨hix, hno⟩ | ⟨k, t, hix, ht, hid⟩
  · rw [hix] at hf
    have Hno := Lib.hid hno
    obtain ⟨A, c, rfl, hA, hc, -⟩ := vw_shape H.tail (List.mem_cons_self ..)
    have hr := (H.tail.rdView (List.mem_cons_self ..) : Rd 3 (.slice A l.length c) l.length (l.flatMap encT) w)
    clear hno hix
    have hcm0 : c ≤ maxLen := by obtain ⟨-, -, a, c', h3, -, h5, -⟩ := hr; simp only [Value.slice.injEq] at h3; rw [h3.2.2]; exact h5
    cases A with
    | none =>
      have hl0 : l = [] := by obtain ⟨-, -, a, c', h3, -, -, h6, -⟩ := hr; simp only [Value.slice.injEq] at h3; exact List.eq_nil_of_length_eq_zero (h6 h3.1.symm).1
      have hc0 : c = 0 := by obtain ⟨-, -, a, c', h3, -, -, h6, -⟩ := hr; simp only [Value.slice.injEq] at h3; rw [h3.2.2]; exact (h6 h3.1.symm).2
      subst hl0 hc0
      clear hr H hA hc
      go_enter Try.func41, Try.ntmps41
      go_wp2_with (go_at_call 53; refine hf.mono ?_; rintro e w1 ⟨rfl, H1⟩; clear hf; go_frame)
      go_loopg [9] 0 (fun g i wr => i = .int .i64 0 ∧ HL w0 wr (blk p (ob (.slice none 0 0)) :: vw (.slice none 0 0) [] :: L))
      case atStart => exact ⟨rfl, H1⟩
      case round =>
        obtain ⟨rfl, HK⟩ := hrel
        have c0 := cellOne HK (b := p) (v := .slice none 0 0) (E := 77) (List.mem_cons_self ..)
        go_wp2_with (first
          | (at_builtin; refine append_th (v := .slice none 0 0) (xv := .slice none 0 0) (xs := []) (ys := ([] : List Th)) rfl _ _ rfl (nil3 HK) rfl rfl (rd_nil) (by simp only [List.length_nil, List.length_take]; omega) ?_; rw [List.nil_append]; intro z1 w3 H3; have c1 := cellOne H3 (b := p) (v := .slice none 0 0) (E := 77) (List.mem_cons_of_mem _ (List.mem_cons_self ..)); have HB := H3.alloc' (.cells #[.int .i64 id, .int .i64 at_, .int .i64 x] 96); have r3 : Rd 3 (.slice (some ⟨w3.heap.size, 0, none⟩) 1 1) 1 ([(⟨id, at_, x⟩ : Th)].flatMap encT) (w3.alloc (.cells #[.int .i64 id, .int .i64 at_, .int .i64 x] 96)) := rd_new (cs := [.int .i64 id, .int .i64 at_, .int .i64 x]) rfl rfl (by decide); clear HK c0)
          | (at_builtin; refine append_th (v := z1) (xv := .slice (some ⟨w3.heap.size, 0, none⟩) 1 1) (xs := ([] : List Th)) (ys := [⟨id, at_, x⟩]) rfl _ _ rfl HB rfl rfl r3 (by simp only [List.length_take, List.length_cons, List.length_nil]; omega) ?_; intro z2 w4 H4; clear c1 HB r3 H3; have c1 := cellOne H4 (b := p) (v := .slice none 0 0) (E := 77) (List.mem_cons_of_mem _ (List.mem_cons_self ..)))
          | (at_builtin; refine append_th (v := z2) (xv := .slice none 0 0) (xs := ([] : List Th) ++ [⟨id, at_, x⟩]) (ys := ([] : List Th)) rfl _ _ rfl H4 rfl rfl (rd_nil) (by simp only [List.length_append, List.length_take, List.length_drop, List.length_cons, List.length_nil]; omega) ?_; intro z3 w5 H5; clear H4 c1; obtain ⟨A4, q4, h4, -, -, -⟩ := row_shape H5.head; generalize (([] : List Th) ++ [(⟨id, at_, x⟩ : Th)] ++ ([] : List Th)).length = N4 at h4; subst h4; have c1 := cellOne H5 (b := p) (v := .slice none 0 0) (E := 77) (List.mem_cons_of_mem _ (List.mem_cons_self ..)); have f1 := H5.frozenOf (b := p) (vs := #[.slice none 0 0]) (E := 77) (List.mem_cons_of_mem _ (List.mem_cons_self ..)) 0; have HS := H5.setAt [_] 0 (.slice A4 N4 q4)))
        go_ret
        exact .inr ⟨rfl, Hno.out, 0, Nat.le_refl _, (fun _ _ h => by omega), (fun _ h => by simp at h), _, (toView HS).sel 3 [1, 0]⟩
    | some a =>
      rcases Nat.eq_zero_or_pos l.length with h0 | hp
      · obtain rfl : l = [] := List.eq_nil_of_length_eq_zero h0
        have hcm : c ≤ maxLen := by obtain ⟨-, -, a, c', h3, -, h5, -⟩ := hr; simp only [Value.slice.injEq] at h3; rw [h3.2.2]; exact h5
        clear hr H hA hc h0
        go_enter Try.func41, Try.ntmps41
        go_wp2_with (go_at_call 53; refine hf.mono ?_; rintro e w1 ⟨rfl, H1⟩; clear hf; go_frame)
        go_loopg [9] 0 (fun g i wr => i = .int .i64 0 ∧ HL w0 wr (blk p (ob (.slice (some a) 0 c)) :: vw (.slice (some a) 0 c) [] :: L))
        case atStart => exact ⟨rfl, H1⟩
        case round =>
          obtain ⟨rfl, HK⟩ := hrel
          have c0 := cellOne HK (b := p) (v := .slice (some a) 0 c) (E := 77) (List.mem_cons_self ..)
          go_wp2_with (first
            | (at_builtin; refine append_th (v := .slice none 0 0) (xv := .slice (some a) 0 c) (xs := []) (ys := ([] : List Th)) rfl _ _ rfl (nil3 HK) rfl rfl (rd_empty hcm) (by simp only [List.length_nil, List.length_take]; omega) ?_; rw [List.nil_append]; intro z1 w3 H3; have c1 := cellOne H3 (b := p) (v := .slice (some a) 0 c) (E := 77) (List.mem_cons_of_mem _ (List.mem_cons_self ..)); have HB := H3.alloc' (.cells #[.int .i64 id, .int .i64 at_, .int .i64 x] 96); have r3 : Rd 3 (.slice (some ⟨w3.heap.size, 0, none⟩) 1 1) 1 ([(⟨id, at_, x⟩ : Th)].flatMap encT) (w3.alloc (.cells #[.int .i64 id, .int .i64 at_, .int .i64 x] 96)) := rd_new (cs := [.int .i64 id, .int .i64 at_, .int .i64 x]) rfl rfl (by decide); clear HK c0)
            | (at_builtin; refine append_th (v := z1) (xv := .slice (some ⟨w3.heap.size, 0, none⟩) 1 1) (xs := ([] : List Th)) (ys := [⟨id, at_, x⟩]) rfl _ _ rfl HB rfl rfl r3 (by simp only [List.length_take, List.length_cons, List.length_nil]; omega) ?_; intro z2 w4 H4; clear c1 HB r3 H3; have c1 := cellOne H4 (b := p) (v := .slice (some a) 0 c) (E := 77) (List.mem_cons_of_mem _ (List.mem_cons_self ..)))
            | (at_builtin; refine append_th (v := z2) (xv := .slice (some a) 0 c) (xs := ([] : List Th) ++ [⟨id, at_, x⟩]) (ys := ([] : List Th)) rfl _ _ rfl H4 rfl rfl (rd_empty hcm) (by simp only [List.length_append, List.length_take, List.length_drop, List.length_cons, List.length_nil]; omega) ?_; intro z3 w5 H5; clear H4 c1; obtain ⟨A4, q4, h4, -, -, -⟩ := row_shape H5.head; generalize (([] : List Th) ++ [(⟨id, at_, x⟩ : Th)] ++ ([] : List Th)).length = N4 at h4; subst h4; have c1 := cellOne H5 (b := p) (v := .slice (some a) 0 c) (E := 77) (List.mem_cons_of_mem _ (List.mem_cons_self ..)); have f1 := H5.frozenOf (b := p) (vs := #[.slice (some a) 0 c]) (E := 77) (List.mem_cons_of_mem _ (List.mem_cons_self ..)) 0; have HS := H5.setAt [_] 0 (.slice A4 N4 q4)))
          go_ret
          exact .inr ⟨rfl, Hno.out, 0, Nat.le_refl _, (fun _ _ h => by omega), (fun _ h => by simp at h), _, (toView HS).sel 3 [1, 0]⟩
      · obtain ⟨b, o, he⟩ := hA.resolve_left (by omega)
        cases he
        clear H hA
        go_enter Try.func41, Try.ntmps41
        go_wp2_with (go_at_call 53; refine hf.mono ?_; rintro e w1 ⟨rfl, H1⟩; clear hf; go_frame)
        go_loopg [9] l.length (fun g i wr => ∃ k : Nat, i = .int .i64 k ∧ k + g = l.length ∧ (∀ j t, j < k → l[j]? = some t → ltT t at_ id) ∧ HL w0 wr (blk p (ob (.slice (some ⟨b, o, none⟩) l.length c)) :: vw (.slice (some ⟨b, o, none⟩) l.length c) l :: L))
        case atStart => exact ⟨0, rfl, by omega, (fun _ _ h => by omega), H1⟩
        case round =>
          obtain ⟨k, rfl, hk, hbef, HK⟩ := hrel
          have c0 := cellOne HK (b := p) (v := .slice (some ⟨b, o, none⟩) l.length c) (E := 77) (List.mem_cons_self ..)
          have Hb := Lib.hid hbef
          clear hbef
          by_cases hltk : k < l.length
          · obtain ⟨t, ht⟩ : ∃ t, l[k]? = some t := ⟨_, List.getElem?_eq_getElem hltk⟩
            obtain ⟨d0, d1, d2⟩ := th_at HK.tail (List.mem_cons_self ..) ht
            have Ht := Lib.hid ht
            clear ht
            have hnext : ltT t at_ id → ∀ j t', j < k + 1 → l[j]? = some t' → ltT t' at_ id := fun hlt j t' hj hjt => by
              rcases Nat.lt_or_ge j k with h | h
              · exact Hb.out j t' h hjt
              · obtain rfl : j = k := by omega
                rw [Ht.out] at hjt
                cases hjt
                exact hlt
            have Hx := Lib.hid hnext
            clear hnext
            by_cases h1 : t.at_ < at_
            · have b1 : decide (t.at_ < at_) = true := by simp; exact h1
              go_wp2
              go_roundg (gk - 1)
              case measure => omega
              case rel => exact ⟨k + 1, by go_num, by omega, Hx.out (.inl h1), HK⟩
            · have b1 : decide (t.at_ < at_) = false := by simp; omega
              by_cases h2 : t.at_ = at_
              · have b2 : (t.at_ == at_) = true := by simp; exact h2
                by_cases h3 : t.id < id
                · have b3 : decide (t.id < id) = true := by simp; exact h3
                  have Hy := Lib.hid (Hx.out (.inr ⟨h2, h3⟩))
                  clear h2
                  go_wp2
                  go_roundg (gk - 1)
                  case measure => omega
                  case rel => exact ⟨k + 1, by go_num, by omega, Hy.out, HK⟩
                · have b3 : decide (t.id < id) = false := by simp; omega
                  have Hy := Lib.hid (show ¬ ltT t at_ id by unfold ltT; omega)
                  clear h2
                  go_wp2_with (first
                    | (at_builtin; refine append_th (v := .slice none 0 0) (xv := .slice (some ⟨b, o, none⟩) k c) (xs := []) (ys := l.take k) rfl _ _ rfl (nil3 HK) rfl rfl (rd_take (HK.tail.rdView (List.mem_cons_self ..)) (k := k) (by omega)) (by simp only [List.length_nil, List.length_take]; omega) ?_; rw [List.nil_append]; intro z1 w3 H3; have c1 := cellOne H3 (b := p) (v := .slice (some ⟨b, o, none⟩) l.length c) (E := 77) (List.mem_cons_of_mem _ (List.mem_cons_self ..)); have HB := H3.alloc' (.cells #[.int .i64 id, .int .i64 at_, .int .i64 x] 96); have r3 : Rd 3 (.slice (some ⟨w3.heap.size, 0, none⟩) 1 1) 1 ([(⟨id, at_, x⟩ : Th)].flatMap encT) (w3.alloc (.cells #[.int .i64 id, .int .i64 at_, .int .i64 x] 96)) := rd_new (cs := [.int .i64 id, .int .i64 at_, .int .i64 x]) rfl rfl (by decide); clear HK c0)
                    | (at_builtin; refine append_th (v := z1) (xv := .slice (some ⟨w3.heap.size, 0, none⟩) 1 1) (xs := l.take k) (ys := [⟨id, at_, x⟩]) rfl _ _ rfl HB rfl rfl r3 (by simp only [List.length_take, List.length_cons, List.length_nil]; omega) ?_; intro z2 w4 H4; clear c1 HB r3 H3; have c1 := cellOne H4 (b := p) (v := .slice (some ⟨b, o, none⟩) l.length c) (E := 77) (List.mem_cons_of_mem _ (List.mem_cons_self ..)))
                    | (at_builtin; refine append_th (v := z2) (xv := .slice (some ⟨b, o + k * 3, none⟩) (l.length - k) (c - k)) (xs := l.take k ++ [⟨id, at_, x⟩]) (ys := l.drop k) rfl _ _ rfl H4 rfl rfl (rd_drop (a' := ⟨b, o + k * 3, none⟩) ((H4.sel 3 [2]).rdView (List.mem_cons_self ..)) (k := k) (by omega) (.inl (add_plain b o _).symm)) (by simp only [List.length_append, List.length_take, List.length_drop, List.length_cons, List.length_nil]; omega) ?_; intro z3 w5 H5; clear H4 c1; obtain ⟨A4, q4, h4, -, -, -⟩ := row_shape H5.head; generalize (l.take k ++ [(⟨id, at_, x⟩ : Th)] ++ l.drop k).length = N4 at h4; subst h4; have c1 := cellOne H5 (b := p) (v := .slice (some ⟨b, o, none⟩) l.length c) (E := 77) (List.mem_cons_of_mem _ (List.mem_cons_self ..)); have f1 := H5.frozenOf (b := p) (vs := #[.slice (some ⟨b, o, none⟩) l.length c]) (E := 77) (List.mem_cons_of_mem _ (List.mem_cons_self ..)) 0; have HS := H5.setAt [_] 0 (.slice A4 N4 q4)))
                  go_ret
                  exact .inr ⟨rfl, Hno.out, k, by omega, Hb.out, (fun t' h => by rw [Ht.out] at h; cases h; exact Hy.out), _, by have hh := (toView HS).sel 3 [1, 0]; rw [List.append_assoc] at hh; exact hh⟩
              · have b2 : (t.at_ == at_) = false := by simp; exact h2
                have Hy := Lib.hid (show ¬ ltT t at_ id by unfold ltT; omega)
                clear h2
                go_wp2_with (first
                  | (at_builtin; refine append_th (v := .slice none 0 0) (xv := .slice (some ⟨b, o, none⟩) k c) (xs := []) (ys := l.take k) rfl _ _ rfl (nil3 HK) rfl rfl (rd_take (HK.tail.rdView (List.mem_cons_self ..)) (k := k) (by omega)) (by simp only [List.length_nil, List.length_take]; omega) ?_; rw [List.nil_append]; intro z1 w3 H3; have c1 := cellOne H3 (b := p) (v := .slice (some ⟨b, o, none⟩) l.length c) (E := 77) (List.mem_cons_of_mem _ (List.mem_cons_self ..)); have HB := H3.alloc' (.cells #[.int .i64 id, .int .i64 at_, .int .i64 x] 96); have r3 : Rd 3 (.slice (some ⟨w3.heap.size, 0, none⟩) 1 1) 1 ([(⟨id, at_, x⟩ : Th)].flatMap encT) (w3.alloc (.cells #[.int .i64 id, .int .i64 at_, .int .i64 x] 96)) := rd_new (cs := [.int .i64 id, .int .i64 at_, .int .i64 x]) rfl rfl (by decide); clear HK c0)
                  | (at_builtin; refine append_th (v := z1) (xv := .slice (some ⟨w3.heap.size, 0, none⟩) 1 1) (xs := l.take k) (ys := [⟨id, at_, x⟩]) rfl _ _ rfl HB rfl rfl r3 (by simp only [List.length_take, List.length_cons, List.length_nil]; omega) ?_; intro z2 w4 H4; clear c1 HB r3 H3; have c1 := cellOne H4 (b := p) (v := .slice (some ⟨b, o, none⟩) l.length c) (E := 77) (List.mem_cons_of_mem _ (List.mem_cons_self ..)))
                  | (at_builtin; refine append_th (v := z2) (xv := .slice (some ⟨b, o + k * 3, none⟩) (l.length - k) (c - k)) (xs := l.take k ++ [⟨id, at_, x⟩]) (ys := l.drop k) rfl _ _ rfl H4 rfl rfl (rd_drop (a' := ⟨b, o + k * 3, none⟩) ((H4.sel 3 [2]).rdView (List.mem_cons_self ..)) (k := k) (by omega) (.inl (add_plain b o _).symm)) (by simp only [List.length_append, List.length_take, List.length_drop, List.length_cons, List.length_nil]; omega) ?_; intro z3 w5 H5; clear H4 c1; obtain ⟨A4, q4, h4, -, -, -⟩ := row_shape H5.head; generalize (l.take k ++ [(⟨id, at_, x⟩ : Th)] ++ l.drop k).length = N4 at h4; subst h4; have c1 := cellOne H5 (b := p) (v := .slice (some ⟨b, o, none⟩) l.length c) (E := 77) (List.mem_cons_of_mem _ (List.mem_cons_self ..)); have f1 := H5.frozenOf (b := p) (vs := #[.slice (some ⟨b, o, none⟩) l.length c]) (E := 77) (List.mem_cons_of_mem _ (List.mem_cons_self ..)) 0; have HS := H5.setAt [_] 0 (.slice A4 N4 q4)))
                go_ret
                exact .inr ⟨rfl, Hno.out, k, by omega, Hb.out, (fun t' h => by rw [Ht.out] at h; cases h; exact Hy.out), _, by have hh := (toView HS).sel 3 [1, 0]; rw [List.append_assoc] at hh; exact hh⟩
          · obtain rfl : k = l.length := by omega
            by_cases hck : c = l.length
            · subst hck
              go_wp2_with (first
                | (at_builtin; refine append_th (v := .slice none 0 0) (xv := .slice (some ⟨b, o, none⟩) l.length l.length) (xs := []) (ys := l) rfl _ _ rfl (nil3 HK) rfl rfl (HK.tail.rdView (List.mem_cons_self ..)) (by simp only [List.length_nil, List.length_take]; omega) ?_; rw [List.nil_append]; intro z1 w3 H3; have c1 := cellOne H3 (b := p) (v := .slice (some ⟨b, o, none⟩) l.length l.length) (E := 77) (List.mem_cons_of_mem _ (List.mem_cons_self ..)); have HB := H3.alloc' (.cells #[.int .i64 id, .int .i64 at_, .int .i64 x] 96); have r3 : Rd 3 (.slice (some ⟨w3.heap.size, 0, none⟩) 1 1) 1 ([(⟨id, at_, x⟩ : Th)].flatMap encT) (w3.alloc (.cells #[.int .i64 id, .int .i64 at_, .int .i64 x] 96)) := rd_new (cs := [.int .i64 id, .int .i64 at_, .int .i64 x]) rfl rfl (by decide); clear HK c0)
                | (at_builtin; refine append_th (v := z1) (xv := .slice (some ⟨w3.heap.size, 0, none⟩) 1 1) (xs := l) (ys := [⟨id, at_, x⟩]) rfl _ _ rfl HB rfl rfl r3 (by simp only [List.length_take, List.length_cons, List.length_nil]; omega) ?_; intro z2 w4 H4; clear c1 HB r3 H3; have c1 := cellOne H4 (b := p) (v := .slice (some ⟨b, o, none⟩) l.length l.length) (E := 77) (List.mem_cons_of_mem _ (List.mem_cons_self ..)))
                | (at_builtin; refine append_th (v := z2) (xv := .slice (some ⟨b, o, none⟩) 0 0) (xs := l ++ [⟨id, at_, x⟩]) (ys := ([] : List Th)) rfl _ _ rfl H4 rfl rfl (rd_empty (by decide)) (by simp only [List.length_append, List.length_take, List.length_drop, List.length_cons, List.length_nil]; omega) ?_; intro z3 w5 H5; clear H4 c1; obtain ⟨A4, q4, h4, -, -, -⟩ := row_shape H5.head; generalize (l ++ [(⟨id, at_, x⟩ : Th)] ++ ([] : List Th)).length = N4 at h4; subst h4; have c1 := cellOne H5 (b := p) (v := .slice (some ⟨b, o, none⟩) l.length l.length) (E := 77) (List.mem_cons_of_mem _ (List.mem_cons_self ..)); have f1 := H5.frozenOf (b := p) (vs := #[.slice (some ⟨b, o, none⟩) l.length l.length]) (E := 77) (List.mem_cons_of_mem _ (List.mem_cons_self ..)) 0; have HS := H5.setAt [_] 0 (.slice A4 N4 q4)))
              go_ret
              exact .inr ⟨rfl, Hno.out, l.length, Nat.le_refl _, Hb.out, (fun t' h => by rw [List.getElem?_eq_none (Nat.le_refl _)] at h; cases h), _, by have hh := (toView HS).sel 3 [1, 0]; rw [List.append_assoc] at hh; rw [List.take_length, List.drop_length]; exact hh⟩
            · have hcl : l.length ≤ c := hc
              go_wp2_with (first
                | (at_builtin; refine append_th (v := .slice none 0 0) (xv := .slice (some ⟨b, o, none⟩) l.length c) (xs := []) (ys := l) rfl _ _ rfl (nil3 HK) rfl rfl (HK.tail.rdView (List.mem_cons_self ..)) (by simp only [List.length_nil, List.length_take]; omega) ?_; rw [List.nil_append]; intro z1 w3 H3; have c1 := cellOne H3 (b := p) (v := .slice (some ⟨b, o, none⟩) l.length c) (E := 77) (List.mem_cons_of_mem _ (List.mem_cons_self ..)); have HB := H3.alloc' (.cells #[.int .i64 id, .int .i64 at_, .int .i64 x] 96); have r3 : Rd 3 (.slice (some ⟨w3.heap.size, 0, none⟩) 1 1) 1 ([(⟨id, at_, x⟩ : Th)].flatMap encT) (w3.alloc (.cells #[.int .i64 id, .int .i64 at_, .int .i64 x] 96)) := rd_new (cs := [.int .i64 id, .int .i64 at_, .int .i64 x]) rfl rfl (by decide); clear HK c0)
                | (at_builtin; refine append_th (v := z1) (xv := .slice (some ⟨w3.heap.size, 0, none⟩) 1 1) (xs := l) (ys := [⟨id, at_, x⟩]) rfl _ _ rfl HB rfl rfl r3 (by simp only [List.length_take, List.length_cons, List.length_nil]; omega) ?_; intro z2 w4 H4; clear c1 HB r3 H3; have c1 := cellOne H4 (b := p) (v := .slice (some ⟨b, o, none⟩) l.length c) (E := 77) (List.mem_cons_of_mem _ (List.mem_cons_self ..)))
                | (at_builtin; refine append_th (v := z2) (xv := .slice (some ⟨b, o + l.length * 3, none⟩) 0 (c - l.length)) (xs := l ++ [⟨id, at_, x⟩]) (ys := ([] : List Th)) rfl _ _ rfl H4 rfl rfl (rd_empty (by have := hcm0; omega)) (by simp only [List.length_append, List.length_take, List.length_drop, List.length_cons, List.length_nil]; omega) ?_; intro z3 w5 H5; clear H4 c1; obtain ⟨A4, q4, h4, -, -, -⟩ := row_shape H5.head; generalize (l ++ [(⟨id, at_, x⟩ : Th)] ++ ([] : List Th)).length = N4 at h4; subst h4; have c1 := cellOne H5 (b := p) (v := .slice (some ⟨b, o, none⟩) l.length c) (E := 77) (List.mem_cons_of_mem _ (List.mem_cons_self ..)); have f1 := H5.frozenOf (b := p) (vs := #[.slice (some ⟨b, o, none⟩) l.length c]) (E := 77) (List.mem_cons_of_mem _ (List.mem_cons_self ..)) 0; have HS := H5.setAt [_] 0 (.slice A4 N4 q4)))
              go_ret
              exact .inr ⟨rfl, Hno.out, l.length, Nat.le_refl _, Hb.out, (fun t' h => by rw [List.getElem?_eq_none (Nat.le_refl _)] at h; cases h), _, by have hh := (toView HS).sel 3 [1, 0]; rw [List.append_assoc] at hh; rw [List.take_length, List.drop_length]; exact hh⟩
  · rw [hix] at hf
    have Hm := Lib.hid (show ∃ t ∈ l, t.id = id from ⟨t, List.mem_of_getElem? ht, hid⟩)
    have hk0 : ¬ ((k : Int) < 0) := by omega
    clear hid ht hix H
    go_enter Try.func41, Try.ntmps41
    go_wp2_with (go_at_call 53; refine hf.mono ?_; rintro e w1 ⟨rfl, H1⟩; clear hf)
    go_ret
    exact .inl ⟨rfl, Hm.out, H1⟩
end
end Go.Proofs.Ythibbjllfmhdmaa.Ref

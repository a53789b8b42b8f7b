/- The reference's agendas: All, Due, Add. -/
import Derived.Test.YthibbjllfmhdmaaAgRef
set_option linter.unusedVariables false
set_option linter.unusedSimpArgs false
namespace Go.Proofs.Ythibbjllfmhdmaa.Ref
open Go.RowKit Go.Proofs.HL AgInt

section
variable {w0 w : World} {L : List At} {p : Nat} {v : Value} {l : List Th}
set_option maxRecDepth 100000 in
set_option maxHeartbeats 1000000 in
theorem all_ok (H : HL w0 w (blk p (ob v) :: vw v l :: L)) (hl : l.length ≤ 4398046511104) : Calls Try.prog 45 #[.pointer (some ⟨p, 0, none⟩)] w fun e w' =>
    ∃ v2 v3, e = .returned (.tuple #[v2, v3]) ∧ HL w0 w' (intsAt w0.heap.size v2 (l.map (·.id)) :: intsAt w0.heap.size v3 (l.map (·.at_)) :: blk p (ob v) :: vw v l :: L) := by
  obtain ⟨A, c, rfl, hA, -, -⟩ := vw_shape H.tail (List.mem_cons_self ..)
  have c1 := cellOne H (b := p) (v := .slice A l.length c) (E := 77) (List.mem_cons_self ..)
  have H2 := intsNil (intsNil H w0.heap.size) w0.heap.size
  go_enter Try.func45, Try.ntmps45
  go_wp2
  go_loopg [2, 3, 11] l.length (fun g v2 v3 i wr => ∃ k : Nat, i = .int .i64 k ∧ k + g = l.length ∧
    HL w0 wr (intsAt w0.heap.size v2 ((l.take k).map (·.id)) :: intsAt w0.heap.size v3 ((l.take k).map (·.at_)) :: blk p (ob (.slice A l.length c)) :: vw (.slice A l.length c) l :: L))
  case atStart => exact ⟨0, rfl, by omega, H2⟩
  case round =>
    obtain ⟨k, rfl, hk, HK⟩ := hrel
    by_cases hlt : k < l.length
    · obtain ⟨b, o, rfl⟩ := hA.resolve_left (by omega)
      obtain ⟨t, ht⟩ : ∃ t, l[k]? = some t := ⟨_, List.getElem?_eq_getElem hlt⟩
      obtain ⟨d0, d1, d2⟩ := th_at (HK.sel 4 [3]) (List.mem_cons_self ..) ht
      have htk : l.take (k + 1) = l.take k ++ [t] := by rw [List.take_add_one, ht]; rfl
      have Htk := Lib.hid htk
      clear htk ht H H2
      have HA := (HK.alloc (.cells #[.int .i64 t.id, .int .i64 t.at_, .int .i64 t.x] 96)).sel 3 [1, 0, 2]
      have b1 : ((l.take k).map (·.id)).length + ([t.id] : List Int).length ≤ 17592186044416 := by simp only [List.length_map, List.length_take, List.length_cons, List.length_nil]; omega
      have b2 : ((l.take k).map (·.at_)).length + ([t.at_] : List Int).length ≤ 17592186044416 := by simp only [List.length_map, List.length_take, List.length_cons, List.length_nil]; omega
      have HB := HA.alloc' (.cells #[.int .i64 t.id] 3)
      have r1 : Rd 1 (.slice (some ⟨wr.heap.size + 1, 0, none⟩) 1 1) 1 (ints [t.id]) ((wr.alloc (.cells #[.int .i64 t.id, .int .i64 t.at_, .int .i64 t.x] 96)).alloc (.cells #[.int .i64 t.id] 3)) := rd_one (by simp)
      clear HA HK
      go_wp2_with (first
        | (at_builtin; refine append_ints (v := u2) (xv := .slice (some ⟨wr.heap.size + 1, 0, none⟩) 1 1) (xs := (l.take k).map (·.id)) (ys := [t.id]) rfl _ _ rfl HB rfl rfl r1 b1 ?_; intro z3 w3 H3; clear HB r1 b1; have c5 : w3.cell? ⟨wr.heap.size, 1, none⟩ = some (.int .i64 t.at_) := (by rw [H3.tail.cell 1]; rfl);
            have HC := (H3.sel 3 [2, 1, 0]).alloc' (.cells #[.int .i64 t.at_] 3); have r2 : Rd 1 (.slice (some ⟨w3.heap.size, 0, none⟩) 1 1) 1 (ints [t.at_]) (w3.alloc (.cells #[.int .i64 t.at_] 3)) := rd_one rfl; clear H3)
        | (at_builtin; refine append_ints (v := u3) (xv := .slice (some ⟨w3.heap.size, 0, none⟩) 1 1) (xs := (l.take k).map (·.at_)) (ys := [t.at_]) rfl _ _ rfl HC rfl rfl r2 b2 ?_; intro z4 w4 H4; clear HC r2 b2 c5))
      go_roundg (gk - 1)
      case measure => omega
      case rel =>
        refine ⟨k + 1, by go_num, by omega, ?_⟩
        rw [Htk.out, List.map_append, List.map_append]
        exact H4.sel 3 [2, 0]
    · have hkn : l.take k = l := List.take_of_length_le (by omega)
      have Hk := Lib.hid hkn
      go_wp2
      go_ret2
      rw [Hk.out] at HK
      exact ⟨_, _, rfl, HK⟩
theorem viewTail {b o o' c : Nat} {t : Th} (H : HL w0 w (vw (.slice (some ⟨b, o, none⟩) (l.length + 1) c) (t :: l) :: L)) (ho : o' = o + 3 ∨ l.length = 0) : HL w0 w (vw (.slice (some ⟨b, o', none⟩) l.length (c - 1)) l :: L) := by
  refine H.turn (fun h => ⟨?_, fun b' e => h.2 b' e⟩) (fun b' e => e)
  have h1 : Rd 3 (.slice (some ⟨b, o, none⟩) (l.length + 1) c) (t :: l).length ((t :: l).flatMap encT) w := h.1
  have := rd_drop (a' := ⟨b, o', none⟩) h1 (k := 1) (by simp) (by
    rcases ho with rfl | ho
    · exact .inl (add_plain b o 3).symm
    · exact .inr (by simp [ho]))
  exact this

set_option maxRecDepth 100000 in
set_option maxHeartbeats 1000000 in
theorem due_ok (H : HL w0 w (blk p (ob v) :: vw v l :: L)) (hl : l.length ≤ 4398046511104) (now : Int) : Calls Try.prog 44 #[.pointer (some ⟨p, 0, none⟩), .int .i64 now] w fun e w' =>
    ∃ (k : Nat) (z : Value), e = .returned z ∧ k ≤ l.length ∧ (∀ j t, j < k → l[j]? = some t → t.at_ ≤ now) ∧ (∀ t, l[k]? = some t → now < t.at_) ∧
      ∃ u, HL w0 w' (intsAt w0.heap.size z ((l.take k).map (·.id)) :: blk p (ob u) :: vw u (l.drop k) :: L) := by
  have H2 := intsNil H w0.heap.size
  go_enter Try.func44, Try.ntmps44
  go_wp2
  go_loopg [5] l.length (fun g z wr => ∃ (k : Nat) (u : Value), k + g = l.length ∧ (∀ j t, j < k → l[j]? = some t → t.at_ ≤ now) ∧
    HL w0 wr (intsAt w0.heap.size z ((l.take k).map (·.id)) :: blk p (ob u) :: vw u (l.drop k) :: L))
  case atStart => exact ⟨0, v, by omega, (fun _ _ h => by omega), H2⟩
  case round =>
    obtain ⟨k, u, hk, hdue, HK⟩ := hrel
    clear H H2
    obtain ⟨A, c, hu, hA, hc, -⟩ := vw_shape (HK.sel 3 [2]) (List.mem_cons_self ..)
    subst hu
    obtain ⟨r, hr⟩ : ∃ r, r = l.drop k := ⟨_, rfl⟩
    rw [← hr] at HK hA hc
    have hdue := Lib.hid hdue
    cases r with
    | nil =>
      have hkl : l.length ≤ k := by have := congrArg List.length hr; rw [List.length_drop] at this; simp at this; omega
      have hnone : ∀ t, l[k]? = some t → now < t.at_ := fun t ht => by rw [List.getElem?_eq_none hkl] at ht; cases ht
      have Hn := Lib.hid hnone; have Hr := Lib.hid hr
      clear hnone hr
      have c1 := cellOne HK (b := p) (v := .slice A 0 c) (E := 77) (List.mem_cons_of_mem _ (List.mem_cons_self ..))
      go_wp2
      go_ret
      exact ⟨k, _, rfl, by omega, hdue.out, Hn.out, _, by rw [← Hr.out]; exact HK⟩
    | cons t rest =>
      obtain ⟨b, o, rfl⟩ := hA.resolve_left (by simp)
      have hkl : k < l.length := by have := congrArg List.length hr; rw [List.length_drop] at this; simp at this; omega
      have ht0 : l[k]? = some t := by have := congrArg (fun l => l[0]?) hr; simpa using this.symm
      have ht := Lib.hid ht0
      have htk := Lib.hid (show l.take (k + 1) = l.take k ++ [t] by rw [List.take_add_one, ht0]; rfl)
      have hdr := Lib.hid (show l.drop (k + 1) = rest by rw [← List.drop_drop, ← hr]; rfl)
      have Hr := Lib.hid hr
      clear ht0 hr
      obtain ⟨d0, d1, d2⟩ := th_at (HK.sel 3 [2]) (List.mem_cons_self ..) (k := 0) (t := t) rfl
      rw [Nat.zero_mul, Nat.add_zero] at d0 d1 d2
      simp only [List.length_cons] at hc
      have c1 := cellOne HK (b := p) (v := .slice (some ⟨b, o, none⟩) (rest.length + 1) c) (E := 77) (List.mem_cons_of_mem _ (List.mem_cons_self ..))
      have b1 : ((l.take k).map (·.id)).length + ([t.id] : List Int).length ≤ 17592186044416 := by simp only [List.length_map, List.length_take, List.length_cons, List.length_nil]; omega
      by_cases hle : t.at_ ≤ now
      · by_cases hc1 : c = 1
        · obtain rfl : rest = [] := List.eq_nil_of_length_eq_zero (by omega)
          subst hc1
          clear c1
          have c1 := cellOne HK (b := p) (v := .slice (some ⟨b, o, none⟩) 1 1) (E := 77) (List.mem_cons_of_mem _ (List.mem_cons_self ..))
          go_wp2_with (at_builtin; refine append_ints (v := u5) (xv := .slice (some ⟨wr.heap.size, 0, none⟩) 1 1) (xs := (l.take k).map (·.id)) (ys := [t.id]) rfl _ _ rfl (HK.alloc' (.cells #[.int .i64 t.id] 3)) rfl rfl (rd_one rfl) b1 ?_; intro z4 w4 H4; have c4 := cellOne H4 (b := p) (v := .slice (some ⟨b, o, none⟩) 1 1) (E := 77) (List.mem_cons_of_mem _ (List.mem_cons_self ..)); have f4 := H4.frozenOf (b := p) (vs := #[.slice (some ⟨b, o, none⟩) 1 1]) (E := 77) (List.mem_cons_of_mem _ (List.mem_cons_self ..)) 0; have HS := H4.setAt [_] 0 (.slice (some ⟨b, o, none⟩) 0 0); clear c1)
          go_roundg (gk - 1)
          case measure => omega
          case rel =>
            refine ⟨k + 1, .slice (some ⟨b, o, none⟩) 0 0, by omega, fun j t' hj hjt => ?_, ?_⟩
            · rcases Nat.lt_or_ge j k with h | h
              · exact hdue.out j t' h hjt
              · obtain rfl : j = k := by omega
                rw [ht.out] at hjt
                cases hjt
                exact hle
            · rw [htk.out, hdr.out, List.map_append]
              have HV := HS.sel 3 [2, 0, 1]
              exact (viewTail (o' := o) HV (.inr rfl)).sel 3 [1, 2, 0]
        · skip
          go_wp2_with (at_builtin; refine append_ints (v := u5) (xv := .slice (some ⟨wr.heap.size, 0, none⟩) 1 1) (xs := (l.take k).map (·.id)) (ys := [t.id]) rfl _ _ rfl (HK.alloc' (.cells #[.int .i64 t.id] 3)) rfl rfl (rd_one rfl) b1 ?_; intro z4 w4 H4; have c4 := cellOne H4 (b := p) (v := .slice (some ⟨b, o, none⟩) (rest.length + 1) c) (E := 77) (List.mem_cons_of_mem _ (List.mem_cons_self ..)); have f4 := H4.frozenOf (b := p) (vs := #[.slice (some ⟨b, o, none⟩) (rest.length + 1) c]) (E := 77) (List.mem_cons_of_mem _ (List.mem_cons_self ..)) 0; have HS := H4.setAt [_] 0 (.slice (some ⟨b, o + 3, none⟩) rest.length (c - 1)); clear c1)
          go_roundg (gk - 1)
          case measure => omega
          case rel =>
            refine ⟨k + 1, .slice (some ⟨b, o + 3, none⟩) rest.length (c - 1), by omega, fun j t' hj hjt => ?_, ?_⟩
            · rcases Nat.lt_or_ge j k with h | h
              · exact hdue.out j t' h hjt
              · obtain rfl : j = k := by omega
                rw [ht.out] at hjt
                cases hjt
                exact hle
            · rw [htk.out, hdr.out, List.map_append]
              have HV := HS.sel 3 [2, 0, 1]
              exact (viewTail (o' := o + 3) HV (.inl rfl)).sel 3 [1, 2, 0]
      · go_wp2
        go_ret
        refine ⟨k, u5, rfl, by omega, hdue.out, ?_, .slice (some ⟨b, o, none⟩) (rest.length + 1) c, by rw [← Hr.out, ← List.map_take]; exact HK⟩
        intro t' h
        rw [ht.out] at h
        cases h
        omega
end
end Go.Proofs.Ythibbjllfmhdmaa.Ref

/- The law AgendaOrder. -/
import Derived.Test.YthibbjllfmhdmaaAgLawDue
set_option linter.unusedVariables false
set_option linter.unusedSimpArgs false
namespace Go.Proofs.Ythibbjllfmhdmaa
open Go.RowKit Go.Proofs.HL AgInt

/-- A row of numbers: where it lies; a cell of it. -/
theorem ints_shape {w0 w : World} {L : List At} {base : Nat} {v : Value} {xs : List Int} (H : HL w0 w L) (hm : intsAt base v xs ∈ L) : ∃ A c, v = .slice A xs.length c ∧ (xs.length = 0 ∨ ∃ g, A = some ⟨g, 0, none⟩) := by
  obtain ⟨A, c, h1, h2, -, -⟩ := row_shape (H.get hm)
  exact ⟨A, c, h1, h2⟩
theorem ints_cell {w0 w : World} {L : List At} {base g c n : Nat} {xs : List Int} (H : HL w0 w L) (hm : intsAt base (.slice (some ⟨g, 0, none⟩) n c) xs ∈ L) (k : Nat) (x : Int) (hx : xs[k]? = some x) :
    w.cell? ⟨g, k, none⟩ = some (.int .i64 x) := by
  have hr := H.get hm
  have := hr.cells (g := g) rfl k (.int .i64 x) (by rw [List.getElem?_map, hx]; rfl)
  rwa [add_zero_block] at this

theorem get_spot {M : List Ent1} (h : Ids M) {t id : Int} (hm : (t, id) ∈ spotsOf M) : ∃ x, findE M id = some ⟨id, t, x⟩ := by
  obtain ⟨e, he, heq⟩ := mem_spots.1 hm
  simp only [Prod.mk.injEq] at heq
  obtain ⟨rfl, rfl⟩ := heq
  cases hf : findE M e.id with
  | none => exact absurd rfl (findE_none (by rw [hf]; rfl) e he)
  | some e' =>
    have h1 : e' ∈ M := List.mem_of_find?_eq_some hf
    have h2 : e'.id = e.id := by
      have := List.find?_some hf
      simpa using this
    have := h.inj h1 he h2
    subst this
    exact ⟨e'.x, rfl⟩
theorem spots_ids {M : List Ent1} (h : Ids M) : ((spotsOf M).map (·.2)).Nodup := by
  unfold spotsOf
  refine (((perm_sortSp _).map _).nodup_iff).2 ?_
  rw [List.map_map]
  exact h

theorem drop_step {S : List (Int × Int)} {n k d : Nat} {x : Int × Int} (hx : S[d]? = some x) (hd : d + 1 = n - k) : S.drop (n - (k + 1)) = x :: S.drop (n - k) := by
  obtain ⟨h1, h2⟩ := List.getElem?_eq_some_iff.1 hx
  rw [show n - (k + 1) = d by omega, List.drop_eq_getElem_cons h1, h2, hd]
theorem not_again {S : List (Int × Int)} (hid : (S.map (·.2)).Nodup) {d : Nat} {t b u : Int} (hx : S[d]? = some (t, b)) (hu : (u, b) ∈ S.drop (d + 1)) : False := by
  obtain ⟨h1, h2⟩ := List.getElem?_eq_some_iff.1 hx
  obtain ⟨j, hj, h3⟩ := List.getElem_of_mem hu
  rw [List.getElem_drop] at h3
  rw [List.length_drop] at hj
  have := List.pairwise_iff_getElem.1 hid d (d + 1 + j) (by rw [List.length_map]; omega) (by rw [List.length_map]; omega) (by omega)
  rw [List.getElem_map, List.getElem_map, h2, h3] at this
  exact this rfl
theorem fresh_id {S : List (Int × Int)} (hid : (S.map (·.2)).Nodup) {Mb : List Ent1} {d m : Nat} {t b : Int} (hx : S[d]? = some (t, b)) (hm : d + 1 = m) (hMb : Mb.map (fun e => (e.at_, e.id)) = (S.drop m).reverse) : findE Mb b = none := by
  subst hm
  unfold findE
  rw [List.find?_eq_none]
  intro e he hk
  have : (e.at_, e.id) ∈ (S.drop (d + 1)).reverse := by rw [← hMb]; exact List.mem_map.2 ⟨e, he, rfl⟩
  rw [List.mem_reverse] at this
  have hk : e.id = b := by simpa using hk
  rw [hk] at this
  exact not_again hid hx this

set_option maxRecDepth 100000 in
set_option maxHeartbeats 2000000 in
theorem order_law {w : World} {v : Value} {l : List ActD} (hl : Acts w v l) (hb : l.length ≤ 8796093022208) :
    Calls Try.prog 4 #[v] w fun e w' => e = .returned (.bool true) ∧ Below w.heap.size w w' := by
  have hM : (fillM l).length ≤ l.length := fillM_length l
  have hI := ids_fill l
  have hS := spots_sorted (fillM l)
  have hn : (spotsOf (fillM l)).length = (fillM l).length := spotsOf_length
  generalize hMM : fillM l = M at hM hI hS hn
  have hM' : M.length ≤ 8796093022208 := by omega
  have HMM := Lib.hid hMM; clear hMM
  have hid := spots_ids hI
  generalize hSS : spotsOf M = S at hS hn hid
  have HSS := Lib.hid hSS; clear hSS
  have hi1 : (idsL S).length = M.length := by unfold idsL; rw [List.length_map, hn]
  have hi2 : (atsL S).length = M.length := by unfold atsL; rw [List.length_map, hn]
  obtain ⟨va, na, ca, rfl⟩ : ∃ a n c, v = .slice a n c := by obtain ⟨-, -, a, c, h, -⟩ := id hl; exact ⟨a, _, c, h⟩
  obtain rfl : na = l.length := by obtain ⟨-, -, a, c, h, -⟩ := id hl; cases h; rfl
  go_enter Try.func4, Try.ntmps4
  go_wp2_with (first
    | (go_at_call 8; refine (shown_ok (HL.start w)).mono ?_; rintro e w1 ⟨rfl, H1⟩)
    | (go_at_call 9; refine (filled_ok H1 hl).mono ?_; rw [HMM.out]; rintro e w2 ⟨ap, ma, rfl, H2⟩; clear H1)
    | (go_at_call 11; refine (listed_ok H2 hM' _).mono ?_; rw [take_all (M := M) (by omega), HSS.out]; rintro e w3 ⟨u4, u5, rfl, H3⟩; clear H2;
        obtain ⟨A4, c4, h4, hA4⟩ := ints_shape H3 (List.mem_cons_self ..); obtain ⟨A5, c5, h5, hA5⟩ := ints_shape H3.tail (List.mem_cons_self ..); rw [hi1] at h4 hA4; rw [hi2] at h5 hA5; subst h4 h5; go_frame))
  go_loopg [6] M.length (fun g i wr => ∃ j : Nat, i = .int .i64 ((j : Int) + 1) ∧ j + g = M.length ∧ HL w wr [intsAt w.heap.size (.slice A4 M.length c4) (idsL S), intsAt w.heap.size (.slice A5 M.length c5) (atsL S), blk ap (obj ma), mp ma (kv enc M)])
  case atStart => exact ⟨0, rfl, by omega, H3⟩
  case round =>
    obtain ⟨j, rfl, hj, HK⟩ := hrel
    by_cases hlt : j + 1 < M.length
    · obtain ⟨g4, rfl⟩ : ∃ g, A4 = some ⟨g, 0, none⟩ := hA4.resolve_left (by omega)
      obtain ⟨g5, rfl⟩ : ∃ g, A5 = some ⟨g, 0, none⟩ := hA5.resolve_left (by omega)
      obtain ⟨⟨t, a⟩, hx⟩ : ∃ x, S[j]? = some x := ⟨_, List.getElem?_eq_getElem (by omega)⟩
      obtain ⟨⟨u, b⟩, hy⟩ : ∃ x, S[j + 1]? = some x := ⟨_, List.getElem?_eq_getElem (by omega)⟩
      have d1 := ints_cell HK (List.mem_cons_self ..) j a (by unfold idsL; rw [List.getElem?_map, hx]; rfl)
      have d2 := ints_cell HK (List.mem_cons_self ..) (j + 1) b (by unfold idsL; rw [List.getElem?_map, hy]; rfl)
      have d3 := ints_cell HK.tail (List.mem_cons_self ..) j t (by unfold atsL; rw [List.getElem?_map, hx]; rfl)
      have d4 := ints_cell HK.tail (List.mem_cons_self ..) (j + 1) u (by unfold atsL; rw [List.getElem?_map, hy]; rfl)
      have hlt2 : t < u ∨ t = u ∧ a < b := by
        obtain ⟨k1, e1⟩ := List.getElem?_eq_some_iff.1 hx
        obtain ⟨k2, e2⟩ := List.getElem?_eq_some_iff.1 hy
        have h1 := List.pairwise_iff_getElem.1 hS j (j + 1) k1 k2 (by omega)
        rw [e1, e2] at h1
        unfold leS at h1
        simp only at h1
        have h2 : a ≠ b := by
          have := List.pairwise_iff_getElem.1 hid j (j + 1) (by rw [List.length_map]; omega) (by rw [List.length_map]; omega) (by omega)
          rw [List.getElem_map, List.getElem_map, e1, e2] at this
          exact this
        omega
      clear hx hy
      rcases hlt2 with hh | ⟨rfl, hh⟩
      · have hbe : (t == u) = false := by simp; omega
        have hg : decide (u < t) = false := by simp; omega
        go_wp2
        go_quiet (fail)
        go_wp2
        go_roundg (gk - 1)
        case measure => omega
        case rel => exact ⟨j + 1, by go_num, by omega, HK.drewN _⟩
      · go_wp2
        go_quiet (fail)
        go_wp2
        go_roundg (gk - 1)
        case measure => omega
        case rel => exact ⟨j + 1, by go_num, by omega, HK.drewN _⟩
    · go_wp2_with (go_at_call 15; refine (new_ok HK).mono ?_; rintro e w4 ⟨bq, mq, rfl, H4⟩; go_frame)
      clear H3 HK
      go_loopg [76] M.length (fun g i wr => ∃ (k : Nat) (Mb : List Ent1), i = .int .i64 k ∧ k + g = M.length ∧ Mb.map (fun e => (e.at_, e.id)) = (S.drop (M.length - k)).reverse ∧
        HL w wr [blk bq (obj mq), mp mq (kv enc Mb), intsAt w.heap.size (.slice A4 M.length c4) (idsL S), intsAt w.heap.size (.slice A5 M.length c5) (atsL S), blk ap (obj ma), mp ma (kv enc M)])
      case atStart => exact ⟨0, [], rfl, by omega, by rw [Nat.sub_zero, List.drop_of_length_le (by omega)]; rfl, H4⟩
      case round =>
        obtain ⟨k, Mb, rfl, hk, hMb, HK⟩ := hrel
        by_cases hlt : k < M.length
        · obtain ⟨g4, rfl⟩ : ∃ g, A4 = some ⟨g, 0, none⟩ := hA4.resolve_left (by omega)
          obtain ⟨g5, rfl⟩ : ∃ g, A5 = some ⟨g, 0, none⟩ := hA5.resolve_left (by omega)
          obtain ⟨d, hd⟩ : ∃ d, d + 1 = M.length - k := ⟨M.length - k - 1, by omega⟩
          have hdd : (M.length : Int) - 1 - (k : Int) = (d : Int) := by omega
          obtain ⟨⟨t, b⟩, hx⟩ : ∃ x, S[d]? = some x := ⟨_, List.getElem?_eq_getElem (by omega)⟩
          have E1 := Lib.hid (show (idsL S)[d]? = some b by unfold idsL; rw [List.getElem?_map, hx]; rfl)
          have E2 := Lib.hid (show (atsL S)[d]? = some t by unfold atsL; rw [List.getElem?_map, hx]; rfl)
          have d1 := ints_cell (HK.sel 3 [2]) (List.mem_cons_self ..) d b E1.out
          obtain ⟨x, hfx⟩ := get_spot hI (t := t) (id := b) (by rw [HSS.out]; exact List.mem_of_getElem? hx)
          have hfr := fresh_id hid hx hd hMb
          have hst := drop_step hx hd
          have Hfx := Lib.hid hfx; clear hfx
          have Hfr := Lib.hid hfr; clear hfr
          have Hst := Lib.hid hst; clear hst
          have HMb := Lib.hid hMb; clear hMb
          have HK2 := HK.sel 6 [4, 5, 0, 1, 2, 3]
          clear hx HK H4
          go_wp2_with (first
            | (go_at_call 16; refine (get_ok HK2 b).mono ?_; rw [Hfx.out]; rintro e w5 ⟨he, H5⟩; obtain rfl : e = .returned (.tuple #[.int .i64 t, .int .i64 x, .bool true]) := he; clear HK2; have H6 := H5.sel 6 [2, 3, 4, 5, 0, 1]; clear H5;
                clear d1; have d1 := ints_cell (H6.sel 3 [2]) (List.mem_cons_self ..) d b E1.out; have d2 := ints_cell (H6.sel 4 [3]) (List.mem_cons_self ..) d t E2.out)
            | (go_at_call 17; refine (add_ok H6 b t x).mono ?_; rw [Hfr.out]; rintro e w7 ⟨he, H7⟩; obtain rfl : e = .returned (.int .i64 0) := he; clear H6))
          go_roundg (gk - 1)
          case measure => omega
          case rel =>
            refine ⟨k + 1, _, by go_num, by omega, ?_, H7⟩
            simp only [Option.isSome_none, Bool.false_eq_true, if_false, List.map_append, List.map_cons, List.map_nil]
            rw [HMb.out, Hst.out, List.reverse_cons]
        · have hk2 : M.length - k = 0 := by omega
          rw [hk2, List.drop_zero] at hMb
          have hs : spotsOf Mb = S := sortSp_eq hS (by rw [hMb]; exact (List.reverse_perm S).symm)
          have hln : Mb.length = M.length := by
            have := congrArg List.length hMb
            rw [List.length_map, List.length_reverse, hn] at this
            exact this
          have Hs := Lib.hid hs; clear hs hMb
          have hMb' : Mb.length ≤ 8796093022208 := by omega
          clear H4
          go_wp2_with (first
            | (go_at_call 11; refine (listed_ok HK hMb' _).mono ?_; rw [take_all (M := Mb) (by omega), Hs.out]; rintro e w5 ⟨u6, u7, rfl, H5⟩; clear HK)
            | (go_at_call_of 14 u6; refine (numbers_ok H5 (idsL S) (idsL S) (ent_ints (base := w.heap.size) (by simp)) (ent_ints (base := w.heap.size) (by simp))).mono ?_; rw [beq_self_eq_true]; rintro e w6 ⟨rfl, H6⟩; clear H5)
            | (go_at_call_of 14 u7; refine (numbers_ok H6 (atsL S) (atsL S) (ent_ints (base := w.heap.size) (by simp)) (ent_ints (base := w.heap.size) (by simp))).mono ?_; rw [beq_self_eq_true]; rintro e w7 ⟨rfl, H7⟩; clear H6))
          go_ret
          exact ⟨rfl, H7.below⟩
end Go.Proofs.Ythibbjllfmhdmaa

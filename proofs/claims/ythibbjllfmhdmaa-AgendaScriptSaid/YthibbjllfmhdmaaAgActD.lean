/- The law's act: Due. -/
import Derived.Test.YthibbjllfmhdmaaAgActC
set_option linter.unusedVariables false
set_option linter.unusedSimpArgs false
namespace Go.Proofs.Ythibbjllfmhdmaa
open Go.RowKit Go.Proofs.HL AgInt
open Ref (Th ltT cut)

section
variable {w0 w : World} {L : List At} {ap ma p : Nat} {v : Value} {M : List Ent1} {l : List Th}
set_option maxRecDepth 100000 in
set_option maxHeartbeats 2000000 in
theorem act_due (H : HL w0 w (pair ap ma p v M l ++ L)) (hR : Rel M l) (hl : l.length ≤ 4398046511104) (kind which id at_ x : Int) (hk : amongI kind 6 = 3) :
    Calls Try.prog 22 #[.agg #[.int .i64 kind, .int .i64 which, .int .i64 id, .int .i64 at_, .int .i64 x], .pointer (some ⟨ap, 0, none⟩), .pointer (some ⟨p, 0, none⟩)] w fun e w' => ActPost w0 ap ma p l.length L e w' := by
  have H1 := H.alloc (.cells #[.int .i64 kind, .int .i64 which, .int .i64 id, .int .i64 at_, .int .i64 x] 45)
  have ha := among_ok kind 6
  rw [hk] at ha
  have hM : M.length ≤ 8796093022208 := by rw [hR.length]; omega
  go_enter Try.func22, Try.ntmps22
  go_wp2_with (first
    | (go_at_call 19; refine (ha _).mono ?_; rintro e w1 ⟨rfl, rfl⟩)
    | (go_at_call 12; refine (due_ok (H1.sel 5 [1, 2, 3, 4, 0]) hM at_).mono ?_; rintro e w3 ⟨u5, rfl, H3⟩; clear H1; have S1 : w3.cell? ⟨w.heap.size, 3, none⟩ = some (.int .i64 at_) := (by have h5 := H3.sel 6 [5]; rw [h5.cell 3]; rfl))
    | (go_at_call 44; refine (Ref.due_ok (l := l) (v := v) (H3.sel 6 [3, 4, 0, 1, 2, 5]) hl at_).mono ?_; rintro e w4 ⟨k, z, rfl, hk, hb, hc, u, H4⟩; clear S1 H3; obtain ⟨hd1, hR2⟩ := hR.due at_ hb hc; rw [hd1] at H4; generalize dropL at_ M (spotsOf M) = M2 at hR2 H4; have hlk : (l.drop k).length ≤ l.length + 1 := (by simp; omega); have hD : ((l.take k).map (·.id)).length ≤ 4398046511104 := (by simp; omega); generalize l.drop k = l2 at hR2 H4 hlk; generalize (l.take k).map (·.id) = D at H4 hD; clear hd1 hb hc hk; have HR2 := Lib.hid hR2; clear hR2;
        have H5 : HL w0 w4 (intsAt w0.heap.size z D :: blk p (Ref.ob u) :: Ref.vw u l2 :: intsAt w0.heap.size u5 D :: blk ap (obj ma) :: mp ma (kv enc M2) :: _) := H4; clear H4)
    | (go_at_call 14; refine (numbers_ok H5 D D (ent_ints (base := w0.heap.size) (by simp)) (ent_ints (base := w0.heap.size) (List.mem_cons_self ..))).mono ?_; rw [beq_self_eq_true]; rintro e w6 ⟨rfl, H6⟩; clear H5; have H7 := H6.sel 6 [3, 4, 5, 1, 2]; clear H6; obtain ⟨A5, c5, h5, hA5, -, -⟩ := row_shape H7.head; subst h5; go_frame))
  have H8 : HL w0 w6 (row w0.heap.size 3 1 (.slice A5 D.length c5) D.length (D.map encI) :: blk ap (obj ma) :: mp ma (kv enc M2) :: blk p (Ref.ob u) :: Ref.vw u l2 :: blk w.heap.size (.cells #[.int .i64 kind, .int .i64 which, .int .i64 id, .int .i64 at_, .int .i64 x] 45) :: L) := H7
  clear H7 H hR
  go_loopg [15, 99] D.length (fun g t i wr => ∃ (k : Nat) (xs : List Int), i = .int .i64 k ∧ k + g = D.length ∧ xs.length = D.length ∧ HL w0 wr (row w0.heap.size 3 1 (.slice A5 D.length c5) D.length (xs.map encI) :: blk ap (obj ma) :: mp ma (kv enc M2) :: blk p (Ref.ob u) :: Ref.vw u l2 :: blk w.heap.size (.cells #[.int .i64 kind, .int .i64 which, .int .i64 id, .int .i64 at_, .int .i64 x] 45) :: L))
  case atStart => exact ⟨0, D, rfl, by omega, rfl, H8⟩
  case round =>
    obtain ⟨k, xs, rfl, hk1, hxs, HK⟩ := hrel
    by_cases hlt : k < D.length
    · obtain ⟨g5, rfl⟩ : ∃ g, A5 = some ⟨g, 0, none⟩ := hA5.resolve_left (by omega)
      have c0 : wr.cell? ⟨g5, k, none⟩ = some (.int .i64 (xs[k]'(by omega))) := HK.rowCell (List.mem_cons_self ..) k _ (by rw [List.getElem?_map, List.getElem?_eq_getElem (by omega)]; rfl)
      have f0 : wr.frozen? ⟨g5, k, none⟩ = false := HK.rowFrozen (List.mem_cons_self ..) k
      have HS := HK.setRow k (.int .i64 (-9))
      clear HK H8
      go_wp2
      go_roundg (gk - 1)
      case measure => omega
      case rel => exact ⟨k + 1, xs.set k (-9), by go_num, by omega, by simpa using hxs, by rw [List.map_set]; exact HS⟩
    · have HZ : HL w0 wr (intsAt w0.heap.size (.slice A5 D.length c5) xs :: blk ap (obj ma) :: mp ma (kv enc M2) :: blk p (Ref.ob u) :: Ref.vw u l2 :: blk w.heap.size (.cells #[.int .i64 kind, .int .i64 which, .int .i64 id, .int .i64 at_, .int .i64 x] 45) :: L) := by unfold intsAt; rw [hxs]; exact HK
      clear HK H8
      go_wp2
      go_loopg [13, 106] 4 (fun g t i wr => ∃ (j : Nat) (ys : List Int), i = .int .i64 j ∧ j + g = 4 ∧ ys.length = D.length + j ∧ HL w0 wr (intsAt w0.heap.size t ys :: blk ap (obj ma) :: mp ma (kv enc M2) :: blk p (Ref.ob u) :: Ref.vw u l2 :: blk w.heap.size (.cells #[.int .i64 kind, .int .i64 which, .int .i64 id, .int .i64 at_, .int .i64 x] 45) :: L))
      case atStart => exact ⟨0, xs, rfl, rfl, by omega, HZ⟩
      case round =>
        obtain ⟨j, ys, rfl, hj, hys, HY⟩ := hrel
        clear HZ
        by_cases hj4 : j < 4
        · have HB := HY.alloc' (.cells #[.int .i64 (-9)] 3)
          have b1 : ys.length + ([-9] : List Int).length ≤ 17592186044416 := by simp only [List.length_cons, List.length_nil]; omega
          have r1 : Rd 1 (.slice (some ⟨wr.heap.size, 0, none⟩) 1 1) 1 (ints [-9]) (wr.alloc (.cells #[.int .i64 (-9)] 3)) := rd_one rfl
          clear HY
          go_wp2_with (at_builtin; refine append_ints (v := u13) (xv := .slice (some ⟨wr.heap.size, 0, none⟩) 1 1) (xs := ys) (ys := [-9]) rfl _ _ rfl HB rfl rfl r1 b1 ?_; intro z9 w9 H9; clear HB r1)
          go_roundg (gk - 1)
          case measure => omega
          case rel => exact ⟨j + 1, ys ++ [-9], by go_num, by omega, by simp; omega, H9⟩
        · go_wp2
          go_ret
          exact ⟨rfl, u, M2, l2, HR2.out, hlk, HY.sel 6 [1, 2, 3, 4]⟩
end
end Go.Proofs.Ythibbjllfmhdmaa

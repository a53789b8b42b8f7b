/- The law's own helpers: listed, among, numbers. -/
import Derived.Test.YthibbjllfmhdmaaAgDueInt
import Derived.Test.YthibbjllfmhdmaaStepsIn
set_option linter.unusedVariables false
set_option linter.unusedSimpArgs false
namespace Go.Proofs.Ythibbjllfmhdmaa.AgInt
open Go.RowKit Go.Proofs.HL
attribute [local go_sem] Oper.semAt_some

section
variable {w0 w : World} {L : List At} {bp mb : Nat} {M : List (AgE (Int))}
def idsL (ss : List (Int × Int)) : List Int := ss.map (·.2)
def atsL (ss : List (Int × Int)) : List Int := ss.map (·.1)
def intsAt (base : Nat) (v : Value) (l : List Int) : At := row base 3 1 v l.length (l.map encI)

def ownListed (cb B bp mb : Nat) (w0 : World) (M : List (AgE (Int))) (most : Int) (v4 v5 : Value) (ss : List (Int × Int)) (L : List At) : List At :=
  blk cb (captured bp) :: blk (B + 1 + 1) (.cells #[v5] 27) :: blk (B + 1) (.cells #[v4] 27) :: blk B (.cells #[.int .i64 most] 3) :: intsAt w0.heap.size v4 (idsL ss) :: intsAt w0.heap.size v5 (atsL ss) :: blk bp (obj mb) :: mp mb (kv enc M) :: L

set_option maxRecDepth 100000 in
set_option maxHeartbeats 1000000 in
theorem listed_ok (H : HL w0 w (blk bp (obj mb) :: mp mb (kv enc M) :: L)) (hM : M.length ≤ 8796093022208) (most : Int) :
    Calls Try.prog 11 #[.pointer (some ⟨bp, 0, none⟩), .int .i64 most] w fun e w' => ∃ v4 v5, e = .returned (.tuple #[v4, v5]) ∧
      HL w0 w' (intsAt w0.heap.size v4 (idsL ((spotsOf M).take most.toNat)) :: intsAt w0.heap.size v5 (atsL ((spotsOf M).take most.toNat)) :: blk bp (obj mb) :: mp mb (kv enc M) :: L) := by
  refine calls_of_marks Try.func11 rfl ?_
  simp only [Try.ntmps11, List.size_toArray, List.length_cons, List.length_nil, Nat.reduceAdd, Nat.reduceSub, Array.replicate_succ, Array.replicate_zero, List.push_toArray, List.append_toArray, List.nil_append, List.cons_append]
  by_cases hm : most ≤ 0
  · have h0 : most.toNat = 0 := by omega
    simp only [h0, List.take_zero]
    have H1 := ((H.alloc' (.cells #[.int .i64 most] 3)).alloc (.cells #[.slice none 0 0] 27)).alloc (.cells #[.slice none 0 0] 27)
    simp only [World.size_alloc] at H1
    have d4 := H1.tail.cell 0
    have d5 := H1.cell 0
    have Hd := Lib.hid (And.intro d4 d5); clear d4 d5
    go_wp2
    obtain ⟨d4, d5⟩ := Hd.out
    refine bodyPostM_plain (v := .tuple #[.slice none 0 0, .slice none 0 0]) (by simp [results, Try.results11, go_sem, d4, d5]) rfl ⟨_, _, rfl, ?_⟩
    exact ((H1.sel 4 [2, 3]).nilRow w0.heap.size 3 1).nilRow w0.heap.size 3 1
  obtain ⟨m, rfl⟩ : ∃ m : Nat, most = (m : Int) := ⟨most.toNat, by omega⟩
  simp only [Int.toNat_natCast]
  have H1 := ((H.alloc (.cells #[.int .i64 m] 3)).alloc (.cells #[.slice none 0 0] 27)).alloc (.cells #[.slice none 0 0] 27)
  simp only [World.size_alloc] at H1
  go_wp2_with (go_at_call 24; refine (all_ok H1 bp).mono ?_; rintro e w1 ⟨cb, rfl, H2⟩; go_frame)
  have H2 : HL w0 w1 (ownListed cb w.heap.size bp mb w0 M m (.slice none 0 0) (.slice none 0 0) [] L) := ((H2.nilRow w0.heap.size 3 1).nilRow w0.heap.size 3 1).sel 6 [2, 3, 4, 5, 0, 1]
  have Hsz := w.heap.size
  generalize w.heap.size = B at H2 ⊢
  clear H1 H Hsz
  have hn : (spotsOf M).length = M.length := spotsOf_length
  refine wp_rangeFunc_hl (encs := encIt) (xs := spotsOf M) rfl (enters_of Try.func48 (by kernel_rfl) rfl) (all_iter (bp := bp) (mb := mb) cb hM) (fun _ => rfl) H2 ?pre
    (fun k L' => ∃ v4 v5, k < m ∧ L' = ownListed cb B bp mb w0 M m v4 v5 ((spotsOf M).take k) L)
    (fun c L' => c = .exit 0 ∧ ∃ v4 v5, L' = ownListed cb B bp mb w0 M m v4 v5 ((spotsOf M).take m) L)
    (fun k x a' L1 => ∃ v4 v5, k < m ∧ L1 = ownListed cb B bp mb w0 M m v4 v5 ((spotsOf M).take k) L ∧
      a' = { tmps := #[.pointer (some ⟨bp, 0, none⟩), .int .i64 m, undef, .pointer (some ⟨B, 0, none⟩), .pointer (some ⟨B + 1, 0, none⟩), .pointer (some ⟨B + 1 + 1, 0, none⟩), .int .i64 x.2, .int .i64 x.1, .int .i64 m, .bool false,
        .pointer (some ⟨bp, 0, none⟩), .func (.func 48) #[] #[.pointer (some ⟨cb, 0, none⟩)], .int .i64 x.2, .int .i64 x.1, undef, undef, undef, undef, undef, undef, undef, undef, undef, undef, undef, undef, undef, undef], defers := [] })
    ⟨_, _, by omega, rfl⟩ ?assign ?body ?done ?stop
  case pre =>
    intro R
    exact ⟨_, (List.Perm.cons _ (by
      refine (List.perm_append_comm (l₁ := [_, _, _, _, _]) (l₂ := blk bp (obj mb) :: mp mb (kv enc M) :: (L ++ R))).trans ?_
      exact List.Perm.refl _))⟩
  case assign =>
    rintro l k x W L' R K hx ⟨v4, v5, hk, rfl⟩ HW hK
    have hk := fun a' e => hK a' W _ ⟨v4, v5, hk, rfl, e⟩ HW
    clear hK HW
    dsimp only [encIt]
    gi_wp2
    rfl
  case body =>
    rintro l r k x W a' L1 R hx ⟨v4, v5, hkm, rfl, rfl⟩ HW
    have hd0 : Fence.wide.depth = none := rfl
    have hf0 : ∀ f, Fence.wide.fn f := fun _ => trivial
    have hkM : k < M.length := by rw [← hn]; exact (List.getElem?_eq_some_iff.1 hx).1
    have htk : (spotsOf M).take (k + 1) = (spotsOf M).take k ++ [x] := by rw [List.take_add_one, hx]; rfl
    have hl1 : (idsL ((spotsOf M).take k)).length = k := by simp [idsL]; omega
    have hl2 : (atsL ((spotsOf M).take k)).length = k := by simp [atsL]; omega
    have H4 : HL w0 W (row w0.heap.size 3 1 v4 k ((idsL ((spotsOf M).take k)).map encI) :: blk (B + 1) (.cells #[v4] 27) :: blk (B + 1 + 1) (.cells #[v5] 27) :: blk B (.cells #[.int .i64 m] 3) :: blk cb (captured bp) ::
        row w0.heap.size 3 1 v5 k ((atsL ((spotsOf M).take k)).map encI) :: blk bp (obj mb) :: mp mb (kv enc M) :: (L ++ blk l (.loop r) :: R)) := by
      have := HW.sel 8 [4, 2, 1, 3, 0, 5, 6, 7]
      simp only [ownListed, intsAt, hl1, hl2] at this
      exact this
    clear HW
    have Hx := Lib.hid hx; clear hx
    have Htk := Lib.hid htk; clear htk
    have c4 : W.cell? ⟨B + 1, 0, none⟩ = some v4 := by rw [H4.cellOf (b := B + 1) (vs := #[v4]) (E := 27) (fz := (0, 0)) (by simp)]; rfl
    gi_wp2_with (gi_at_builtin; refine wpListIn_append_hl (m := 1) (news := [.int .i64 x.2]) sliceI rfl _ _ rfl (H4.alloc' _) rfl rfl ?r ?o ?m ?b ?k)
    case r => exact rd_one (by simp)
    case o => simp [Value.oneCell']
    case m => unfold maxLen; omega
    case b => omega
    case k =>
      intro u4 w3 H3 _
      obtain ⟨A4, q4, rfl, -, -, -⟩ := row_shape H3.head
      clear c4 H4
      have c4 : w3.cell? ⟨B + 1, 0, none⟩ = some v4 := by rw [H3.cellOf (b := B + 1) (vs := #[v4]) (E := 27) (fz := (0, 0)) (by simp)]; rfl
      have f4 : w3.frozen? ⟨B + 1, 0, none⟩ = false := H3.frozenOf (b := B + 1) (vs := #[v4]) (E := 27) (by simp) 0
      have H5 := H3.setAt [_] 0 (.slice A4 (k + 1) q4)
      have H6 : HL w0 (w3.setCell ⟨B + 1, 0, none⟩ (.slice A4 (k + 1) q4)) (row w0.heap.size 3 1 v5 k ((atsL ((spotsOf M).take k)).map encI) :: blk (B + 1) (.cells #[.slice A4 (k + 1) q4] 27) :: blk (B + 1 + 1) (.cells #[v5] 27) :: blk B (.cells #[.int .i64 m] 3) :: blk cb (captured bp) ::
        row w0.heap.size 3 1 (.slice A4 (k + 1) q4) (k + 1) ((idsL ((spotsOf M).take k)).map encI ++ [.int .i64 x.2]) :: blk bp (obj mb) :: mp mb (kv enc M) :: (L ++ blk l (.loop r) :: R)) := H5.sel 8 [5, 1, 2, 3, 4, 0, 6, 7]
      clear H5 H3
      have c5 : (w3.setCell ⟨B + 1, 0, none⟩ (.slice A4 (k + 1) q4)).cell? ⟨B + 1 + 1, 0, none⟩ = some v5 := by rw [H6.cellOf (b := B + 1 + 1) (vs := #[v5]) (E := 27) (fz := (0, 0)) (by simp)]; rfl
      gi_wp2_with (gi_at_builtin; refine wpListIn_append_hl (m := 1) (news := [.int .i64 x.1]) sliceI rfl _ _ rfl (H6.alloc' _) rfl rfl ?r ?o ?m ?b ?k)
      case r => exact rd_one (by simp)
      case o => simp [Value.oneCell']
      case m => unfold maxLen; omega
      case b => omega
      case k =>
        intro u5 w4 H7 _
        obtain ⟨A5, q5, rfl, -, -, -⟩ := row_shape H7.head
        clear c4 f4 c5 H6
        have c5 : w4.cell? ⟨B + 1 + 1, 0, none⟩ = some v5 := by rw [H7.cellOf (b := B + 1 + 1) (vs := #[v5]) (E := 27) (fz := (0, 0)) (by simp)]; rfl
        have f5 : w4.frozen? ⟨B + 1 + 1, 0, none⟩ = false := H7.frozenOf (b := B + 1 + 1) (vs := #[v5]) (E := 27) (by simp) 0
        have H8 := H7.setAt [_, _] 0 (.slice A5 (k + 1) q5)
        have H9 : HL w0 (w4.setCell ⟨B + 1 + 1, 0, none⟩ (.slice A5 (k + 1) q5)) (blk cb (captured bp) :: blk (B + 1 + 1) (.cells #[.slice A5 (k + 1) q5] 27) :: blk (B + 1) (.cells #[.slice A4 (k + 1) q4] 27) :: blk B (.cells #[.int .i64 m] 3) ::
          row w0.heap.size 3 1 (.slice A4 (k + 1) q4) (k + 1) ((idsL ((spotsOf M).take k)).map encI ++ [.int .i64 x.2]) :: row w0.heap.size 3 1 (.slice A5 (k + 1) q5) (k + 1) ((atsL ((spotsOf M).take k)).map encI ++ [.int .i64 x.1]) :: blk bp (obj mb) :: mp mb (kv enc M) :: (L ++ blk l (.loop r) :: R)) := H8.sel 8 [4, 2, 1, 3, 5, 0, 6, 7]
        have e4 : (w4.setCell ⟨B + 1 + 1, 0, none⟩ (.slice A5 (k + 1) q5)).cell? ⟨B + 1, 0, none⟩ = some (.slice A4 (k + 1) q4) := by rw [H9.cellOf (b := B + 1) (vs := #[.slice A4 (k + 1) q4]) (E := 27) (fz := (0, 0)) (by simp)]; rfl
        have e3 : (w4.setCell ⟨B + 1 + 1, 0, none⟩ (.slice A5 (k + 1) q5)).cell? ⟨B, 0, none⟩ = some (.int .i64 m) := by rw [H9.cellOf (b := B) (vs := #[.int .i64 m]) (E := 3) (fz := (0, 0)) (by simp)]; rfl
        have hfin : ∀ j, j = k + 1 → HL w0 (w4.setCell ⟨B + 1 + 1, 0, none⟩ (.slice A5 (k + 1) q5)) (ownListed cb B bp mb w0 M m (.slice A4 (k + 1) q4) (.slice A5 (k + 1) q5) ((spotsOf M).take j) L ++ blk l (.loop r) :: R) := by
          rintro j rfl
          rw [Htk.out]
          simp only [ownListed, intsAt, idsL, atsL, List.map_append, List.map_cons, List.map_nil, List.length_append, List.length_map, List.length_cons, List.length_nil] at hl1 hl2 ⊢
          rw [hl1]
          exact H9
        clear H7 H8 H9
        by_cases hkk : k + 1 = m
        · subst hkk
          gi_wp2
          exact ⟨_, ⟨rfl, _, _, rfl⟩, hfin (k + 1) rfl⟩
        · gi_wp2
          exact ⟨_, ⟨_, _, by omega, rfl⟩, hfin (k + 1) rfl⟩
  case done =>
    rintro D W L' ⟨v4, v5, hlen, rfl⟩ HW
    have hall : (spotsOf M).take (spotsOf M).length = (spotsOf M).take m := by rw [List.take_length, List.take_of_length_le (by omega)]
    rw [hall] at HW
    obtain ⟨A4, q4, rfl, -, -, -⟩ := row_shape (HW.sel 6 [5]).head
    obtain ⟨A5, q5, rfl, -, -, -⟩ := row_shape (HW.sel 7 [6]).head
    generalize hss : (idsL ((spotsOf M).take m)).length = n4 at *
    have hss5 : (atsL ((spotsOf M).take m)).length = n4 := by simpa [atsL, idsL] using hss
    rw [hss5] at HW
    have HW' : HL w0 W (blk D (.deferred (some [])) :: blk cb (captured bp) :: blk (B + 1 + 1) (.cells #[.slice A5 n4 q5] 27) :: blk (B + 1) (.cells #[.slice A4 n4 q4] 27) :: blk B (.cells #[.int .i64 m] 3) ::
      row w0.heap.size 3 1 (.slice A4 n4 q4) n4 ((idsL ((spotsOf M).take m)).map encI) :: row w0.heap.size 3 1 (.slice A5 n4 q5) n4 ((atsL ((spotsOf M).take m)).map encI) :: blk bp (obj mb) :: mp mb (kv enc M) :: L) := by
      have := HW
      simp only [ownListed, intsAt, hss, hss5] at this
      exact this
    clear HW
    have c4 : W.cell? ⟨B + 1, 0, none⟩ = some (.slice A4 n4 q4) := by rw [HW'.cellOf (b := B + 1) (vs := #[.slice A4 n4 q4]) (E := 27) (fz := (0, 0)) (by simp)]; rfl
    have c5 : W.cell? ⟨B + 1 + 1, 0, none⟩ = some (.slice A5 n4 q5) := by rw [HW'.cellOf (b := B + 1 + 1) (vs := #[.slice A5 n4 q5]) (E := 27) (fz := (0, 0)) (by simp)]; rfl
    have f4 : W.frozen? ⟨B + 1, 0, none⟩ = false := HW'.frozenOf (b := B + 1) (vs := #[.slice A4 n4 q4]) (E := 27) (by simp) 0
    have f5 : W.frozen? ⟨B + 1 + 1, 0, none⟩ = false := HW'.frozenOf (b := B + 1 + 1) (vs := #[.slice A5 n4 q5]) (E := 27) (by simp) 0
    go_wp2
    have c5d : (W.drew.setCell ⟨B + 1, 0, none⟩ (.slice A4 n4 q4)).cell? ⟨B + 1 + 1, 0, none⟩ = some (.slice A5 n4 q5) := by
      rw [(HW'.drew.setAt [_, _, _] 0 (.slice A4 n4 q4)).cellOf (b := B + 1 + 1) (vs := #[.slice A5 n4 q5]) (E := 27) (fz := (0, 0)) (by simp)]; rfl
    go_region
    have HS := ((HW'.setAt [_, _, _] 0 (.slice A4 n4 q4)).setAt [_, _] 0 (.slice A5 n4 q5)).drew
    clear HW'
    obtain ⟨ht, HF⟩ := HL.takes (P := Try.prog) HS
    have d4 := HF.cellOf (b := B + 1) (vs := #[.slice A4 n4 q4]) (E := 27) (fz := (0, 0)) (by simp) 0
    have d5 := HF.cellOf (b := B + 1 + 1) (vs := #[.slice A5 n4 q5]) (E := 27) (fz := (0, 0)) (by simp) 0
    have Ht := Lib.hid ht; clear ht
    have Hd := Lib.hid (And.intro d4 d5); clear d4 d5
    go_wp2
    obtain ⟨d4, d5⟩ := Hd.out
    exact bodyPostM_end rfl Ht.out (v := .tuple #[.slice A4 n4 q4, .slice A5 n4 q5]) (by simp [results, Try.results11, go_sem, d4, d5]) ⟨_, _, rfl, by simp only [intsAt, hss, hss5]; exact HF.sel 8 [4, 5, 6, 7]⟩
  case stop =>
    rintro D c W L' ⟨rfl, v4, v5, rfl⟩ HW
    obtain ⟨A4, q4, rfl, -, -, -⟩ := row_shape (HW.sel 6 [5]).head
    obtain ⟨A5, q5, rfl, -, -, -⟩ := row_shape (HW.sel 7 [6]).head
    generalize hss : (idsL ((spotsOf M).take m)).length = n4 at *
    have hss5 : (atsL ((spotsOf M).take m)).length = n4 := by simpa [atsL, idsL] using hss
    rw [hss5] at HW
    have HW' : HL w0 W (blk D (.deferred (some [])) :: blk cb (captured bp) :: blk (B + 1 + 1) (.cells #[.slice A5 n4 q5] 27) :: blk (B + 1) (.cells #[.slice A4 n4 q4] 27) :: blk B (.cells #[.int .i64 m] 3) ::
      row w0.heap.size 3 1 (.slice A4 n4 q4) n4 ((idsL ((spotsOf M).take m)).map encI) :: row w0.heap.size 3 1 (.slice A5 n4 q5) n4 ((atsL ((spotsOf M).take m)).map encI) :: blk bp (obj mb) :: mp mb (kv enc M) :: L) := by
      have := HW
      simp only [ownListed, intsAt, hss, hss5] at this
      exact this
    clear HW
    have c4 : W.cell? ⟨B + 1, 0, none⟩ = some (.slice A4 n4 q4) := by rw [HW'.cellOf (b := B + 1) (vs := #[.slice A4 n4 q4]) (E := 27) (fz := (0, 0)) (by simp)]; rfl
    have c5 : W.cell? ⟨B + 1 + 1, 0, none⟩ = some (.slice A5 n4 q5) := by rw [HW'.cellOf (b := B + 1 + 1) (vs := #[.slice A5 n4 q5]) (E := 27) (fz := (0, 0)) (by simp)]; rfl
    have f4 : W.frozen? ⟨B + 1, 0, none⟩ = false := HW'.frozenOf (b := B + 1) (vs := #[.slice A4 n4 q4]) (E := 27) (by simp) 0
    have f5 : W.frozen? ⟨B + 1 + 1, 0, none⟩ = false := HW'.frozenOf (b := B + 1 + 1) (vs := #[.slice A5 n4 q5]) (E := 27) (by simp) 0
    go_wp2
    have c5d : (W.drew.setCell ⟨B + 1, 0, none⟩ (.slice A4 n4 q4)).cell? ⟨B + 1 + 1, 0, none⟩ = some (.slice A5 n4 q5) := by
      rw [(HW'.drew.setAt [_, _, _] 0 (.slice A4 n4 q4)).cellOf (b := B + 1 + 1) (vs := #[.slice A5 n4 q5]) (E := 27) (fz := (0, 0)) (by simp)]; rfl
    go_region
    have HS := ((HW'.setAt [_, _, _] 0 (.slice A4 n4 q4)).setAt [_, _] 0 (.slice A5 n4 q5)).drew
    clear HW'
    obtain ⟨ht, HF⟩ := HL.takes (P := Try.prog) HS
    have d4 := HF.cellOf (b := B + 1) (vs := #[.slice A4 n4 q4]) (E := 27) (fz := (0, 0)) (by simp) 0
    have d5 := HF.cellOf (b := B + 1 + 1) (vs := #[.slice A5 n4 q5]) (E := 27) (fz := (0, 0)) (by simp) 0
    have Ht := Lib.hid ht; clear ht
    have Hd := Lib.hid (And.intro d4 d5); clear d4 d5
    go_wp2
    obtain ⟨d4, d5⟩ := Hd.out
    exact bodyPostM_end rfl Ht.out (v := .tuple #[.slice A4 n4 q4, .slice A5 n4 q5]) (by simp [results, Try.results11, go_sem, d4, d5]) ⟨_, _, rfl, by simp only [intsAt, hss, hss5]; exact HF.sel 8 [4, 5, 6, 7]⟩
end
end Go.Proofs.Ythibbjllfmhdmaa.AgInt

/- Agendas of ints: the iterator; First, Due, Clone. -/
import Derived.Test.YthibbjllfmhdmaaAgInt
import Derived.Test.YthibbjllfmhdmaaIter
import Derived.Shelf.Abstract
import Derived.OwnWalkIn
import Derived.TacticsInMore
import Derived.Sort.LoopGhostIn
set_option linter.unusedVariables false
set_option linter.unusedSimpArgs false
namespace Go.Proofs.Ythibbjllfmhdmaa.AgInt
open Go.RowKit Go.Proofs.HL
attribute [local go_sem] Oper.semAt_some

section
variable {w0 w : World} {L : List At} {bp mb : Nat} {M : List (AgE (Int))}
/-- The spots, the first one first: time, number. -/
def spotsOf (M : List (AgE (Int))) : List (Int × Int) := AgSort.sortSp (M.map fun a => (a.at_, a.id))
theorem spotsOf_length : (spotsOf M).length = M.length := by
  unfold spotsOf AgSort.sortSp
  rw [List.length_mergeSort, List.length_map]
def captured (bp : Nat) : Obj := .cells #[.pointer (some ⟨bp, 0, none⟩)] 24
def encIt (x : Int × Int) : Array Value := #[.int .i64 x.2, .int .i64 x.1]

set_option maxRecDepth 100000 in
set_option maxHeartbeats 400000 in
theorem all_ok (H : HL w0 w L) (bp : Nat) :
    Calls Try.prog 24 #[.pointer (some ⟨bp, 0, none⟩)] w fun e w' => ∃ cb, e = .returned (.func (.func 48) #[] #[.pointer (some ⟨cb, 0, none⟩)]) ∧ HL w0 w' (blk cb (captured bp) :: L) := by
  go_enter Try.func24, Try.ntmps24
  go_wp2
  go_ret
  exact ⟨_, rfl, H.alloc _⟩

/-- A row of spots is read at k. -/
theorem spot_cells {base : Nat} {g cap n : Nat} {ss : List (Int × Int)} (H : HL w0 w (row base 71 2 (.slice (some ⟨g, 0, none⟩) n cap) n (ss.flatMap AgSort.encSp) :: L)) (k : Nat) (x : Int × Int) (hx : ss[k]? = some x) :
    w.cell? ⟨g, k * 2, none⟩ = some (.int .i64 x.1) ∧ w.cell? ⟨g, k * 2 + 1, none⟩ = some (.int .i64 x.2) := by
  have hr := H.head
  have h0 := flat_at AgSort.encSp 2 (fun _ => rfl) ss k 0 x hx (by decide)
  have h1 := flat_at AgSort.encSp 2 (fun _ => rfl) ss k 1 x hx (by decide)
  have c0 := hr.cells (g := g) rfl _ _ h0
  have c1 := hr.cells (g := g) rfl _ _ h1
  rw [add_zero_block] at c0 c1
  exact ⟨c0, c1⟩

set_option maxRecDepth 100000 in
set_option maxHeartbeats 800000 in
theorem all_iter (cb : Nat) (hM : M.length ≤ 8796093022208) :
    Iter Try.prog w0 48 #[.pointer (some ⟨cb, 0, none⟩)] encIt (spotsOf M) (fun L => ∃ L1, L.Perm (blk cb (captured bp) :: blk bp (obj mb) :: mp mb (kv enc M) :: L1)) := by
  rintro l J Jx w L H ⟨L1, hp⟩ h0 hY
  have HP := H.perm hp
  have c0 : w.cell? ⟨cb, 0, none⟩ = some (.pointer (some ⟨bp, 0, none⟩)) := by rw [HP.cell 0]; rfl
  have hsp := spots_ok HP.rotl3 hM
  have hn : (spotsOf M).length = M.length := spotsOf_length
  have hd0 : Fence.wide.depth = none := rfl
  have hf0 : ∀ f, Fence.wide.fn f := fun _ => trivial
  refine callsIn_of_wp Try.func48 rfl trivial ?_ rfl
  simp only [Try.ntmps48, List.size_toArray, List.length_cons, List.length_nil, Nat.reduceAdd, Nat.reduceSub, Array.replicate_succ, Array.replicate_zero, List.push_toArray, List.append_toArray, List.nil_append, List.cons_append]
  gi_wp2_with (gi_at_call 40; refine (callsIn_wide.2 hsp).mono ?_; rintro e w1 ⟨v, rfl, H1⟩; obtain ⟨A, cp, rfl, hA, -, -⟩ := row_shape H1.head)
  have H2 : HL w0 w1 (L ++ [row w0.heap.size 71 2 (.slice A M.length cp) M.length ((spotsOf M).flatMap AgSort.encSp)]) :=
    (H1.perm ((((List.Perm.swap _ _ _).trans ((List.Perm.swap _ _ _).cons _)).symm.trans (hp.symm)).cons _)).perm (List.perm_append_comm (l₁ := [_]))
  clear hsp H1
  gi_loopg [8] M.length (fun g i wr => ∃ (k : Nat) (L' : List At), i = .int .i64 k ∧ k + g = M.length ∧ J k L' ∧ HL w0 wr (L' ++ [row w0.heap.size 71 2 (.slice A M.length cp) M.length ((spotsOf M).flatMap AgSort.encSp)]))
  case atStart => exact ⟨0, L, rfl, by omega, h0, H2⟩
  case round =>
    obtain ⟨k, L', rfl, hk, hJ, HK⟩ := hrel
    by_cases hlt : k < M.length
    · obtain ⟨g, rfl⟩ : ∃ g, A = some ⟨g, 0, none⟩ := hA.resolve_left (by omega)
      obtain ⟨x, hx⟩ : ∃ x, (spotsOf M)[k]? = some x := ⟨_, List.getElem?_eq_getElem (by rw [hn]; exact hlt)⟩
      obtain ⟨s1, s2⟩ := spot_cells HK.mid k x hx
      obtain ⟨fn, tmps, assign, body, hy, hR⟩ := hY k x (wr.alloc (.cells #[.int .i64 x.1, .int .i64 x.2] 71)) L' _ hx hJ (HK.alloc' _)
      clear hx hJ hY HK
      dsimp only [encIt] at hy
      gi_wp2
      refine hR.mono ?_
      rintro e W3 ⟨L'', H3, (⟨rfl, hJ3⟩ | ⟨rfl, hJx⟩)⟩
      · gi_wp2
        go_roundg (gk - 1)
        case measure => omega
        case rel => exact ⟨k + 1, L'', by go_num, by omega, hJ3, H3⟩
      · gi_wp2
        refine bodyPost_ret (results_none rfl _ _ _) rfl ?_
        exact ⟨⟨_, rfl⟩, L'', H3.left, .inr hJx⟩
    · gi_wp2
      go_end0
      have hkn : k = (spotsOf M).length := by omega
      exact ⟨⟨_, rfl⟩, L', HK.left, .inl (hkn ▸ hJ)⟩

/-- What First tells. -/
def firstOf (ss : List (Int × Int)) : Value :=
  match ss with
  | [] => .tuple #[.int .i64 0, .int .i64 0, .bool false]
  | x :: _ => .tuple #[.int .i64 x.2, .int .i64 x.1, .bool true]

def ownFirst (cb B bp mb : Nat) (M : List (AgE (Int))) (v2 v3 v4 : Value) (L : List At) : List At :=
  blk cb (captured bp) :: blk (B + 1 + 1) (.cells #[v4] 4) :: blk (B + 1) (.cells #[v3] 3) :: blk B (.cells #[v2] 3) :: blk bp (obj mb) :: mp mb (kv enc M) :: L

set_option maxRecDepth 100000 in
set_option maxHeartbeats 1000000 in
theorem first_ok (H : HL w0 w (blk bp (obj mb) :: mp mb (kv enc M) :: L)) (hM : M.length ≤ 8796093022208) :
    Calls Try.prog 13 #[.pointer (some ⟨bp, 0, none⟩)] w fun e w' => e = .returned (firstOf (spotsOf M)) ∧ HL w0 w' (blk bp (obj mb) :: mp mb (kv enc M) :: L) := by
  refine calls_of_marks Try.func13 rfl ?_
  simp only [Try.ntmps13, List.size_toArray, List.length_cons, List.length_nil, Nat.reduceAdd, Nat.reduceSub, Array.replicate_succ, Array.replicate_zero, List.push_toArray, List.append_toArray, List.nil_append, List.cons_append]
  have H1 := ((H.alloc (.cells #[.int .i64 0] 3)).alloc (.cells #[.int .i64 0] 3)).alloc (.cells #[.bool false] 4)
  simp only [World.size_alloc] at H1
  go_wp2_with (go_at_call 24; refine (all_ok H1 bp).mono ?_; rintro e w1 ⟨cb, rfl, H2⟩; go_frame)
  replace H2 : HL w0 w1 (ownFirst cb w.heap.size bp mb M (.int .i64 0) (.int .i64 0) (.bool false) L) := H2
  have Hsz := w.heap.size
  generalize w.heap.size = B at H2 ⊢
  clear H1 H Hsz
  refine wp_rangeFunc_hl (encs := encIt) (xs := spotsOf M) rfl (enters_of Try.func48 (by kernel_rfl) rfl) (all_iter (bp := bp) (mb := mb) cb hM) (fun _ => rfl) H2 ?pre
    (fun k L' => k = 0 ∧ L' = ownFirst cb B bp mb M (.int .i64 0) (.int .i64 0) (.bool false) L)
    (fun c L' => c = .ret ∧ ∃ x, (spotsOf M)[0]? = some x ∧ L' = ownFirst cb B bp mb M (.int .i64 x.2) (.int .i64 x.1) (.bool true) L)
    (fun k x a' L1 => k = 0 ∧ L1 = ownFirst cb B bp mb M (.int .i64 0) (.int .i64 0) (.bool false) L ∧
      a' = { tmps := #[.pointer (some ⟨bp, 0, none⟩), undef, .pointer (some ⟨B, 0, none⟩), .pointer (some ⟨B + 1, 0, none⟩), .pointer (some ⟨B + 1 + 1, 0, none⟩), .int .i64 x.2, .int .i64 x.1, .pointer (some ⟨bp, 0, none⟩),
        .func (.func 48) #[] #[.pointer (some ⟨cb, 0, none⟩)], .int .i64 x.2, .int .i64 x.1, undef, undef], defers := [] }) ⟨rfl, rfl⟩ ?assign ?body ?done ?stop
  case pre =>
    intro R
    refine ⟨blk (B + 1 + 1) (.cells #[.bool false] 4) :: blk (B + 1) (.cells #[.int .i64 0] 3) :: blk B (.cells #[.int .i64 0] 3) :: (L ++ R), List.Perm.cons _ ?_⟩
    exact (List.perm_middle (l₁ := [blk (B + 1 + 1) (.cells #[.bool false] 4), blk (B + 1) (.cells #[.int .i64 0] 3), blk B (.cells #[.int .i64 0] 3)])).trans
      ((List.perm_middle (l₁ := [blk (B + 1 + 1) (.cells #[.bool false] 4), blk (B + 1) (.cells #[.int .i64 0] 3), blk B (.cells #[.int .i64 0] 3)])).cons _)
  case assign =>
    rintro l k x W L' R K hx ⟨rfl, rfl⟩ HW hK
    have hk := fun a' e => hK a' W _ ⟨rfl, rfl, e⟩ HW
    clear hK HW
    dsimp only [encIt]
    gi_wp2
    rfl
  case body =>
    rintro l r k x W a' L1 R hx ⟨rfl, rfl, rfl⟩ HW
    have c2 : W.cell? ⟨B, 0, none⟩ = some (.int .i64 0) := by rw [HW.cellOf (b := B) (vs := #[.int .i64 0]) (E := 3) (fz := (0, 0)) (by simp [ownFirst])]; rfl
    have c3 : W.cell? ⟨B + 1, 0, none⟩ = some (.int .i64 0) := by rw [HW.cellOf (b := B + 1) (vs := #[.int .i64 0]) (E := 3) (fz := (0, 0)) (by simp [ownFirst])]; rfl
    have c4 : W.cell? ⟨B + 1 + 1, 0, none⟩ = some (.bool false) := by rw [HW.cellOf (b := B + 1 + 1) (vs := #[.bool false]) (E := 4) (fz := (0, 0)) (by simp [ownFirst])]; rfl
    have f2 : W.frozen? ⟨B, 0, none⟩ = false := HW.frozenOf (b := B) (vs := #[.int .i64 0]) (E := 3) (by simp [ownFirst]) 0
    have f3 : W.frozen? ⟨B + 1, 0, none⟩ = false := HW.frozenOf (b := B + 1) (vs := #[.int .i64 0]) (E := 3) (by simp [ownFirst]) 0
    have f4 : W.frozen? ⟨B + 1 + 1, 0, none⟩ = false := HW.frozenOf (b := B + 1 + 1) (vs := #[.bool false]) (E := 4) (by simp [ownFirst]) 0
    have HS := ((HW.setAt [_, _, _] 0 (.int .i64 x.2)).setAt [_, _] 0 (.int .i64 x.1)).setAt [_] 0 (.bool true)
    have HX := Lib.hid hx; clear hx HW
    gi_wp2
    exact ⟨_, ⟨rfl, x, HX.out, rfl⟩, HS⟩
  case done =>
    rintro D W L' ⟨h0, rfl⟩ HW
    have hnil : firstOf (spotsOf M) = .tuple #[.int .i64 0, .int .i64 0, .bool false] := by rw [List.eq_nil_of_length_eq_zero h0]; rfl
    have c2 : W.cell? ⟨B, 0, none⟩ = some (.int .i64 0) := by rw [HW.cellOf (b := B) (vs := #[.int .i64 0]) (E := 3) (fz := (0, 0)) (by simp [ownFirst])]; rfl
    have c3 : W.cell? ⟨B + 1, 0, none⟩ = some (.int .i64 0) := by rw [HW.cellOf (b := B + 1) (vs := #[.int .i64 0]) (E := 3) (fz := (0, 0)) (by simp [ownFirst])]; rfl
    have c4 : W.cell? ⟨B + 1 + 1, 0, none⟩ = some (.bool false) := by rw [HW.cellOf (b := B + 1 + 1) (vs := #[.bool false]) (E := 4) (fz := (0, 0)) (by simp [ownFirst])]; rfl
    have f2 : W.frozen? ⟨B, 0, none⟩ = false := HW.frozenOf (b := B) (vs := #[.int .i64 0]) (E := 3) (by simp [ownFirst]) 0
    have f3 : W.frozen? ⟨B + 1, 0, none⟩ = false := HW.frozenOf (b := B + 1) (vs := #[.int .i64 0]) (E := 3) (by simp [ownFirst]) 0
    have f4 : W.frozen? ⟨B + 1 + 1, 0, none⟩ = false := HW.frozenOf (b := B + 1 + 1) (vs := #[.bool false]) (E := 4) (by simp [ownFirst]) 0
    have HS := ((HW.setAt [_, _, _, _] 0 (.int .i64 0)).setAt [_, _, _] 0 (.int .i64 0)).setAt [_, _] 0 (.bool false)
    obtain ⟨ht, HF⟩ := HL.takes (P := Try.prog) HS
    have d2 := HF.cellOf (b := B) (vs := #[.int .i64 0]) (E := 3) (fz := (0, 0)) (by simp) 0
    have d3 := HF.cellOf (b := B + 1) (vs := #[.int .i64 0]) (E := 3) (fz := (0, 0)) (by simp) 0
    have d4 := HF.cellOf (b := B + 1 + 1) (vs := #[.bool false]) (E := 4) (fz := (0, 0)) (by simp) 0
    have Hn := Lib.hid hnil
    clear hnil HW
    have Ht := Lib.hid ht; clear ht
    have Hd := Lib.hid (And.intro d2 (And.intro d3 d4)); clear d2 d3 d4
    go_wp2
    obtain ⟨d2, d3, d4⟩ := Hd.out
    exact bodyPostM_end rfl Ht.out (v := .tuple #[.int .i64 0, .int .i64 0, .bool false]) (by simp [results, Try.results13, go_sem, d2, d3, d4]) ⟨by rw [Hn.out], HF.tail.tail.tail.tail⟩
  case stop =>
    rintro D c W L' ⟨rfl, x, hx, rfl⟩ HW
    obtain ⟨ht, HF⟩ := HL.takes (P := Try.prog) HW
    have d2 := HF.cellOf (b := B) (vs := #[.int .i64 x.2]) (E := 3) (fz := (0, 0)) (by simp [ownFirst]) 0
    have d3 := HF.cellOf (b := B + 1) (vs := #[.int .i64 x.1]) (E := 3) (fz := (0, 0)) (by simp [ownFirst]) 0
    have d4 := HF.cellOf (b := B + 1 + 1) (vs := #[.bool true]) (E := 4) (fz := (0, 0)) (by simp [ownFirst]) 0
    have hcons : firstOf (spotsOf M) = .tuple #[.int .i64 x.2, .int .i64 x.1, .bool true] := by
      cases h : spotsOf M with
      | nil => rw [h] at hx; cases hx
      | cons y ys =>
        rw [h] at hx
        cases hx
        rfl
    have Hn := Lib.hid hcons
    clear hcons hx
    have Ht := Lib.hid ht; clear ht
    have Hd := Lib.hid (And.intro d2 (And.intro d3 d4)); clear d2 d3 d4
    go_wp2
    obtain ⟨d2, d3, d4⟩ := Hd.out
    exact bodyPostM_one rfl Ht.out (v := .tuple #[.int .i64 x.2, .int .i64 x.1, .bool true]) (by simp [results, Try.results13, go_sem, d2, d3, d4]) ⟨by rw [Hn.out], HF.tail.tail.tail.tail⟩
end
end Go.Proofs.Ythibbjllfmhdmaa.AgInt

/- The law AgendaStays. -/
import Derived.Test.YthibbjllfmhdmaaAgLawOrder
import Derived.Test.YthibbjllfmhdmaaRegionIn
import Derived.Test.YthibbjllfmhdmaaIterA
import Derived.Sort.AtCallIn
set_option linter.unusedVariables false
set_option linter.unusedSimpArgs false
namespace Go.Proofs.Ythibbjllfmhdmaa
open Go.RowKit Go.Proofs.HL AgInt
attribute [local go_sem] Oper.semAt_some
theorem run_store_fn {P : Program} {w : World} {a : Addr} {m : Mode} (f : Fn) (ts : Array Value) (cs : Array Value) : (store a (.func f ts cs) m).run P w = stored P w a (.func f ts cs) m := run_store P w a _ m rfl
attribute [local go_sem] run_store_fn

/-- What the law owns: the agenda, its boxes. -/
def fvS (cb : Nat) : Value := .func (.func 48) #[] #[.pointer (some ⟨cb, 0, none⟩)]
def ownS (base cb bp mb b3 b4 b5 b6 b7 b8 b10 b11 : Nat) (vl vd vi : Value) (at_ : Int) (S0 : List (Int × Int)) (M : List Ent1) (k : Nat) : List At :=
  [blk cb (captured bp), blk bp (obj mb), mp mb (kv enc M), blk b11 (.cells #[.int .i64 k] 3), blk b10 (.cells #[fvS cb] 50), blk b8 (.cells #[vi] 27), blk b7 (.cells #[.pointer (some ⟨bp, 0, none⟩)] 24),
    blk b6 (.cells #[.bool false] 4), blk b5 (.cells #[.int .i64 at_] 3), blk b4 (.cells #[vd] 27), blk b3 (.cells #[vl] 22), intsAt base vi (idsL S0)]
theorem ownS_cells {w0 w : World} {base cb bp mb b3 b4 b5 b6 b7 b8 b10 b11 : Nat} {vl vd vi : Value} {at_ : Int} {S0 : List (Int × Int)} {M : List Ent1} {k : Nat} {R : List At}
    (H : HL w0 w (ownS base cb bp mb b3 b4 b5 b6 b7 b8 b10 b11 vl vd vi at_ S0 M k ++ R)) :
    w.cell? ⟨b11, 0, none⟩ = some (.int .i64 k) ∧ w.frozen? ⟨b11, 0, none⟩ = false ∧ w.cell? ⟨b10, 0, none⟩ = some (fvS cb) ∧ w.cell? ⟨b8, 0, none⟩ = some vi ∧ w.cell? ⟨b7, 0, none⟩ = some (.pointer (some ⟨bp, 0, none⟩)) ∧
    w.cell? ⟨b5, 0, none⟩ = some (.int .i64 at_) ∧ w.cell? ⟨b4, 0, none⟩ = some vd ∧ w.cell? ⟨b3, 0, none⟩ = some vl := by
  have c (b : Nat) (v : Value) (E : TypeId) (hm : blk b (.cells #[v] E) ∈ ownS base cb bp mb b3 b4 b5 b6 b7 b8 b10 b11 vl vd vi at_ S0 M k ++ R) : w.cell? ⟨b, 0, none⟩ = some v := by rw [H.cellOf hm 0]; rfl
  refine ⟨c b11 _ 3 (by simp [ownS]), H.frozenOf (b := b11) (vs := #[.int .i64 k]) (E := 3) (by simp [ownS]) 0, c b10 _ 50 (by simp [ownS]), c b8 _ 27 (by simp [ownS]), c b7 _ 24 (by simp [ownS]),
    c b5 _ 3 (by simp [ownS]), c b4 _ 27 (by simp [ownS]), c b3 _ 22 (by simp [ownS])⟩

theorem cell1 {w W : World} {L : List At} (H : HL w W L) {b : Nat} {v : Value} {E : TypeId} (hm : blk b (.cells #[v] E) ∈ L) : W.cell? ⟨b, 0, none⟩ = some v := by rw [H.cellOf hm 0]; rfl

set_option maxRecDepth 100000 in
set_option maxHeartbeats 4000000 in
theorem stays_law {w : World} {vl vd : Value} {l : List ActD} {ds : List Int} (hl : Acts w vl l) (hb : l.length ≤ 3518437208784) (hd : Rd 1 vd ds.length (ints ds) w) (hbd : ds.length * 8 ≤ 140737488351232) (at_ : Int) :
    Calls Try.prog 6 #[vl, vd, .int .i64 at_] w fun e w' => e = .returned (.bool true) ∧ Below w.heap.size w w' := by
  refine calls_of_marks Try.func6 rfl ?_
  simp only [Try.ntmps6, List.size_toArray, List.length_cons, List.length_nil, Nat.reduceAdd, Nat.reduceSub, Array.replicate_succ, Array.replicate_zero, List.push_toArray, List.append_toArray, List.nil_append, List.cons_append]
  have hM : (fillM l).length ≤ l.length := fillM_length l
  generalize hMM : fillM l = M at hM
  have HMM := Lib.hid hMM; clear hMM
  have hM' : M.length ≤ 8796093022208 := by omega
  have hn : (spotsOf M).length = M.length := spotsOf_length
  generalize hSS : spotsOf M = S at hn
  have HSS := Lib.hid hSS; clear hSS
  obtain ⟨va, ca, rfl⟩ : ∃ a c, vl = .slice a l.length c := by obtain ⟨-, -, a, c, h, -⟩ := id hl; exact ⟨a, c, h⟩
  obtain ⟨da, dc, rfl⟩ : ∃ a c, vd = .slice a ds.length c := by obtain ⟨-, -, a, c, h, -⟩ := id hd; exact ⟨a, c, h⟩
  have HA := ((((HL.start w).alloc (.cells #[.slice va l.length ca] 22)).alloc (.cells #[.slice da ds.length dc] 27)).alloc (.cells #[.int .i64 at_] 3)).alloc (.cells #[.bool false] 4)
  simp only [World.size_alloc] at HA
  go_wp2_with (first
    | (go_at_call 8; refine (shown_ok HA).mono ?_; rintro e w1 ⟨rfl, H1⟩; clear HA; have c3 := cell1 H1 (b := w.heap.size) (v := .slice va l.length ca) (E := 22) (by simp))
    | (go_at_call 9; refine (filled_ok H1 hl).mono ?_; rw [HMM.out]; rintro e w2 ⟨ap, ma, rfl, H2⟩; clear H1 c3; have H3 := H2.alloc (.cells #[.pointer (some ⟨ap, 0, none⟩)] 24); clear H2;
        have c3 := cell1 H3 (b := w.heap.size) (v := .slice va l.length ca) (E := 22) (by simp))
    | (go_at_call 11; refine (listed_ok (H3.sel 3 [1, 2, 0]) hM' _).mono ?_; rw [take_all (M := M) (by omega), HSS.out]; rintro e w4 ⟨u8, u9, rfl, H4⟩; clear H3 c3; obtain ⟨A8, q8, rfl, hA8⟩ := ints_shape H4 (List.mem_cons_self ..);
        have H5 := H4.alloc (.cells #[.slice A8 (idsL S).length q8] 27); clear H4; have c7 := cell1 H5 (b := w2.heap.size) (v := .pointer (some ⟨ap, 0, none⟩)) (E := 24) (by simp))
    | (go_at_call 24; refine (all_ok H5 ap).mono ?_; rintro e w6 ⟨cb, rfl, H6⟩; clear H5 c7; have H7 := (H6.alloc (.cells #[.func (.func 48) #[] #[.pointer (some ⟨cb, 0, none⟩)]] 50)).alloc (.cells #[.int .i64 0] 3); simp only [World.size_alloc] at H7; clear H6;
        have c10 := cell1 H7 (b := w6.heap.size) (v := .func (.func 48) #[] #[.pointer (some ⟨cb, 0, none⟩)]) (E := 50) (by simp)))
  clear c10
  have hi1 : (idsL S).length = S.length := by unfold idsL; rw [List.length_map]
  rw [hi1] at hA8
  simp only [hi1] at H7 ⊢
  have H8 := H7.sel 13 [2, 6, 7, 0, 1, 3, 8, 9, 10, 11, 12, 4]
  clear H7
  generalize (World.alloc _ _).alloc _ = W8 at H8 ⊢
  generalize w6.heap.size + 1 = b11 at H8 ⊢
  generalize w6.heap.size = b10 at H8 ⊢
  generalize w4.heap.size = b8 at H8 ⊢
  generalize w2.heap.size = b7 at H8 ⊢
  have H8 : HL w W8 (ownS w.heap.size cb ap ma w.heap.size (w.heap.size + 1) (w.heap.size + 1 + 1) (w.heap.size + 1 + 1 + 1) b7 b8 b10 b11 (.slice va l.length ca) (.slice da ds.length dc) (.slice A8 S.length q8) at_ S M 0) := H8
  generalize hbase : w.heap.size = base at H8 ⊢
  clear hbase
  generalize base + 1 + 1 + 1 = b6 at H8 ⊢
  generalize base + 1 + 1 = b5 at H8 ⊢
  generalize base + 1 = b4 at H8 ⊢
  obtain ⟨b3, hb3⟩ : ∃ b3, b3 = base := ⟨_, rfl⟩
  apply wp_rangeFunc_A (encs := encIt) (xs := spotsOf M) rfl (enters_of Try.func48 (by kernel_rfl) rfl) (all_iter (bp := ap) (mb := ma) cb hM') (fun _ => rfl) H8 ?pre
    (fun k L' => ∃ Mk : List Ent1, Mk.length ≤ l.length + min k ds.length ∧ L' = ownS base cb ap ma base b4 b5 b6 b7 b8 b10 b11 (.slice va l.length ca) (.slice da ds.length dc) (.slice A8 S.length q8) at_ S Mk k)
    (fun c L' => False)
    ⟨M, by omega, rfl⟩
  case pre => exact fun R => ⟨_, List.Perm.refl _⟩
  case hassign =>
    intro lp x W K hK
    dsimp only [encIt]
    gi_wp2
    first | rfl | exact hK _ rfl
  case hbody =>
    rintro lp r k x W L1 R hx ⟨Mk, hMk, rfl⟩ HW
    rw [HSS.out] at hx
    have hkS : k < S.length := (List.getElem?_eq_some_iff.1 hx).1
    obtain ⟨g8, rfl⟩ : ∃ g, A8 = some ⟨g, 0, none⟩ := hA8.resolve_left (by omega)
    have hd0 : Fence.wide.depth = none := rfl
    have hf0 : ∀ f, Fence.wide.fn f := fun _ => trivial
    obtain ⟨c11, f11, c10, c8, c7, c5, c4, c3⟩ := ownS_cells HW
    have cx : W.cell? ⟨g8, k, none⟩ = some (.int .i64 x.2) := ints_cell (HW.sel 12 [11]) (List.mem_cons_self ..) k x.2 (by unfold idsL; rw [List.getElem?_map, hx]; rfl)
    by_cases hkd : k < ds.length
    · obtain ⟨d, hdk⟩ : ∃ d, ds[k]? = some d := ⟨_, List.getElem?_eq_getElem hkd⟩
      obtain ⟨gd, od, qd, hv, -, -, hcd⟩ := rd_plain hd (by intro e; have := congrArg List.length e; simp [ints] at this; rw [this] at hkd; simp at hkd)
      simp only [Value.slice.injEq] at hv
      obtain ⟨rfl, -, rfl⟩ := hv
      have hcw := Lib.hid (hcd k (.int .i64 d) (by simp [ints, hdk]))
      have cd := HW.old hcw.out
      clear hcd hdk hx
      gi_wp2
      refine wpIn_region_cut 5 (by kernel_rfl) (by kernel_rfl) (fun ⟨_, _, h⟩ => h) ?_
      simp only [List.take_succ_cons, List.take_zero, List.drop_succ_cons, List.drop_zero]
      repeat (go_big_quiet_step ((fail)))
      refine wpQuiet_nil ?_
      intro nq
      have HW1 := (HW.drewN nq).sel 3 [1, 2, 0]
      clear HW c11 f11 c10 c8 c7 c5 c4 c3 cx cd
      go_wp2_with (go_at_call 25; refine (drop_ok HW1 d).mono ?_; rintro e w7 ⟨rfl, H7⟩)
      clear HW1
      have HX : HL w w7 (ownS base cb ap ma base b4 b5 b6 b7 b8 b10 b11 (.slice va l.length ca) (.slice (some ⟨gd, od, none⟩) ds.length dc) (.slice (some ⟨g8, 0, none⟩) S.length q8) at_ S (dropE Mk d) k ++ blk lp (.loop r) :: R) := H7.sel 3 [2, 0, 1]
      clear H7
      obtain ⟨c11, f11, c10, c8, c7, c5, c4, c3⟩ := ownS_cells HX
      have cd := HX.old hcw.out
      have hM1 : (dropE Mk d).length ≤ Mk.length := List.length_filter_le _ _
      generalize dropE Mk d = Md at HX hM1
      gi_wp2
      refine wpIn_region_cut 7 (by kernel_rfl) (by kernel_rfl) (fun ⟨_, _, h⟩ => h) ?_
      simp only [List.take_succ_cons, List.take_zero, List.drop_succ_cons, List.drop_zero]
      repeat (go_big_quiet_step ((fail)))
      refine wpQuiet_nil ?_
      intro nq2
      have HW2 := (HX.drewN nq2).sel 3 [1, 2, 0]
      clear HX c11 f11 c10 c8 c7 c5 c4 c3 cd
      go_wp2_with (go_at_call 17; refine (add_ok HW2 d at_ k).mono ?_; rintro e w8 ⟨he, H8'⟩; obtain ⟨er, rfl⟩ : ∃ n, e = .returned (.int .i64 n) := ⟨_, he⟩; clear he)
      clear HW2
      have HX2 : HL w w8 (ownS base cb ap ma base b4 b5 b6 b7 b8 b10 b11 (.slice va l.length ca) (.slice (some ⟨gd, od, none⟩) ds.length dc) (.slice (some ⟨g8, 0, none⟩) S.length q8) at_ S (addE Md d at_ k) k ++ blk lp (.loop r) :: R) := H8'.sel 3 [2, 0, 1]
      clear H8'
      obtain ⟨c11, f11, c10, c8, c7, c5, c4, c3⟩ := ownS_cells HX2
      have hM2 : (addE Md d at_ k).length ≤ l.length + min (k + 1) ds.length := by have := addE_length Md d at_ k; omega
      generalize addE Md d at_ k = M2 at HX2 hM2
      have hM2' : M2.length ≤ 8796093022208 := by omega
      have n2 : (spotsOf M2).length = M2.length := spotsOf_length
      generalize hS2 : spotsOf M2 = S2 at n2
      have HS2 := Lib.hid hS2; clear hS2
      have hi2 : (idsL S2).length = M2.length := by unfold idsL; rw [List.length_map, n2]
      by_cases h20 : M2.length = 0
      · have hgt : ((0 : Int) < (0 : Nat)) ↔ False := by simp
        gi_wp2_with (gi_at_call 11; refine CallsIn.mono (CallsIn.inRound lp (callsIn_wide.2 (listed_ok (HX2.sel 3 [1, 2, 0]) hM2' _))) ?_; rw [take_all (M := M2) (by omega), HS2.out]; rintro e w9 ⟨u13, u14, rfl, H9⟩; obtain ⟨A13, q13, h13, hA13⟩ := ints_shape H9 (List.mem_cons_self ..); rw [hi2, h20] at h13; subst h13; have H10 := (H9.alloc (.cells #[.slice A13 0 q13] 27)).alloc (.cells #[.int .i64 0] 3); simp only [World.size_alloc] at H10; have c13 := cell1 H10 (b := w9.heap.size) (v := .slice A13 0 q13) (E := 27) (by simp); clear H9; have HY : HL w _ (ownS base cb ap ma base b4 b5 b6 b7 b8 b10 b11 (.slice va l.length ca) (.slice (some ⟨gd, od, none⟩) ds.length dc) (.slice (some ⟨g8, 0, none⟩) S.length q8) at_ S (M2) k ++ (blk (w9.heap.size + 1) (.cells #[.int .i64 0] 3) :: blk w9.heap.size (.cells #[.slice A13 0 q13] 27) :: intsAt w.heap.size (.slice A13 0 q13) (idsL S2) :: intsAt w.heap.size u14 (atsL S2) :: blk lp (.loop r) :: R)) := H10.sel 16 [6, 4, 5, 7, 8, 9, 10, 11, 12, 13, 14, 15, 0, 1, 2, 3]; clear H10 c11 f11 c10 c8 c7 c5 c4 c3; obtain ⟨c11, f11, c10, -, -, -, -, -⟩ := ownS_cells HY)
        have HS := HY.setAt [_, _, _] 0 (.int .i64 ((k : Int) + 1))
        clear HY HX2 H8 hn
        rw [show ((k : Int) + 1) = ((k + 1 : Nat) : Int) from by omega] at HS ⊢
        exact ⟨_, ⟨M2, hM2, rfl⟩, HS.sel 16 [0, 1, 2, 3, 4, 5, 6, 7, 8, 9, 10, 11]⟩
      have h2p : 0 < M2.length := by omega
      gi_wp2_with (gi_at_call 11; refine CallsIn.mono (CallsIn.inRound lp (callsIn_wide.2 (listed_ok (HX2.sel 3 [1, 2, 0]) hM2' _))) ?_; rw [take_all (M := M2) (by omega), HS2.out]; rintro e w9 ⟨u13, u14, rfl, H9⟩; obtain ⟨A13, q13, h13, hA13⟩ := ints_shape H9 (List.mem_cons_self ..); rw [hi2] at h13 hA13; subst h13; have H10 := (H9.alloc (.cells #[.slice A13 M2.length q13] 27)).alloc (.cells #[.int .i64 0] 3); simp only [World.size_alloc] at H10; have c13 := cell1 H10 (b := w9.heap.size) (v := .slice A13 M2.length q13) (E := 27) (by simp); clear H9; have HY : HL w _ (ownS base cb ap ma base b4 b5 b6 b7 b8 b10 b11 (.slice va l.length ca) (.slice (some ⟨gd, od, none⟩) ds.length dc) (.slice (some ⟨g8, 0, none⟩) S.length q8) at_ S (M2) k ++ (blk (w9.heap.size + 1) (.cells #[.int .i64 0] 3) :: blk w9.heap.size (.cells #[.slice A13 M2.length q13] 27) :: intsAt w.heap.size (.slice A13 M2.length q13) (idsL S2) :: intsAt w.heap.size u14 (atsL S2) :: blk lp (.loop r) :: R)) := H10.sel 16 [6, 4, 5, 7, 8, 9, 10, 11, 12, 13, 14, 15, 0, 1, 2, 3]; clear H10 c11 f11 c10 c8 c7 c5 c4 c3; obtain ⟨c11, f11, c10, -, -, -, -, -⟩ := ownS_cells HY)
      obtain ⟨g13, rfl⟩ : ∃ g, A13 = some ⟨g, 0, none⟩ := hA13.resolve_left (by omega)
      clear c13 c11 f11 c10
      generalize (World.alloc _ _).alloc _ = W10 at HY ⊢
      generalize w9.heap.size + 1 = b15 at HY ⊢
      generalize w9.heap.size = b13 at HY ⊢
      have HY : HL w W10 (ownS base cb ap ma base b4 b5 b6 b7 b8 b10 b11 (.slice va l.length ca) (.slice (some ⟨gd, od, none⟩) ds.length dc) (.slice (some ⟨g8, 0, none⟩) S.length q8) at_ S M2 k ++ (blk b15 (.cells #[.int .i64 0] 3) :: blk b13 (.cells #[.slice (some ⟨g13, 0, none⟩) M2.length q13] 27) :: intsAt w.heap.size (.slice (some ⟨g13, 0, none⟩) M2.length q13) (idsL S2) :: intsAt w.heap.size u14 (atsL S2) :: blk lp (.loop r) :: R)) := HY
      have hlp : W10.heap[lp]? = some (.loop r) := HY.get (A := blk lp (.loop r)) (by simp)
      apply wpIn_rangeFunc_A (l₀ := lp) (encs := encIt) (xs := spotsOf M2) rfl (enters_of Try.func48 (by kernel_rfl) rfl) (all_iter (bp := ap) (mb := ma) cb hM2') (fun _ => rfl) hlp HY ?pre
        (fun n L' => n < M2.length ∧ n < 3 ∧ L' = ownS base cb ap ma base b4 b5 b6 b7 b8 b10 b11 (.slice va l.length ca) (.slice (some ⟨gd, od, none⟩) ds.length dc) (.slice (some ⟨g8, 0, none⟩) S.length q8) at_ S M2 k ++ (blk b15 (.cells #[.int .i64 n] 3) :: blk b13 (.cells #[.slice (some ⟨g13, 0, none⟩) M2.length q13] 27) :: intsAt w.heap.size (.slice (some ⟨g13, 0, none⟩) M2.length q13) (idsL S2) :: intsAt w.heap.size u14 (atsL S2) :: blk lp (.loop r) :: R))
        (fun c L' => c = .exit 2 ∧ ∃ n : Nat, L' = ownS base cb ap ma base b4 b5 b6 b7 b8 b10 b11 (.slice va l.length ca) (.slice (some ⟨gd, od, none⟩) ds.length dc) (.slice (some ⟨g8, 0, none⟩) S.length q8) at_ S M2 k ++ (blk b15 (.cells #[.int .i64 n] 3) :: blk b13 (.cells #[.slice (some ⟨g13, 0, none⟩) M2.length q13] 27) :: intsAt w.heap.size (.slice (some ⟨g13, 0, none⟩) M2.length q13) (idsL S2) :: intsAt w.heap.size u14 (atsL S2) :: blk lp (.loop r) :: R))
        ⟨h2p, by omega, rfl⟩
      case pre => exact fun R => ⟨_, List.Perm.refl _⟩
      case hassign =>
        intro lq x W K hK
        dsimp only [encIt]
        gi_wp2
        first | rfl | exact hK _ rfl
      case hdone =>
        rintro W' L' ⟨h1, -, -⟩ -
        rw [HS2.out, n2] at h1
        omega
      case hbody =>
        rintro lq r' n y W' L1 R' hy ⟨hn1, hn2, rfl⟩ HZ'
        rw [HS2.out] at hy
        have HZ : HL w W' (ownS base cb ap ma base b4 b5 b6 b7 b8 b10 b11 (.slice va l.length ca) (.slice (some ⟨gd, od, none⟩) ds.length dc) (.slice (some ⟨g8, 0, none⟩) S.length q8) at_ S M2 k ++ blk b15 (.cells #[.int .i64 n] 3) :: blk b13 (.cells #[.slice (some ⟨g13, 0, none⟩) M2.length q13] 27) :: intsAt w.heap.size (.slice (some ⟨g13, 0, none⟩) M2.length q13) (idsL S2) :: (intsAt w.heap.size u14 (atsL S2) :: blk lp (.loop r) :: R ++ blk lq (.loop r') :: R')) := HZ'
        have d15 := cell1 HZ (b := b15) (v := .int .i64 n) (E := 3) (by simp)
        have e15 : W'.frozen? ⟨b15, 0, none⟩ = false := HZ.frozenOf (b := b15) (vs := #[.int .i64 n]) (E := 3) (by simp) 0
        have d13 := cell1 HZ (b := b13) (v := .slice (some ⟨g13, 0, none⟩) M2.length q13) (E := 27) (by simp)
        have dy : W'.cell? ⟨g13, n, none⟩ = some (.int .i64 y.2) := ints_cell (HZ.sel 15 [14]) (List.mem_cons_self ..) n y.2 (by unfold idsL; rw [List.getElem?_map, hy]; rfl)
        have HS := HZ.setAt (ownS base cb ap ma base b4 b5 b6 b7 b8 b10 b11 (.slice va l.length ca) (.slice (some ⟨gd, od, none⟩) ds.length dc) (.slice (some ⟨g8, 0, none⟩) S.length q8) at_ S M2 k) 0 (.int .i64 ((n : Int) + 1))
        have k13 := cell1 HS (b := b13) (v := .slice (some ⟨g13, 0, none⟩) M2.length q13) (E := 27) (by simp)
        have k15 := cell1 HS (b := b15) (v := .int .i64 ((n : Int) + 1)) (E := 3) (by simp)
        clear hy HZ HZ' hcw HX2 HY hlp H8 n2 hi2 hM2 hM2' h20 h2p hA13
        generalize hN2 : M2.length = N2 at *
        clear hN2 hn
        by_cases h1 : n + 1 = N2
        · subst h1
          gi_wp2
          exact ⟨_, ⟨rfl, n + 1, rfl⟩, HS⟩
        · by_cases h2 : n + 1 = 3
          · obtain rfl : n = 2 := by omega
            rw [show (((2 : Nat) : Int) + 1) = 3 from rfl] at HS k13 k15
            gi_wp2
            exact ⟨_, ⟨rfl, 3, rfl⟩, HS⟩
          · have hbe : ((n : Int) + 1 == (N2 : Int)) = false := by simp; omega
            have hb3 : ((n : Int) + 1 == 3) = false := by simp; omega
            gi_wp2
            rw [show ((n : Int) + 1) = ((n + 1 : Nat) : Int) from by omega] at HS ⊢
            exact ⟨_, ⟨by omega, by omega, rfl⟩, HS⟩
      case hstop =>
        rintro c W' L' ⟨rfl, n, rfl⟩ HZ'
        have HZ : HL w W' (ownS base cb ap ma base b4 b5 b6 b7 b8 b10 b11 (.slice va l.length ca) (.slice (some ⟨gd, od, none⟩) ds.length dc) (.slice (some ⟨g8, 0, none⟩) S.length q8) at_ S M2 k ++ (blk b15 (.cells #[.int .i64 n] 3) :: blk b13 (.cells #[.slice (some ⟨g13, 0, none⟩) M2.length q13] 27) :: intsAt w.heap.size (.slice (some ⟨g13, 0, none⟩) M2.length q13) (idsL S2) :: intsAt w.heap.size u14 (atsL S2) :: blk lp (.loop r) :: R)) := HZ'
        obtain ⟨c11, f11, -, -, -, -, -, -⟩ := ownS_cells HZ
        have HS := HZ.setAt [_, _, _] 0 (.int .i64 ((k : Int) + 1))
        clear HZ HZ' hn
        gi_wp2
        rw [show ((k : Int) + 1) = ((k + 1 : Nat) : Int) from by omega] at HS ⊢
        exact ⟨_, ⟨M2, hM2, rfl⟩, HS.sel 16 [0, 1, 2, 3, 4, 5, 6, 7, 8, 9, 10, 11]⟩
    · have HS := HW.setAt [_, _, _] 0 (.int .i64 ((k : Int) + 1))
      have hkb : k < 8796093022208 := by omega
      clear HW hn hx
      gi_wp2
      rw [show ((k : Int) + 1) = ((k + 1 : Nat) : Int) from by omega] at HS ⊢
      exact ⟨_, ⟨Mk, by omega, rfl⟩, HS⟩
  case hdone =>
    rintro D W L' ⟨Mk, hMk, rfl⟩ HW
    rw [HSS.out] at HW
    obtain ⟨c11, -, -, c8, -, -, -, -⟩ := ownS_cells (HW.sel 1 [0] |>.tail)
    have f6 : W.frozen? ⟨b6, 0, none⟩ = false := HW.frozenOf (b := b6) (vs := #[.bool false]) (E := 4) (by simp [ownS]) 0
    have c6 : W.cell? ⟨b6, 0, none⟩ = some (.bool false) := cell1 HW (E := 4) (by simp [ownS])
    have HS := HW.setAt [_, _, _, _, _, _, _, _] 0 (.bool true)
    obtain ⟨ht, HF⟩ := HL.takes (P := Try.prog) HS
    have d6 := cell1 HF (b := b6) (v := .bool true) (E := 4) (by simp)
    have Ht := Lib.hid ht; clear ht
    have Hd := Lib.hid d6; clear d6
    clear HW HS hn
    go_wp2
    have d6 := Hd.out
    exact bodyPostM_end rfl Ht.out (v := .bool true) (by simp [results, Try.results6, go_sem, d6]) ⟨rfl, HF.below⟩
  case hstop => exact fun D c W L' h _ => h.elim
end Go.Proofs.Ythibbjllfmhdmaa

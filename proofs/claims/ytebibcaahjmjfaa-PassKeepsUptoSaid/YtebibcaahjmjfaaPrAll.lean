/- All, whatever the numbers; the functions that range over it. -/
import Derived.Test.YtebibcaahjmjfaaPrIter
set_option linter.unusedVariables false
set_option linter.unusedSimpArgs false
namespace Go.Proofs.Ytebibcaahjmjfaa
open Go.RowKit Go.Proofs.HL Go.Proofs.HL.Pr
attribute [local go_sem] Oper.semAt_some

section
variable {w0 w : World} {L : List At} {v : Value}
set_option maxRecDepth 100000 in
set_option maxHeartbeats 800000 in
theorem stepsFn_ok (H : HL w0 w L) (now free : Int) (v : Value) (hv : ∃ A n c, v = .slice A n c) : Calls Try.prog 47 #[.int .i64 now, .int .i64 free, v] w fun e w' =>
    ∃ br bn bf, e = .returned (.func (.func 60) #[] #[.pointer (some ⟨br, 0, none⟩), .pointer (some ⟨bn, 0, none⟩), .pointer (some ⟨bf, 0, none⟩)]) ∧ HL w0 w' (L ++ privS br bn bf v now free) := by
  obtain ⟨A, n, c, rfl⟩ := hv
  go_enter Try.func47, Try.ntmps47
  go_wp2
  go_ret
  have h := ((H.alloc (.cells #[.int .i64 now] 3)).alloc (.cells #[.int .i64 free] 3)).alloc (.cells #[.slice A n c] 22)
  simp only [World.size_alloc] at h
  refine ⟨_, _, _, rfl, h.perm ?_⟩
  refine List.Perm.trans ?_ (List.perm_append_comm (l₁ := privS _ _ _ _ _ _) (l₂ := L))
  exact (List.Perm.cons _ (List.Perm.swap _ _ _))

/-- The three boxes and the sorted runs that All's answer keeps. -/
def keepS (b3 b4 b7 : Nat) (v : Value) (now free : Int) (S : List Rn) (W : World) : Prop :=
  W.cell? ⟨b3, 0, none⟩ = some (.int .i64 now) ∧ W.cell? ⟨b4, 0, none⟩ = some (.int .i64 free) ∧ W.cell? ⟨b7, 0, none⟩ = some v ∧ Rd 2 v S.length (S.flatMap encR) W

set_option maxRecDepth 100000 in
set_option maxHeartbeats 2000000 in
theorem allIter {w0 : World} {S : List Rn} (hS : Rise S) {now free : Int} (hf : rightB free S = true) (hl : S.length ≤ 8796093022208) (b3 b4 b7 : Nat) (A : Option Addr) (c : Nat) :
    IterK Try.prog w0 46 #[.pointer (some ⟨b3, 0, none⟩), .pointer (some ⟨b4, 0, none⟩), .pointer (some ⟨b7, 0, none⟩)] encIt (stepsS now free S) [] (keepS b3 b4 b7 (.slice A S.length c) now free S) := by
  rintro l J Jx w L H h0 hKp hY
  rw [List.append_nil] at H
  have H1 := H.alloc' (.cells #[.func (.yield l) #[] #[]] 82)
  obtain ⟨c3, c4, c7, -⟩ := hKp 0 L h0 _ H1
  refine callsIn_wide.2 (calls_of_marks Try.func46 rfl ?_)
  simp only [Try.ntmps46, List.size_toArray, List.length_cons, List.length_nil, Nat.reduceAdd, Nat.reduceSub, Array.replicate_succ, Array.replicate_zero, List.push_toArray, List.append_toArray, List.nil_append, List.cons_append]
  have H2 : HL w0 (w.alloc (.cells #[.func (.yield l) #[] #[]] 82)) (L ++ [blk w.heap.size (.cells #[.func (.yield l) #[] #[]] 82)]) :=
    (H.alloc (.cells #[.func (.yield l) #[] #[]] 82)).perm (List.perm_append_comm (l₁ := [_]))
  have hfn := stepsFn_ok H2 now free (.slice A S.length c) ⟨_, _, _, rfl⟩
  generalize hB : w.heap.size = B at H2 hfn
  clear H H1
  go_wp2_with (go_at_call 47; refine hfn.mono ?_; rintro e w3 ⟨br, bn, bf, rfl, H3⟩; clear hfn H2; go_frame)
  clear c3 c4 c7 hB
  refine wp_rangeFunc_K (encs := encIt) (xs := stepsS now free S) rfl (enters_of Try.func60 (by kernel_rfl) rfl) (stepsIter hS hf hl br bn bf A c) (fun _ => rfl) H3
    (fun k L' => ∃ L1, L' = L1 ++ [blk B (.cells #[.func (.yield l) #[] #[]] 82)] ∧ J k L1)
    (fun c L' => c = .ret ∧ ∃ L1, L' = L1 ++ [blk B (.cells #[.func (.yield l) #[] #[]] 82)] ∧ Jx L1)
    (fun k x a' L1 => ∃ g L2, L1 = L2 ++ [blk B (.cells #[.func (.yield l) #[] #[]] 82), blk g (.cells #[.int .i64 x.at_, .int .i64 x.free] 34)] ∧ J k L2 ∧
      a' = { tmps := #[.func (.yield l) #[] #[], .pointer (some ⟨b3, 0, none⟩), .pointer (some ⟨b4, 0, none⟩), .pointer (some ⟨b7, 0, none⟩), .pointer (some ⟨B, 0, none⟩), .pointer (some ⟨g, 0, none⟩), .int .i64 now, .int .i64 free, .slice A S.length c,
        .func (.func 60) #[] #[.pointer (some ⟨br, 0, none⟩), .pointer (some ⟨bn, 0, none⟩), .pointer (some ⟨bf, 0, none⟩)], .agg #[.int .i64 x.at_, .int .i64 x.free], undef, undef, undef, undef], defers := [] })
    ⟨L, rfl, h0⟩ ?keep ?assign ?body ?done ?stop
  case keep => exact fun k L' ⟨L1, hL, hJ⟩ => hL ▸ Ent.app (fun W hW => (hKp k L1 hJ W hW).2.2.2)
  case assign =>
    rintro lp k x W L' R K hx ⟨L1, rfl, hJ⟩ HW hK
    have HA := HW.alloc (.cells #[.int .i64 x.at_, .int .i64 x.free] 34)
    have HB : HL w0 (W.alloc (.cells #[.int .i64 x.at_, .int .i64 x.free] 34)) ((L1 ++ [blk B (.cells #[.func (.yield l) #[] #[]] 82), blk W.heap.size (.cells #[.int .i64 x.at_, .int .i64 x.free] 34)]) ++ R) := HA.perm (by
      have h1 := (List.perm_middle (a := blk W.heap.size (.cells #[.int .i64 x.at_, .int .i64 x.free] 34)) (l₁ := L1 ++ [blk B (.cells #[.func (.yield l) #[] #[]] 82)]) (l₂ := R)).symm
      simpa using h1)
    have hk := fun a' e => hK a' _ _ ⟨W.heap.size, L1, rfl, hJ, e⟩ HB
    clear hK HW HA HB hx hY hKp
    dsimp only [encIt]
    gi_wp2
    rfl
  case body =>
    rintro lp r k x W a' L1 R hx ⟨g, L2, rfl, hJ, rfl⟩ HW
    have hd0 : Fence.wide.depth = none := rfl
    have hf0 : ∀ f, Fence.wide.fn f := fun _ => trivial
    have cB : W.cell? ⟨B, 0, none⟩ = some (.func (.yield l) #[] #[]) := by rw [HW.cellOf (b := B) (vs := #[.func (.yield l) #[] #[]]) (E := 82) (fz := (0, 0)) (by simp) 0]; rfl
    have cg0 : W.cell? ⟨g, 0, none⟩ = some (.int .i64 x.at_) := by rw [HW.cellOf (b := g) (vs := #[.int .i64 x.at_, .int .i64 x.free]) (E := 34) (fz := (0, 0)) (by simp) 0]; rfl
    have cg1 : W.cell? ⟨g, 1, none⟩ = some (.int .i64 x.free) := by rw [HW.cellOf (b := g) (vs := #[.int .i64 x.at_, .int .i64 x.free]) (E := 34) (fz := (0, 0)) (by simp) 1]; rfl
    rw [List.append_assoc] at HW
    obtain ⟨fn, tmps, assign, body, hy, hR⟩ := hY k x W L2 _ hx hJ HW
    dsimp only [encIt] at hy
    clear hY hKp hx HW
    gi_wp2
    refine RoundIn.mono (F := Fence.wide) hR ?_
    rintro e W3 ⟨L3, H3, (⟨rfl, hJ3⟩ | ⟨rfl, hJx⟩)⟩
    · clear hy hR cB cg0 cg1
      gi_wp2
      refine ⟨_, ⟨L3, rfl, hJ3⟩, ?_⟩
      have h1 := H3.perm (List.perm_middle (a := blk g (.cells #[.int .i64 x.at_, .int .i64 x.free] 34)) (l₁ := L3 ++ [blk B (.cells #[.func (.yield l) #[] #[]] 82)]) (l₂ := blk lp (.loop r) :: R) |> fun h => (by simpa using h))
      simpa using h1.tail
    · clear hy hR cB cg0 cg1
      gi_wp2
      refine ⟨_, ⟨rfl, L3, rfl, hJx⟩, ?_⟩
      have h1 := H3.perm (List.perm_middle (a := blk g (.cells #[.int .i64 x.at_, .int .i64 x.free] 34)) (l₁ := L3 ++ [blk B (.cells #[.func (.yield l) #[] #[]] 82)]) (l₂ := blk lp (.loop r) :: R) |> fun h => (by simpa using h))
      simpa using h1.tail
  case done =>
    rintro D W L' ⟨L1, rfl, hJ⟩ HW
    obtain ⟨ht, HZ⟩ := HL.takes (P := Try.prog) HW
    have Ht := Lib.hid ht; clear ht hY hKp
    go_wp2
    exact bodyPostM_end rfl Ht.out (results_none rfl _ _ _) ⟨⟨_, rfl⟩, L1, HZ.left, .inl hJ⟩
  case stop =>
    rintro D c W L' ⟨rfl, L1, rfl, hJx⟩ HW
    obtain ⟨ht, HZ⟩ := HL.takes (P := Try.prog) HW
    have Ht := Lib.hid ht; clear ht hY hKp
    go_wp2
    exact bodyPostM_one rfl Ht.out (results_none rfl _ _ _) ⟨⟨_, rfl⟩, L1, HZ.left, .inr hJx⟩

/-- A sequence of steps that may be gone through, as often as one likes, while what Kp tells of lies there. -/
def SeqOf (w0 : World) (fv : Value) (xs : List Sp) (Kp : World → Prop) : Prop :=
  ∃ gf lb, fv = .func (.func gf) #[] lb ∧ (∀ args w, (callFunc gf args).run Try.prog w = .ok (.enter gf args) w) ∧ IterK Try.prog w0 gf lb encIt xs [] Kp

set_option maxRecDepth 100000 in
set_option maxHeartbeats 800000 in
theorem emptyIter (w0 : World) : IterK Try.prog w0 41 #[] encIt [] [] (fun _ => True) := by
  rintro l J Jx w L H h0 hKp hY
  rw [List.append_nil] at H
  clear hY hKp
  refine callsIn_wide.2 ?_
  go_enter Try.func41, Try.ntmps41
  go_wp2
  go_end0
  exact ⟨⟨_, rfl⟩, L, H, .inl h0⟩

set_option maxRecDepth 100000 in
set_option maxHeartbeats 2000000 in
theorem all_ok {l : List Rn} (H : HL w0 w L) (hr : Runs w0 L v l) (hl : l.length ≤ 8796093022208) (now free : Int) :
    Calls Try.prog 22 #[.int .i64 now, .int .i64 free, v] w fun e w' => ∃ fv K Kp, e = .returned fv ∧ SeqOf w0 fv (stepsAll now free l) Kp ∧ Ent w0 K Kp ∧ HL w0 w' (K ++ L) := by
  obtain ⟨A0, c0, rfl, -, -⟩ := rd_shape (hr w H)
  have H1 := (H.alloc (.cells #[.int .i64 now] 3)).alloc (.cells #[.int .i64 free] 3)
  rw [World.size_alloc] at H1
  have hright := right_ok H1 ((hr.cons _).cons _) free
  by_cases hf : rightB free l = true
  · rw [hf] at hright
    have hst : stepsAll now free l = stepsS now free l := by unfold stepsAll; rw [if_pos hf]
    rw [hst]
    have Hf := Lib.hid hf
    clear hst hf
    go_enter Try.func22, Try.ntmps22
    go_wp2_with (first
      | (go_at_call 40; refine hright.mono ?_; rintro e w2 ⟨rfl, H2⟩; clear hright H1)
      | (go_at_call 42; refine (cloneRuns_ok H2 ((hr.cons _).cons _) hl).mono ?_; rintro e w3 ⟨u, rfl, H3⟩; clear H2; obtain ⟨A, c, rfl, -, -, -⟩ := row_shape H3.head; have H4 := (H3.alloc (.cells #[.slice A l.length c] 22)).swap; clear H3)
      | (go_at_call 43; refine (sort_ok l (by omega) H4).mono ?_; rintro e w5 ⟨ts, rfl, hp, hS, H5⟩; clear H4; have HP := Lib.hid hp; clear hp))
    go_ret
    have hlen : ts.length = l.length := HP.out.length_eq
    rw [← hlen] at H5 ⊢
    refine ⟨_, [_, _, _, _], keepS w.heap.size (w.heap.size + 1) w3.heap.size (.slice A ts.length c) now free ts, rfl, ⟨_, _, rfl, enters_of Try.func46 (by kernel_rfl) rfl, ?_⟩, ?_, H5⟩
    · rw [← stepsS_perm HP.out]
      exact allIter hS (by rw [rightB_perm HP.out]; exact Hf.out) (by omega) w.heap.size (w.heap.size + 1) w3.heap.size A c
    · intro W hW
      refine ⟨?_, ?_, ?_, rd_row hW.head⟩
      · rw [hW.cellOf (b := w.heap.size) (vs := #[.int .i64 now]) (E := 3) (fz := (0, 0)) (by simp) 0]; rfl
      · rw [hW.cellOf (b := w.heap.size + 1) (vs := #[.int .i64 free]) (E := 3) (fz := (0, 0)) (by simp) 0]; rfl
      · rw [hW.cellOf (b := w3.heap.size) (vs := #[.slice A ts.length c]) (E := 22) (fz := (0, 0)) (by simp) 0]; rfl
  · have hff : rightB free l = false := by simpa using hf
    rw [hff] at hright
    have hst : stepsAll now free l = [] := by unfold stepsAll; rw [if_neg hf]
    rw [hst]
    clear hst hf hff
    go_enter Try.func22, Try.ntmps22
    go_wp2_with (go_at_call 40; refine hright.mono ?_; rintro e w2 ⟨rfl, H2⟩; clear hright H1)
    go_ret
    exact ⟨_, [], fun _ => True, rfl, ⟨_, _, rfl, enters_of Try.func41 (by kernel_rfl) rfl, emptyIter w0⟩, fun _ _ => trivial, H2.tail.tail⟩
end
end Go.Proofs.Ytebibcaahjmjfaa

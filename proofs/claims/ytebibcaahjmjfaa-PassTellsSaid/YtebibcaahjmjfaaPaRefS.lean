/- How the reference starts a want. -/
import Derived.Test.YtebibcaahjmjfaaPaRefR
import Derived.Deep.RegionHeld3
set_option linter.unusedVariables false
set_option linter.unusedSimpArgs false
namespace Go.Proofs.Ytebibcaahjmjfaa
open Go.RowKit Go.Proofs.HL Go.Proofs.HL.Pr Go.Proofs.HL.Pa
section
variable {w0 w : World} {L K : List At} {p i : Nat} {n0 fr : Int} {vl vr us : Value} {left : List Wn} {runs : List Rn} {starts : List Int} {x : Wn}
theorem rd_blk2 {b : Nat} {u v : Value} {E : TypeId} {fz : Nat × Nat} (H : HL w0 w (blk b (.cells #[u, v] E fz) :: L)) : Rd 2 (.slice (some ⟨b, 0, none⟩) 1 1) 1 [u, v] w := by
  refine ⟨rfl, by decide, some ⟨b, 0, none⟩, 1, rfl, Nat.le_refl _, by decide, (fun e => nomatch e), fun ad hd j z hz => ?_⟩
  cases hd
  rw [add_zero_block, H.cell j]
  simpa using hz
set_option maxRecDepth 100000 in
set_option maxHeartbeats 16000000 in
theorem start15_ok (H : HL w0 w (rr p n0 fr vl vr us :: intsR w0.heap.size us starts :: K)) (EW : Wants w0 K vl left) (ER : Runs w0 K vr runs) (hx : left[i]? = some x)
    (hS : starts.length ≤ 8796093022000) (hl : left.length ≤ 5864062014805) (hr : runs.length < 8796093022208) (hf : -9007199254740992 ≤ fr - x.nodes ∧ fr - x.nodes ≤ 9007199254740992) (hn : -9007199254740992 ≤ n0 + x.limit ∧ n0 + x.limit ≤ 9007199254740992) :
    Calls Try.prog 51 #[.pointer (some ⟨p, 0, none⟩), .int .i64 i] w fun e w' => ∃ vl' vr' us' K', e = .returned (.tuple #[]) ∧
      HL w0 w' (rr p n0 (fr - x.nodes) vl' vr' us' :: intsR w0.heap.size us' (starts ++ [x.job]) :: K') ∧ Wants w0 K' vl' (left.eraseIdx i) ∧ Runs w0 K' vr' (runs ++ [⟨x.nodes, n0 + x.limit⟩]) ∧ ∃ X, K' = X ++ K := by
  obtain ⟨A, c, rfl, -, hc1, hc2⟩ := row_shape (show w.ownsRow w0.heap.size 3 1 us starts.length (starts.map fun j => .int .i64 j) from H.tail.head)
  obtain ⟨B, d, rfl, hd1, hd2⟩ := rd_shape (EW w H.tail.tail)
  obtain ⟨C, e, rfl, he1, he2⟩ := rd_shape (ER w H.tail.tail)
  obtain ⟨bl, ol, cl, hv, d0, d1, d2⟩ := wn_at (EW w H.tail.tail) hx
  simp only [Value.slice.injEq] at hv
  obtain ⟨rfl, -, rfl⟩ := hv
  unfold maxLen at hc2 hd2 he2
  have hil := (List.getElem?_eq_some_iff.1 hx).1
  have Hx := Lib.hid hx; clear hx
  have c2 : w.cell? ⟨p, 2, none⟩ = some (.slice (some ⟨bl, ol, none⟩) left.length d) := rr_cell H (List.mem_cons_self ..) 2
  have H1 := HL.allocW H x
  go_enter Try.func51, Try.ntmps51
  go_wp2
  clear d0 d1 d2 c2
  generalize hb3 : w.heap.size = b3 at H1 ⊢
  generalize w.alloc _ = W at *
  have HD := H1.drew
  have H2 : HL w0 W.drew (intsR w0.heap.size (.slice A starts.length c) starts :: rr p n0 fr (.slice (some ⟨bl, ol, none⟩) left.length d) (.slice C runs.length e) (.slice A starts.length c) :: boxW b3 x :: K) := HD.sel 3 [2, 1, 0]
  have k0 : W.drew.cell? ⟨p, 4, none⟩ = some (.slice A starts.length c) := rr_cell H2 (List.mem_cons_of_mem _ (List.mem_cons_self ..)) 4
  have k1 : W.drew.cell? ⟨b3, 0, none⟩ = some (.int .i64 x.job) := (boxW_cells (H2.sel 3 [2])).1
  have H3 := H2.alloc' (.cells #[.int .i64 x.job] 3)
  have HB := H1.alloc' (.cells #[.int .i64 x.job] 3)
  have j0 : (W.alloc (.cells #[.int .i64 x.job] 3)).cell? ⟨p, 4, none⟩ = some (.slice A starts.length c) := rr_cell HB (List.mem_cons_of_mem _ (List.mem_cons_self ..)) 4
  have j1 : (W.alloc (.cells #[.int .i64 x.job] 3)).cell? ⟨b3, 0, none⟩ = some (.int .i64 x.job) := (boxW_cells HB).1
  go_cut [21] (fun s21 wc => ∃ (A4 : Option Addr) (c4 : Nat), HL w0 wc (rr p n0 fr (.slice (some ⟨bl, ol, none⟩) left.length d) (.slice C runs.length e) (.slice A4 (starts.length + 1) c4) :: intsR w0.heap.size (.slice A4 (starts.length + 1) c4) (starts ++ [x.job]) :: boxW b3 x :: K))
  case first =>
   go_region_law
    ((refine step_append_hl (ys := #[]) sliceI rfl _ _ rfl (v := .slice A starts.length c) (xv := .slice (some ⟨W.heap.size, 0, none⟩) 1 1) (n := starts.length) (m := 1) (xs := starts.map fun j => .int .i64 j) (news := [.int .i64 x.job]) H3 rfl rfl (rd_one rfl) (by simp [Value.oneCell']) (by unfold maxLen; omega) (by omega) ?_; intro v4 w4 H4; obtain ⟨A4, c4, rfl, -, -, -⟩ := row_shape H4.head;
      have k6 : w4.cell? ⟨p, 4, none⟩ = some (.slice A starts.length c) := rr_cell H4 (List.mem_cons_of_mem _ (List.mem_cons_self ..)) 4;
      have k3 : w4.frozen? ⟨p, 4, none⟩ = false := rr_frozen H4 (List.mem_cons_of_mem _ (List.mem_cons_self ..)) 4))
   all_goals
    go_wp2
    go_meet
    case rel =>
     have HS := HL.setAt [_] (h := H4) 4 (.slice A4 (starts.length + 1) c4)
     have HX := HS.sel 2 [1, 0]
     refine ⟨A4, c4, ?_⟩
     unfold intsR
     rw [List.length_append, List.map_append]
     exact HX
  case rest =>
    obtain ⟨A4, c4, H4⟩ := hcut
    clear H H1 HD H2 H3 HB k0 k1 j0 j1
    generalize hus : Value.slice A4 (starts.length + 1) c4 = us4 at *
    have k0 : wc.cell? ⟨p, 1, none⟩ = some (.int .i64 fr) := rr_cell H4 (List.mem_cons_self ..) 1
    have k1 : wc.cell? ⟨b3, 1, none⟩ = some (.int .i64 x.nodes) := (boxW_cells (H4.sel 3 [2])).2.1
    go_wp2
    refine wp_region_cut 8 (by kernel_rfl) (by kernel_rfl) ?_
    simp only [List.take_succ_cons, List.take_zero, List.drop_succ_cons, List.drop_zero]
    repeat (go_big_quiet_step ((fail)))
    refine wpQuiet_nil ?_
    intro nr
    have H8 := H4.drewN nr
    have k2 : (wc.drewN nr).cell? ⟨p, 1, none⟩ = some (.int .i64 fr) := rr_cell H8 (List.mem_cons_self ..) 1
    have k3 : (wc.drewN nr).frozen? ⟨p, 1, none⟩ = false := rr_frozen H8 (List.mem_cons_self ..) 1
    have H9 := HL.setCell H8 1 (.int .i64 (fr - x.nodes))
    clear H4 k0 k1
    go_wp2
    clear k2 k3
    have H10 : HL w0 ((wc.drewN nr).setCell ⟨p, 1, none⟩ (.int .i64 (fr - x.nodes))) (rr p n0 (fr - x.nodes) (.slice (some ⟨bl, ol, none⟩) left.length d) (.slice C runs.length e) us4 :: intsR w0.heap.size us4 (starts ++ [x.job]) :: boxW b3 x :: K) := H9
    clear H8 H9
    generalize World.setCell _ _ _ = W5 at *
    have Sf : ∀ (w' : World) (vr' : Value) (L' : List At), HL w0 w' (rr p n0 (fr - x.nodes) (.slice (some ⟨bl, ol, none⟩) left.length d) vr' us4 :: intsR w0.heap.size us4 (starts ++ [x.job]) :: boxW b3 x :: L') → w'.cell? ⟨b3, 1, none⟩ = some (.int .i64 x.nodes) ∧ w'.cell? ⟨b3, 2, none⟩ = some (.int .i64 x.limit) ∧ w'.cell? ⟨p, 0, none⟩ = some (.int .i64 n0) := fun w' vr' L' H => ⟨(boxW_cells (H.sel 3 [2])).2.1, (boxW_cells (H.sel 3 [2])).2.2, rr_cell H (List.mem_cons_self ..) 0⟩
    have Cf : ∀ (w' : World) (L' : List At), HL w0 w' (rr p n0 (fr - x.nodes) (.slice (some ⟨bl, ol, none⟩) left.length d) (.slice C runs.length e) us4 :: intsR w0.heap.size us4 (starts ++ [x.job]) :: boxW b3 x :: L') → w'.cell? ⟨p, 3, none⟩ = some (.slice C runs.length e) := fun w' L' H => rr_cell H (List.mem_cons_self ..) 3
    have Rf : ∀ (w' : World), HL w0 w' K → Rd 2 (.slice C runs.length e) runs.length (runs.flatMap encR) w' := fun w' H => ER w' H
    have hw : IntKind.i64.wrap (n0 + x.limit) = n0 + x.limit := IntWalk.i64_in _ (by omega)
    have D0 := H10.drew
    have De := (emptyRuns H10).drew
    have Dr := (H10.alloc (.cells #[.int .i64 x.nodes, .int .i64 (n0 + x.limit)] 42)).drew
    have Der : HL w0 ((W5.alloc (.cells #[] 42)).alloc (.cells #[.int .i64 x.nodes, .int .i64 (n0 + x.limit)] 42)).drew (runsAt w0.heap.size (.slice (some ⟨W5.heap.size, 0, none⟩) 0 0) [] :: blk (W5.heap.size + 1) (.cells #[.int .i64 x.nodes, .int .i64 (n0 + x.limit)] 42) :: _) := (by have h := (((emptyRuns H10).alloc (.cells #[.int .i64 x.nodes, .int .i64 (n0 + x.limit)] 42)).drew).sel 2 [1, 0]; rw [World.size_alloc] at h; exact h)
    have Dre : HL w0 ((W5.alloc (.cells #[.int .i64 x.nodes, .int .i64 (n0 + x.limit)] 42)).alloc (.cells #[] 42)).drew (runsAt w0.heap.size (.slice (some ⟨W5.heap.size + 1, 0, none⟩) 0 0) [] :: blk W5.heap.size (.cells #[.int .i64 x.nodes, .int .i64 (n0 + x.limit)] 42) :: _) := (by have h := (emptyRuns (H10.alloc (.cells #[.int .i64 x.nodes, .int .i64 (n0 + x.limit)] 42))).drew; rw [World.size_alloc] at h; exact h)
    have S0 := Sf _ _ _ D0
    have Se := Sf _ _ _ De.tail
    have Sr := Sf _ _ _ Dr.tail
    have Ser := Sf _ _ _ Der.tail.tail
    have Sre := Sf _ _ _ Dre.tail.tail
    have c_0 := Cf _ _ D0
    have c_e := Cf _ _ De.tail
    have c_r := Cf _ _ Dr.tail
    have c_er := Cf _ _ Der.tail.tail
    have c_re := Cf _ _ Dre.tail.tail
    have r_e := Rf _ (De.sel 4 [])
    have r_er := Rf _ (Der.sel 5 [])
    have r_re := Rf _ (Dre.sel 5 [])
    have SF := Lib.hid Sf
    clear Sf Cf Rf
    go_cut [52] (fun s52 wd => ∃ (A7 : Option Addr) (c7 : Nat), HL w0 wd (rr p n0 (fr - x.nodes) (.slice (some ⟨bl, ol, none⟩) left.length d) (.slice A7 (runs.length + 1) c7) us4 :: intsR w0.heap.size us4 (starts ++ [x.job]) :: boxW b3 x :: runsAt w0.heap.size (.slice A7 (runs.length + 1) c7) (runs ++ [⟨x.nodes, n0 + x.limit⟩]) :: K))
    case first =>
     refine wp_region_held_drew (S := fun w' => w'.cell? ⟨b3, 1, none⟩ = some (.int .i64 x.nodes) ∧ w'.cell? ⟨b3, 2, none⟩ = some (.int .i64 x.limit) ∧ w'.cell? ⟨p, 0, none⟩ = some (.int .i64 n0)) (by kernel_rfl) S0 (fun hHeld => ?_)
     refine wpAnyH_take (i := 0) (v := ?_) rfl (by kernel_rfl) (by kernel_rfl) (by kernel_rfl) (fun _ _ _ h => h) (Or.inl ⟨by rfl, ?_⟩) (by assumption) ?_
     rotate_left
     · (intro w hSw; (try dsimp only at hSw); go_simp; try with_reducible rfl)
     try simp only [Act.put, List.setIfInBounds_toArray, List.set_cons_zero, List.set_cons_succ]
     refine wpAnyH_take (i := 2) (v := ?_) rfl (by kernel_rfl) (by kernel_rfl) (by kernel_rfl) (fun _ _ _ h => h) (Or.inl ⟨by rfl, ?_⟩) (by assumption) ?_
     rotate_left
     · (intro w hSw; (try dsimp only at hSw); go_simp; try with_reducible rfl)
     try simp only [Act.put, List.setIfInBounds_toArray, List.set_cons_zero, List.set_cons_succ]
     refine wpAnyH_take (i := 3) (v := ?_) rfl (by kernel_rfl) (by kernel_rfl) (by kernel_rfl) (fun _ _ _ h => h) (Or.inl ⟨by rfl, ?_⟩) (by assumption) ?_
     rotate_left
     · (intro w hSw; (try dsimp only at hSw); go_simp; try with_reducible rfl)
     try simp only [Act.put, List.setIfInBounds_toArray, List.set_cons_zero, List.set_cons_succ]
     refine wpAnyH_take (i := 4) (v := ?_) rfl (by kernel_rfl) (by kernel_rfl) (by kernel_rfl) (fun _ _ _ h => h) (Or.inl ⟨by rfl, ?_⟩) (by assumption) ?_
     rotate_left
     · (intro w hSw; (try dsimp only at hSw); go_simp; try with_reducible rfl)
     try simp only [Act.put, List.setIfInBounds_toArray, List.set_cons_zero, List.set_cons_succ]
     refine wpAnyH_take (i := 7) (v := ?_) rfl (by kernel_rfl) (by kernel_rfl) (by kernel_rfl) (fun _ _ _ h => h) (Or.inl ⟨by rfl, ?_⟩) (by assumption) ?_
     rotate_left
     · (intro w hSw; (try dsimp only at hSw); go_simp; try with_reducible rfl)
     try simp only [Act.put, List.setIfInBounds_toArray, List.set_cons_zero, List.set_cons_succ]
     refine wpAnyH_take (i := 8) (v := ?_) rfl (by kernel_rfl) (by kernel_rfl) (by kernel_rfl) (fun _ _ _ h => h) (Or.inl ⟨by rfl, ?_⟩) (by assumption) ?_
     rotate_left
     · (intro w hSw; (try dsimp only at hSw); go_simp; try with_reducible rfl)
     try simp only [Act.put, List.setIfInBounds_toArray, List.set_cons_zero, List.set_cons_succ]
     refine wpAnyH_take (i := 9) (v := ?_) rfl (by kernel_rfl) (by kernel_rfl) (by kernel_rfl) (fun _ _ _ h => h) (Or.inl ⟨by rfl, ?_⟩) (by assumption) ?_
     rotate_left
     · (intro w hSw; (try dsimp only at hSw); go_simp; try with_reducible rfl)
     try simp only [Act.put, List.setIfInBounds_toArray, List.set_cons_zero, List.set_cons_succ]
     refine wpAnyH_take (i := 10) (v := ?_) rfl (by kernel_rfl) (by kernel_rfl) (by kernel_rfl) (fun _ _ _ h => h) (Or.inl ⟨by rfl, ?_⟩) (by assumption) ?_
     rotate_left
     · (intro w hSw; (try dsimp only at hSw); go_simp; try with_reducible rfl)
     try simp only [Act.put, List.setIfInBounds_toArray, List.set_cons_zero, List.set_cons_succ]
     refine wpAnyH_take (i := 11) (v := ?_) rfl (by kernel_rfl) (by kernel_rfl) (by kernel_rfl) (fun _ _ _ h => h) (Or.inl ⟨by rfl, ?_⟩) (by assumption) ?_
     rotate_left
     · (intro w hSw; (try dsimp only at hSw); go_simp; try with_reducible rfl)
     try simp only [Act.put, List.setIfInBounds_toArray, List.set_cons_zero, List.set_cons_succ]
     refine wpAnyH_take (i := 12) (v := ?_) rfl (by kernel_rfl) (by kernel_rfl) (by kernel_rfl) (fun _ _ _ h => h) (Or.inl ⟨by rfl, ?_⟩) (by assumption) ?_
     rotate_left
     · (intro w hSw; (try dsimp only at hSw); go_simp; try with_reducible rfl)
     try simp only [Act.put, List.setIfInBounds_toArray, List.set_cons_zero, List.set_cons_succ]
     refine wpAnyH_take (i := 13) (v := ?_) rfl (by kernel_rfl) (by kernel_rfl) (by kernel_rfl) (fun _ _ _ h => h) (Or.inl ⟨by rfl, ?_⟩) (by assumption) ?_
     rotate_left
     · (intro w hSw; (try dsimp only at hSw); go_simp; try with_reducible rfl)
     try simp only [Act.put, List.setIfInBounds_toArray, List.set_cons_zero, List.set_cons_succ]
     refine wpAnyH_take (i := 14) (v := ?_) rfl (by kernel_rfl) (by kernel_rfl) (by kernel_rfl) (fun _ _ _ h => h) (Or.inl ⟨by rfl, ?_⟩) (by assumption) ?_
     rotate_left
     · (intro w hSw; (try dsimp only at hSw); go_simp; try with_reducible rfl)
     try simp only [Act.put, List.setIfInBounds_toArray, List.set_cons_zero, List.set_cons_succ]
     refine wpAnyH_take (i := 15) (v := ?_) rfl (by kernel_rfl) (by kernel_rfl) (by kernel_rfl) (fun _ _ _ h => h) (Or.inl ⟨by rfl, ?_⟩) (by assumption) ?_
     rotate_left
     · (intro w hSw; (try dsimp only at hSw); go_simp; try with_reducible rfl)
     try simp only [Act.put, List.setIfInBounds_toArray, List.set_cons_zero, List.set_cons_succ]
     refine wpAnyH_take (i := 16) (v := ?_) rfl (by kernel_rfl) (by kernel_rfl) (by kernel_rfl) (fun _ _ _ h => h) (Or.inl ⟨by rfl, ?_⟩) (by assumption) ?_
     rotate_left
     · (intro w hSw; (try dsimp only at hSw); go_simp; try with_reducible rfl)
     try simp only [Act.put, List.setIfInBounds_toArray, List.set_cons_zero, List.set_cons_succ]
     refine wpAnyH_ready (rs := [1, 5, 17]) (by kernel_rfl) (by simp) ?_
     refine AllReadyH.cons rfl (fun K' hK' => ?_) ?_
     · dsimp only [List.getElem_toArray, List.getElem_cons_succ, List.getElem_cons_zero]
       go_simp
       refine hK'.out _ _ ?_ (fun hHeld => ?_)
       · (try dsimp only); first | assumption | (exact S6) | (exact S67) | (exact S7) | (exact S8) | go_keep
       clear hK' K'
       try simp only [Act.put, List.setIfInBounds_toArray, List.set_cons_zero, List.set_cons_succ]
       refine wpAnyH_ready (rs := [5, 17]) (by kernel_rfl) (by simp) ?_
       refine AllReadyH.cons rfl (fun K' hK' => ?_) ?_
       · dsimp only [List.getElem_toArray, List.getElem_cons_succ, List.getElem_cons_zero]
         go_simp
         refine hK'.out _ _ ?_ (fun hHeld => ?_)
         · (try dsimp only); first | assumption | (exact S6) | (exact S67) | (exact S7) | (exact S8) | go_keep
         clear hK' K'
         try simp only [Act.put, List.setIfInBounds_toArray, List.set_cons_zero, List.set_cons_succ]
         refine wpAnyH_ready (rs := [6, 17]) (by kernel_rfl) (by simp) ?_
         refine AllReadyH.cons rfl (fun K' hK' => ?_) ?_
         · skip
           first
             | (refine step_append_hl (ys := #[]) sliceRun rfl _ _ rfl (v := .slice (some ⟨W5.heap.size, 0, none⟩) 0 0) (xv := (.slice C runs.length e)) (n := 0) (m := runs.length) (xs := []) (news := runs.flatMap encR) De rfl rfl r_e (one_encR _) (by unfold maxLen; omega) (by omega) ?_; intro z6 w6 H6; clear De Der Dre D0 Dr c_0 c_e c_r c_er c_re r_e r_er r_re; rw [Nat.zero_add, List.nil_append] at H6; obtain ⟨A6, c6, rfl, -, -, -⟩ := row_shape H6.head; have S6 := SF.out _ _ _ H6.tail; have HA := H6.alloc' (.cells #[.int .i64 x.nodes, .int .i64 (n0 + x.limit)] 42); have S67 := SF.out _ _ _ HA.tail; have hrA : Rd 2 (.slice (some ⟨w6.heap.size, 0, none⟩) 1 1) 1 [.int .i64 x.nodes, .int .i64 (n0 + x.limit)] (w6.alloc (.cells #[.int .i64 x.nodes, .int .i64 (n0 + x.limit)] 42)) := rd_new (cs := [.int .i64 x.nodes, .int .i64 (n0 + x.limit)]) rfl rfl (by decide))
             | (refine step_append_hl (ys := #[]) sliceRun rfl _ _ rfl (v := .slice (some ⟨W5.heap.size, 0, none⟩) 0 0) (xv := (.slice C runs.length e)) (n := 0) (m := runs.length) (xs := []) (news := runs.flatMap encR) Der rfl rfl r_er (one_encR _) (by unfold maxLen; omega) (by omega) ?_; intro z6 w6 H6; clear De Der Dre D0 Dr c_0 c_e c_r c_er c_re r_e r_er r_re; rw [Nat.zero_add, List.nil_append] at H6; obtain ⟨A6, c6, rfl, -, -, -⟩ := row_shape H6.head; have hrA := rd_blk2 (H6.sel 2 [1]); have HA := H6.sel 2 [0]; have S6 := SF.out _ _ _ HA.tail; have S67 := S6)
             | (refine step_append_hl (ys := #[]) sliceRun rfl _ _ rfl (v := .slice (some ⟨W5.heap.size + 1, 0, none⟩) 0 0) (xv := (.slice C runs.length e)) (n := 0) (m := runs.length) (xs := []) (news := runs.flatMap encR) Dre rfl rfl r_re (one_encR _) (by unfold maxLen; omega) (by omega) ?_; intro z6 w6 H6; clear De Der Dre D0 Dr c_0 c_e c_r c_er c_re r_e r_er r_re; rw [Nat.zero_add, List.nil_append] at H6; obtain ⟨A6, c6, rfl, -, -, -⟩ := row_shape H6.head; have hrA := rd_blk2 (H6.sel 2 [1]); have HA := H6.sel 2 [0]; have S6 := SF.out _ _ _ HA.tail; have S67 := S6)
           refine hK'.out _ _ ?_ (fun hHeld => ?_)
           · (try dsimp only); first | assumption | (exact S6) | (exact S67) | (exact S7) | (exact S8) | go_keep
           clear hK' K'
           try simp only [Act.put, List.setIfInBounds_toArray, List.set_cons_zero, List.set_cons_succ]
           refine wpAnyH_ready (rs := [17]) (by kernel_rfl) (by simp) ?_
           refine AllReadyH.cons rfl (fun K' hK' => ?_) ?_
           · dsimp only [List.getElem_toArray, List.getElem_cons_succ, List.getElem_cons_zero]
             go_simp
             refine hK'.out _ _ ?_ (fun hHeld => ?_)
             · (try dsimp only); first | assumption | (exact S6) | (exact S67) | (exact S7) | (exact S8) | go_keep
             clear hK' K'
             try simp only [Act.put, List.setIfInBounds_toArray, List.set_cons_zero, List.set_cons_succ]
             refine wpAnyH_ready (rs := [18]) (by kernel_rfl) (by simp) ?_
             refine AllReadyH.cons rfl (fun K' hK' => ?_) ?_
             · skip
               first
                 | (refine step_append_hl (ys := #[]) sliceRun rfl _ _ rfl (v := .slice A6 runs.length c6) (xv := .slice (some ⟨w6.heap.size, 0, none⟩) 1 1) (n := runs.length) (m := 1) (xs := runs.flatMap encR) (news := [.int .i64 x.nodes, .int .i64 (n0 + x.limit)]) HA rfl rfl hrA (by simp [Value.oneCell']) (by unfold maxLen; omega) (by omega) ?_; intro z7 w7 H7; clear HA hrA; obtain ⟨A7, c7, rfl, -, -, -⟩ := row_shape H7.head; have S7 := SF.out _ _ _ H7.tail; have g3 : w7.cell? ⟨p, 3, none⟩ = some (.slice C runs.length e) := rr_cell H7.tail (List.mem_cons_self ..) 3; have z3 : w7.frozen? ⟨p, 3, none⟩ = false := rr_frozen H7.tail (List.mem_cons_self ..) 3; have H8 := HL.setAt [_] (h := H7) 3 (.slice A7 (runs.length + 1) c7); have S8 := SF.out _ (.slice A7 (runs.length + 1) c7) _ (HL.tail H8))
                 | (refine step_append_hl (ys := #[]) sliceRun rfl _ _ rfl (v := .slice A6 runs.length c6) (xv := .slice (some ⟨W5.heap.size + 1, 0, none⟩) 1 1) (n := runs.length) (m := 1) (xs := runs.flatMap encR) (news := [.int .i64 x.nodes, .int .i64 (n0 + x.limit)]) HA rfl rfl hrA (by simp [Value.oneCell']) (by unfold maxLen; omega) (by omega) ?_; intro z7 w7 H7; clear HA hrA; obtain ⟨A7, c7, rfl, -, -, -⟩ := row_shape H7.head; have S7 := SF.out _ _ _ H7.tail; have g3 : w7.cell? ⟨p, 3, none⟩ = some (.slice C runs.length e) := rr_cell H7.tail (List.mem_cons_self ..) 3; have z3 : w7.frozen? ⟨p, 3, none⟩ = false := rr_frozen H7.tail (List.mem_cons_self ..) 3; have H8 := HL.setAt [_] (h := H7) 3 (.slice A7 (runs.length + 1) c7); have S8 := SF.out _ (.slice A7 (runs.length + 1) c7) _ (HL.tail H8))
                 | (refine step_append_hl (ys := #[]) sliceRun rfl _ _ rfl (v := .slice A6 runs.length c6) (xv := .slice (some ⟨W5.heap.size, 0, none⟩) 1 1) (n := runs.length) (m := 1) (xs := runs.flatMap encR) (news := [.int .i64 x.nodes, .int .i64 (n0 + x.limit)]) HA rfl rfl hrA (by simp [Value.oneCell']) (by unfold maxLen; omega) (by omega) ?_; intro z7 w7 H7; clear HA hrA; obtain ⟨A7, c7, rfl, -, -, -⟩ := row_shape H7.head; have S7 := SF.out _ _ _ H7.tail; have g3 : w7.cell? ⟨p, 3, none⟩ = some (.slice C runs.length e) := rr_cell H7.tail (List.mem_cons_self ..) 3; have z3 : w7.frozen? ⟨p, 3, none⟩ = false := rr_frozen H7.tail (List.mem_cons_self ..) 3; have H8 := HL.setAt [_] (h := H7) 3 (.slice A7 (runs.length + 1) c7); have S8 := SF.out _ (.slice A7 (runs.length + 1) c7) _ (HL.tail H8))
               refine hK'.out _ _ ?_ (fun hHeld => ?_)
               · (try dsimp only); first | assumption | (exact S6) | (exact S67) | (exact S7) | (exact S8) | go_keep
               clear hK' K'
               try simp only [Act.put, List.setIfInBounds_toArray, List.set_cons_zero, List.set_cons_succ]
               refine wpAnyH_take (i := 19) (v := ?_) rfl (by kernel_rfl) (by kernel_rfl) (by kernel_rfl) (fun _ _ _ h => h) (Or.inl ⟨by rfl, ?_⟩) (by assumption) ?_
               rotate_left
               · (intro w hSw; (try dsimp only at hSw); go_simp; try with_reducible rfl)
               try simp only [Act.put, List.setIfInBounds_toArray, List.set_cons_zero, List.set_cons_succ]
               refine wpAnyH_take (i := 20) (v := ?_) rfl (by kernel_rfl) (by kernel_rfl) (by kernel_rfl) (fun _ _ _ h => h) (Or.inl ⟨by rfl, ?_⟩) (by assumption) ?_
               rotate_left
               · (intro w hSw; (try dsimp only at hSw); go_simp; try with_reducible rfl)
               try simp only [Act.put, List.setIfInBounds_toArray, List.set_cons_zero, List.set_cons_succ]
               refine wpAnyH_ready (rs := [21]) (by kernel_rfl) (by simp) ?_
               refine AllReadyH.cons rfl (fun K' hK' => ?_) ?_
               · dsimp only [List.getElem_toArray, List.getElem_cons_succ, List.getElem_cons_zero]
                 go_simp
                 refine hK'.out _ _ ?_ (fun hHeld => ?_)
                 · (try dsimp only); first | assumption | (exact S6) | (exact S67) | (exact S7) | (exact S8) | go_keep
                 clear hK' K'
                 try simp only [Act.put, List.setIfInBounds_toArray, List.set_cons_zero, List.set_cons_succ]
                 refine wpAnyH_done (by kernel_rfl) ?_ _
                 go_wp2
                 go_meet
                 case rel =>
                   have HX := H8.sel 4 [1, 2, 3, 0]
                   refine ⟨A7, c7, ?_⟩
                   unfold runsAt
                   rw [List.length_append, List.flatMap_append]
                   exact HX
               exact AllReadyH.nil
             exact AllReadyH.nil
           exact AllReadyH.nil
         refine AllReadyH.cons rfl (fun K' hK' => ?_) ?_
         · dsimp only [List.getElem_toArray, List.getElem_cons_succ, List.getElem_cons_zero]
           go_simp
           refine hK'.out _ _ ?_ (fun hHeld => ?_)
           · (try dsimp only); first | assumption | (exact S6) | (exact S67) | (exact S7) | (exact S8) | go_keep
           clear hK' K'
           try simp only [Act.put, List.setIfInBounds_toArray, List.set_cons_zero, List.set_cons_succ]
           refine wpAnyH_ready (rs := [6]) (by kernel_rfl) (by simp) ?_
           refine AllReadyH.cons rfl (fun K' hK' => ?_) ?_
           · skip
             first
               | (refine step_append_hl (ys := #[]) sliceRun rfl _ _ rfl (v := .slice (some ⟨W5.heap.size, 0, none⟩) 0 0) (xv := (.slice C runs.length e)) (n := 0) (m := runs.length) (xs := []) (news := runs.flatMap encR) De rfl rfl r_e (one_encR _) (by unfold maxLen; omega) (by omega) ?_; intro z6 w6 H6; clear De Der Dre D0 Dr c_0 c_e c_r c_er c_re r_e r_er r_re; rw [Nat.zero_add, List.nil_append] at H6; obtain ⟨A6, c6, rfl, -, -, -⟩ := row_shape H6.head; have S6 := SF.out _ _ _ H6.tail; have HA := H6.alloc' (.cells #[.int .i64 x.nodes, .int .i64 (n0 + x.limit)] 42); have S67 := SF.out _ _ _ HA.tail; have hrA : Rd 2 (.slice (some ⟨w6.heap.size, 0, none⟩) 1 1) 1 [.int .i64 x.nodes, .int .i64 (n0 + x.limit)] (w6.alloc (.cells #[.int .i64 x.nodes, .int .i64 (n0 + x.limit)] 42)) := rd_new (cs := [.int .i64 x.nodes, .int .i64 (n0 + x.limit)]) rfl rfl (by decide))
               | (refine step_append_hl (ys := #[]) sliceRun rfl _ _ rfl (v := .slice (some ⟨W5.heap.size, 0, none⟩) 0 0) (xv := (.slice C runs.length e)) (n := 0) (m := runs.length) (xs := []) (news := runs.flatMap encR) Der rfl rfl r_er (one_encR _) (by unfold maxLen; omega) (by omega) ?_; intro z6 w6 H6; clear De Der Dre D0 Dr c_0 c_e c_r c_er c_re r_e r_er r_re; rw [Nat.zero_add, List.nil_append] at H6; obtain ⟨A6, c6, rfl, -, -, -⟩ := row_shape H6.head; have hrA := rd_blk2 (H6.sel 2 [1]); have HA := H6.sel 2 [0]; have S6 := SF.out _ _ _ HA.tail; have S67 := S6)
               | (refine step_append_hl (ys := #[]) sliceRun rfl _ _ rfl (v := .slice (some ⟨W5.heap.size + 1, 0, none⟩) 0 0) (xv := (.slice C runs.length e)) (n := 0) (m := runs.length) (xs := []) (news := runs.flatMap encR) Dre rfl rfl r_re (one_encR _) (by unfold maxLen; omega) (by omega) ?_; intro z6 w6 H6; clear De Der Dre D0 Dr c_0 c_e c_r c_er c_re r_e r_er r_re; rw [Nat.zero_add, List.nil_append] at H6; obtain ⟨A6, c6, rfl, -, -, -⟩ := row_shape H6.head; have hrA := rd_blk2 (H6.sel 2 [1]); have HA := H6.sel 2 [0]; have S6 := SF.out _ _ _ HA.tail; have S67 := S6)
             refine hK'.out _ _ ?_ (fun hHeld => ?_)
             · (try dsimp only); first | assumption | (exact S6) | (exact S67) | (exact S7) | (exact S8) | go_keep
             clear hK' K'
             try simp only [Act.put, List.setIfInBounds_toArray, List.set_cons_zero, List.set_cons_succ]
             refine wpAnyH_ready (rs := [18]) (by kernel_rfl) (by simp) ?_
             refine AllReadyH.cons rfl (fun K' hK' => ?_) ?_
             · skip
               first
                 | (refine step_append_hl (ys := #[]) sliceRun rfl _ _ rfl (v := .slice A6 runs.length c6) (xv := .slice (some ⟨w6.heap.size, 0, none⟩) 1 1) (n := runs.length) (m := 1) (xs := runs.flatMap encR) (news := [.int .i64 x.nodes, .int .i64 (n0 + x.limit)]) HA rfl rfl hrA (by simp [Value.oneCell']) (by unfold maxLen; omega) (by omega) ?_; intro z7 w7 H7; clear HA hrA; obtain ⟨A7, c7, rfl, -, -, -⟩ := row_shape H7.head; have S7 := SF.out _ _ _ H7.tail; have g3 : w7.cell? ⟨p, 3, none⟩ = some (.slice C runs.length e) := rr_cell H7.tail (List.mem_cons_self ..) 3; have z3 : w7.frozen? ⟨p, 3, none⟩ = false := rr_frozen H7.tail (List.mem_cons_self ..) 3; have H8 := HL.setAt [_] (h := H7) 3 (.slice A7 (runs.length + 1) c7); have S8 := SF.out _ (.slice A7 (runs.length + 1) c7) _ (HL.tail H8))
                 | (refine step_append_hl (ys := #[]) sliceRun rfl _ _ rfl (v := .slice A6 runs.length c6) (xv := .slice (some ⟨W5.heap.size + 1, 0, none⟩) 1 1) (n := runs.length) (m := 1) (xs := runs.flatMap encR) (news := [.int .i64 x.nodes, .int .i64 (n0 + x.limit)]) HA rfl rfl hrA (by simp [Value.oneCell']) (by unfold maxLen; omega) (by omega) ?_; intro z7 w7 H7; clear HA hrA; obtain ⟨A7, c7, rfl, -, -, -⟩ := row_shape H7.head; have S7 := SF.out _ _ _ H7.tail; have g3 : w7.cell? ⟨p, 3, none⟩ = some (.slice C runs.length e) := rr_cell H7.tail (List.mem_cons_self ..) 3; have z3 : w7.frozen? ⟨p, 3, none⟩ = false := rr_frozen H7.tail (List.mem_cons_self ..) 3; have H8 := HL.setAt [_] (h := H7) 3 (.slice A7 (runs.length + 1) c7); have S8 := SF.out _ (.slice A7 (runs.length + 1) c7) _ (HL.tail H8))
                 | (refine step_append_hl (ys := #[]) sliceRun rfl _ _ rfl (v := .slice A6 runs.length c6) (xv := .slice (some ⟨W5.heap.size, 0, none⟩) 1 1) (n := runs.length) (m := 1) (xs := runs.flatMap encR) (news := [.int .i64 x.nodes, .int .i64 (n0 + x.limit)]) HA rfl rfl hrA (by simp [Value.oneCell']) (by unfold maxLen; omega) (by omega) ?_; intro z7 w7 H7; clear HA hrA; obtain ⟨A7, c7, rfl, -, -, -⟩ := row_shape H7.head; have S7 := SF.out _ _ _ H7.tail; have g3 : w7.cell? ⟨p, 3, none⟩ = some (.slice C runs.length e) := rr_cell H7.tail (List.mem_cons_self ..) 3; have z3 : w7.frozen? ⟨p, 3, none⟩ = false := rr_frozen H7.tail (List.mem_cons_self ..) 3; have H8 := HL.setAt [_] (h := H7) 3 (.slice A7 (runs.length + 1) c7); have S8 := SF.out _ (.slice A7 (runs.length + 1) c7) _ (HL.tail H8))
               refine hK'.out _ _ ?_ (fun hHeld => ?_)
               · (try dsimp only); first | assumption | (exact S6) | (exact S67) | (exact S7) | (exact S8) | go_keep
               clear hK' K'
               try simp only [Act.put, List.setIfInBounds_toArray, List.set_cons_zero, List.set_cons_succ]
               refine wpAnyH_take (i := 19) (v := ?_) rfl (by kernel_rfl) (by kernel_rfl) (by kernel_rfl) (fun _ _ _ h => h) (Or.inl ⟨by rfl, ?_⟩) (by assumption) ?_
               rotate_left
               · (intro w hSw; (try dsimp only at hSw); go_simp; try with_reducible rfl)
               try simp only [Act.put, List.setIfInBounds_toArray, List.set_cons_zero, List.set_cons_succ]
               refine wpAnyH_take (i := 20) (v := ?_) rfl (by kernel_rfl) (by kernel_rfl) (by kernel_rfl) (fun _ _ _ h => h) (Or.inl ⟨by rfl, ?_⟩) (by assumption) ?_
               rotate_left
               · (intro w hSw; (try dsimp only at hSw); go_simp; try with_reducible rfl)
               try simp only [Act.put, List.setIfInBounds_toArray, List.set_cons_zero, List.set_cons_succ]
               refine wpAnyH_ready (rs := [21]) (by kernel_rfl) (by simp) ?_
               refine AllReadyH.cons rfl (fun K' hK' => ?_) ?_
               · dsimp only [List.getElem_toArray, List.getElem_cons_succ, List.getElem_cons_zero]
                 go_simp
                 refine hK'.out _ _ ?_ (fun hHeld => ?_)
                 · (try dsimp only); first | assumption | (exact S6) | (exact S67) | (exact S7) | (exact S8) | go_keep
                 clear hK' K'
                 try simp only [Act.put, List.setIfInBounds_toArray, List.set_cons_zero, List.set_cons_succ]
                 refine wpAnyH_done (by kernel_rfl) ?_ _
                 go_wp2
                 go_meet
                 case rel =>
                   have HX := H8.sel 4 [1, 2, 3, 0]
                   refine ⟨A7, c7, ?_⟩
                   unfold runsAt
                   rw [List.length_append, List.flatMap_append]
                   exact HX
               exact AllReadyH.nil
             exact AllReadyH.nil
           exact AllReadyH.nil
         exact AllReadyH.nil
       refine AllReadyH.cons rfl (fun K' hK' => ?_) ?_
       · dsimp only [List.getElem_toArray, List.getElem_cons_succ, List.getElem_cons_zero]
         go_simp
         refine hK'.out _ _ ?_ (fun hHeld => ?_)
         · (try dsimp only); first | assumption | (exact S6) | (exact S67) | (exact S7) | (exact S8) | go_keep
         clear hK' K'
         try simp only [Act.put, List.setIfInBounds_toArray, List.set_cons_zero, List.set_cons_succ]
         refine wpAnyH_ready (rs := [5]) (by kernel_rfl) (by simp) ?_
         refine AllReadyH.cons rfl (fun K' hK' => ?_) ?_
         · dsimp only [List.getElem_toArray, List.getElem_cons_succ, List.getElem_cons_zero]
           go_simp
           refine hK'.out _ _ ?_ (fun hHeld => ?_)
           · (try dsimp only); first | assumption | (exact S6) | (exact S67) | (exact S7) | (exact S8) | go_keep
           clear hK' K'
           try simp only [Act.put, List.setIfInBounds_toArray, List.set_cons_zero, List.set_cons_succ]
           refine wpAnyH_ready (rs := [6]) (by kernel_rfl) (by simp) ?_
           refine AllReadyH.cons rfl (fun K' hK' => ?_) ?_
           · skip
             first
               | (refine step_append_hl (ys := #[]) sliceRun rfl _ _ rfl (v := .slice (some ⟨W5.heap.size, 0, none⟩) 0 0) (xv := (.slice C runs.length e)) (n := 0) (m := runs.length) (xs := []) (news := runs.flatMap encR) De rfl rfl r_e (one_encR _) (by unfold maxLen; omega) (by omega) ?_; intro z6 w6 H6; clear De Der Dre D0 Dr c_0 c_e c_r c_er c_re r_e r_er r_re; rw [Nat.zero_add, List.nil_append] at H6; obtain ⟨A6, c6, rfl, -, -, -⟩ := row_shape H6.head; have S6 := SF.out _ _ _ H6.tail; have HA := H6.alloc' (.cells #[.int .i64 x.nodes, .int .i64 (n0 + x.limit)] 42); have S67 := SF.out _ _ _ HA.tail; have hrA : Rd 2 (.slice (some ⟨w6.heap.size, 0, none⟩) 1 1) 1 [.int .i64 x.nodes, .int .i64 (n0 + x.limit)] (w6.alloc (.cells #[.int .i64 x.nodes, .int .i64 (n0 + x.limit)] 42)) := rd_new (cs := [.int .i64 x.nodes, .int .i64 (n0 + x.limit)]) rfl rfl (by decide))
               | (refine step_append_hl (ys := #[]) sliceRun rfl _ _ rfl (v := .slice (some ⟨W5.heap.size, 0, none⟩) 0 0) (xv := (.slice C runs.length e)) (n := 0) (m := runs.length) (xs := []) (news := runs.flatMap encR) Der rfl rfl r_er (one_encR _) (by unfold maxLen; omega) (by omega) ?_; intro z6 w6 H6; clear De Der Dre D0 Dr c_0 c_e c_r c_er c_re r_e r_er r_re; rw [Nat.zero_add, List.nil_append] at H6; obtain ⟨A6, c6, rfl, -, -, -⟩ := row_shape H6.head; have hrA := rd_blk2 (H6.sel 2 [1]); have HA := H6.sel 2 [0]; have S6 := SF.out _ _ _ HA.tail; have S67 := S6)
               | (refine step_append_hl (ys := #[]) sliceRun rfl _ _ rfl (v := .slice (some ⟨W5.heap.size + 1, 0, none⟩) 0 0) (xv := (.slice C runs.length e)) (n := 0) (m := runs.length) (xs := []) (news := runs.flatMap encR) Dre rfl rfl r_re (one_encR _) (by unfold maxLen; omega) (by omega) ?_; intro z6 w6 H6; clear De Der Dre D0 Dr c_0 c_e c_r c_er c_re r_e r_er r_re; rw [Nat.zero_add, List.nil_append] at H6; obtain ⟨A6, c6, rfl, -, -, -⟩ := row_shape H6.head; have hrA := rd_blk2 (H6.sel 2 [1]); have HA := H6.sel 2 [0]; have S6 := SF.out _ _ _ HA.tail; have S67 := S6)
             refine hK'.out _ _ ?_ (fun hHeld => ?_)
             · (try dsimp only); first | assumption | (exact S6) | (exact S67) | (exact S7) | (exact S8) | go_keep
             clear hK' K'
             try simp only [Act.put, List.setIfInBounds_toArray, List.set_cons_zero, List.set_cons_succ]
             refine wpAnyH_ready (rs := [18]) (by kernel_rfl) (by simp) ?_
             refine AllReadyH.cons rfl (fun K' hK' => ?_) ?_
             · skip
               first
                 | (refine step_append_hl (ys := #[]) sliceRun rfl _ _ rfl (v := .slice A6 runs.length c6) (xv := .slice (some ⟨w6.heap.size, 0, none⟩) 1 1) (n := runs.length) (m := 1) (xs := runs.flatMap encR) (news := [.int .i64 x.nodes, .int .i64 (n0 + x.limit)]) HA rfl rfl hrA (by simp [Value.oneCell']) (by unfold maxLen; omega) (by omega) ?_; intro z7 w7 H7; clear HA hrA; obtain ⟨A7, c7, rfl, -, -, -⟩ := row_shape H7.head; have S7 := SF.out _ _ _ H7.tail; have g3 : w7.cell? ⟨p, 3, none⟩ = some (.slice C runs.length e) := rr_cell H7.tail (List.mem_cons_self ..) 3; have z3 : w7.frozen? ⟨p, 3, none⟩ = false := rr_frozen H7.tail (List.mem_cons_self ..) 3; have H8 := HL.setAt [_] (h := H7) 3 (.slice A7 (runs.length + 1) c7); have S8 := SF.out _ (.slice A7 (runs.length + 1) c7) _ (HL.tail H8))
                 | (refine step_append_hl (ys := #[]) sliceRun rfl _ _ rfl (v := .slice A6 runs.length c6) (xv := .slice (some ⟨W5.heap.size + 1, 0, none⟩) 1 1) (n := runs.length) (m := 1) (xs := runs.flatMap encR) (news := [.int .i64 x.nodes, .int .i64 (n0 + x.limit)]) HA rfl rfl hrA (by simp [Value.oneCell']) (by unfold maxLen; omega) (by omega) ?_; intro z7 w7 H7; clear HA hrA; obtain ⟨A7, c7, rfl, -, -, -⟩ := row_shape H7.head; have S7 := SF.out _ _ _ H7.tail; have g3 : w7.cell? ⟨p, 3, none⟩ = some (.slice C runs.length e) := rr_cell H7.tail (List.mem_cons_self ..) 3; have z3 : w7.frozen? ⟨p, 3, none⟩ = false := rr_frozen H7.tail (List.mem_cons_self ..) 3; have H8 := HL.setAt [_] (h := H7) 3 (.slice A7 (runs.length + 1) c7); have S8 := SF.out _ (.slice A7 (runs.length + 1) c7) _ (HL.tail H8))
                 | (refine step_append_hl (ys := #[]) sliceRun rfl _ _ rfl (v := .slice A6 runs.length c6) (xv := .slice (some ⟨W5.heap.size, 0, none⟩) 1 1) (n := runs.length) (m := 1) (xs := runs.flatMap encR) (news := [.int .i64 x.nodes, .int .i64 (n0 + x.limit)]) HA rfl rfl hrA (by simp [Value.oneCell']) (by unfold maxLen; omega) (by omega) ?_; intro z7 w7 H7; clear HA hrA; obtain ⟨A7, c7, rfl, -, -, -⟩ := row_shape H7.head; have S7 := SF.out _ _ _ H7.tail; have g3 : w7.cell? ⟨p, 3, none⟩ = some (.slice C runs.length e) := rr_cell H7.tail (List.mem_cons_self ..) 3; have z3 : w7.frozen? ⟨p, 3, none⟩ = false := rr_frozen H7.tail (List.mem_cons_self ..) 3; have H8 := HL.setAt [_] (h := H7) 3 (.slice A7 (runs.length + 1) c7); have S8 := SF.out _ (.slice A7 (runs.length + 1) c7) _ (HL.tail H8))
               refine hK'.out _ _ ?_ (fun hHeld => ?_)
               · (try dsimp only); first | assumption | (exact S6) | (exact S67) | (exact S7) | (exact S8) | go_keep
               clear hK' K'
               try simp only [Act.put, List.setIfInBounds_toArray, List.set_cons_zero, List.set_cons_succ]
               refine wpAnyH_take (i := 19) (v := ?_) rfl (by kernel_rfl) (by kernel_rfl) (by kernel_rfl) (fun _ _ _ h => h) (Or.inl ⟨by rfl, ?_⟩) (by assumption) ?_
               rotate_left
               · (intro w hSw; (try dsimp only at hSw); go_simp; try with_reducible rfl)
               try simp only [Act.put, List.setIfInBounds_toArray, List.set_cons_zero, List.set_cons_succ]
               refine wpAnyH_take (i := 20) (v := ?_) rfl (by kernel_rfl) (by kernel_rfl) (by kernel_rfl) (fun _ _ _ h => h) (Or.inl ⟨by rfl, ?_⟩) (by assumption) ?_
               rotate_left
               · (intro w hSw; (try dsimp only at hSw); go_simp; try with_reducible rfl)
               try simp only [Act.put, List.setIfInBounds_toArray, List.set_cons_zero, List.set_cons_succ]
               refine wpAnyH_ready (rs := [21]) (by kernel_rfl) (by simp) ?_
               refine AllReadyH.cons rfl (fun K' hK' => ?_) ?_
               · dsimp only [List.getElem_toArray, List.getElem_cons_succ, List.getElem_cons_zero]
                 go_simp
                 refine hK'.out _ _ ?_ (fun hHeld => ?_)
                 · (try dsimp only); first | assumption | (exact S6) | (exact S67) | (exact S7) | (exact S8) | go_keep
                 clear hK' K'
                 try simp only [Act.put, List.setIfInBounds_toArray, List.set_cons_zero, List.set_cons_succ]
                 refine wpAnyH_done (by kernel_rfl) ?_ _
                 go_wp2
                 go_meet
                 case rel =>
                   have HX := H8.sel 4 [1, 2, 3, 0]
                   refine ⟨A7, c7, ?_⟩
                   unfold runsAt
                   rw [List.length_append, List.flatMap_append]
                   exact HX
               exact AllReadyH.nil
             exact AllReadyH.nil
           exact AllReadyH.nil
         exact AllReadyH.nil
       exact AllReadyH.nil
     refine AllReadyH.cons rfl (fun K' hK' => ?_) ?_
     · dsimp only [List.getElem_toArray, List.getElem_cons_succ, List.getElem_cons_zero]
       go_simp
       refine hK'.out _ _ ?_ (fun hHeld => ?_)
       · (try dsimp only); first | assumption | (exact S6) | (exact S67) | (exact S7) | (exact S8) | go_keep
       clear hK' K'
       try simp only [Act.put, List.setIfInBounds_toArray, List.set_cons_zero, List.set_cons_succ]
       refine wpAnyH_ready (rs := [1, 17]) (by kernel_rfl) (by simp) ?_
       refine AllReadyH.cons rfl (fun K' hK' => ?_) ?_
       · dsimp only [List.getElem_toArray, List.getElem_cons_succ, List.getElem_cons_zero]
         go_simp
         refine hK'.out _ _ ?_ (fun hHeld => ?_)
         · (try dsimp only); first | assumption | (exact S6) | (exact S67) | (exact S7) | (exact S8) | go_keep
         clear hK' K'
         try simp only [Act.put, List.setIfInBounds_toArray, List.set_cons_zero, List.set_cons_succ]
         refine wpAnyH_ready (rs := [6, 17]) (by kernel_rfl) (by simp) ?_
         refine AllReadyH.cons rfl (fun K' hK' => ?_) ?_
         · skip
           first
             | (refine step_append_hl (ys := #[]) sliceRun rfl _ _ rfl (v := .slice (some ⟨W5.heap.size, 0, none⟩) 0 0) (xv := (.slice C runs.length e)) (n := 0) (m := runs.length) (xs := []) (news := runs.flatMap encR) De rfl rfl r_e (one_encR _) (by unfold maxLen; omega) (by omega) ?_; intro z6 w6 H6; clear De Der Dre D0 Dr c_0 c_e c_r c_er c_re r_e r_er r_re; rw [Nat.zero_add, List.nil_append] at H6; obtain ⟨A6, c6, rfl, -, -, -⟩ := row_shape H6.head; have S6 := SF.out _ _ _ H6.tail; have HA := H6.alloc' (.cells #[.int .i64 x.nodes, .int .i64 (n0 + x.limit)] 42); have S67 := SF.out _ _ _ HA.tail; have hrA : Rd 2 (.slice (some ⟨w6.heap.size, 0, none⟩) 1 1) 1 [.int .i64 x.nodes, .int .i64 (n0 + x.limit)] (w6.alloc (.cells #[.int .i64 x.nodes, .int .i64 (n0 + x.limit)] 42)) := rd_new (cs := [.int .i64 x.nodes, .int .i64 (n0 + x.limit)]) rfl rfl (by decide))
             | (refine step_append_hl (ys := #[]) sliceRun rfl _ _ rfl (v := .slice (some ⟨W5.heap.size, 0, none⟩) 0 0) (xv := (.slice C runs.length e)) (n := 0) (m := runs.length) (xs := []) (news := runs.flatMap encR) Der rfl rfl r_er (one_encR _) (by unfold maxLen; omega) (by omega) ?_; intro z6 w6 H6; clear De Der Dre D0 Dr c_0 c_e c_r c_er c_re r_e r_er r_re; rw [Nat.zero_add, List.nil_append] at H6; obtain ⟨A6, c6, rfl, -, -, -⟩ := row_shape H6.head; have hrA := rd_blk2 (H6.sel 2 [1]); have HA := H6.sel 2 [0]; have S6 := SF.out _ _ _ HA.tail; have S67 := S6)
             | (refine step_append_hl (ys := #[]) sliceRun rfl _ _ rfl (v := .slice (some ⟨W5.heap.size + 1, 0, none⟩) 0 0) (xv := (.slice C runs.length e)) (n := 0) (m := runs.length) (xs := []) (news := runs.flatMap encR) Dre rfl rfl r_re (one_encR _) (by unfold maxLen; omega) (by omega) ?_; intro z6 w6 H6; clear De Der Dre D0 Dr c_0 c_e c_r c_er c_re r_e r_er r_re; rw [Nat.zero_add, List.nil_append] at H6; obtain ⟨A6, c6, rfl, -, -, -⟩ := row_shape H6.head; have hrA := rd_blk2 (H6.sel 2 [1]); have HA := H6.sel 2 [0]; have S6 := SF.out _ _ _ HA.tail; have S67 := S6)
           refine hK'.out _ _ ?_ (fun hHeld => ?_)
           · (try dsimp only); first | assumption | (exact S6) | (exact S67) | (exact S7) | (exact S8) | go_keep
           clear hK' K'
           try simp only [Act.put, List.setIfInBounds_toArray, List.set_cons_zero, List.set_cons_succ]
           refine wpAnyH_ready (rs := [17]) (by kernel_rfl) (by simp) ?_
           refine AllReadyH.cons rfl (fun K' hK' => ?_) ?_
           · dsimp only [List.getElem_toArray, List.getElem_cons_succ, List.getElem_cons_zero]
             go_simp
             refine hK'.out _ _ ?_ (fun hHeld => ?_)
             · (try dsimp only); first | assumption | (exact S6) | (exact S67) | (exact S7) | (exact S8) | go_keep
             clear hK' K'
             try simp only [Act.put, List.setIfInBounds_toArray, List.set_cons_zero, List.set_cons_succ]
             refine wpAnyH_ready (rs := [18]) (by kernel_rfl) (by simp) ?_
             refine AllReadyH.cons rfl (fun K' hK' => ?_) ?_
             · skip
               first
                 | (refine step_append_hl (ys := #[]) sliceRun rfl _ _ rfl (v := .slice A6 runs.length c6) (xv := .slice (some ⟨w6.heap.size, 0, none⟩) 1 1) (n := runs.length) (m := 1) (xs := runs.flatMap encR) (news := [.int .i64 x.nodes, .int .i64 (n0 + x.limit)]) HA rfl rfl hrA (by simp [Value.oneCell']) (by unfold maxLen; omega) (by omega) ?_; intro z7 w7 H7; clear HA hrA; obtain ⟨A7, c7, rfl, -, -, -⟩ := row_shape H7.head; have S7 := SF.out _ _ _ H7.tail; have g3 : w7.cell? ⟨p, 3, none⟩ = some (.slice C runs.length e) := rr_cell H7.tail (List.mem_cons_self ..) 3; have z3 : w7.frozen? ⟨p, 3, none⟩ = false := rr_frozen H7.tail (List.mem_cons_self ..) 3; have H8 := HL.setAt [_] (h := H7) 3 (.slice A7 (runs.length + 1) c7); have S8 := SF.out _ (.slice A7 (runs.length + 1) c7) _ (HL.tail H8))
                 | (refine step_append_hl (ys := #[]) sliceRun rfl _ _ rfl (v := .slice A6 runs.length c6) (xv := .slice (some ⟨W5.heap.size + 1, 0, none⟩) 1 1) (n := runs.length) (m := 1) (xs := runs.flatMap encR) (news := [.int .i64 x.nodes, .int .i64 (n0 + x.limit)]) HA rfl rfl hrA (by simp [Value.oneCell']) (by unfold maxLen; omega) (by omega) ?_; intro z7 w7 H7; clear HA hrA; obtain ⟨A7, c7, rfl, -, -, -⟩ := row_shape H7.head; have S7 := SF.out _ _ _ H7.tail; have g3 : w7.cell? ⟨p, 3, none⟩ = some (.slice C runs.length e) := rr_cell H7.tail (List.mem_cons_self ..) 3; have z3 : w7.frozen? ⟨p, 3, none⟩ = false := rr_frozen H7.tail (List.mem_cons_self ..) 3; have H8 := HL.setAt [_] (h := H7) 3 (.slice A7 (runs.length + 1) c7); have S8 := SF.out _ (.slice A7 (runs.length + 1) c7) _ (HL.tail H8))
                 | (refine step_append_hl (ys := #[]) sliceRun rfl _ _ rfl (v := .slice A6 runs.length c6) (xv := .slice (some ⟨W5.heap.size, 0, none⟩) 1 1) (n := runs.length) (m := 1) (xs := runs.flatMap encR) (news := [.int .i64 x.nodes, .int .i64 (n0 + x.limit)]) HA rfl rfl hrA (by simp [Value.oneCell']) (by unfold maxLen; omega) (by omega) ?_; intro z7 w7 H7; clear HA hrA; obtain ⟨A7, c7, rfl, -, -, -⟩ := row_shape H7.head; have S7 := SF.out _ _ _ H7.tail; have g3 : w7.cell? ⟨p, 3, none⟩ = some (.slice C runs.length e) := rr_cell H7.tail (List.mem_cons_self ..) 3; have z3 : w7.frozen? ⟨p, 3, none⟩ = false := rr_frozen H7.tail (List.mem_cons_self ..) 3; have H8 := HL.setAt [_] (h := H7) 3 (.slice A7 (runs.length + 1) c7); have S8 := SF.out _ (.slice A7 (runs.length + 1) c7) _ (HL.tail H8))
               refine hK'.out _ _ ?_ (fun hHeld => ?_)
               · (try dsimp only); first | assumption | (exact S6) | (exact S67) | (exact S7) | (exact S8) | go_keep
               clear hK' K'
               try simp only [Act.put, List.setIfInBounds_toArray, List.set_cons_zero, List.set_cons_succ]
               refine wpAnyH_take (i := 19) (v := ?_) rfl (by kernel_rfl) (by kernel_rfl) (by kernel_rfl) (fun _ _ _ h => h) (Or.inl ⟨by rfl, ?_⟩) (by assumption) ?_
               rotate_left
               · (intro w hSw; (try dsimp only at hSw); go_simp; try with_reducible rfl)
               try simp only [Act.put, List.setIfInBounds_toArray, List.set_cons_zero, List.set_cons_succ]
               refine wpAnyH_take (i := 20) (v := ?_) rfl (by kernel_rfl) (by kernel_rfl) (by kernel_rfl) (fun _ _ _ h => h) (Or.inl ⟨by rfl, ?_⟩) (by assumption) ?_
               rotate_left
               · (intro w hSw; (try dsimp only at hSw); go_simp; try with_reducible rfl)
               try simp only [Act.put, List.setIfInBounds_toArray, List.set_cons_zero, List.set_cons_succ]
               refine wpAnyH_ready (rs := [21]) (by kernel_rfl) (by simp) ?_
               refine AllReadyH.cons rfl (fun K' hK' => ?_) ?_
               · dsimp only [List.getElem_toArray, List.getElem_cons_succ, List.getElem_cons_zero]
                 go_simp
                 refine hK'.out _ _ ?_ (fun hHeld => ?_)
                 · (try dsimp only); first | assumption | (exact S6) | (exact S67) | (exact S7) | (exact S8) | go_keep
                 clear hK' K'
                 try simp only [Act.put, List.setIfInBounds_toArray, List.set_cons_zero, List.set_cons_succ]
                 refine wpAnyH_done (by kernel_rfl) ?_ _
                 go_wp2
                 go_meet
                 case rel =>
                   have HX := H8.sel 4 [1, 2, 3, 0]
                   refine ⟨A7, c7, ?_⟩
                   unfold runsAt
                   rw [List.length_append, List.flatMap_append]
                   exact HX
               exact AllReadyH.nil
             exact AllReadyH.nil
           exact AllReadyH.nil
         refine AllReadyH.cons rfl (fun K' hK' => ?_) ?_
         · dsimp only [List.getElem_toArray, List.getElem_cons_succ, List.getElem_cons_zero]
           go_simp
           refine hK'.out _ _ ?_ (fun hHeld => ?_)
           · (try dsimp only); first | assumption | (exact S6) | (exact S67) | (exact S7) | (exact S8) | go_keep
           clear hK' K'
           try simp only [Act.put, List.setIfInBounds_toArray, List.set_cons_zero, List.set_cons_succ]
           refine wpAnyH_ready (rs := [6]) (by kernel_rfl) (by simp) ?_
           refine AllReadyH.cons rfl (fun K' hK' => ?_) ?_
           · skip
             first
               | (refine step_append_hl (ys := #[]) sliceRun rfl _ _ rfl (v := .slice (some ⟨W5.heap.size, 0, none⟩) 0 0) (xv := (.slice C runs.length e)) (n := 0) (m := runs.length) (xs := []) (news := runs.flatMap encR) De rfl rfl r_e (one_encR _) (by unfold maxLen; omega) (by omega) ?_; intro z6 w6 H6; clear De Der Dre D0 Dr c_0 c_e c_r c_er c_re r_e r_er r_re; rw [Nat.zero_add, List.nil_append] at H6; obtain ⟨A6, c6, rfl, -, -, -⟩ := row_shape H6.head; have S6 := SF.out _ _ _ H6.tail; have HA := H6.alloc' (.cells #[.int .i64 x.nodes, .int .i64 (n0 + x.limit)] 42); have S67 := SF.out _ _ _ HA.tail; have hrA : Rd 2 (.slice (some ⟨w6.heap.size, 0, none⟩) 1 1) 1 [.int .i64 x.nodes, .int .i64 (n0 + x.limit)] (w6.alloc (.cells #[.int .i64 x.nodes, .int .i64 (n0 + x.limit)] 42)) := rd_new (cs := [.int .i64 x.nodes, .int .i64 (n0 + x.limit)]) rfl rfl (by decide))
               | (refine step_append_hl (ys := #[]) sliceRun rfl _ _ rfl (v := .slice (some ⟨W5.heap.size, 0, none⟩) 0 0) (xv := (.slice C runs.length e)) (n := 0) (m := runs.length) (xs := []) (news := runs.flatMap encR) Der rfl rfl r_er (one_encR _) (by unfold maxLen; omega) (by omega) ?_; intro z6 w6 H6; clear De Der Dre D0 Dr c_0 c_e c_r c_er c_re r_e r_er r_re; rw [Nat.zero_add, List.nil_append] at H6; obtain ⟨A6, c6, rfl, -, -, -⟩ := row_shape H6.head; have hrA := rd_blk2 (H6.sel 2 [1]); have HA := H6.sel 2 [0]; have S6 := SF.out _ _ _ HA.tail; have S67 := S6)
               | (refine step_append_hl (ys := #[]) sliceRun rfl _ _ rfl (v := .slice (some ⟨W5.heap.size + 1, 0, none⟩) 0 0) (xv := (.slice C runs.length e)) (n := 0) (m := runs.length) (xs := []) (news := runs.flatMap encR) Dre rfl rfl r_re (one_encR _) (by unfold maxLen; omega) (by omega) ?_; intro z6 w6 H6; clear De Der Dre D0 Dr c_0 c_e c_r c_er c_re r_e r_er r_re; rw [Nat.zero_add, List.nil_append] at H6; obtain ⟨A6, c6, rfl, -, -, -⟩ := row_shape H6.head; have hrA := rd_blk2 (H6.sel 2 [1]); have HA := H6.sel 2 [0]; have S6 := SF.out _ _ _ HA.tail; have S67 := S6)
             refine hK'.out _ _ ?_ (fun hHeld => ?_)
             · (try dsimp only); first | assumption | (exact S6) | (exact S67) | (exact S7) | (exact S8) | go_keep
             clear hK' K'
             try simp only [Act.put, List.setIfInBounds_toArray, List.set_cons_zero, List.set_cons_succ]
             refine wpAnyH_ready (rs := [18]) (by kernel_rfl) (by simp) ?_
             refine AllReadyH.cons rfl (fun K' hK' => ?_) ?_
             · skip
               first
                 | (refine step_append_hl (ys := #[]) sliceRun rfl _ _ rfl (v := .slice A6 runs.length c6) (xv := .slice (some ⟨w6.heap.size, 0, none⟩) 1 1) (n := runs.length) (m := 1) (xs := runs.flatMap encR) (news := [.int .i64 x.nodes, .int .i64 (n0 + x.limit)]) HA rfl rfl hrA (by simp [Value.oneCell']) (by unfold maxLen; omega) (by omega) ?_; intro z7 w7 H7; clear HA hrA; obtain ⟨A7, c7, rfl, -, -, -⟩ := row_shape H7.head; have S7 := SF.out _ _ _ H7.tail; have g3 : w7.cell? ⟨p, 3, none⟩ = some (.slice C runs.length e) := rr_cell H7.tail (List.mem_cons_self ..) 3; have z3 : w7.frozen? ⟨p, 3, none⟩ = false := rr_frozen H7.tail (List.mem_cons_self ..) 3; have H8 := HL.setAt [_] (h := H7) 3 (.slice A7 (runs.length + 1) c7); have S8 := SF.out _ (.slice A7 (runs.length + 1) c7) _ (HL.tail H8))
                 | (refine step_append_hl (ys := #[]) sliceRun rfl _ _ rfl (v := .slice A6 runs.length c6) (xv := .slice (some ⟨W5.heap.size + 1, 0, none⟩) 1 1) (n := runs.length) (m := 1) (xs := runs.flatMap encR) (news := [.int .i64 x.nodes, .int .i64 (n0 + x.limit)]) HA rfl rfl hrA (by simp [Value.oneCell']) (by unfold maxLen; omega) (by omega) ?_; intro z7 w7 H7; clear HA hrA; obtain ⟨A7, c7, rfl, -, -, -⟩ := row_shape H7.head; have S7 := SF.out _ _ _ H7.tail; have g3 : w7.cell? ⟨p, 3, none⟩ = some (.slice C runs.length e) := rr_cell H7.tail (List.mem_cons_self ..) 3; have z3 : w7.frozen? ⟨p, 3, none⟩ = false := rr_frozen H7.tail (List.mem_cons_self ..) 3; have H8 := HL.setAt [_] (h := H7) 3 (.slice A7 (runs.length + 1) c7); have S8 := SF.out _ (.slice A7 (runs.length + 1) c7) _ (HL.tail H8))
                 | (refine step_append_hl (ys := #[]) sliceRun rfl _ _ rfl (v := .slice A6 runs.length c6) (xv := .slice (some ⟨W5.heap.size, 0, none⟩) 1 1) (n := runs.length) (m := 1) (xs := runs.flatMap encR) (news := [.int .i64 x.nodes, .int .i64 (n0 + x.limit)]) HA rfl rfl hrA (by simp [Value.oneCell']) (by unfold maxLen; omega) (by omega) ?_; intro z7 w7 H7; clear HA hrA; obtain ⟨A7, c7, rfl, -, -, -⟩ := row_shape H7.head; have S7 := SF.out _ _ _ H7.tail; have g3 : w7.cell? ⟨p, 3, none⟩ = some (.slice C runs.length e) := rr_cell H7.tail (List.mem_cons_self ..) 3; have z3 : w7.frozen? ⟨p, 3, none⟩ = false := rr_frozen H7.tail (List.mem_cons_self ..) 3; have H8 := HL.setAt [_] (h := H7) 3 (.slice A7 (runs.length + 1) c7); have S8 := SF.out _ (.slice A7 (runs.length + 1) c7) _ (HL.tail H8))
               refine hK'.out _ _ ?_ (fun hHeld => ?_)
               · (try dsimp only); first | assumption | (exact S6) | (exact S67) | (exact S7) | (exact S8) | go_keep
               clear hK' K'
               try simp only [Act.put, List.setIfInBounds_toArray, List.set_cons_zero, List.set_cons_succ]
               refine wpAnyH_take (i := 19) (v := ?_) rfl (by kernel_rfl) (by kernel_rfl) (by kernel_rfl) (fun _ _ _ h => h) (Or.inl ⟨by rfl, ?_⟩) (by assumption) ?_
               rotate_left
               · (intro w hSw; (try dsimp only at hSw); go_simp; try with_reducible rfl)
               try simp only [Act.put, List.setIfInBounds_toArray, List.set_cons_zero, List.set_cons_succ]
               refine wpAnyH_take (i := 20) (v := ?_) rfl (by kernel_rfl) (by kernel_rfl) (by kernel_rfl) (fun _ _ _ h => h) (Or.inl ⟨by rfl, ?_⟩) (by assumption) ?_
               rotate_left
               · (intro w hSw; (try dsimp only at hSw); go_simp; try with_reducible rfl)
               try simp only [Act.put, List.setIfInBounds_toArray, List.set_cons_zero, List.set_cons_succ]
               refine wpAnyH_ready (rs := [21]) (by kernel_rfl) (by simp) ?_
               refine AllReadyH.cons rfl (fun K' hK' => ?_) ?_
               · dsimp only [List.getElem_toArray, List.getElem_cons_succ, List.getElem_cons_zero]
                 go_simp
                 refine hK'.out _ _ ?_ (fun hHeld => ?_)
                 · (try dsimp only); first | assumption | (exact S6) | (exact S67) | (exact S7) | (exact S8) | go_keep
                 clear hK' K'
                 try simp only [Act.put, List.setIfInBounds_toArray, List.set_cons_zero, List.set_cons_succ]
                 refine wpAnyH_done (by kernel_rfl) ?_ _
                 go_wp2
                 go_meet
                 case rel =>
                   have HX := H8.sel 4 [1, 2, 3, 0]
                   refine ⟨A7, c7, ?_⟩
                   unfold runsAt
                   rw [List.length_append, List.flatMap_append]
                   exact HX
               exact AllReadyH.nil
             exact AllReadyH.nil
           exact AllReadyH.nil
         exact AllReadyH.nil
       refine AllReadyH.cons rfl (fun K' hK' => ?_) ?_
       · dsimp only [List.getElem_toArray, List.getElem_cons_succ, List.getElem_cons_zero]
         go_simp
         refine hK'.out _ _ ?_ (fun hHeld => ?_)
         · (try dsimp only); first | assumption | (exact S6) | (exact S67) | (exact S7) | (exact S8) | go_keep
         clear hK' K'
         try simp only [Act.put, List.setIfInBounds_toArray, List.set_cons_zero, List.set_cons_succ]
         refine wpAnyH_ready (rs := [1]) (by kernel_rfl) (by simp) ?_
         refine AllReadyH.cons rfl (fun K' hK' => ?_) ?_
         · dsimp only [List.getElem_toArray, List.getElem_cons_succ, List.getElem_cons_zero]
           go_simp
           refine hK'.out _ _ ?_ (fun hHeld => ?_)
           · (try dsimp only); first | assumption | (exact S6) | (exact S67) | (exact S7) | (exact S8) | go_keep
           clear hK' K'
           try simp only [Act.put, List.setIfInBounds_toArray, List.set_cons_zero, List.set_cons_succ]
           refine wpAnyH_ready (rs := [6]) (by kernel_rfl) (by simp) ?_
           refine AllReadyH.cons rfl (fun K' hK' => ?_) ?_
           · skip
             first
               | (refine step_append_hl (ys := #[]) sliceRun rfl _ _ rfl (v := .slice (some ⟨W5.heap.size, 0, none⟩) 0 0) (xv := (.slice C runs.length e)) (n := 0) (m := runs.length) (xs := []) (news := runs.flatMap encR) De rfl rfl r_e (one_encR _) (by unfold maxLen; omega) (by omega) ?_; intro z6 w6 H6; clear De Der Dre D0 Dr c_0 c_e c_r c_er c_re r_e r_er r_re; rw [Nat.zero_add, List.nil_append] at H6; obtain ⟨A6, c6, rfl, -, -, -⟩ := row_shape H6.head; have S6 := SF.out _ _ _ H6.tail; have HA := H6.alloc' (.cells #[.int .i64 x.nodes, .int .i64 (n0 + x.limit)] 42); have S67 := SF.out _ _ _ HA.tail; have hrA : Rd 2 (.slice (some ⟨w6.heap.size, 0, none⟩) 1 1) 1 [.int .i64 x.nodes, .int .i64 (n0 + x.limit)] (w6.alloc (.cells #[.int .i64 x.nodes, .int .i64 (n0 + x.limit)] 42)) := rd_new (cs := [.int .i64 x.nodes, .int .i64 (n0 + x.limit)]) rfl rfl (by decide))
               | (refine step_append_hl (ys := #[]) sliceRun rfl _ _ rfl (v := .slice (some ⟨W5.heap.size, 0, none⟩) 0 0) (xv := (.slice C runs.length e)) (n := 0) (m := runs.length) (xs := []) (news := runs.flatMap encR) Der rfl rfl r_er (one_encR _) (by unfold maxLen; omega) (by omega) ?_; intro z6 w6 H6; clear De Der Dre D0 Dr c_0 c_e c_r c_er c_re r_e r_er r_re; rw [Nat.zero_add, List.nil_append] at H6; obtain ⟨A6, c6, rfl, -, -, -⟩ := row_shape H6.head; have hrA := rd_blk2 (H6.sel 2 [1]); have HA := H6.sel 2 [0]; have S6 := SF.out _ _ _ HA.tail; have S67 := S6)
               | (refine step_append_hl (ys := #[]) sliceRun rfl _ _ rfl (v := .slice (some ⟨W5.heap.size + 1, 0, none⟩) 0 0) (xv := (.slice C runs.length e)) (n := 0) (m := runs.length) (xs := []) (news := runs.flatMap encR) Dre rfl rfl r_re (one_encR _) (by unfold maxLen; omega) (by omega) ?_; intro z6 w6 H6; clear De Der Dre D0 Dr c_0 c_e c_r c_er c_re r_e r_er r_re; rw [Nat.zero_add, List.nil_append] at H6; obtain ⟨A6, c6, rfl, -, -, -⟩ := row_shape H6.head; have hrA := rd_blk2 (H6.sel 2 [1]); have HA := H6.sel 2 [0]; have S6 := SF.out _ _ _ HA.tail; have S67 := S6)
             refine hK'.out _ _ ?_ (fun hHeld => ?_)
             · (try dsimp only); first | assumption | (exact S6) | (exact S67) | (exact S7) | (exact S8) | go_keep
             clear hK' K'
             try simp only [Act.put, List.setIfInBounds_toArray, List.set_cons_zero, List.set_cons_succ]
             refine wpAnyH_ready (rs := [18]) (by kernel_rfl) (by simp) ?_
             refine AllReadyH.cons rfl (fun K' hK' => ?_) ?_
             · skip
               first
                 | (refine step_append_hl (ys := #[]) sliceRun rfl _ _ rfl (v := .slice A6 runs.length c6) (xv := .slice (some ⟨w6.heap.size, 0, none⟩) 1 1) (n := runs.length) (m := 1) (xs := runs.flatMap encR) (news := [.int .i64 x.nodes, .int .i64 (n0 + x.limit)]) HA rfl rfl hrA (by simp [Value.oneCell']) (by unfold maxLen; omega) (by omega) ?_; intro z7 w7 H7; clear HA hrA; obtain ⟨A7, c7, rfl, -, -, -⟩ := row_shape H7.head; have S7 := SF.out _ _ _ H7.tail; have g3 : w7.cell? ⟨p, 3, none⟩ = some (.slice C runs.length e) := rr_cell H7.tail (List.mem_cons_self ..) 3; have z3 : w7.frozen? ⟨p, 3, none⟩ = false := rr_frozen H7.tail (List.mem_cons_self ..) 3; have H8 := HL.setAt [_] (h := H7) 3 (.slice A7 (runs.length + 1) c7); have S8 := SF.out _ (.slice A7 (runs.length + 1) c7) _ (HL.tail H8))
                 | (refine step_append_hl (ys := #[]) sliceRun rfl _ _ rfl (v := .slice A6 runs.length c6) (xv := .slice (some ⟨W5.heap.size + 1, 0, none⟩) 1 1) (n := runs.length) (m := 1) (xs := runs.flatMap encR) (news := [.int .i64 x.nodes, .int .i64 (n0 + x.limit)]) HA rfl rfl hrA (by simp [Value.oneCell']) (by unfold maxLen; omega) (by omega) ?_; intro z7 w7 H7; clear HA hrA; obtain ⟨A7, c7, rfl, -, -, -⟩ := row_shape H7.head; have S7 := SF.out _ _ _ H7.tail; have g3 : w7.cell? ⟨p, 3, none⟩ = some (.slice C runs.length e) := rr_cell H7.tail (List.mem_cons_self ..) 3; have z3 : w7.frozen? ⟨p, 3, none⟩ = false := rr_frozen H7.tail (List.mem_cons_self ..) 3; have H8 := HL.setAt [_] (h := H7) 3 (.slice A7 (runs.length + 1) c7); have S8 := SF.out _ (.slice A7 (runs.length + 1) c7) _ (HL.tail H8))
                 | (refine step_append_hl (ys := #[]) sliceRun rfl _ _ rfl (v := .slice A6 runs.length c6) (xv := .slice (some ⟨W5.heap.size, 0, none⟩) 1 1) (n := runs.length) (m := 1) (xs := runs.flatMap encR) (news := [.int .i64 x.nodes, .int .i64 (n0 + x.limit)]) HA rfl rfl hrA (by simp [Value.oneCell']) (by unfold maxLen; omega) (by omega) ?_; intro z7 w7 H7; clear HA hrA; obtain ⟨A7, c7, rfl, -, -, -⟩ := row_shape H7.head; have S7 := SF.out _ _ _ H7.tail; have g3 : w7.cell? ⟨p, 3, none⟩ = some (.slice C runs.length e) := rr_cell H7.tail (List.mem_cons_self ..) 3; have z3 : w7.frozen? ⟨p, 3, none⟩ = false := rr_frozen H7.tail (List.mem_cons_self ..) 3; have H8 := HL.setAt [_] (h := H7) 3 (.slice A7 (runs.length + 1) c7); have S8 := SF.out _ (.slice A7 (runs.length + 1) c7) _ (HL.tail H8))
               refine hK'.out _ _ ?_ (fun hHeld => ?_)
               · (try dsimp only); first | assumption | (exact S6) | (exact S67) | (exact S7) | (exact S8) | go_keep
               clear hK' K'
               try simp only [Act.put, List.setIfInBounds_toArray, List.set_cons_zero, List.set_cons_succ]
               refine wpAnyH_take (i := 19) (v := ?_) rfl (by kernel_rfl) (by kernel_rfl) (by kernel_rfl) (fun _ _ _ h => h) (Or.inl ⟨by rfl, ?_⟩) (by assumption) ?_
               rotate_left
               · (intro w hSw; (try dsimp only at hSw); go_simp; try with_reducible rfl)
               try simp only [Act.put, List.setIfInBounds_toArray, List.set_cons_zero, List.set_cons_succ]
               refine wpAnyH_take (i := 20) (v := ?_) rfl (by kernel_rfl) (by kernel_rfl) (by kernel_rfl) (fun _ _ _ h => h) (Or.inl ⟨by rfl, ?_⟩) (by assumption) ?_
               rotate_left
               · (intro w hSw; (try dsimp only at hSw); go_simp; try with_reducible rfl)
               try simp only [Act.put, List.setIfInBounds_toArray, List.set_cons_zero, List.set_cons_succ]
               refine wpAnyH_ready (rs := [21]) (by kernel_rfl) (by simp) ?_
               refine AllReadyH.cons rfl (fun K' hK' => ?_) ?_
               · dsimp only [List.getElem_toArray, List.getElem_cons_succ, List.getElem_cons_zero]
                 go_simp
                 refine hK'.out _ _ ?_ (fun hHeld => ?_)
                 · (try dsimp only); first | assumption | (exact S6) | (exact S67) | (exact S7) | (exact S8) | go_keep
                 clear hK' K'
                 try simp only [Act.put, List.setIfInBounds_toArray, List.set_cons_zero, List.set_cons_succ]
                 refine wpAnyH_done (by kernel_rfl) ?_ _
                 go_wp2
                 go_meet
                 case rel =>
                   have HX := H8.sel 4 [1, 2, 3, 0]
                   refine ⟨A7, c7, ?_⟩
                   unfold runsAt
                   rw [List.length_append, List.flatMap_append]
                   exact HX
               exact AllReadyH.nil
             exact AllReadyH.nil
           exact AllReadyH.nil
         exact AllReadyH.nil
       exact AllReadyH.nil
     refine AllReadyH.cons rfl (fun K' hK' => ?_) ?_
     · dsimp only [List.getElem_toArray, List.getElem_cons_succ, List.getElem_cons_zero]
       go_simp
       refine hK'.out _ _ ?_ (fun hHeld => ?_)
       · (try dsimp only); first | assumption | (exact S6) | (exact S67) | (exact S7) | (exact S8) | go_keep
       clear hK' K'
       try simp only [Act.put, List.setIfInBounds_toArray, List.set_cons_zero, List.set_cons_succ]
       refine wpAnyH_ready (rs := [1, 5]) (by kernel_rfl) (by simp) ?_
       refine AllReadyH.cons rfl (fun K' hK' => ?_) ?_
       · dsimp only [List.getElem_toArray, List.getElem_cons_succ, List.getElem_cons_zero]
         go_simp
         refine hK'.out _ _ ?_ (fun hHeld => ?_)
         · (try dsimp only); first | assumption | (exact S6) | (exact S67) | (exact S7) | (exact S8) | go_keep
         clear hK' K'
         try simp only [Act.put, List.setIfInBounds_toArray, List.set_cons_zero, List.set_cons_succ]
         refine wpAnyH_ready (rs := [5]) (by kernel_rfl) (by simp) ?_
         refine AllReadyH.cons rfl (fun K' hK' => ?_) ?_
         · dsimp only [List.getElem_toArray, List.getElem_cons_succ, List.getElem_cons_zero]
           go_simp
           refine hK'.out _ _ ?_ (fun hHeld => ?_)
           · (try dsimp only); first | assumption | (exact S6) | (exact S67) | (exact S7) | (exact S8) | go_keep
           clear hK' K'
           try simp only [Act.put, List.setIfInBounds_toArray, List.set_cons_zero, List.set_cons_succ]
           refine wpAnyH_ready (rs := [6]) (by kernel_rfl) (by simp) ?_
           refine AllReadyH.cons rfl (fun K' hK' => ?_) ?_
           · skip
             first
               | (refine step_append_hl (ys := #[]) sliceRun rfl _ _ rfl (v := .slice (some ⟨W5.heap.size, 0, none⟩) 0 0) (xv := (.slice C runs.length e)) (n := 0) (m := runs.length) (xs := []) (news := runs.flatMap encR) De rfl rfl r_e (one_encR _) (by unfold maxLen; omega) (by omega) ?_; intro z6 w6 H6; clear De Der Dre D0 Dr c_0 c_e c_r c_er c_re r_e r_er r_re; rw [Nat.zero_add, List.nil_append] at H6; obtain ⟨A6, c6, rfl, -, -, -⟩ := row_shape H6.head; have S6 := SF.out _ _ _ H6.tail; have HA := H6.alloc' (.cells #[.int .i64 x.nodes, .int .i64 (n0 + x.limit)] 42); have S67 := SF.out _ _ _ HA.tail; have hrA : Rd 2 (.slice (some ⟨w6.heap.size, 0, none⟩) 1 1) 1 [.int .i64 x.nodes, .int .i64 (n0 + x.limit)] (w6.alloc (.cells #[.int .i64 x.nodes, .int .i64 (n0 + x.limit)] 42)) := rd_new (cs := [.int .i64 x.nodes, .int .i64 (n0 + x.limit)]) rfl rfl (by decide))
               | (refine step_append_hl (ys := #[]) sliceRun rfl _ _ rfl (v := .slice (some ⟨W5.heap.size, 0, none⟩) 0 0) (xv := (.slice C runs.length e)) (n := 0) (m := runs.length) (xs := []) (news := runs.flatMap encR) Der rfl rfl r_er (one_encR _) (by unfold maxLen; omega) (by omega) ?_; intro z6 w6 H6; clear De Der Dre D0 Dr c_0 c_e c_r c_er c_re r_e r_er r_re; rw [Nat.zero_add, List.nil_append] at H6; obtain ⟨A6, c6, rfl, -, -, -⟩ := row_shape H6.head; have hrA := rd_blk2 (H6.sel 2 [1]); have HA := H6.sel 2 [0]; have S6 := SF.out _ _ _ HA.tail; have S67 := S6)
               | (refine step_append_hl (ys := #[]) sliceRun rfl _ _ rfl (v := .slice (some ⟨W5.heap.size + 1, 0, none⟩) 0 0) (xv := (.slice C runs.length e)) (n := 0) (m := runs.length) (xs := []) (news := runs.flatMap encR) Dre rfl rfl r_re (one_encR _) (by unfold maxLen; omega) (by omega) ?_; intro z6 w6 H6; clear De Der Dre D0 Dr c_0 c_e c_r c_er c_re r_e r_er r_re; rw [Nat.zero_add, List.nil_append] at H6; obtain ⟨A6, c6, rfl, -, -, -⟩ := row_shape H6.head; have hrA := rd_blk2 (H6.sel 2 [1]); have HA := H6.sel 2 [0]; have S6 := SF.out _ _ _ HA.tail; have S67 := S6)
             refine hK'.out _ _ ?_ (fun hHeld => ?_)
             · (try dsimp only); first | assumption | (exact S6) | (exact S67) | (exact S7) | (exact S8) | go_keep
             clear hK' K'
             try simp only [Act.put, List.setIfInBounds_toArray, List.set_cons_zero, List.set_cons_succ]
             refine wpAnyH_ready (rs := [18]) (by kernel_rfl) (by simp) ?_
             refine AllReadyH.cons rfl (fun K' hK' => ?_) ?_
             · skip
               first
                 | (refine step_append_hl (ys := #[]) sliceRun rfl _ _ rfl (v := .slice A6 runs.length c6) (xv := .slice (some ⟨w6.heap.size, 0, none⟩) 1 1) (n := runs.length) (m := 1) (xs := runs.flatMap encR) (news := [.int .i64 x.nodes, .int .i64 (n0 + x.limit)]) HA rfl rfl hrA (by simp [Value.oneCell']) (by unfold maxLen; omega) (by omega) ?_; intro z7 w7 H7; clear HA hrA; obtain ⟨A7, c7, rfl, -, -, -⟩ := row_shape H7.head; have S7 := SF.out _ _ _ H7.tail; have g3 : w7.cell? ⟨p, 3, none⟩ = some (.slice C runs.length e) := rr_cell H7.tail (List.mem_cons_self ..) 3; have z3 : w7.frozen? ⟨p, 3, none⟩ = false := rr_frozen H7.tail (List.mem_cons_self ..) 3; have H8 := HL.setAt [_] (h := H7) 3 (.slice A7 (runs.length + 1) c7); have S8 := SF.out _ (.slice A7 (runs.length + 1) c7) _ (HL.tail H8))
                 | (refine step_append_hl (ys := #[]) sliceRun rfl _ _ rfl (v := .slice A6 runs.length c6) (xv := .slice (some ⟨W5.heap.size + 1, 0, none⟩) 1 1) (n := runs.length) (m := 1) (xs := runs.flatMap encR) (news := [.int .i64 x.nodes, .int .i64 (n0 + x.limit)]) HA rfl rfl hrA (by simp [Value.oneCell']) (by unfold maxLen; omega) (by omega) ?_; intro z7 w7 H7; clear HA hrA; obtain ⟨A7, c7, rfl, -, -, -⟩ := row_shape H7.head; have S7 := SF.out _ _ _ H7.tail; have g3 : w7.cell? ⟨p, 3, none⟩ = some (.slice C runs.length e) := rr_cell H7.tail (List.mem_cons_self ..) 3; have z3 : w7.frozen? ⟨p, 3, none⟩ = false := rr_frozen H7.tail (List.mem_cons_self ..) 3; have H8 := HL.setAt [_] (h := H7) 3 (.slice A7 (runs.length + 1) c7); have S8 := SF.out _ (.slice A7 (runs.length + 1) c7) _ (HL.tail H8))
                 | (refine step_append_hl (ys := #[]) sliceRun rfl _ _ rfl (v := .slice A6 runs.length c6) (xv := .slice (some ⟨W5.heap.size, 0, none⟩) 1 1) (n := runs.length) (m := 1) (xs := runs.flatMap encR) (news := [.int .i64 x.nodes, .int .i64 (n0 + x.limit)]) HA rfl rfl hrA (by simp [Value.oneCell']) (by unfold maxLen; omega) (by omega) ?_; intro z7 w7 H7; clear HA hrA; obtain ⟨A7, c7, rfl, -, -, -⟩ := row_shape H7.head; have S7 := SF.out _ _ _ H7.tail; have g3 : w7.cell? ⟨p, 3, none⟩ = some (.slice C runs.length e) := rr_cell H7.tail (List.mem_cons_self ..) 3; have z3 : w7.frozen? ⟨p, 3, none⟩ = false := rr_frozen H7.tail (List.mem_cons_self ..) 3; have H8 := HL.setAt [_] (h := H7) 3 (.slice A7 (runs.length + 1) c7); have S8 := SF.out _ (.slice A7 (runs.length + 1) c7) _ (HL.tail H8))
               refine hK'.out _ _ ?_ (fun hHeld => ?_)
               · (try dsimp only); first | assumption | (exact S6) | (exact S67) | (exact S7) | (exact S8) | go_keep
               clear hK' K'
               try simp only [Act.put, List.setIfInBounds_toArray, List.set_cons_zero, List.set_cons_succ]
               refine wpAnyH_take (i := 19) (v := ?_) rfl (by kernel_rfl) (by kernel_rfl) (by kernel_rfl) (fun _ _ _ h => h) (Or.inl ⟨by rfl, ?_⟩) (by assumption) ?_
               rotate_left
               · (intro w hSw; (try dsimp only at hSw); go_simp; try with_reducible rfl)
               try simp only [Act.put, List.setIfInBounds_toArray, List.set_cons_zero, List.set_cons_succ]
               refine wpAnyH_take (i := 20) (v := ?_) rfl (by kernel_rfl) (by kernel_rfl) (by kernel_rfl) (fun _ _ _ h => h) (Or.inl ⟨by rfl, ?_⟩) (by assumption) ?_
               rotate_left
               · (intro w hSw; (try dsimp only at hSw); go_simp; try with_reducible rfl)
               try simp only [Act.put, List.setIfInBounds_toArray, List.set_cons_zero, List.set_cons_succ]
               refine wpAnyH_ready (rs := [21]) (by kernel_rfl) (by simp) ?_
               refine AllReadyH.cons rfl (fun K' hK' => ?_) ?_
               · dsimp only [List.getElem_toArray, List.getElem_cons_succ, List.getElem_cons_zero]
                 go_simp
                 refine hK'.out _ _ ?_ (fun hHeld => ?_)
                 · (try dsimp only); first | assumption | (exact S6) | (exact S67) | (exact S7) | (exact S8) | go_keep
                 clear hK' K'
                 try simp only [Act.put, List.setIfInBounds_toArray, List.set_cons_zero, List.set_cons_succ]
                 refine wpAnyH_done (by kernel_rfl) ?_ _
                 go_wp2
                 go_meet
                 case rel =>
                   have HX := H8.sel 4 [1, 2, 3, 0]
                   refine ⟨A7, c7, ?_⟩
                   unfold runsAt
                   rw [List.length_append, List.flatMap_append]
                   exact HX
               exact AllReadyH.nil
             exact AllReadyH.nil
           exact AllReadyH.nil
         exact AllReadyH.nil
       refine AllReadyH.cons rfl (fun K' hK' => ?_) ?_
       · dsimp only [List.getElem_toArray, List.getElem_cons_succ, List.getElem_cons_zero]
         go_simp
         refine hK'.out _ _ ?_ (fun hHeld => ?_)
         · (try dsimp only); first | assumption | (exact S6) | (exact S67) | (exact S7) | (exact S8) | go_keep
         clear hK' K'
         try simp only [Act.put, List.setIfInBounds_toArray, List.set_cons_zero, List.set_cons_succ]
         refine wpAnyH_ready (rs := [1]) (by kernel_rfl) (by simp) ?_
         refine AllReadyH.cons rfl (fun K' hK' => ?_) ?_
         · dsimp only [List.getElem_toArray, List.getElem_cons_succ, List.getElem_cons_zero]
           go_simp
           refine hK'.out _ _ ?_ (fun hHeld => ?_)
           · (try dsimp only); first | assumption | (exact S6) | (exact S67) | (exact S7) | (exact S8) | go_keep
           clear hK' K'
           try simp only [Act.put, List.setIfInBounds_toArray, List.set_cons_zero, List.set_cons_succ]
           refine wpAnyH_ready (rs := [6]) (by kernel_rfl) (by simp) ?_
           refine AllReadyH.cons rfl (fun K' hK' => ?_) ?_
           · skip
             first
               | (refine step_append_hl (ys := #[]) sliceRun rfl _ _ rfl (v := .slice (some ⟨W5.heap.size, 0, none⟩) 0 0) (xv := (.slice C runs.length e)) (n := 0) (m := runs.length) (xs := []) (news := runs.flatMap encR) De rfl rfl r_e (one_encR _) (by unfold maxLen; omega) (by omega) ?_; intro z6 w6 H6; clear De Der Dre D0 Dr c_0 c_e c_r c_er c_re r_e r_er r_re; rw [Nat.zero_add, List.nil_append] at H6; obtain ⟨A6, c6, rfl, -, -, -⟩ := row_shape H6.head; have S6 := SF.out _ _ _ H6.tail; have HA := H6.alloc' (.cells #[.int .i64 x.nodes, .int .i64 (n0 + x.limit)] 42); have S67 := SF.out _ _ _ HA.tail; have hrA : Rd 2 (.slice (some ⟨w6.heap.size, 0, none⟩) 1 1) 1 [.int .i64 x.nodes, .int .i64 (n0 + x.limit)] (w6.alloc (.cells #[.int .i64 x.nodes, .int .i64 (n0 + x.limit)] 42)) := rd_new (cs := [.int .i64 x.nodes, .int .i64 (n0 + x.limit)]) rfl rfl (by decide))
               | (refine step_append_hl (ys := #[]) sliceRun rfl _ _ rfl (v := .slice (some ⟨W5.heap.size, 0, none⟩) 0 0) (xv := (.slice C runs.length e)) (n := 0) (m := runs.length) (xs := []) (news := runs.flatMap encR) Der rfl rfl r_er (one_encR _) (by unfold maxLen; omega) (by omega) ?_; intro z6 w6 H6; clear De Der Dre D0 Dr c_0 c_e c_r c_er c_re r_e r_er r_re; rw [Nat.zero_add, List.nil_append] at H6; obtain ⟨A6, c6, rfl, -, -, -⟩ := row_shape H6.head; have hrA := rd_blk2 (H6.sel 2 [1]); have HA := H6.sel 2 [0]; have S6 := SF.out _ _ _ HA.tail; have S67 := S6)
               | (refine step_append_hl (ys := #[]) sliceRun rfl _ _ rfl (v := .slice (some ⟨W5.heap.size + 1, 0, none⟩) 0 0) (xv := (.slice C runs.length e)) (n := 0) (m := runs.length) (xs := []) (news := runs.flatMap encR) Dre rfl rfl r_re (one_encR _) (by unfold maxLen; omega) (by omega) ?_; intro z6 w6 H6; clear De Der Dre D0 Dr c_0 c_e c_r c_er c_re r_e r_er r_re; rw [Nat.zero_add, List.nil_append] at H6; obtain ⟨A6, c6, rfl, -, -, -⟩ := row_shape H6.head; have hrA := rd_blk2 (H6.sel 2 [1]); have HA := H6.sel 2 [0]; have S6 := SF.out _ _ _ HA.tail; have S67 := S6)
             refine hK'.out _ _ ?_ (fun hHeld => ?_)
             · (try dsimp only); first | assumption | (exact S6) | (exact S67) | (exact S7) | (exact S8) | go_keep
             clear hK' K'
             try simp only [Act.put, List.setIfInBounds_toArray, List.set_cons_zero, List.set_cons_succ]
             refine wpAnyH_ready (rs := [18]) (by kernel_rfl) (by simp) ?_
             refine AllReadyH.cons rfl (fun K' hK' => ?_) ?_
             · skip
               first
                 | (refine step_append_hl (ys := #[]) sliceRun rfl _ _ rfl (v := .slice A6 runs.length c6) (xv := .slice (some ⟨w6.heap.size, 0, none⟩) 1 1) (n := runs.length) (m := 1) (xs := runs.flatMap encR) (news := [.int .i64 x.nodes, .int .i64 (n0 + x.limit)]) HA rfl rfl hrA (by simp [Value.oneCell']) (by unfold maxLen; omega) (by omega) ?_; intro z7 w7 H7; clear HA hrA; obtain ⟨A7, c7, rfl, -, -, -⟩ := row_shape H7.head; have S7 := SF.out _ _ _ H7.tail; have g3 : w7.cell? ⟨p, 3, none⟩ = some (.slice C runs.length e) := rr_cell H7.tail (List.mem_cons_self ..) 3; have z3 : w7.frozen? ⟨p, 3, none⟩ = false := rr_frozen H7.tail (List.mem_cons_self ..) 3; have H8 := HL.setAt [_] (h := H7) 3 (.slice A7 (runs.length + 1) c7); have S8 := SF.out _ (.slice A7 (runs.length + 1) c7) _ (HL.tail H8))
                 | (refine step_append_hl (ys := #[]) sliceRun rfl _ _ rfl (v := .slice A6 runs.length c6) (xv := .slice (some ⟨W5.heap.size + 1, 0, none⟩) 1 1) (n := runs.length) (m := 1) (xs := runs.flatMap encR) (news := [.int .i64 x.nodes, .int .i64 (n0 + x.limit)]) HA rfl rfl hrA (by simp [Value.oneCell']) (by unfold maxLen; omega) (by omega) ?_; intro z7 w7 H7; clear HA hrA; obtain ⟨A7, c7, rfl, -, -, -⟩ := row_shape H7.head; have S7 := SF.out _ _ _ H7.tail; have g3 : w7.cell? ⟨p, 3, none⟩ = some (.slice C runs.length e) := rr_cell H7.tail (List.mem_cons_self ..) 3; have z3 : w7.frozen? ⟨p, 3, none⟩ = false := rr_frozen H7.tail (List.mem_cons_self ..) 3; have H8 := HL.setAt [_] (h := H7) 3 (.slice A7 (runs.length + 1) c7); have S8 := SF.out _ (.slice A7 (runs.length + 1) c7) _ (HL.tail H8))
                 | (refine step_append_hl (ys := #[]) sliceRun rfl _ _ rfl (v := .slice A6 runs.length c6) (xv := .slice (some ⟨W5.heap.size, 0, none⟩) 1 1) (n := runs.length) (m := 1) (xs := runs.flatMap encR) (news := [.int .i64 x.nodes, .int .i64 (n0 + x.limit)]) HA rfl rfl hrA (by simp [Value.oneCell']) (by unfold maxLen; omega) (by omega) ?_; intro z7 w7 H7; clear HA hrA; obtain ⟨A7, c7, rfl, -, -, -⟩ := row_shape H7.head; have S7 := SF.out _ _ _ H7.tail; have g3 : w7.cell? ⟨p, 3, none⟩ = some (.slice C runs.length e) := rr_cell H7.tail (List.mem_cons_self ..) 3; have z3 : w7.frozen? ⟨p, 3, none⟩ = false := rr_frozen H7.tail (List.mem_cons_self ..) 3; have H8 := HL.setAt [_] (h := H7) 3 (.slice A7 (runs.length + 1) c7); have S8 := SF.out _ (.slice A7 (runs.length + 1) c7) _ (HL.tail H8))
               refine hK'.out _ _ ?_ (fun hHeld => ?_)
               · (try dsimp only); first | assumption | (exact S6) | (exact S67) | (exact S7) | (exact S8) | go_keep
               clear hK' K'
               try simp only [Act.put, List.setIfInBounds_toArray, List.set_cons_zero, List.set_cons_succ]
               refine wpAnyH_take (i := 19) (v := ?_) rfl (by kernel_rfl) (by kernel_rfl) (by kernel_rfl) (fun _ _ _ h => h) (Or.inl ⟨by rfl, ?_⟩) (by assumption) ?_
               rotate_left
               · (intro w hSw; (try dsimp only at hSw); go_simp; try with_reducible rfl)
               try simp only [Act.put, List.setIfInBounds_toArray, List.set_cons_zero, List.set_cons_succ]
               refine wpAnyH_take (i := 20) (v := ?_) rfl (by kernel_rfl) (by kernel_rfl) (by kernel_rfl) (fun _ _ _ h => h) (Or.inl ⟨by rfl, ?_⟩) (by assumption) ?_
               rotate_left
               · (intro w hSw; (try dsimp only at hSw); go_simp; try with_reducible rfl)
               try simp only [Act.put, List.setIfInBounds_toArray, List.set_cons_zero, List.set_cons_succ]
               refine wpAnyH_ready (rs := [21]) (by kernel_rfl) (by simp) ?_
               refine AllReadyH.cons rfl (fun K' hK' => ?_) ?_
               · dsimp only [List.getElem_toArray, List.getElem_cons_succ, List.getElem_cons_zero]
                 go_simp
                 refine hK'.out _ _ ?_ (fun hHeld => ?_)
                 · (try dsimp only); first | assumption | (exact S6) | (exact S67) | (exact S7) | (exact S8) | go_keep
                 clear hK' K'
                 try simp only [Act.put, List.setIfInBounds_toArray, List.set_cons_zero, List.set_cons_succ]
                 refine wpAnyH_done (by kernel_rfl) ?_ _
                 go_wp2
                 go_meet
                 case rel =>
                   have HX := H8.sel 4 [1, 2, 3, 0]
                   refine ⟨A7, c7, ?_⟩
                   unfold runsAt
                   rw [List.length_append, List.flatMap_append]
                   exact HX
               exact AllReadyH.nil
             exact AllReadyH.nil
           exact AllReadyH.nil
         exact AllReadyH.nil
       exact AllReadyH.nil
     exact AllReadyH.nil
    case rest =>
      obtain ⟨A7, c7, H11⟩ := hcut
      clear D0 De Dr Der Dre S0 Se Sr Ser Sre c_0 c_e c_r c_er c_re r_e r_er r_re H10
      have He := emptyWants H11
      have c2 : (wc.alloc (.cells #[] 60)).cell? ⟨p, 2, none⟩ = some (.slice (some ⟨bl, ol, none⟩) left.length d) := rr_cell He.tail (List.mem_cons_self ..) 2
      have hr4 := wn_pre (EW _ (He.sel 5 [])) (k := i) (by omega)
      have hb0 : ([] : List Wn).length + (left.take i).length ≤ 5864062014805 := by simp only [List.length_nil, List.length_take]; omega
      have hb1 : (left.take i).length + (left.drop (i + 1)).length ≤ 5864062014805 := by simp only [List.length_take, List.length_drop]; omega
      clear H11
      by_cases hcp : d = i + 1
      · have hli : left.length = i + 1 := by omega
        subst hcp
        go_wp2_with (first
          | (at_builtin; refine append_wants (v := .slice (some ⟨wc.heap.size, 0, none⟩) 0 0) (xv := .slice (some ⟨bl, ol, none⟩) i (i + 1)) (xs := []) (ys := left.take i) rfl _ _ rfl He rfl rfl hr4 hb0 ?_; intro z8 w8 H8; clear He hr4 c2; rw [List.nil_append] at H8; obtain ⟨A8, c8, e8, -, -, -⟩ := row_shape H8.head; generalize (left.take i).length = n8 at e8; subst e8; have c2' : w8.cell? ⟨p, 2, none⟩ = some (.slice (some ⟨bl, ol, none⟩) left.length (i + 1)) := rr_cell H8.tail (List.mem_cons_self ..) 2; have hr8'' := wn_suf (a' := ⟨bl, ol, none⟩) (EW _ (H8.sel 5 [])) (lo := i + 1) (by omega) (.inr hli); have hr8 : Rd 3 (.slice (some ⟨bl, ol, none⟩) (left.length - (i + 1)) 0) (left.drop (i + 1)).length ((left.drop (i + 1)).flatMap encW) w8 := (by have := hr8''; rwa [Nat.sub_self] at this); have hr8' : Rd 3 (.slice (some ⟨bl, ol, none⟩) 0 0) (left.drop (i + 1)).length ((left.drop (i + 1)).flatMap encW) w8 := (by have := hr8; rwa [show left.length - (i + 1) = 0 by omega] at this))
          | (at_builtin; (first | refine append_wants (v := .slice A8 n8 c8) (xv := (.slice (some ⟨bl, ol, none⟩) (left.length - (i + 1)) 0)) (xs := left.take i) (ys := left.drop (i + 1)) rfl _ _ rfl H8 rfl rfl hr8 hb1 ?_ | refine append_wants (v := .slice A8 n8 c8) (xv := (.slice (some ⟨bl, ol, none⟩) 0 0)) (xs := left.take i) (ys := left.drop (i + 1)) rfl _ _ rfl H8 rfl rfl hr8' hb1 ?_ | refine append_wants (v := .slice A8 n8 c8) (xv := (.slice (some ⟨bl, ol, none⟩) (left.length - (i + 1)) (i + 1 - (i + 1)))) (xs := left.take i) (ys := left.drop (i + 1)) rfl _ _ rfl H8 rfl rfl hr8'' hb1 ?_); intro z9 w9 H9; clear H8 c2'; obtain ⟨A9, c9, e9, -, -, -⟩ := row_shape H9.head; generalize (left.take i ++ left.drop (i + 1)).length = n9 at e9; subst e9; have c2'' : w9.cell? ⟨p, 2, none⟩ = some (.slice (some ⟨bl, ol, none⟩) left.length (i + 1)) := rr_cell H9.tail (List.mem_cons_self ..) 2; have f2'' : w9.frozen? ⟨p, 2, none⟩ = false := rr_frozen H9.tail (List.mem_cons_self ..) 2; have HS := HL.setAt [_] (h := H9) 2 (.slice A9 n9 c9)))
        go_end0
        rw [← List.eraseIdx_eq_take_drop_succ] at HS
        exact ⟨.slice A9 n9 c9, .slice A7 (runs.length + 1) c7, us4, wantsAt w0.heap.size (.slice A9 n9 c9) (left.eraseIdx i) :: runsAt w0.heap.size (.slice A7 (runs.length + 1) c7) (runs ++ [(⟨x.nodes, n0 + x.limit⟩ : Rn)]) :: K, rfl, HS.sel 5 [1, 2, 0, 4], entWants _, Ent.cons (entRuns (xs := runs ++ [(⟨x.nodes, n0 + x.limit⟩ : Rn)]) _) _, [_, _], rfl⟩
      · have hlt2 : i + 1 ≤ left.length := by omega
        go_wp2_with (first
          | (at_builtin; refine append_wants (v := .slice (some ⟨wc.heap.size, 0, none⟩) 0 0) (xv := .slice (some ⟨bl, ol, none⟩) i d) (xs := []) (ys := left.take i) rfl _ _ rfl He rfl rfl hr4 hb0 ?_; intro z8 w8 H8; clear He hr4 c2; rw [List.nil_append] at H8; obtain ⟨A8, c8, e8, -, -, -⟩ := row_shape H8.head; generalize (left.take i).length = n8 at e8; subst e8; have c2' : w8.cell? ⟨p, 2, none⟩ = some (.slice (some ⟨bl, ol, none⟩) left.length d) := rr_cell H8.tail (List.mem_cons_self ..) 2; have hr8 := wn_suf (a' := ⟨bl, ol + (i + 1) * 3, none⟩) (EW _ (H8.sel 5 [])) (lo := i + 1) (by omega) (.inl (add_plain bl ol _).symm))
          | (at_builtin; (first | refine append_wants (v := .slice A8 n8 c8) (xv := (.slice (some ⟨bl, ol + (i + 1) * 3, none⟩) (left.length - (i + 1)) (d - (i + 1)))) (xs := left.take i) (ys := left.drop (i + 1)) rfl _ _ rfl H8 rfl rfl hr8 hb1 ?_); intro z9 w9 H9; clear H8 c2'; obtain ⟨A9, c9, e9, -, -, -⟩ := row_shape H9.head; generalize (left.take i ++ left.drop (i + 1)).length = n9 at e9; subst e9; have c2'' : w9.cell? ⟨p, 2, none⟩ = some (.slice (some ⟨bl, ol, none⟩) left.length d) := rr_cell H9.tail (List.mem_cons_self ..) 2; have f2'' : w9.frozen? ⟨p, 2, none⟩ = false := rr_frozen H9.tail (List.mem_cons_self ..) 2; have HS := HL.setAt [_] (h := H9) 2 (.slice A9 n9 c9)))
        go_end0
        rw [← List.eraseIdx_eq_take_drop_succ] at HS
        exact ⟨.slice A9 n9 c9, .slice A7 (runs.length + 1) c7, us4, wantsAt w0.heap.size (.slice A9 n9 c9) (left.eraseIdx i) :: runsAt w0.heap.size (.slice A7 (runs.length + 1) c7) (runs ++ [(⟨x.nodes, n0 + x.limit⟩ : Rn)]) :: K, rfl, HS.sel 5 [1, 2, 0, 4], entWants _, Ent.cons (entRuns (xs := runs ++ [(⟨x.nodes, n0 + x.limit⟩ : Rn)]) _) _, [_, _], rfl⟩
end
end Go.Proofs.Ytebibcaahjmjfaa

/- The law VerbsWrites. -/
import Derived.Test.YtdekbbffoaphhaaDoorVeLawBack
import Derived.Test.YtdekbbffoaphhaaDoorVeRefPrt
import Derived.Deep.RegionHeld3
import Derived.OrdersHeld
set_option linter.unusedVariables false
set_option linter.unusedSimpArgs false
namespace Go.Proofs.YtdekbbffoaphhaaDoor
open Go.RowKit Go.Proofs.HL Go.Proofs.Ve
section
variable {w0 w : World} {L : List At}
theorem Ref.print_no (H : HL w0 w L) (c : Cm) (hc : CmOk c) (hno : checkB c = false) :
    Calls Tryd.prog 16 #[cmV c] w fun e w' => e = .returned (.tuple #[.string ⟨#[]⟩, .int .i64 84]) ∧ HL w0 w' L := by
  have H1 := HL.allocC H c
  have hck := Ref.check_ok H1 c (by have := hc.name; omega) (by have := hc.par; omega)
  rw [refN_eq, checkN_no hno] at hck
  have c1 := boxC_at H1 (b := w.heap.size) (c := c) (List.mem_cons_self ..)
  generalize hb1 : w.heap.size = b1 at *
  unfold cmV at hck ⊢
  have n0 := c1 0; have n1 := c1 1; have n2 := c1 2; have n3 := c1 3; have n4 := c1 4; have n5 := c1 5; have n6 := c1 6; have n7 := c1 7
  clear c1
  go_enter Tryd.func16, Tryd.ntmps16
  go_wp2_with (go_at_call 18; refine hck.mono ?_; rintro e w2 ⟨rfl, H2⟩; clear hck)
  go_ret2
  exact ⟨rfl, H2.tail⟩
end
/-- What both print. -/
def prT (c : Cm) : ByteArray := if checkB c then ⟨(printL c).toArray⟩ else ⟨#[]⟩
set_option maxRecDepth 100000 in
set_option maxHeartbeats 8000000 in
theorem verbsWrites_law {w : World} (hD : Doors w) {c : Cm} (hc : CmOk c) :
    Calls Tryd.prog 4 #[cmV c] w fun e w' => e = .returned (.bool true) ∧ Below w.heap.size w w' := by
  have H0 := HL.allocC (HL.start w) c
  have hs := shown_ok hD H0
  have hcn : c.name.size ≤ 9223372036854775807 := by have := hc.name; omega
  have hcp : c.par.size ≤ 9223372036854775807 := by have := hc.par; omega
  have hck := fun W L' (HH : HL w W L') => check_ok HH c hcn hcp
  have hckr := fun W L' (HH : HL w W L') => Ref.check_ok HH c hcn hcp
  rw [refN_eq] at hckr
  obtain ⟨s, n, hp, hpr⟩ : ∃ (s : ByteArray) (n : Int), (∀ W L', HL w W L' → Calls Tryd.prog 15 #[cmV c] W fun e w' => e = .returned (.tuple #[.string s, .int .i64 n]) ∧ HL w w' L') ∧ (∀ W L', HL w W L' → Calls Tryd.prog 16 #[cmV c] W fun e w' => e = .returned (.tuple #[.string s, .int .i64 n]) ∧ HL w w' L') := by
    cases hb : checkB c with
    | true => exact ⟨_, _, fun W L' HH => print_ok hD HH c hc hb, fun W L' HH => Ref.print_ok HH c hc hb⟩
    | false => exact ⟨_, _, fun W L' HH => print_no HH c hc hb, fun W L' HH => Ref.print_no HH c hc hb⟩
  generalize checkN c = k at hck hckr
  generalize hb1 : w.heap.size = b1 at *
  clear H0
  unfold cmV at *
  go_enter Tryd.func4, Tryd.ntmps4
  go_wp2_with (first
    | (go_at_call 10; refine hs.mono ?_; rintro e w1 ⟨rfl, H1⟩; clear hs; obtain ⟨n0, n1, n2, n3, n4, n5, n6, n7⟩ := boxC_cells H1)
    | (go_at_call 15; (with_reducible refine (hp _ _ H1).mono ?_); rintro e w2 ⟨rfl, H2⟩; clear H1 n0 n1 n2 n3 n4 n5 n6 n7; obtain ⟨n0, n1, n2, n3, n4, n5, n6, n7⟩ := boxC_cells H2)
    | (go_at_call 16; (with_reducible refine (hpr _ _ H2).mono ?_); rintro e w3 ⟨rfl, H3⟩; clear H2 n0 n1 n2 n3 n4 n5 n6 n7; obtain ⟨n0, n1, n2, n3, n4, n5, n6, n7⟩ := boxC_cells H3))
  refine wp_region_held_drew (S := fun w' => w'.cell? ⟨b1, 0, none⟩ = some (.int .i64 c.kind) ∧ w'.cell? ⟨b1, 1, none⟩ = some (.string c.name) ∧ w'.cell? ⟨b1, 2, none⟩ = some (.string c.par) ∧ w'.cell? ⟨b1, 3, none⟩ = some (.int .i64 c.sh) ∧ w'.cell? ⟨b1, 4, none⟩ = some (.int .i64 c.nd) ∧ w'.cell? ⟨b1, 5, none⟩ = some (.int .i64 c.lm) ∧ w'.cell? ⟨b1, 6, none⟩ = some (.int .i64 c.jb) ∧ w'.cell? ⟨b1, 7, none⟩ = some (.int .i64 c.tk)) (by kernel_rfl) (boxC_cells (H3.drewN 1)) (fun hHeld => ?_)
  refine wpAnyH_take (i := 0) (v := ?_) rfl (by kernel_rfl) (by kernel_rfl) (by kernel_rfl) (fun _ _ _ h => h) (Or.inl ⟨by rfl, ?_⟩) (by assumption) ?_
  rotate_left
  · (intro w hSw; (try dsimp only at hSw); (try obtain ⟨n0, n1, n2, n3, n4, n5, n6, n7⟩ := hSw); go_simp; try with_reducible rfl)
  simp only [Act.put, List.getElem_toArray, List.getElem_cons_zero, List.getElem_cons_succ, List.setIfInBounds_toArray, List.set_cons_zero, List.set_cons_succ]
  refine wpAnyH_take (i := 1) (v := ?_) rfl (by kernel_rfl) (by kernel_rfl) (by kernel_rfl) (fun _ _ _ h => h) (Or.inl ⟨by rfl, ?_⟩) (by assumption) ?_
  rotate_left
  · (intro w hSw; (try dsimp only at hSw); (try obtain ⟨n0, n1, n2, n3, n4, n5, n6, n7⟩ := hSw); go_simp; try with_reducible rfl)
  simp only [Act.put, List.getElem_toArray, List.getElem_cons_zero, List.getElem_cons_succ, List.setIfInBounds_toArray, List.set_cons_zero, List.set_cons_succ]
  refine wpAnyH_take (i := 2) (v := ?_) rfl (by kernel_rfl) (by kernel_rfl) (by kernel_rfl) (fun _ _ _ h => h) (Or.inl ⟨by rfl, ?_⟩) (by assumption) ?_
  rotate_left
  · (intro w hSw; (try dsimp only at hSw); (try obtain ⟨n0, n1, n2, n3, n4, n5, n6, n7⟩ := hSw); go_simp; try with_reducible rfl)
  simp only [Act.put, List.getElem_toArray, List.getElem_cons_zero, List.getElem_cons_succ, List.setIfInBounds_toArray, List.set_cons_zero, List.set_cons_succ]
  refine wpAnyH_take (i := 3) (v := ?_) rfl (by kernel_rfl) (by kernel_rfl) (by kernel_rfl) (fun _ _ _ h => h) (Or.inl ⟨by rfl, ?_⟩) (by assumption) ?_
  rotate_left
  · (intro w hSw; (try dsimp only at hSw); (try obtain ⟨n0, n1, n2, n3, n4, n5, n6, n7⟩ := hSw); go_simp; try with_reducible rfl)
  simp only [Act.put, List.getElem_toArray, List.getElem_cons_zero, List.getElem_cons_succ, List.setIfInBounds_toArray, List.set_cons_zero, List.set_cons_succ]
  refine wpAnyH_take (i := 4) (v := ?_) rfl (by kernel_rfl) (by kernel_rfl) (by kernel_rfl) (fun _ _ _ h => h) (Or.inl ⟨by rfl, ?_⟩) (by assumption) ?_
  rotate_left
  · (intro w hSw; (try dsimp only at hSw); (try obtain ⟨n0, n1, n2, n3, n4, n5, n6, n7⟩ := hSw); go_simp; try with_reducible rfl)
  simp only [Act.put, List.getElem_toArray, List.getElem_cons_zero, List.getElem_cons_succ, List.setIfInBounds_toArray, List.set_cons_zero, List.set_cons_succ]
  refine wpAnyH_take (i := 5) (v := ?_) rfl (by kernel_rfl) (by kernel_rfl) (by kernel_rfl) (fun _ _ _ h => h) (Or.inl ⟨by rfl, ?_⟩) (by assumption) ?_
  rotate_left
  · (intro w hSw; (try dsimp only at hSw); (try obtain ⟨n0, n1, n2, n3, n4, n5, n6, n7⟩ := hSw); go_simp; try with_reducible rfl)
  simp only [Act.put, List.getElem_toArray, List.getElem_cons_zero, List.getElem_cons_succ, List.setIfInBounds_toArray, List.set_cons_zero, List.set_cons_succ]
  refine wpAnyH_take (i := 6) (v := ?_) rfl (by kernel_rfl) (by kernel_rfl) (by kernel_rfl) (fun _ _ _ h => h) (Or.inl ⟨by rfl, ?_⟩) (by assumption) ?_
  rotate_left
  · (intro w hSw; (try dsimp only at hSw); (try obtain ⟨n0, n1, n2, n3, n4, n5, n6, n7⟩ := hSw); go_simp; try with_reducible rfl)
  simp only [Act.put, List.getElem_toArray, List.getElem_cons_zero, List.getElem_cons_succ, List.setIfInBounds_toArray, List.set_cons_zero, List.set_cons_succ]
  refine wpAnyH_take (i := 7) (v := ?_) rfl (by kernel_rfl) (by kernel_rfl) (by kernel_rfl) (fun _ _ _ h => h) (Or.inl ⟨by rfl, ?_⟩) (by assumption) ?_
  rotate_left
  · (intro w hSw; (try dsimp only at hSw); (try obtain ⟨n0, n1, n2, n3, n4, n5, n6, n7⟩ := hSw); go_simp; try with_reducible rfl)
  simp only [Act.put, List.getElem_toArray, List.getElem_cons_zero, List.getElem_cons_succ, List.setIfInBounds_toArray, List.set_cons_zero, List.set_cons_succ]
  refine wpAnyH_take (i := 8) (v := ?_) rfl (by kernel_rfl) (by kernel_rfl) (by kernel_rfl) (fun _ _ _ h => h) (Or.inl ⟨by rfl, ?_⟩) (by assumption) ?_
  rotate_left
  · (intro w hSw; (try dsimp only at hSw); (try obtain ⟨n0, n1, n2, n3, n4, n5, n6, n7⟩ := hSw); go_simp; try with_reducible rfl)
  simp only [Act.put, List.getElem_toArray, List.getElem_cons_zero, List.getElem_cons_succ, List.setIfInBounds_toArray, List.set_cons_zero, List.set_cons_succ]
  refine wpAnyH_take (i := 9) (v := ?_) rfl (by kernel_rfl) (by kernel_rfl) (by kernel_rfl) (fun _ _ _ h => h) (Or.inl ⟨by rfl, ?_⟩) (by assumption) ?_
  rotate_left
  · (intro w hSw; (try dsimp only at hSw); (try obtain ⟨n0, n1, n2, n3, n4, n5, n6, n7⟩ := hSw); go_simp; try with_reducible rfl)
  simp only [Act.put, List.getElem_toArray, List.getElem_cons_zero, List.getElem_cons_succ, List.setIfInBounds_toArray, List.set_cons_zero, List.set_cons_succ]
  refine wpAnyH_take (i := 11) (v := ?_) rfl (by kernel_rfl) (by kernel_rfl) (by kernel_rfl) (fun _ _ _ h => h) (Or.inl ⟨by rfl, ?_⟩) (by assumption) ?_
  rotate_left
  · (intro w hSw; (try dsimp only at hSw); (try obtain ⟨n0, n1, n2, n3, n4, n5, n6, n7⟩ := hSw); go_simp; try with_reducible rfl)
  simp only [Act.put, List.getElem_toArray, List.getElem_cons_zero, List.getElem_cons_succ, List.setIfInBounds_toArray, List.set_cons_zero, List.set_cons_succ]
  refine wpAnyH_ready (rs := [10]) (by kernel_rfl) (by simp) ?_
  refine AllReadyH.cons rfl (fun K' hK' => ?_) AllReadyH.nil
  dsimp only [List.getElem_toArray, List.getElem_cons_succ, List.getElem_cons_zero]
  go_simp
  go_at_call 17
  refine (hck _ _ (H3.drewN 1)).mono ?_
  rintro e w4 ⟨rfl, H_w4⟩
  dsimp only
  go_simp
  refine hK'.out _ _ (boxC_cells H_w4) (fun hHeld => ?_)
  clear hK' K'
  refine wpAnyH_ready (rs := [12]) (by kernel_rfl) (by simp) ?_
  refine AllReadyH.cons rfl (fun K' hK' => ?_) AllReadyH.nil
  dsimp only [List.getElem_toArray, List.getElem_cons_succ, List.getElem_cons_zero]
  go_simp
  go_at_call 18
  refine (hckr _ _ H_w4).mono ?_
  rintro e w5 ⟨rfl, H_w5⟩
  dsimp only
  go_simp
  refine hK'.out _ _ (boxC_cells H_w5) (fun hHeld => ?_)
  clear hK' K'
  refine wpAnyH_take (i := 13) (v := ?_) rfl (by kernel_rfl) (by kernel_rfl) (by kernel_rfl) (fun _ _ _ h => h) (Or.inl ⟨by rfl, ?_⟩) (by assumption) ?_
  rotate_left
  · (intro w hSw; (try dsimp only at hSw); (try obtain ⟨n0, n1, n2, n3, n4, n5, n6, n7⟩ := hSw); go_simp; try with_reducible rfl)
  simp only [Act.put, List.getElem_toArray, List.getElem_cons_zero, List.getElem_cons_succ, List.setIfInBounds_toArray, List.set_cons_zero, List.set_cons_succ]
  refine wpAnyH_take (i := 14) (v := ?_) rfl (by kernel_rfl) (by kernel_rfl) (by kernel_rfl) (fun _ _ _ h => h) (Or.inl ⟨by rfl, ?_⟩) (by assumption) ?_
  rotate_left
  · (intro w hSw; (try dsimp only at hSw); (try obtain ⟨n0, n1, n2, n3, n4, n5, n6, n7⟩ := hSw); go_simp; try with_reducible rfl)
  simp only [Act.put, List.getElem_toArray, List.getElem_cons_zero, List.getElem_cons_succ, List.setIfInBounds_toArray, List.set_cons_zero, List.set_cons_succ]
  refine wpAnyH_take (i := 15) (v := ?_) rfl (by kernel_rfl) (by kernel_rfl) (by kernel_rfl) (fun _ _ _ h => h) (Or.inl ⟨by rfl, ?_⟩) (by assumption) ?_
  rotate_left
  · (intro w hSw; (try dsimp only at hSw); (try obtain ⟨n0, n1, n2, n3, n4, n5, n6, n7⟩ := hSw); go_simp; try with_reducible rfl)
  simp only [Act.put, List.getElem_toArray, List.getElem_cons_zero, List.getElem_cons_succ, List.setIfInBounds_toArray, List.set_cons_zero, List.set_cons_succ]
  refine wpAnyH_done (by kernel_rfl) ?_ _
  go_wp2
  go_ret
  exact ⟨rfl, by rw [← hb1]; exact H_w5.below⟩
end Go.Proofs.YtdekbbffoaphhaaDoor

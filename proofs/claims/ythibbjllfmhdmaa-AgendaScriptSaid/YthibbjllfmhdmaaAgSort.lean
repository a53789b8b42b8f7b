/- The order of an agenda's spots, and the sort by it. -/
import Derived.Test.YthibbjllfmhdmaaProg
import Derived.Test.YthibbjllfmhdmaaAgCore
import Derived.Test.YthibbjllfmhdmaaRegion
import Derived.Test.YthibbjllfmhdmaaFlat
import Derived.Test.YthibbjllfmhdmaaSortLay
import Derived.Deep.QuietTactic
import Derived.BigQuiet
import Derived.Outline
import Derived.IntWalk
import Derived.OwnWalk
import Derived.StillTailTactics
import Derived.Deep.RegionWith
import Derived.Handy
import Derived.Sort.Grow
import Derived.KernelRfl
set_option linter.unusedVariables false
set_option linter.unusedSimpArgs false
namespace Go.Proofs.Ythibbjllfmhdmaa.AgSort
open Go.RowKit Go.Proofs.HL

def cmpI (x y : Int) : Int := if x < y then -1 else if y < x then 1 else 0

theorem isNaN_ok (x : Int) (w : World) : Calls Try.prog 68 #[.int .i64 x] w fun e w' => e = .returned (.bool false) ∧ w = w' := by
  go_enter Try.func68, Try.ntmps68
  go_wp2
  go_ret
  simp

set_option maxRecDepth 100000 in
set_option maxHeartbeats 400000 in
theorem compare_ok (x y : Int) (w : World) : Calls Try.prog 57 #[.int .i64 x, .int .i64 y] w fun e w' => e = .returned (.int .i64 (cmpI x y)) ∧ w = w' := by
  by_cases h1 : x < y
  · have hc : cmpI x y = -1 := by simp [cmpI, h1]
    rw [hc]
    clear hc
    go_enter Try.func57, Try.ntmps57
    go_wp2_with (go_at_call 68; refine (isNaN_ok _ _).mono ?_; rintro e w' ⟨rfl, rfl⟩)
    go_ret
    exact ⟨rfl, rfl⟩
  · by_cases h2 : y < x
    · have hc : cmpI x y = 1 := by simp [cmpI, h1, h2]
      rw [hc]
      clear hc
      go_enter Try.func57, Try.ntmps57
      go_wp2_with (go_at_call 68; refine (isNaN_ok _ _).mono ?_; rintro e w' ⟨rfl, rfl⟩)
      go_ret
      exact ⟨rfl, rfl⟩
    · have hc : cmpI x y = 0 := by simp [cmpI, h1, h2]
      rw [hc]
      clear hc
      go_enter Try.func57, Try.ntmps57
      go_wp2_with (go_at_call 68; refine (isNaN_ok _ _).mono ?_; rintro e w' ⟨rfl, rfl⟩)
      go_ret
      exact ⟨rfl, rfl⟩

def or2 (x y : Int) : Int := if x = 0 then y else x

set_option maxRecDepth 100000 in
set_option maxHeartbeats 400000 in
theorem or_ok (x y : Int) (b : Nat) (w : World) (c0 : w.cell? ⟨b, 0, none⟩ = some (.int .i64 x)) (c1 : w.cell? ⟨b, 1, none⟩ = some (.int .i64 y)) :
    Calls Try.prog 56 #[.slice (some ⟨b, 0, none⟩) 2 2] w fun e w' => e = .returned (.int .i64 (or2 x y)) ∧ w = w' := by
  by_cases h1 : x = 0
  · subst h1
    have hc : or2 0 y = y := by simp [or2]
    rw [hc]
    clear hc
    by_cases h2 : y = 0
    · subst h2
      go_enter Try.func56, Try.ntmps56
      go_wp2
      go_rounds 3
      go_ret
      exact ⟨rfl, rfl⟩
    · have hb : (y != 0) = true := by simp [h2]
      clear h2
      go_enter Try.func56, Try.ntmps56
      go_wp2
      go_rounds 2
      go_ret
      exact ⟨rfl, rfl⟩
  · have hc : or2 x y = x := by simp [or2, h1]
    rw [hc]
    clear hc
    have hb : (x != 0) = true := by simp [h1]
    clear h1
    go_enter Try.func56, Try.ntmps56
    go_wp2
    go_rounds 1
    go_ret
    exact ⟨rfl, rfl⟩

/-- The order of two spots (time, number). -/
def cmpSpot (x y : Int × Int) : Int := or2 (cmpI x.1 y.1) (cmpI x.2 y.2)

set_option maxRecDepth 100000 in
set_option maxHeartbeats 400000 in
theorem order_ok (x y : Int × Int) (w : World) : Calls Try.prog 52 #[.agg #[.int .i64 x.1, .int .i64 x.2], .agg #[.int .i64 y.1, .int .i64 y.2]] w fun e w' =>
    e = .returned (.int .i64 (cmpSpot x y)) ∧ ∃ q os, w' = Sort.grow (w.drewN q) os := by
  obtain ⟨x1, x2⟩ := x
  obtain ⟨y1, y2⟩ := y
  have hx := compare_ok x1 y1
  have hy := compare_ok x2 y2
  have hs : cmpSpot (x1, x2) (y1, y2) = or2 (cmpI x1 y1) (cmpI x2 y2) := rfl
  rw [hs]
  clear hs
  generalize cmpI x1 y1 = r at hx ⊢
  generalize cmpI x2 y2 = s at hy ⊢
  go_enter Try.func52, Try.ntmps52
  go_wp2
  refine wp_region_cut 10 (by kernel_rfl) (by kernel_rfl) ?_
  simp only [List.take_succ_cons, List.take_zero, List.drop_succ_cons, List.drop_zero]
  repeat (go_big_quiet_step ((first | (go_at_call_of 57 (Value.int .i64 x1); exact Calls.quiet_of_same ((hx _).mono fun e w' h => ⟨h.1, h.2.symm⟩)) | (go_at_call 57; exact Calls.quiet_of_same ((hy _).mono fun e w' h => ⟨h.1, h.2.symm⟩)))))
  refine wpQuiet_nil ?_
  intro nq
  go_wp2_with (go_at_call 56; refine (or_ok r s _ _ ?_ ?_).mono ?_; (simp [go_sem]); (simp [go_sem]); rintro e w' ⟨rfl, rfl⟩)
  go_ret
  refine ⟨rfl, nq, #[.cells #[.int .i64 x1, .int .i64 x2] 71] ++ #[.cells #[.int .i64 y1, .int .i64 y2] 71] ++ #[.cells #[.int .i64 r, .int .i64 s] 3], ?_⟩
  show (((w.drewN nq).alloc _).alloc _).alloc _ = _
  rw [Sort.alloc_eq_grow, Sort.alloc_eq_grow, Sort.alloc_eq_grow, Sort.grow_grow, Sort.grow_grow, Array.append_assoc]

/-! ### The sort by it -/
open Go.Sort Go.Lib Go.Shelf

def encSp (x : Int × Int) : List Value := [.int .i64 x.1, .int .i64 x.2]
/-- x comes ahead of y. -/
def ahead (x y : Int × Int) : Bool := decide (x.1 < y.1) || (decide (x.1 = y.1) && decide (x.2 < y.2))

theorem lt_spot (x y : Int × Int) : ltOf cmpSpot x y = ahead x y := by
  unfold ltOf cmpSpot or2 cmpI ahead
  rw [Bool.eq_iff_iff]
  simp only [decide_eq_true_eq, Bool.or_eq_true, Bool.and_eq_true]
  repeat' split
  all_goals omega

theorem ahead_iff (x y : Int × Int) : ahead x y = true ↔ x.1 < y.1 ∨ x.1 = y.1 ∧ x.2 < y.2 := by
  unfold ahead
  simp

theorem swoSpot : SWO (ltOf cmpSpot) where
  irrefl x := by rw [lt_spot, Bool.eq_false_iff, ne_eq, ahead_iff]; omega
  trans x y z h1 h2 := by rw [lt_spot, ahead_iff] at *; omega
  ntrans x y z h1 h2 := by rw [lt_spot, Bool.eq_false_iff, ne_eq, ahead_iff] at *; omega

theorem totSpot (x y : Int × Int) (h1 : ltOf cmpSpot x y = false) (h2 : ltOf cmpSpot y x = false) : x = y := by
  rw [lt_spot, Bool.eq_false_iff, ne_eq, ahead_iff] at *
  obtain ⟨x1, x2⟩ := x
  obtain ⟨y1, y2⟩ := y
  simp only at h1 h2
  rw [Prod.mk.injEq]
  omega

/-- The spots in their order. -/
def sortSp (ss : List (Int × Int)) : List (Int × Int) := ss.mergeSort fun x y => !ahead y x

theorem sortSp_perm {l l' : List (Int × Int)} (h : l.Perm l') : sortSp l = sortSp l' := by
  have tr : ∀ a b c : Int × Int, (!ahead b a) = true → (!ahead c b) = true → (!ahead c a) = true := by
    intro a b c h1 h2
    simp only [Bool.not_eq_true', Bool.eq_false_iff, ne_eq, ahead_iff] at *
    omega
  have tt : ∀ a b : Int × Int, ((!ahead b a) || (!ahead a b)) = true := by
    intro a b
    simp only [Bool.or_eq_true, Bool.not_eq_true', Bool.eq_false_iff, ne_eq, ahead_iff]
    omega
  have hp : (sortSp l).Perm (sortSp l') := (List.mergeSort_perm l _).trans (h.trans (List.mergeSort_perm l' _).symm)
  refine hp.eq_of_pairwise (fun a b _ _ h1 h2 => ?_) (List.pairwise_mergeSort tr tt l) (List.pairwise_mergeSort tr tt l')
  simp only [Bool.not_eq_true', Bool.eq_false_iff, ne_eq, ahead_iff] at h1 h2
  obtain ⟨a1, a2⟩ := a
  obtain ⟨b1, b2⟩ := b
  simp only at h1 h2
  rw [Prod.mk.injEq]
  omega

theorem sort_ok {w0 w : World} {L : List At} {base : Nat} {v : Value} {n : Nat} (ss : List (Int × Int)) (hsz : ss.length < 4611686018427387904) (H : HL w0 w (row base 71 2 v n (ss.flatMap encSp) :: L)) :
    Calls Try.prog 51 #[v, .func (.func 52) #[] #[]] w fun e w' => e = .returned (.tuple #[]) ∧ HL w0 w' (row base 71 2 v n ((sortSp ss).flatMap encSp) :: L) := by
  have hn : n = ss.length := by
    have h1 := H.head.1
    rw [flat_length encSp 2 (fun _ => rfl)] at h1
    omega
  subst hn
  rcases H.head.2 with ⟨rfl, h0⟩ | ⟨g, cap, cur, rfl, hrest⟩
  · obtain rfl : ss = [] := List.eq_nil_of_length_eq_zero h0
    have hcon := AnyF.slices_SortFunc_none (P := Try.prog) { Try.sortSpot with } none 0 (.func (.func 52) #[] #[]) w
    refine hcon.mono ?_
    rintro e w' ⟨rfl, rfl⟩
    exact ⟨rfl, by simpa [sortSp] using H⟩
  · obtain ⟨hH, hlt⟩ := H.holdsK encSp 2 (fun _ => rfl) (by decide)
    have eg : ∀ args w, (callFunc 52 args).run Try.prog w = .ok (.enter 52 args) w := enters_of Try.func52 (by kernel_rfl) rfl
    have hcon := AnyQ.slices_SortFunc_total Try.sortSpot 2 Try.isAgg71 Try.sizeOf71 encSp (fun _ => rfl) (fun x v hv => by simp [encSp] at hv; rcases hv with rfl | rfl <;> rfl) cmpSpot swoSpot 52 #[] g 0 cap ss.toArray w eg
      (fun _ _ _ _ x y => order_ok x y _) hH hlt (by simpa using hsz) totSpot
    refine hcon.mono ?_
    rintro e w' ⟨rfl, m, os, rfl⟩
    refine ⟨rfl, ?_⟩
    have he : (fun x y : Int × Int => !(ltOf cmpSpot) y x) = fun x y => !ahead y x := by
      funext x y
      rw [lt_spot]
    rw [he]
    exact H.sorted encSp 2 (fun _ => rfl) (by decide) _ (List.length_mergeSort _) m os
end Go.Proofs.Ythibbjllfmhdmaa.AgSort

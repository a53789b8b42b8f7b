/- Runs by their ends: the comparison, the sort by it. -/
import Derived.Test.YtebibcaahjmjfaaPrSmall
import Derived.Test.YtebibcaahjmjfaaCmpInt
import Derived.Test.YtebibcaahjmjfaaFlat
import Derived.Test.YtebibcaahjmjfaaSortLay
import Derived.Sort.Grow
set_option linter.unusedVariables false
set_option linter.unusedSimpArgs false
namespace Go.Proofs.Ytebibcaahjmjfaa
open Go.RowKit Go.Proofs.HL Go.Proofs.HL.Pr

def cmpRun (x y : Rn) : Int := cmpI x.fin y.fin
set_option maxRecDepth 100000 in
set_option maxHeartbeats 400000 in
theorem cmpRun_ok (x y : Rn) (w : World) : Calls Try.prog 44 #[.agg #[.int .i64 x.nodes, .int .i64 x.fin], .agg #[.int .i64 y.nodes, .int .i64 y.fin]] w fun e w' =>
    e = .returned (.int .i64 (cmpRun x y)) ∧ ∃ q os, w' = Sort.grow (w.drewN q) os := by
  obtain ⟨x1, x2⟩ := x
  obtain ⟨y1, y2⟩ := y
  have hx := compare_ok x2 y2
  have hs : cmpRun ⟨x1, x2⟩ ⟨y1, y2⟩ = cmpI x2 y2 := rfl
  rw [hs]
  clear hs
  generalize cmpI x2 y2 = r at hx ⊢
  go_enter Try.func44, Try.ntmps44
  go_wp2_with (go_at_call 45; refine (hx _).mono ?_; rintro e w' ⟨rfl, rfl⟩)
  go_ret
  refine ⟨rfl, 0, #[.cells #[.int .i64 x1, .int .i64 x2] 42] ++ #[.cells #[.int .i64 y1, .int .i64 y2] 42], ?_⟩
  show (w.alloc _).alloc _ = _
  rw [Sort.alloc_eq_grow, Sort.alloc_eq_grow, Sort.grow_grow]
  rfl

open Go.Sort Go.Lib Go.Shelf
theorem lt_run (x y : Rn) : ltOf cmpRun x y = decide (x.fin < y.fin) := by
  unfold ltOf cmpRun cmpI
  rw [Bool.eq_iff_iff]
  simp only [decide_eq_true_eq]
  repeat' split
  all_goals omega
theorem swoRun : SWO (ltOf cmpRun) where
  irrefl x := by rw [lt_run]; simp
  trans x y z h1 h2 := by rw [lt_run, decide_eq_true_eq] at *; omega
  ntrans x y z h1 h2 := by rw [lt_run, decide_eq_false_iff_not] at *; omega
instance : Inhabited Rn := ⟨⟨0, 0⟩⟩
theorem sort_ok {w0 w : World} {L : List At} {v : Value} (ss : List Rn) (hsz : ss.length < 4611686018427387904) (H : HL w0 w (runsAt w0.heap.size v ss :: L)) :
    Calls Try.prog 43 #[v, .func (.func 44) #[] #[]] w fun e w' => ∃ ts, e = .returned (.tuple #[]) ∧ ts.Perm ss ∧ Rise ts ∧ HL w0 w' (runsAt w0.heap.size v ts :: L) := by
  rcases H.head.2 with ⟨rfl, h0⟩ | ⟨g, cap, cur, rfl, hrest⟩
  · obtain rfl : ss = [] := List.eq_nil_of_length_eq_zero h0
    have hcon := AnyF.slices_SortFunc_none (P := Try.prog) { Try.sortRun with } none 0 (.func (.func 44) #[] #[]) w
    refine hcon.mono ?_
    rintro e w' ⟨rfl, rfl⟩
    exact ⟨[], rfl, List.Perm.refl _, List.Pairwise.nil, H⟩
  · obtain ⟨hH, hlt⟩ := HL.holdsK encR 2 (fun _ => rfl) (by decide) H
    have eg : ∀ args w, (callFunc 44 args).run Try.prog w = .ok (.enter 44 args) w := enters_of Try.func44 (by kernel_rfl) rfl
    have hcon := AnyQ.slices_SortFunc Try.sortRun 2 Try.isAgg42 Try.sizeOf42 encR (fun _ => rfl) (fun x v hv => by simp [encR] at hv; rcases hv with rfl | rfl <;> rfl) cmpRun swoRun 44 #[] g 0 cap ss.toArray w eg
      (fun _ _ _ _ x y => cmpRun_ok x y _) hH hlt (by simpa using hsz)
    refine hcon.mono ?_
    rintro e w' ⟨rfl, d', m, os, hp, hs, rfl⟩
    obtain ⟨hsz', -, hperm⟩ := hp
    rw [show ss.toArray.size = d'.size from hsz'.symm] at hs hperm
    rw [Array.extract_size] at hperm
    have hsz2 : d'.size = ss.length := by simpa using hsz'
    have e2 : (ss.toArray.extract 0 d'.size).toList = ss := by rw [hsz']; simp
    rw [e2] at hperm
    refine ⟨d'.toList, rfl, hperm, ?_, ?_⟩
    · unfold Rise
      rw [List.pairwise_iff_getElem]
      intro i j hi hj hij
      have h := hs i j (Nat.zero_le _) hij (by simpa using hj)
      rw [lt_run, decide_eq_false_iff_not] at h
      have hi' : i < d'.size := by simpa using hi
      have hj' : j < d'.size := by simpa using hj
      rw [getElem!_pos d' i hi', getElem!_pos d' j hj'] at h
      rw [Array.getElem_toList, Array.getElem_toList]
      omega
    · have HS := HL.sorted encR 2 (fun _ => rfl) (by decide) (L := L) (ss := ss) d'.toList (by simpa using hsz2) H m os
      rw [Array.toArray_toList] at HS
      unfold runsAt
      rw [show d'.toList.length = ss.length by simpa using hsz2]
      exact HS
end Go.Proofs.Ytebibcaahjmjfaa

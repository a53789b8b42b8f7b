/- The plain side: the spots' order; what is due, what is left. -/
import Derived.Test.YthibbjllfmhdmaaAgFilled
set_option linter.unusedVariables false
set_option linter.unusedSimpArgs false
namespace Go.Proofs.Ythibbjllfmhdmaa
open Go.RowKit Go.Proofs.HL AgInt AgSort

def leS (x y : Int × Int) : Prop := x.1 < y.1 ∨ x.1 = y.1 ∧ x.2 ≤ y.2
theorem leS_iff (x y : Int × Int) : (!AgSort.ahead y x) = true ↔ leS x y := by
  unfold leS
  simp only [Bool.not_eq_true', Bool.eq_false_iff, ne_eq, AgSort.ahead_iff]
  omega
theorem sorted_sortSp (l : List (Int × Int)) : (sortSp l).Pairwise leS := by
  have tr : ∀ a b c : Int × Int, (!AgSort.ahead b a) = true → (!AgSort.ahead c b) = true → (!AgSort.ahead c a) = true := by
    intro a b c h1 h2
    simp only [Bool.not_eq_true', Bool.eq_false_iff, ne_eq, AgSort.ahead_iff] at *
    omega
  have tt : ∀ a b : Int × Int, ((!AgSort.ahead b a) || (!AgSort.ahead a b)) = true := by
    intro a b
    simp only [Bool.or_eq_true, Bool.not_eq_true', Bool.eq_false_iff, ne_eq, AgSort.ahead_iff]
    omega
  exact (List.pairwise_mergeSort tr tt l).imp (fun {a b} h => (leS_iff a b).1 h)
theorem perm_sortSp (l : List (Int × Int)) : (sortSp l).Perm l := List.mergeSort_perm l _
theorem sortSp_of_sorted {l : List (Int × Int)} (h : l.Pairwise leS) : sortSp l = l :=
  List.mergeSort_of_pairwise (h.imp (fun {a b} h => (leS_iff a b).2 h))
/-- A list that is sorted and has the same things is the one. -/
theorem sortSp_eq {l s : List (Int × Int)} (h : s.Pairwise leS) (hp : s.Perm l) : sortSp l = s := by
  rw [← sortSp_perm hp]
  exact sortSp_of_sorted h

/-- The numbers are each there once. -/
def Ids (M : List Ent1) : Prop := (M.map (·.id)).Nodup
theorem Ids.inj {M : List Ent1} (h : Ids M) {x y : Ent1} (hx : x ∈ M) (hy : y ∈ M) (e : x.id = y.id) : x = y := inj_of_nodup _ h hx hy e
theorem Ids.filter {M : List Ent1} (h : Ids M) (p : Ent1 → Bool) : Ids (M.filter p) := h.sublist ((List.filter_sublist (p := p) (l := M)).map _)
theorem findE_none {M : List Ent1} {id : Int} (h : (findE M id).isSome = false) : ∀ e ∈ M, e.id ≠ id := by
  intro e he hid
  unfold findE at h
  rw [Option.isSome_eq_false_iff, Option.isNone_iff_eq_none, List.find?_eq_none] at h
  exact h e he (by simp [hid])
theorem Ids.add {M : List Ent1} (h : Ids M) (id at_ x : Int) : Ids (addE M id at_ x) := by
  unfold addE
  split
  · exact h
  · rename_i hs
    unfold Ids at *
    rw [List.map_append, List.nodup_append]
    refine ⟨h, by simp, fun a ha b hb => ?_⟩
    obtain ⟨e, he, rfl⟩ := List.mem_map.1 ha
    simp only [List.map_cons, List.map_nil, List.mem_singleton] at hb
    subst hb
    exact findE_none (by simpa using hs) e he
theorem ids_nil : Ids [] := List.nodup_nil
theorem ids_fill (l : List ActD) : Ids (fillM l) := by
  have : ∀ (l : List ActD) (M : List Ent1), Ids M → Ids (l.foldl (fun M a => addE M a.id a.at_ a.x) M) := by
    intro l
    induction l with
    | nil => intro M h; exact h
    | cons a l ih => intro M h; exact ih _ (h.add _ _ _)
  exact this l [] ids_nil

theorem mem_spots {M : List Ent1} {s : Int × Int} : s ∈ spotsOf M ↔ ∃ e ∈ M, s = (e.at_, e.id) := by
  unfold spotsOf
  rw [(perm_sortSp _).mem_iff, List.mem_map]
  exact ⟨fun ⟨e, h, e2⟩ => ⟨e, h, e2.symm⟩, fun ⟨e, h, e2⟩ => ⟨e, h, e2.symm⟩⟩
theorem spots_sorted (M : List Ent1) : (spotsOf M).Pairwise leS := sorted_sortSp _
theorem spots_perm_of {M M' : List Ent1} (h : M.Perm M') : spotsOf M = spotsOf M' := sortSp_perm (h.map _)

theorem dropL_eq (t : Int) : ∀ (ss : List (Int × Int)) (M : List Ent1), dropL t M ss = M.filter fun e => ss.all fun s => decide (s.1 ≤ t → e.id ≠ s.2)
  | [], M => by simp only [dropL, List.foldl_nil, List.all_nil]; exact (List.filter_eq_self.2 fun _ _ => rfl).symm
  | s :: ss, M => by
    have ih := dropL_eq t ss (if s.1 ≤ t then dropE M s.2 else M)
    unfold dropL at ih ⊢
    rw [List.foldl_cons, ih]
    by_cases h : s.1 ≤ t
    · rw [if_pos h]
      unfold dropE
      rw [List.filter_filter]
      refine List.filter_congr fun e _ => ?_
      simp [h, Bool.and_comm]
    · rw [if_neg h]
      refine List.filter_congr fun e _ => ?_
      simp [h]
theorem dropL_spots {M : List Ent1} (h : Ids M) (t : Int) : dropL t M (spotsOf M) = M.filter fun e => decide (t < e.at_) := by
  rw [dropL_eq]
  refine List.filter_congr fun e he => ?_
  rw [Bool.eq_iff_iff]
  simp only [List.all_eq_true, decide_eq_true_eq]
  constructor
  · intro h1
    have := h1 (e.at_, e.id) (mem_spots.2 ⟨e, he, rfl⟩)
    simp only at this
    by_cases h2 : t < e.at_
    · exact h2
    · exact absurd rfl (this (by omega))
  · intro h1 s hs h2 h3
    obtain ⟨e', he', rfl⟩ := mem_spots.1 hs
    have := h.inj he he' h3
    subst this
    simp only at h2
    omega
theorem spots_filter (M : List Ent1) (p : Int → Bool) : spotsOf (M.filter fun e => p e.at_) = (spotsOf M).filter fun s => p s.1 := by
  unfold spotsOf
  refine sortSp_eq ((sorted_sortSp _).sublist List.filter_sublist) ?_
  rw [show (List.map (fun a : Ent1 => (a.at_, a.id)) (M.filter fun e => p e.at_)) = (M.map fun a => (a.at_, a.id)).filter fun s => p s.1 by rw [List.filter_map]; rfl]
  exact (perm_sortSp _).filter _
/-- A sorted list, cut at a time. -/
theorem sorted_cut (t : Int) : ∀ (S : List (Int × Int)), S.Pairwise leS → S = (S.filter fun s => decide (s.1 ≤ t)) ++ S.filter fun s => decide (t < s.1)
  | [], _ => rfl
  | s :: S, h => by
    obtain ⟨h1, h2⟩ := List.pairwise_cons.1 h
    by_cases hs : s.1 ≤ t
    · rw [List.filter_cons_of_pos (by simpa using hs), List.filter_cons_of_neg (by simpa using hs), List.cons_append, ← sorted_cut t S h2]
    · have : (S.filter fun s => decide (s.1 ≤ t)) = [] := by
        rw [List.filter_eq_nil_iff]
        intro y hy
        have := h1 y hy
        unfold leS at this
        simp only [decide_eq_true_eq]
        omega
      rw [List.filter_cons_of_neg (by simpa using hs), this, List.filter_cons_of_pos (by simp; omega), List.nil_append]
      have h3 := sorted_cut t S h2
      rw [this, List.nil_append] at h3
      rw [← h3]

/-- What is left later than t. -/
def late (t : Int) (S : List (Int × Int)) : List (Int × Int) := S.filter fun s => decide (t < s.1)
theorem spots_late {M : List Ent1} (h : Ids M) (t : Int) : spotsOf (dropL t M (spotsOf M)) = late t (spotsOf M) := by
  rw [dropL_spots h]
  exact spots_filter M fun a => decide (t < a)
theorem ids_late {M : List Ent1} (h : Ids M) (t : Int) : Ids (dropL t M (spotsOf M)) := by
  rw [dropL_spots h]
  exact h.filter _
theorem late_late {t u : Int} (h : t ≤ u) (S : List (Int × Int)) : late u (late t S) = late u S := by
  unfold late
  rw [List.filter_filter]
  refine List.filter_congr fun s _ => ?_
  rw [Bool.eq_iff_iff]
  simp only [Bool.and_eq_true, decide_eq_true_eq]
  omega
theorem due_due {t u : Int} (h : t ≤ u) {S : List (Int × Int)} (hS : S.Pairwise leS) : dueL t S ++ dueL u (late t S) = dueL u S := by
  unfold dueL late
  rw [← List.map_append]
  refine congrArg _ ?_
  have h1 := sorted_cut t (S.filter fun s => decide (s.1 ≤ u)) (hS.sublist List.filter_sublist)
  rw [h1, List.filter_filter, List.filter_filter, List.filter_filter]
  refine congr (congrArg _ (List.filter_congr fun s _ => ?_)) (List.filter_congr fun s _ => ?_)
  · rw [Bool.eq_iff_iff]
    simp only [Bool.and_eq_true, decide_eq_true_eq]
    omega
  · rw [Bool.and_comm]
theorem due_rest (t : Int) {S : List (Int × Int)} (hS : S.Pairwise leS) : dueL t S ++ idsL (late t S) = idsL S := by
  unfold dueL idsL late
  rw [← List.map_append, ← sorted_cut t S hS]
theorem late_length (t : Int) {S : List (Int × Int)} (hS : S.Pairwise leS) : (late t S).length + (dueL t S).length = S.length := by
  have := congrArg List.length (sorted_cut t S hS)
  unfold late dueL
  rw [List.length_append] at this
  rw [List.length_map]
  omega
theorem late_mem {t : Int} {S : List (Int × Int)} {s : Int × Int} (h : s ∈ late t S) : t < s.1 := by
  unfold late at h
  simpa using (List.mem_filter.1 h).2
end Go.Proofs.Ythibbjllfmhdmaa

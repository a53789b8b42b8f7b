/- An agenda's entries and the reference's sorted list: what keeps them alike. -/
import Derived.Test.YthibbjllfmhdmaaAgRefC
set_option linter.unusedVariables false
set_option linter.unusedSimpArgs false
namespace Go.Proofs.Ythibbjllfmhdmaa
open Go.RowKit Go.Proofs.HL AgInt
open Ref (Th ltT cut)

def toE (t : Th) : Ent1 := ⟨t.id, t.at_, t.x⟩
def ltP (t u : Th) : Prop := ltT t u.at_ u.id
structure Rel (M : List Ent1) (l : List Th) : Prop where
  ids : Ids M
  perm : (l.map toE).Perm M
  sorted : l.Pairwise ltP

variable {M : List Ent1} {l : List Th}
theorem Rel.length (h : Rel M l) : M.length = l.length := by rw [← h.perm.length_eq, List.length_map]
theorem Rel.nil : Rel [] [] := ⟨List.nodup_nil, List.Perm.refl _, List.Pairwise.nil⟩
theorem Rel.clone (h : Rel M l) {M' : List Ent1} (hp : M'.Perm M) : Rel M' l := ⟨((hp.map _).nodup_iff).2 h.ids, h.perm.trans hp.symm, h.sorted⟩
theorem Rel.spots (h : Rel M l) : spotsOf M = l.map fun t => (t.at_, t.id) := by
  unfold spotsOf
  refine sortSp_eq ?_ ?_
  · rw [List.pairwise_map]
    refine h.sorted.imp (fun {a b} hab => ?_)
    unfold ltP ltT at hab
    unfold leS
    simp only
    omega
  · have := h.perm.map (fun e : Ent1 => (e.at_, e.id))
    rw [List.map_map] at this
    exact this
theorem Rel.idsL (h : Rel M l) : (l.map (·.id)).Nodup := by
  have h1 := ((h.perm.map (fun e : Ent1 => e.id)).nodup_iff).2 h.ids
  rw [List.map_map] at h1
  exact h1
theorem Rel.miss (h : Rel M l) {id : Int} (hn : ∀ t ∈ l, t.id ≠ id) : findE M id = none := by
  unfold findE
  rw [List.find?_eq_none]
  intro e he hk
  obtain ⟨t, ht, rfl⟩ := List.mem_map.1 (h.perm.mem_iff.2 he)
  exact hn t ht (by simpa [toE] using hk)
theorem Rel.hit (h : Rel M l) {t : Th} (ht : t ∈ l) : findE M t.id = some (toE t) := by
  have hm : toE t ∈ M := h.perm.mem_iff.1 (List.mem_map.2 ⟨t, ht, rfl⟩)
  cases hf : findE M t.id with
  | none => exact absurd rfl (findE_none (show (findE M t.id).isSome = false by rw [hf]; rfl) (toE t) hm)
  | some e =>
    have h1 : e ∈ M := List.mem_of_find?_eq_some hf
    have h2 : e.id = t.id := by
      have := List.find?_some hf
      simpa using this
    rw [h.ids.inj h1 hm h2]

theorem Rel.add (h : Rel M l) {id at_ x : Int} (hn : ∀ t ∈ l, t.id ≠ id) {k : Nat} (hk : k ≤ l.length) (hb : ∀ j t, j < k → l[j]? = some t → ltT t at_ id) (ha : ∀ t, l[k]? = some t → ¬ ltT t at_ id) :
    Rel (M ++ [⟨id, at_, x⟩]) (l.take k ++ ⟨id, at_, x⟩ :: l.drop k) := by
  refine ⟨?_, ?_, ?_⟩
  · have := h.ids.add id at_ x
    unfold addE at this
    rwa [h.miss hn, if_neg (by simp)] at this
  · have h1 : ((l.take k ++ ⟨id, at_, x⟩ :: l.drop k).map toE).Perm ((⟨id, at_, x⟩ : Ent1) :: l.map toE) := by
      rw [List.map_append, List.map_cons]
      refine List.perm_middle.trans ?_
      rw [← List.map_append, List.take_append_drop]
      exact List.Perm.refl _
    exact h1.trans ((h.perm.cons _).trans (List.perm_append_comm (l₁ := [_])))
  · have hs := h.sorted
    rw [← List.take_append_drop k l] at hs
    obtain ⟨s1, s2, s3⟩ := List.pairwise_append.1 hs
    have hbef : ∀ t ∈ l.take k, ltT t at_ id := fun t ht => by
      obtain ⟨j, hj, rfl⟩ := List.getElem_of_mem ht
      rw [List.length_take] at hj
      rw [List.getElem_take]
      exact hb j _ (by omega) (List.getElem?_eq_getElem (by omega))
    have haft : ∀ t ∈ l.drop k, ltP ⟨id, at_, x⟩ t := fun t ht => by
      cases hd : l.drop k with
      | nil => rw [hd] at ht; cases ht
      | cons y r =>
        have hy : l[k]? = some y := by have := congrArg (fun l => l[0]?) hd; simpa using this
        have hy1 := ha y hy
        have hy2 : y.id ≠ id := hn y (List.mem_of_getElem? hy)
        have hyl : ltP ⟨id, at_, x⟩ y := by unfold ltP ltT at *; simp only at *; omega
        rw [hd] at ht s2
        rcases List.mem_cons.1 ht with rfl | ht
        · exact hyl
        · have := (List.pairwise_cons.1 s2).1 t ht
          unfold ltP ltT at *
          simp only at *
          omega
    refine List.pairwise_append.2 ⟨s1, List.pairwise_cons.2 ⟨haft, s2⟩, fun a ha b hb => ?_⟩
    rcases List.mem_cons.1 hb with rfl | hb
    · exact hbef a ha
    · exact s3 a ha b hb

theorem mem_split {k : Nat} {t : Th} (ht : l[k]? = some t) : l = l.take k ++ t :: l.drop (k + 1) := by
  obtain ⟨h1, h2⟩ := List.getElem?_eq_some_iff.1 ht
  have := List.drop_eq_getElem_cons h1
  rw [h2] at this
  rw [← this, List.take_append_drop]
theorem Rel.drop (h : Rel M l) {k : Nat} {t : Th} (ht : l[k]? = some t) : Rel (dropE M t.id) (cut l k) := by
  have hsp := mem_split ht
  have hid := h.idsL
  refine ⟨h.ids.filter _, ?_, ?_⟩
  · have h1 : (cut l k).map toE = (l.map toE).filter fun e => e.id ≠ t.id := by
      have hf : (l.map toE).filter (fun e => decide (e.id ≠ t.id)) = (l.filter fun u => decide (u.id ≠ t.id)).map toE := by rw [List.filter_map]; rfl
      rw [hf]
      refine congrArg _ ?_
      unfold cut
      rw [hsp] at hid
      simp only [List.map_append, List.map_cons] at hid
      obtain ⟨n1, n2, n3⟩ := List.nodup_append.1 hid
      obtain ⟨n4, n5⟩ := List.nodup_cons.1 n2
      conv => rhs; rw [hsp]
      rw [List.filter_append, List.filter_cons_of_neg (by simp)]
      rw [List.filter_eq_self.2 (fun u hu => ?_), List.filter_eq_self.2 (fun u hu => ?_)]
      · have : u.id ≠ t.id := fun e => n4 (by rw [← e]; exact List.mem_map.2 ⟨u, hu, rfl⟩)
        simpa using this
      · have : u.id ≠ t.id := fun e => n3 u.id (List.mem_map.2 ⟨u, hu, rfl⟩) t.id (List.mem_cons_self ..) e
        simpa using this
    rw [h1]
    exact h.perm.filter _
  · have hs := h.sorted
    rw [hsp] at hs
    unfold cut
    exact hs.sublist (List.Sublist.append_left (List.sublist_cons_self _ _) _)
theorem Rel.dropMiss (h : Rel M l) {id : Int} (hn : ∀ t ∈ l, t.id ≠ id) : dropE M id = M := by
  unfold dropE
  refine List.filter_eq_self.2 fun e he => ?_
  obtain ⟨t, ht, rfl⟩ := List.mem_map.1 (h.perm.mem_iff.2 he)
  exact decide_eq_true (hn t ht)

/-- What is due stands ahead. -/
theorem Rel.cutAt (h : Rel M l) (now : Int) {k : Nat} (hb : ∀ j t, j < k → l[j]? = some t → t.at_ ≤ now) (ha : ∀ t, l[k]? = some t → now < t.at_) :
    (l.filter fun t => decide (t.at_ ≤ now)) = l.take k ∧ (l.filter fun t => decide (now < t.at_)) = l.drop k := by
  have hs := h.sorted
  rw [← List.take_append_drop k l] at hs
  obtain ⟨s1, s2, s3⟩ := List.pairwise_append.1 hs
  have h1 : ∀ t ∈ l.take k, t.at_ ≤ now := fun t ht => by
    obtain ⟨j, hj, rfl⟩ := List.getElem_of_mem ht
    rw [List.length_take] at hj
    rw [List.getElem_take]
    exact hb j _ (by omega) (List.getElem?_eq_getElem (by omega))
  have h2 : ∀ t ∈ l.drop k, now < t.at_ := fun t ht => by
    cases hd : l.drop k with
    | nil => rw [hd] at ht; cases ht
    | cons y r =>
      have hy : l[k]? = some y := by have := congrArg (fun l => l[0]?) hd; simpa using this
      have hy1 := ha y hy
      rw [hd] at ht s2
      rcases List.mem_cons.1 ht with rfl | ht
      · exact hy1
      · have := (List.pairwise_cons.1 s2).1 t ht
        unfold ltP ltT at this
        omega
  constructor
  · conv => lhs; rw [← List.take_append_drop k l]
    rw [List.filter_append, List.filter_eq_self.2 (fun t ht => by simpa using h1 t ht), List.filter_eq_nil_iff.2 (fun t ht => by have := h2 t ht; simp; omega), List.append_nil]
  · conv => lhs; rw [← List.take_append_drop k l]
    rw [List.filter_append, List.filter_eq_nil_iff.2 (fun t ht => by have := h1 t ht; simp; omega), List.filter_eq_self.2 (fun t ht => by simpa using h2 t ht), List.nil_append]
theorem Rel.due (h : Rel M l) (now : Int) {k : Nat} (hb : ∀ j t, j < k → l[j]? = some t → t.at_ ≤ now) (ha : ∀ t, l[k]? = some t → now < t.at_) :
    dueL now (spotsOf M) = (l.take k).map (·.id) ∧ Rel (dropL now M (spotsOf M)) (l.drop k) := by
  obtain ⟨h1, h2⟩ := h.cutAt now hb ha
  constructor
  · unfold dueL
    rw [h.spots, List.filter_map, List.map_map, ← h1]
    rfl
  · refine ⟨ids_late h.ids now, ?_, h.sorted.sublist (List.drop_sublist _ _)⟩
    rw [dropL_spots h.ids, ← h2]
    have := h.perm.filter (fun e : Ent1 => decide (now < e.at_))
    rw [List.filter_map] at this
    exact this
end Go.Proofs.Ythibbjllfmhdmaa

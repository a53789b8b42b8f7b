/- The library's sort of a row of elements of k cells each. -/
import Derived.Test.YtebibcaahjmjfaaFlat0
import Derived.Shelf.SlSortCmp.NoneTotal
set_option linter.unusedVariables false
namespace Go.Proofs.HL
open Go.RowKit
section
variable {α : Type} (enc : α → List Value) (k : Nat) (hk : ∀ x, (enc x).length = k)
include hk
theorem flatK_eq [Inhabited α] (h0 : 0 < k) (ts : List α) : Sort.flatK enc k ts.toArray = (ts.flatMap enc).toArray := by
  apply Array.ext_getElem?
  intro t
  by_cases ht : t < ts.length * k
  · have hj : t / k < ts.length := Nat.div_lt_of_lt_mul (by rw [Nat.mul_comm]; exact ht)
    have hf : t % k < k := Nat.mod_lt _ h0
    have e := flat_at enc k hk ts (t / k) (t % k) ts[t / k] (List.getElem?_eq_getElem hj) hf
    rw [Nat.div_add_mod'] at e
    have e2 : (ts.flatMap enc).toArray[t]? = (ts.flatMap enc)[t]? := by simp
    rw [e2, e]
    have hs : t < (Sort.flatK enc k ts.toArray).size := by simpa using ht
    have h1 := Sort.get_flatK enc k ts.toArray t (by simpa using ht)
    have h3 : (Sort.flatK enc k ts.toArray)[t]? = some ((Sort.flatK enc k ts.toArray)[t]!) := by
      rw [Array.getElem?_eq_getElem hs]
      exact congrArg some (getElem!_pos (Sort.flatK enc k ts.toArray) t hs).symm
    have h2 : (ts.toArray[t / k]! : α) = ts[t / k] := by simp [hj]
    have hf' : t % k < (enc ts[t / k]).length := by rw [hk]; exact hf
    rw [h3, h1, h2, List.getElem?_eq_getElem hf']
    exact congrArg some (getElem!_pos (enc ts[t / k]) (t % k) hf')
  · rw [Array.getElem?_eq_none (by simpa using ht), Array.getElem?_eq_none (by simpa [flat_length enc k hk] using ht)]
end

open Go.Sort Go.Lib in
/-- A row of the call's own is what the sort wants. -/
theorem HL.holdsK {α : Type} [Inhabited α] (enc : α → List Value) (k : Nat) (hk : ∀ x, (enc x).length = k) (h0 : 0 < k) {w0 w : World} {L : List At} {base E g cap : Nat} {ss : List α}
    (H : HL w0 w (row base E k (.slice (some ⟨g, 0, none⟩) ss.length cap) ss.length (ss.flatMap enc) :: L)) : HoldsK enc k w g 0 ss.toArray ∧ g < w.heap.size := by
  have hb : w.ownsRow base E k (.slice (some ⟨g, 0, none⟩) ss.length cap) ss.length (ss.flatMap enc) := H.head
  rcases hb.2 with ⟨h, _⟩ | ⟨g', cap', cur, hv, _, hg, hn, hm, hs, ht⟩
  · cases h
  · cases hv
    refine ⟨?_, (Array.getElem?_eq_some_iff.1 hg).1⟩
    unfold HoldsK
    rw [flatK_eq enc k hk h0]
    intro j hj
    have hj' : j < (ss.flatMap enc).length := by simpa using hj
    refine ⟨?_, by simp [World.frozen?, hg]⟩
    have hl : (ss.flatMap enc).length = ss.length * k := flat_length enc k hk ss
    have h1 : (cur.toList.take (ss.length * k))[j]? = (ss.flatMap enc)[j]? := by rw [ht]
    rw [List.getElem?_take_of_lt (by omega)] at h1
    simp only [World.cell?, hg, Nat.zero_add, Option.isSome_none, Bool.false_eq_true, if_false]
    rw [← Array.getElem?_toList, h1]
    simp [List.getElem?_eq_getElem hj']

open Go.Sort Go.Lib in
/-- Behind the sort the same slice owns the sorted list. -/
theorem HL.sorted {α : Type} [Inhabited α] (enc : α → List Value) (k : Nat) (hk : ∀ x, (enc x).length = k) (h0 : 0 < k) {w0 w : World} {L : List At} {base E g cap : Nat} {ss : List α} (ts : List α) (hl : ts.length = ss.length)
    (H : HL w0 w (row base E k (.slice (some ⟨g, 0, none⟩) ss.length cap) ss.length (ss.flatMap enc) :: L)) (m : Nat) (os : Array Obj) :
    HL w0 (sortWorldK enc k w g 0 m ts.toArray os) (row base E k (.slice (some ⟨g, 0, none⟩) ss.length cap) ss.length (ts.flatMap enc) :: L) := by
  have hb : w.ownsRow base E k (.slice (some ⟨g, 0, none⟩) ss.length cap) ss.length (ss.flatMap enc) := H.head
  rcases hb.2 with ⟨h, _⟩ | ⟨g', cap', cur, hv, hbase, hg, hn, hm, hs, ht⟩
  · cases h
  · cases hv
    have hlt := (Array.getElem?_eq_some_iff.1 hg).1
    have hfl : (ts.flatMap enc).length = ts.length * k := flat_length enc k hk ts
    have hle : (ts.flatMap enc).length ≤ cur.size := by rw [hfl, hl, hs]; exact Nat.mul_le_mul_right _ hn
    unfold sortWorldK putRowK
    rw [flatK_eq enc k hk h0]
    refine H.step ?_ ?_ (fun b hb' => .inl hb')
    · refine ⟨rfl, rfl, rfl, by simp, fun i hi hne => ?_⟩
      rw [heap_grow_old _ _ (by simpa using hi)]
      have : g ≠ i := fun e => hne (by rw [← e]; rfl)
      simp [putRow, mapBlock, Sort.ahead, Array.getElem?_modify, this]
    · refine ⟨by rw [hfl, hl], .inr ⟨g, cap, putCells id 0 (ts.flatMap enc).toArray cur, rfl, hbase, ?_, hn, hm, by simp [putCells, hs], ?_⟩⟩
      · rw [heap_grow_old _ _ (by simpa using hlt)]
        simp [putRow, mapBlock, Sort.ahead, Array.getElem?_modify, hg, onCells]
      · rw [← hl, ← hfl]
        apply List.ext_getElem?
        intro j
        by_cases hj : j < (ts.flatMap enc).length
        · rw [List.getElem?_take_of_lt hj, Array.getElem?_toList]
          simp only [putCells, Array.getElem?_mapIdx, Array.getElem?_eq_getElem (show j < cur.size by omega), Option.map_some]
          rw [if_pos ⟨Nat.zero_le _, by simpa using hj⟩]
          simp [List.getElem?_eq_getElem hj]
        · rw [List.getElem?_take_eq_none (by omega), List.getElem?_eq_none (by omega)]
end Go.Proofs.HL

/- Rows of the call's own: from a block; a cell written. -/
import Derived.Test.YtdekbbffoaphhaaGreatDoorRead
set_option linter.unusedVariables false
namespace Go.Proofs.HL
open Go.RowKit

/-- A new block, seen as a row. -/
theorem HL.rowOf {w0 w : World} {L : List At} {b k n : Nat} {E : TypeId} {cs : List Value} (h : HL w0 w (blk b (.cells cs.toArray E) :: L)) (hl : cs.length = n * k) (hn : n ≤ maxLen) :
  HL w0 w (row w0.heap.size E k (.slice (some ⟨b, 0, none⟩) n n) n cs :: L) := by
 have hb := h.base b rfl
 refine h.turn (fun hh => ?_) (fun b' e => ?_)
 ·exact ⟨hl, .inr ⟨b, n, cs.toArray, rfl, hb, hh, Nat.le_refl _, hn, by simpa using hl, by rw [← hl]; simp⟩⟩
 ·exact e

/-- A cell of a row is written. -/
theorem HL.setRow {w0 w : World} {L : List At} {base g n c k : Nat} {E : TypeId} {xs : List Value} (h : HL w0 w (row base E k (.slice (some ⟨g, 0, none⟩) n c) n xs :: L)) (i : Nat) (v : Value) :
  HL w0 (w.setCell ⟨g, i, none⟩ v) (row base E k (.slice (some ⟨g, 0, none⟩) n c) n (xs.set i v) :: L) := by
 have hh : w.ownsRow base E k (.slice (some ⟨g, 0, none⟩) n c) n xs := h.head
 refine h.step (grownBy_setCell _ _ _) ?_ (fun b hb => .inl hb)
 obtain ⟨hl, h2⟩ := hh
 rcases h2 with ⟨h3, _⟩ | ⟨g', c', cur, h3, hb, hg, hn, hm, hs, ht⟩
 ·cases h3
 ·cases h3
  refine ⟨by simpa using hl, .inr ⟨g, c, cur.setIfInBounds i v, rfl, hb, ?_, hn, hm, by simpa using hs, ?_⟩⟩
  ·simp [World.setCell, Array.getElem?_modify, hg]
  ·rw [Array.toList_setIfInBounds, List.take_set, ht]
/-- It is not frozen. -/
theorem HL.rowFrozen {w0 w : World} {L : List At} {base g n c k : Nat} {E : TypeId} {xs : List Value} (h : HL w0 w L) (hm : row base E k (.slice (some ⟨g, 0, none⟩) n c) n xs ∈ L) (i : Nat) : w.frozen? ⟨g, i, none⟩ = false := by
 have hh : w.ownsRow base E k (.slice (some ⟨g, 0, none⟩) n c) n xs := h.get hm
 rcases hh.2 with ⟨h3, _⟩ | ⟨g', c', cur, h3, hb, hg, hn, hm, hs, ht⟩
 ·cases h3
 ·cases h3
  simp [World.frozen?, hg]
/-- A cell of it. -/
theorem HL.rowCell {w0 w : World} {L : List At} {base g n c k : Nat} {E : TypeId} {xs : List Value} (h : HL w0 w L) (hm : row base E k (.slice (some ⟨g, 0, none⟩) n c) n xs ∈ L) (i : Nat) (u : Value) (hu : xs[i]? = some u) : w.cell? ⟨g, i, none⟩ = some u := by
 have := (h.get hm).cells (g := g) rfl i u hu
 rwa [add_zero_block] at this
end Go.Proofs.HL

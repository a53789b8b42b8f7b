/- Blocks whose content is nobody's business: what is written there leaves them as they are. -/
import Derived.Test.YtdekbbffoaphhaaGreatDoorHL
set_option linter.unusedVariables false
set_option linter.unusedSimpArgs false
namespace Go.Proofs.HL
open Go.RowKit
/-- Block b is a row of m cells of type E, whatever they hold. -/
def wild (E : TypeId) (p : Nat × Nat) : At where
  fp := some p.1
  holds w := ∃ cur, w.heap[p.1]? = some (.cells cur E (0, 0)) ∧ cur.size = p.2
  lt := fun w b' e h => by
    cases e
    obtain ⟨cur, h, -⟩ := h
    exact (Array.getElem?_eq_some_iff.1 h).1
  stable := fun w w' row hg hne h => by
    obtain ⟨cur, h, hm⟩ := h
    exact ⟨cur, by rw [hg.block p.1 (Array.getElem?_eq_some_iff.1 h).1 (hne.resolve_left (by simp))]; exact h, hm⟩
theorem HL.turnW {w0 w : World} {A B : At} {L : List At} (H : HL w0 w (A :: L)) (hf : B.fp = A.fp) (hh : B.holds w) : HL w0 w (B :: L) := by
  have h := List.pairwise_cons.1 H.sep
  refine ⟨H.below, fun C hC => ?_, List.pairwise_cons.2 ⟨fun C hC => ?_, h.2⟩⟩
  · rcases List.mem_cons.1 hC with rfl | hC
    · exact ⟨hh, fun b hb => H.base b (by rw [← hf]; exact hb)⟩
    · exact H.all C (List.mem_cons_of_mem _ hC)
  · rw [hf]; exact h.1 C hC
theorem HL.wildOf {w0 w : World} {L : List At} {E : TypeId} {k n : Nat} {v : Value} {xs : List Value} (H : HL w0 w (row w0.heap.size E k v n xs :: L)) :
    v = .slice none 0 0 ∨ ∃ g cap, v = .slice (some ⟨g, 0, none⟩) n cap ∧ n ≤ cap ∧ HL w0 w (wild E (g, cap * k) :: L) := by
  obtain ⟨-, ⟨rfl, -⟩ | ⟨g, cap, cur, rfl, hb, hg, h1, h2, h3, -⟩⟩ := (show w.ownsRow w0.heap.size E k v n xs from H.head)
  · exact .inl rfl
  · exact .inr ⟨g, cap, rfl, h1, H.turnW rfl ⟨cur, hg, h3⟩⟩
theorem HL.wildSet1 {w0 w : World} {L : List At} {E : TypeId} {b m : Nat} (H : HL w0 w (wild E (b, m) :: L)) (i : Nat) (v : Value) : HL w0 (w.setCell ⟨b, i, none⟩ v) (wild E (b, m) :: L) := by
  obtain ⟨cur, hg, hm⟩ := H.head
  have h1 : HL w0 w (blk b (.cells cur E (0, 0)) :: L) := H.turnW rfl hg
  have h2 := HL.setCell h1 i v
  exact h2.turnW rfl ⟨_, h2.head, by simpa using hm⟩
theorem HL.wildSet {w0 w : World} {L : List At} {E : TypeId} {b m : Nat} (H : HL w0 w L) (hm : wild E (b, m) ∈ L) (i : Nat) (v : Value) : HL w0 (w.setCell ⟨b, i, none⟩ v) L := by
  obtain ⟨L1, L2, rfl⟩ := List.append_of_mem hm
  exact ((H.perm List.perm_middle).wildSet1 i v).perm List.perm_middle.symm
theorem HL.wildCell {w0 w : World} {L : List At} {E : TypeId} {b m : Nat} (H : HL w0 w L) (hm : wild E (b, m) ∈ L) {i : Nat} (hi : i < m) : (∃ u, w.cell? ⟨b, i, none⟩ = some u) ∧ w.frozen? ⟨b, i, none⟩ = false := by
  obtain ⟨L1, L2, rfl⟩ := List.append_of_mem hm
  have H1 := H.perm List.perm_middle
  obtain ⟨cur, hg, hs⟩ := H1.head
  have h1 : HL w0 w (blk b (.cells cur E (0, 0)) :: _) := H1.turnW rfl hg
  have hi' : i < cur.size := by rw [hs]; exact hi
  exact ⟨⟨cur[i], by rw [HL.cell h1 i]; exact Array.getElem?_eq_getElem hi'⟩, HL.frozen h1 i⟩
/-- A block that nobody looks into any more. -/
theorem HL.wildBlk {w0 w : World} {L : List At} {E : TypeId} {b : Nat} {cs : Array Value} (H : HL w0 w (blk b (.cells cs E (0, 0)) :: L)) : HL w0 w (wild E (b, cs.size) :: L) := H.turnW rfl ⟨cs, H.head, rfl⟩
end Go.Proofs.HL

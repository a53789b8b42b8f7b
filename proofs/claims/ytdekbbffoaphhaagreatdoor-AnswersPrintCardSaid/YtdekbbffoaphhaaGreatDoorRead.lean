/- Lists that came in or are owned, read. -/
import Derived.Test.YtdekbbffoaphhaaGreatDoorFlat0
set_option linter.unusedVariables false
namespace Go.Proofs.HL
open Go.RowKit

/-- What came in as a list lies there still. -/
theorem rd_old {w0 w : World} {L : List At} (H : HL w0 w L) {k n : Nat} {v : Value} {cs : List Value} (h : Rd k v n cs w0) : Rd k v n cs w := by
 obtain ⟨h1, h2, a, c, h3, h4, h5, h6, h7⟩ := h
 exact ⟨h1, h2, a, c, h3, h4, h5, h6, fun ad hd j u hu => H.old (h7 ad hd j u hu)⟩

theorem cell_spot {w : World} {a : Addr} {v : Value} (h : w.cell? a = some v) : a.spot = none := by
 unfold World.cell? at h
 split at h
 ·by_cases hs : a.spot.isSome
  ·rw [if_pos hs] at h; cases h
  ·cases ha : a.spot with
   | none => rfl
   | some s => rw [ha] at hs; exact absurd rfl hs
 ·cases h

/-- A list that is not empty: where its cells lie. -/
theorem rd_plain {w : World} {k n : Nat} {v : Value} {cs : List Value} (h : Rd k v n cs w) (hn : cs ≠ []) :
  ∃ b o c, v = .slice (some ⟨b, o, none⟩) n c ∧ n ≤ c ∧ c ≤ maxLen ∧ ∀ j u, cs[j]? = some u → w.cell? ⟨b, o + j, none⟩ = some u := by
 obtain ⟨h1, h2, a, c, h3, h4, h5, h6, h7⟩ := h
 cases a with
 | none =>
  have := (h6 rfl).1
  rw [this, Nat.zero_mul] at h1
  exact absurd (List.eq_nil_of_length_eq_zero h1) hn
 | some a =>
  obtain ⟨u, cs', rfl⟩ := List.exists_cons_of_ne_nil hn
  have h0 := h7 a rfl 0 u rfl
  have hs : a.spot = none := cell_spot (a := a.add 0) h0
  obtain ⟨b, o, s⟩ := a
  cases hs
  exact ⟨b, o, c, h3, h4, h5, fun j u hu => by rw [← add_plain]; exact h7 _ rfl j u hu⟩

/-- The cells of the element k. -/
theorem rd_elem {α : Type} (enc : α → List Value) (m : Nat) (hm : ∀ x, (enc x).length = m) (h0 : 0 < m) {w : World} {v : Value} {l : List α} (h : Rd m v l.length (l.flatMap enc) w) {k : Nat} {x : α} (hx : l[k]? = some x) :
  ∃ b o c, v = .slice (some ⟨b, o, none⟩) l.length c ∧ l.length ≤ c ∧ c ≤ maxLen ∧ ∀ f u, (enc x)[f]? = some u → w.cell? ⟨b, o + (k * m + f), none⟩ = some u := by
 have hne : l.flatMap enc ≠ [] := by
  intro e
  have h1 := flat_length enc m hm l
  rw [e] at h1
  have h2 := (List.getElem?_eq_some_iff.1 hx).1
  have h3 : 0 < l.length * m := Nat.mul_pos (by omega) h0
  simp at h1
  omega
 obtain ⟨b, o, c, h1, h2, h3, h4⟩ := rd_plain h hne
 refine ⟨b, o, c, h1, h2, h3, fun f u hu => h4 _ _ ?_⟩
 have hf : f < m := by
  have := (List.getElem?_eq_some_iff.1 hu).1
  rwa [hm] at this
 rw [flat_at enc m hm l k f x hx hf]
 exact hu
end Go.Proofs.HL

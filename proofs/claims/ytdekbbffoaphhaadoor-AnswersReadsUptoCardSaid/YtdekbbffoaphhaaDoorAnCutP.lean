/- A text gone through from its beginning, cut at each byte of a kind; what a rune of it may be. -/
import Derived.Test.YtdekbbffoaphhaaDoorAnNumP
import Derived.Laws.RangeAny
import Derived.Laws.RangeString
set_option linter.unusedVariables false
set_option linter.unusedSimpArgs false
namespace Go.Proofs.An
theorem cutC_at {c : UInt8} {l : List UInt8} {n : Nat} (h : c ∉ l.take n) (h2 : l[n]? = some c) : cutC c l = l.take n :: cutC c (l.drop (n + 1)) := by
  have hn := (List.getElem?_eq_some_iff.1 h2).1
  have e : l = l.take n ++ c :: l.drop (n + 1) := by
    conv => lhs; rw [← List.take_append_drop n l]
    rw [List.drop_eq_getElem_cons hn, (List.getElem?_eq_some_iff.1 h2).2]
  conv => lhs; rw [e]
  exact cut_app c _ _ h
/-- The pieces W of l, as far as i, the last cut behind which at f begins what is left. -/
structure Cutting (c : UInt8) (l : List UInt8) (i f : Nat) (W : List ByteArray) : Prop where
  le : i ≤ l.length
  from_le : f ≤ i
  clean : c ∉ (l.drop f).take (i - f)
  eq : cutC c l = W.map (·.data.toList) ++ cutC c (l.drop f)
theorem Cutting.start (c : UInt8) (l : List UInt8) : Cutting c l 0 0 [] := ⟨by omega, by omega, by simp, by simp⟩
theorem Cutting.skip {c : UInt8} {l : List UInt8} {i f : Nat} {W : List ByteArray} (h : Cutting c l i f W) {x : UInt8} (hc : l[i]? = some x) (hx : x ≠ c) : Cutting c l (i + 1) f W := by
  have hi := (List.getElem?_eq_some_iff.1 hc).1
  obtain ⟨h1, h2, h3, h4⟩ := h
  refine ⟨by omega, by omega, ?_, h4⟩
  rw [show i + 1 - f = (i - f) + 1 by omega, List.take_add_one, List.getElem?_drop, show f + (i - f) = i by omega, hc]
  simp only [Option.toList_some, List.mem_append, List.mem_singleton, not_or]
  exact ⟨h3, fun e => hx e.symm⟩
theorem Cutting.skips {c : UInt8} {l : List UInt8} {i f : Nat} {W : List ByteArray} (h : Cutting c l i f W) : ∀ (n : Nat), i + n ≤ l.length → (∀ j, j < n → l[i + j]? ≠ some c) → Cutting c l (i + n) f W
  | 0, _, _ => h
  | n + 1, hn, hj => by
    have ih := h.skips n (by omega) (fun j hj2 => hj j (by omega))
    have hx : l[i + n]? = some l[i + n] := List.getElem?_eq_getElem (by omega)
    exact ih.skip hx (fun e => hj n (by omega) (by rw [hx, e]))
theorem Cutting.cut {c : UInt8} {l : List UInt8} {i f : Nat} {W : List ByteArray} (h : Cutting c l i f W) (hc : l[i]? = some c) {p : ByteArray} (hp : p.data.toList = (l.drop f).take (i - f)) : Cutting c l (i + 1) (i + 1) (W ++ [p]) := by
  have hi := (List.getElem?_eq_some_iff.1 hc).1
  obtain ⟨h1, h2, h3, h4⟩ := h
  refine ⟨by omega, by omega, by simp, ?_⟩
  rw [h4, cutC_at h3 (by rw [List.getElem?_drop, show f + (i - f) = i by omega]; exact hc), List.drop_drop, show f + (i - f + 1) = i + 1 by omega]
  simp [hp]
theorem Cutting.done {c : UInt8} {l : List UInt8} {i f : Nat} {W : List ByteArray} (h : Cutting c l i f W) (hi : l.length ≤ i) : cutC c l = W.map (·.data.toList) ++ [l.drop f] := by
  obtain ⟨h1, h2, h3, h4⟩ := h
  rw [List.take_of_length_le (by rw [List.length_drop]; omega)] at h3
  rw [h4, cut_one c _ h3]
theorem extract_piece (s : ByteArray) (f i : Nat) : (s.extract f i).data.toList = (s.data.toList.drop f).take (i - f) := by
  rw [Lib.extract_data]
theorem extract_last (s : ByteArray) (f : Nat) : (s.extract f s.size).data.toList = s.data.toList.drop f := by
  rw [extract_piece, List.take_of_length_le (by rw [List.length_drop, Array.length_toList]; exact Nat.le_refl _)]
/-- The pieces behind each of which stands the byte; the last piece. -/
theorem Cutting.words {c : UInt8} {s : ByteArray} {i f : Nat} {W : List ByteArray} (h : Cutting c s.data.toList i f W) (hi : s.size ≤ i) : wordsC c s = W ++ [s.extract f s.size] := by
  have hd := h.done (by rw [Array.length_toList]; exact hi)
  apply map_bytes
  unfold wordsC
  rw [List.map_map, hd]
  simp only [Function.comp_def, List.map_append, List.map_cons, List.map_nil, extract_last, List.toList_toArray, List.map_map, toB]
/-- A rune of a text: how many bytes; those behind its first are none of ASCII. -/
theorem decode_shape (s : ByteArray) (pos : Nat) (h : pos < s.size) :
    1 ≤ (Utf8.decode s pos).2 ∧ pos + (Utf8.decode s pos).2 ≤ s.size ∧ ∀ j, 1 ≤ j → j < (Utf8.decode s pos).2 → 128 ≤ (s.get! (pos + j)).toNat := by
  unfold Utf8.decode
  simp only
  have hj : ∀ n, n = 1 → ∀ j, 1 ≤ j → j < n → 128 ≤ (s.get! (pos + j)).toNat := fun n hn j h1 h2 => by omega
  split
  · exact ⟨by simp, by simp; omega, fun j h1 h2 => by simp at h2; omega⟩
  · split
    · rename_i h2
      simp only [Bool.and_eq_true, decide_eq_true_eq, beq_iff_eq] at h2
      split
      · refine ⟨by simp, by simp; omega, fun j h1 h3 => ?_⟩
        simp at h3
        obtain rfl : j = 1 := by omega
        omega
      · exact ⟨by simp, by simp; omega, fun j h1 h2 => by simp at h2; omega⟩
    · split
      · rename_i h2
        simp only [Bool.and_eq_true, decide_eq_true_eq, beq_iff_eq] at h2
        split
        · refine ⟨by simp, by simp; omega, fun j h1 h3 => ?_⟩
          simp at h3
          have : j = 1 ∨ j = 2 := by omega
          rcases this with rfl | rfl <;> omega
        · exact ⟨by simp, by simp; omega, fun j h1 h2 => by simp at h2; omega⟩
      · split
        · rename_i h2
          simp only [Bool.and_eq_true, decide_eq_true_eq, beq_iff_eq] at h2
          split
          · refine ⟨by simp, by simp; omega, fun j h1 h3 => ?_⟩
            simp at h3
            have : j = 1 ∨ j = 2 ∨ j = 3 := by omega
            rcases this with rfl | rfl | rfl <;> omega
          · exact ⟨by simp, by simp; omega, fun j h1 h2 => by simp at h2; omega⟩
        · exact ⟨by simp, by simp; omega, fun j h1 h2 => by simp at h2; omega⟩
theorem data_at {s : ByteArray} {i : Nat} (h : i < s.size) : s.data.toList[i]? = some s[i] := by
  rw [List.getElem?_eq_getElem (by rw [Array.length_toList]; exact h)]; rfl
theorem get_at {s : ByteArray} {i : Nat} (h : i < s.size) : s.get! i = s[i] := by
  simp [ByteArray.get!, getElem!_pos, h]; rfl
/-- A rune that is a byte of ASCII stands there as that byte; over any other there is no such byte. -/
theorem rune_at (s : ByteArray) (pos : Nat) (h : pos < s.size) (c : UInt8) (hc : c.toNat < 128) :
    ((Utf8.decode s pos).1 = c.toNat → s.data.toList[pos]? = some c ∧ (Utf8.decode s pos).2 = 1) ∧ ((Utf8.decode s pos).1 ≠ c.toNat → ∀ j, j < (Utf8.decode s pos).2 → s.data.toList[pos + j]? ≠ some c) := by
  obtain ⟨h1, h2, h3⟩ := decode_shape s pos h
  by_cases ha : (s[pos]'h).toNat < 128
  · have e := decode_ascii s pos h ha
    rw [e] at h1 h2 h3 ⊢
    refine ⟨fun g => ⟨?_, rfl⟩, fun g j hj => ?_⟩
    · rw [data_at h]
      exact congrArg some (UInt8.toNat_inj.1 g)
    · obtain rfl : j = 0 := by simp at hj; omega
      rw [Nat.add_zero, data_at h]
      intro e2
      exact g (by rw [Option.some.inj e2])
  · have hh := (decode_high s pos h (by omega)).1
    refine ⟨fun g => by omega, fun g j hj => ?_⟩
    by_cases hj0 : j = 0
    · subst hj0
      rw [Nat.add_zero, data_at h]
      intro e2
      have := congrArg UInt8.toNat (Option.some.inj e2)
      omega
    · have := h3 j (by omega) hj
      have hlt : pos + j < s.size := by omega
      rw [get_at hlt] at this
      rw [data_at hlt]
      intro e2
      have := congrArg UInt8.toNat (Option.some.inj e2)
      omega
end Go.Proofs.An

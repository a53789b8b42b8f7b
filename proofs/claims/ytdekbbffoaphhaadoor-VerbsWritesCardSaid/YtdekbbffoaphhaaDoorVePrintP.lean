/- A command's words. -/
import Derived.Test.YtdekbbffoaphhaaDoorVeCore
import Derived.Lib.Join
import Derived.Lib.ItoaNum
set_option linter.unusedVariables false
namespace Go.Proofs.Ve
/-- A field as a word. -/
def fldB (c : Cm) (f : Nat) : ByteArray := if f < 2 then txtF c f else ⟨(Lib.itoa (numF c f)).toArray⟩
def wordsV (c : Cm) (V : Verb) : List ByteArray := V.word :: V.fs.map (fldB c)
/-- The words of the first k verbs that are of the command's kind. -/
def wordsTo (c : Cm) (k : Nat) : List ByteArray := ((verbL.take k).filter fun v => v.kind == c.kind).flatMap (wordsV c)
theorem wordsTo_no {c : Cm} {k : Nat} {V : Verb} (hV : verbL[k]? = some V) (h : (V.kind == c.kind) = false) : wordsTo c (k + 1) = wordsTo c k := by
  unfold wordsTo
  rw [List.take_add_one, hV, List.filter_append]
  simp [h]
theorem wordsTo_yes {c : Cm} {k : Nat} {V : Verb} (hV : verbL[k]? = some V) (h : (V.kind == c.kind) = true) : wordsTo c (k + 1) = wordsTo c k ++ wordsV c V := by
  unfold wordsTo
  rw [List.take_add_one, hV, List.filter_append, List.flatMap_append]
  simp [h]
theorem fs_few : ∀ V ∈ verbL, V.fs.length ≤ 3 := by decide
theorem kinds13 {k : Int} {V : Verb} (h : verbL.find? (fun v => v.kind == k) = some V) : verbL.filter (fun v => v.kind == k) = [V] := by
  have hk : k = V.kind := by
    have := List.find?_some h
    simp at this
    exact this.symm
  have hm := List.mem_of_find?_eq_some h
  subst hk
  have : ∀ V ∈ verbL, verbL.filter (fun v => v.kind == V.kind) = [V] := by
    intro V hV
    simp only [verbL, List.mem_cons, List.not_mem_nil, or_false] at hV
    rcases hV with rfl | rfl | rfl | rfl | rfl | rfl | rfl | rfl | rfl | rfl | rfl | rfl | rfl <;> rfl
  exact this V hm
theorem wordsTo_all {c : Cm} {V : Verb} (h : verbL.find? (fun v => v.kind == c.kind) = some V) : wordsTo c 13 = wordsV c V := by
  unfold wordsTo
  rw [List.take_of_length_le (by decide), kinds13 h]
  simp
/-- A command as a line. -/
def printL (c : Cm) : List UInt8 := Lib.join ((wordsTo c 13).map (·.data.toList)) [32]
theorem chk_valid {c : Cm} : ∀ (fs : List Nat) (o p : Cm), chk c o fs = some p → ∀ f ∈ fs, f < 2 → validB (txtF c f) = true
  | [], o, p, h, f, hf, _ => by simp at hf
  | g :: fs, o, p, h, f, hf, h2 => by
    simp only [chk] at h
    rcases List.mem_cons.1 hf with rfl | hf
    · rw [if_pos h2] at h
      by_cases hv : validB (txtF c f) = true
      · exact hv
      · rw [if_neg hv] at h; cases h
    · by_cases hg : g < 2
      · rw [if_pos hg] at h
        by_cases hv : validB (txtF c g) = true
        · rw [if_pos hv] at h; exact chk_valid fs _ p h f hf h2
        · rw [if_neg hv] at h; cases h
      · rw [if_neg hg] at h
        by_cases hn : numF c g < 0
        · rw [if_pos hn] at h; cases h
        · rw [if_neg hn] at h; exact chk_valid fs _ p h f hf h2
theorem check_find {c : Cm} (h : checkB c = true) : ∃ V o, verbL.find? (fun v => v.kind == c.kind) = some V ∧ chk c (zeroC c.kind) V.fs = some o ∧ o = c := by
  unfold checkB at h
  cases hf : verbL.find? (fun v => v.kind == c.kind) with
  | none => rw [hf] at h; cases h
  | some V =>
    rw [hf] at h
    simp only [okV] at h
    cases ho : chk c (zeroC c.kind) V.fs with
    | none => rw [ho] at h; cases h
    | some o => rw [ho] at h; exact ⟨V, o, rfl, ho, of_decide_eq_true h⟩
theorem word_few : ∀ V ∈ verbL, V.word.size ≤ 8 := by decide
theorem fld_size {c : Cm} {f : Nat} (hf : f < 2 → validB (txtF c f) = true) (hn : ∀ f, (Lib.itoa (numF c f)).length ≤ 21) : (fldB c f).size ≤ 32 := by
  unfold fldB
  split
  · rename_i h
    have := hf h
    simp only [validB, Bool.and_eq_true, decide_eq_true_eq] at this
    omega
  · have := hn f
    show (Lib.itoa (numF c f)).toArray.size ≤ 32
    simp
    omega
end Go.Proofs.Ve

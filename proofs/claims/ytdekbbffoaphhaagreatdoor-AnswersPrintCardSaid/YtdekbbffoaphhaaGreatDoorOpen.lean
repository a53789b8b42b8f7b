/- A list that came in, opened to what its elements are. -/
import Derived.Test.YtdekbbffoaphhaaGreatDoorRead
import Derived.Deep.Slices
import Derived.Deep.Fields
import Derived.ChangeArms
set_option linter.unusedVariables false
namespace Go.Proofs.HL
open Go.RowKit Go.ChangeShapes Go.WideShapes Go.Deep

theorem exists_rows {α : Type} (n : Nat) (p : Nat → α → Prop) (h : ∀ i, i < n → ∃ x, p i x) : ∃ l : List α, l.length = n ∧ ∀ i x, l[i]? = some x → p i x := by
  induction n with
  | zero => exact ⟨[], rfl, fun i x hx => by simp at hx⟩
  | succ n ih =>
    obtain ⟨l, hl, hp⟩ := ih (fun i hi => h i (by omega))
    obtain ⟨x, hx⟩ := h n (by omega)
    refine ⟨l ++ [x], by simp [hl], fun i y hy => ?_⟩
    by_cases hi : i < l.length
    · rw [List.getElem?_append_left hi] at hy
      exact hp i y hy
    · rw [List.getElem?_append_right (by omega)] at hy
      have : i - l.length = 0 := by
        have := (List.getElem?_eq_some_iff.1 hy).1
        simp at this
        omega
      rw [this] at hy
      simp only [List.getElem?_cons_zero, Option.some.injEq] at hy
      subst hy
      rw [show i = n by omega]
      exact hx

theorem flat_rows {α : Type} (enc : α → List Value) (k : Nat) (hk : ∀ x, (enc x).length = k) (h0 : 0 < k) {l : List α} {j : Nat} {u : Value} (h : (l.flatMap enc)[j]? = some u) : ∃ x, l[j / k]? = some x ∧ (enc x)[j % k]? = some u := by
  have hlt := (List.getElem?_eq_some_iff.1 h).1
  rw [flat_length enc k hk] at hlt
  have hj : j / k < l.length := Nat.div_lt_of_lt_mul (by rw [Nat.mul_comm]; exact hlt)
  refine ⟨l[j / k], List.getElem?_eq_getElem hj, ?_⟩
  have := flat_at enc k hk l (j / k) (j % k) _ (List.getElem?_eq_getElem hj) (Nat.mod_lt _ h0)
  rw [Nat.div_add_mod'] at this
  rw [← this]
  exact h

section
variable {H : Type} {encH : TypeId × Value → H} {P : Program} {w : World} {base : Nat} {spare : Nat → Bool} {held : Bool}
theorem open_rows {α : Type} {t e : TypeId} {v : Value} {d : DataW H} {ps : List MemPlace} (k : Nat) (enc : α → List Value) (R : α → Prop) (henc : ∀ x, (enc x).length = k) (h0 : 0 < k)
    (ht : P.underlying t = some (.slice e)) (hC : P.cellsOf e = k)
    (hel : ∀ n cs y, cs.length = k → DataW.trod encH P w base spare held n e cs = some y → ∃ x, cs = enc x ∧ R x)
    (hv : ∃ a len cap, v = .slice a len cap) (h : DataW.Trod encH P w base spare held t v d ps) :
    ∃ l : List α, Rd k v l.length (l.flatMap enc) w ∧ (∀ x ∈ l, R x) ∧ ((d = .nil ∧ l = []) ∨ ∃ elems rest, d = .slice elems rest ∧ elems.length = l.length) := by
  obtain ⟨fuel, hf⟩ := h
  obtain ⟨a0, len0, cap0, rfl⟩ := hv
  rcases open_slice ht hf with ⟨hcs, hx⟩ | ⟨a, len, cap, m, n, D, Pl, hcs, hb, hl, hm, hmm, hx, hi⟩
  · simp [Value.cells] at hcs
    obtain ⟨rfl, rfl, rfl⟩ := hcs
    simp only [Prod.mk.injEq] at hx
    exact ⟨[], by simpa using rd_nil, (fun x hx => nomatch hx), .inl ⟨hx.1, rfl⟩⟩
  · simp [Value.cells] at hcs
    obtain ⟨rfl, rfl, rfl⟩ := hcs
    simp only [Prod.mk.injEq] at hx
    obtain ⟨l, hll, hp⟩ := exists_rows len0 (fun i x => R x ∧ ∀ f u, (enc x)[f]? = some u → w.cell? (a.add (i * k + f)) = some u) (fun i hlt => by
      obtain ⟨cs', hc, ht'⟩ := hi i (by rw [hmm]; split <;> omega)
      rw [hC] at hc
      obtain ⟨_, hcl, hat⟩ := World.cells?_some hc
      obtain ⟨x, rfl, hR⟩ := hel n cs' _ hcl ht'
      refine ⟨x, hR, fun f u hu => ?_⟩
      have hf : f < k := by
        have := (List.getElem?_eq_some_iff.1 hu).1
        rwa [henc] at this
      rw [← add_add, hat f hf, hu])
    refine ⟨l, ⟨by rw [flat_length enc k henc], by omega, some a, cap0, by rw [hll], by omega, hm, (fun e => nomatch e), fun ad hd j u hu => ?_⟩, fun x hx => ?_, .inr ⟨_, _, hx.1, by simp [hll]⟩⟩
    · cases hd
      obtain ⟨x, h1, h2⟩ := flat_rows enc k henc h0 hu
      have := (hp _ _ h1).2 _ _ h2
      rwa [Nat.div_add_mod'] at this
    · obtain ⟨i, hi', rfl⟩ := List.getElem_of_mem hx
      exact (hp i _ (List.getElem?_eq_getElem hi')).1
end

/-- The fields of a struct of cells. -/
theorem open_struct {H : Type} {encH : TypeId × Value → H} {P : Program} {w : World} {base : Nat} {spare : Nat → Bool} {held : Bool} {e : TypeId} {fs : Array Field} (he : P.underlying e = some (.struct fs)) (hone : oneCellFields P fs = true)
    {n : Nat} {cs : List Value} {y : DataW H × List MemPlace} (hl : cs.length = fs.size) (h : DataW.trod encH P w base spare held n e cs = some y) :
    ∃ m, ∀ (j : Nat) (f : Field), fs[j]? = some f → ∃ (v : Value) (z : DataW H × List MemPlace), cs[j]? = some v ∧ DataW.trod encH P w base spare held m f.type [v] = some z := by
  obtain ⟨xs, m, _, _, _, hxl, hf⟩ := DataW.trod_struct he h
  refine ⟨m, fun j f hj => ?_⟩
  obtain ⟨ho, hk⟩ := hone_of hone j f hj
  have hjl : j < fs.size := (Array.getElem?_eq_some_iff.1 hj).1
  have h1 := hf j f hj
  rw [ho, hk, take1_drop cs j undef (by omega)] at h1
  refine ⟨cs.getD j undef, xs[j]'(by omega), ?_, ?_⟩
  · rw [List.getD_eq_getElem?_getD, List.getElem?_eq_getElem (by omega)]
    rfl
  · rw [h1]
    exact List.getElem?_eq_getElem (by omega)
/-- A field that is a whole number. -/
theorem field_int {H : Type} {encH : TypeId × Value → H} {P : Program} {w : World} {base : Nat} {spare : Nat → Bool} {held : Bool} {m : Nat} {t : TypeId} {k : IntKind} {v : Value} {z : DataW H × List MemPlace} (ht : P.underlying t = some (.int k))
    (h : DataW.trod encH P w base spare held m t [v] = some z) : ∃ n, v = .int k n ∧ (Lit.int k n).wf = true := by
  obtain ⟨n, h1, _, h3⟩ := DataW.trod_int ht h
  simp only [List.cons.injEq, and_true] at h1
  exact ⟨n, h1, h3⟩
end Go.Proofs.HL

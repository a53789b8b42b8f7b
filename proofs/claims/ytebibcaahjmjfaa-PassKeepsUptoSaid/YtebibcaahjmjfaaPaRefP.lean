/- The reference's pass and the pass itself: the same lists. -/
import Derived.Test.YtebibcaahjmjfaaPaWholeQ
set_option linter.unusedVariables false
namespace Go.Proofs.HL.Pa
open Go.Proofs.HL.Pr
open Go.Proofs.Ytebibcaahjmjfaa (mayB_iff)

/-- Those that are left. -/
def leftOf (ws : List Wn) (S : List Int) : List Wn := ws.filter fun x => decide (x.job ∉ S)
theorem left_mem {ws : List Wn} {S : List Int} {x : Wn} : x ∈ leftOf ws S ↔ x ∈ ws ∧ x.job ∉ S := by
  unfold leftOf
  rw [List.mem_filter]
  simp
theorem left_nodup {ws : List Wn} (h : (ws.map (·.job)).Nodup) (S : List Int) : ((leftOf ws S).map (·.job)).Nodup :=
  h.sublist ((List.filter_sublist).map _)
theorem left_nil (ws : List Wn) : leftOf ws [] = ws := by
  unfold leftOf
  rw [List.filter_eq_self]
  intro x _
  simp
theorem filter_erase {p : Wn → Bool} : ∀ (l : List Wn) (i : Nat) (x : Wn), (l.map (·.job)).Nodup → l[i]? = some x → (l.filter fun y => decide (y.job ≠ x.job)) = l.eraseIdx i
  | [], i, x, _, h => by simp at h
  | y :: l, 0, x, hn, h => by
    simp only [List.getElem?_cons_zero, Option.some.injEq] at h
    subst h
    rw [List.map_cons, List.nodup_cons] at hn
    rw [List.filter_cons_of_neg (by simp), List.eraseIdx_cons_zero, List.filter_eq_self]
    intro z hz
    have : z.job ≠ y.job := fun e => hn.1 (by rw [← e]; exact List.mem_map_of_mem hz)
    simpa using this
  | y :: l, i + 1, x, hn, h => by
    rw [List.map_cons, List.nodup_cons] at hn
    have hx : l[i]? = some x := by simpa using h
    have hy : y.job ≠ x.job := fun e => hn.1 (by rw [e]; exact List.mem_map_of_mem (List.mem_of_getElem? hx))
    rw [List.filter_cons_of_pos (by simpa using hy), List.eraseIdx_cons_succ, filter_erase (p := p) l i x hn.2 hx]
theorem left_start {ws : List Wn} (hn : (ws.map (·.job)).Nodup) {S : List Int} {i : Nat} {x : Wn} (hx : (leftOf ws S)[i]? = some x) : leftOf ws (S ++ [x.job]) = (leftOf ws S).eraseIdx i := by
  rw [← filter_erase (p := fun _ => true) _ i x (left_nodup hn S) hx]
  unfold leftOf
  rw [List.filter_filter]
  congr 1
  funext y
  by_cases h1 : y.job ∈ S <;> by_cases h2 : y.job = x.job <;> simp [h1, h2]
theorem ranked_left : ∀ (l : List Wn) (s : RS) (S : List Int), (∀ j ∈ S, j ∈ s.starts) → rankedP s (leftOf l S) = rankedP s l
  | [], s, S, _ => rfl
  | x :: l, s, S, h => by
    unfold leftOf
    by_cases h1 : x.job ∈ S
    · rw [List.filter_cons_of_neg (by simpa using h1)]
      have := ranked_left l s S h
      unfold leftOf at this
      rw [this]
      conv => rhs; unfold rankedP
      rw [if_pos (h _ h1)]
    · rw [List.filter_cons_of_pos (by simpa using h1)]
      unfold rankedP
      split
      · exact ranked_left l s S h
      · split
        · exact ranked_left l _ S (fun j hj => List.mem_append_left _ (h j hj))
        · rfl
theorem fill_skip {s : RS} {x : Wn} (h : x.job ∈ s.starts) : fillStep s x = s := by unfold fillStep; rw [if_pos (.inl h)]
theorem fill_grow (s : RS) (x : Wn) : ∀ j ∈ s.starts, j ∈ (fillStep s x).starts := fun j hj => by
  unfold fillStep
  split
  · exact hj
  · split
    · exact List.mem_append_left _ hj
    · split
      · exact List.mem_append_left _ hj
      · exact hj
theorem fill_left : ∀ (l : List Wn) (s : RS) (S : List Int), (∀ j ∈ S, j ∈ s.starts) → (leftOf l S).foldl fillStep s = l.foldl fillStep s
  | [], s, S, _ => rfl
  | x :: l, s, S, h => by
    unfold leftOf
    by_cases h1 : x.job ∈ S
    · rw [List.filter_cons_of_neg (by simpa using h1), List.foldl_cons, fill_skip (h _ h1)]
      exact fill_left l s S h
    · rw [List.filter_cons_of_pos (by simpa using h1), List.foldl_cons, List.foldl_cons]
      exact fill_left l _ S (fun j hj => fill_grow s x j (h j hj))
end Go.Proofs.HL.Pa

/- Steps rise; the last has all; the first that has enough. -/
import Derived.Test.YtebibcaahjmjfaaPrPlain
set_option linter.unusedVariables false
namespace Go.Proofs.HL.Pr

theorem atS_lt {free : Int} {l : List Rn} (h : ∀ r ∈ l, 1 ≤ r.nodes ∧ r.nodes ≤ 256) {t n : Int} (hn : nextS l t = some n) : atS free l t < atS free l n := by
  obtain ⟨⟨r, hr, h0⟩, h1, -⟩ := nextS_some.1 hn
  clear hn
  have key : ∀ m : List Rn, (∀ r ∈ m, 1 ≤ r.nodes ∧ r.nodes ≤ 256) → r ∈ m → sumN (m.filter fun r => decide (r.fin ≤ t)) + 1 ≤ sumN (m.filter fun r => decide (r.fin ≤ n)) := by
    intro m hm hrm
    induction m with
    | nil => cases hrm
    | cons y m ih =>
      have hy := hm y (List.mem_cons_self ..)
      have hm' := fun x hx => hm x (List.mem_cons_of_mem _ hx)
      have hmono : sumN (m.filter fun r => decide (r.fin ≤ t)) ≤ sumN (m.filter fun r => decide (r.fin ≤ n)) := by
        have := atS_mono (free := 0) hm' (t := t) (u := n) (by omega)
        unfold atS at this
        omega
      rcases List.mem_cons.1 hrm with rfl | hrm
      · have e1 : ¬ r.fin ≤ t := by omega
        have e2 : r.fin ≤ n := by omega
        simp only [List.filter_cons, e1, decide_false, Bool.false_eq_true, if_false, e2, decide_true, if_true, sumN]
        omega
      · have := ih hm' hrm
        by_cases e1 : y.fin ≤ t
        · have e2 : y.fin ≤ n := by omega
          simp only [List.filter_cons, e1, decide_true, if_true, e2, sumN]
          omega
        · by_cases e2 : y.fin ≤ n
          · simp only [List.filter_cons, e1, decide_false, Bool.false_eq_true, if_false, e2, decide_true, if_true, sumN]
            omega
          · simp only [List.filter_cons, e1, decide_false, Bool.false_eq_true, if_false, e2]
            omega
  have := key l h hr
  unfold atS
  omega

/-- Rising in both numbers. -/
def RiseT (T : List Sp) : Prop := T.Pairwise fun a b => a.at_ < b.at_ ∧ a.free < b.free
theorem stepsT_above {free : Int} {l : List Rn} (h : ∀ r ∈ l, 1 ≤ r.nodes ∧ r.nodes ≤ 256) : ∀ (g : Nat) (t : Int), above l t ≤ g → (∀ s ∈ stepsT free l t, t < s.at_ ∧ atS free l t < s.free) ∧ RiseT (stepsT free l t) := by
  intro g
  induction g with
  | zero =>
    intro t hg
    have hn : nextS l t = none := by
      cases hn : nextS l t with
      | none => rfl
      | some n => have := above_lt hn; omega
    rw [stepsT_none hn]
    exact ⟨(fun s hs => nomatch hs), List.Pairwise.nil⟩
  | succ g ih =>
    intro t hg
    cases hn : nextS l t with
    | none =>
      rw [stepsT_none hn]
      exact ⟨(fun s hs => nomatch hs), List.Pairwise.nil⟩
    | some n =>
      rw [stepsT_some hn]
      have h1 := above_lt hn
      obtain ⟨i1, i2⟩ := ih n (by omega)
      obtain ⟨-, h2, -⟩ := nextS_some.1 hn
      have h3 := atS_lt (free := free) h hn
      refine ⟨fun s hs => ?_, List.pairwise_cons.2 ⟨fun s hs => i1 s hs, i2⟩⟩
      rcases List.mem_cons.1 hs with rfl | hs
      · exact ⟨h2, h3⟩
      · have := i1 s hs
        omega
theorem riseS {now free : Int} {l : List Rn} (hf : rightB free l = true) : RiseT (stepsS now free l) := by
  rw [stepsS_eq]
  obtain ⟨i1, i2⟩ := stepsT_above (free := free) ((rightB_iff.1 hf).2.2) _ now (Nat.le_refl _)
  exact List.pairwise_cons.2 ⟨fun s hs => i1 s hs, i2⟩
theorem RiseT.next {T : List Sp} (h : RiseT T) {i : Nat} {a b : Sp} (ha : T[i]? = some a) (hb : T[i + 1]? = some b) : a.at_ < b.at_ ∧ a.free < b.free := by
  obtain ⟨h1, rfl⟩ := List.getElem?_eq_some_iff.1 ha
  obtain ⟨h2, rfl⟩ := List.getElem?_eq_some_iff.1 hb
  exact List.pairwise_iff_getElem.1 h i (i + 1) h1 h2 (by omega)
theorem last_all (free : Int) (l : List Rn) : ∀ (g : Nat) (t : Int), above l t ≤ g → ∀ x, ((⟨t, atS free l t⟩ : Sp) :: stepsT free l t).getLast? = some x → x.free = free + sumN l := by
  intro g
  have hnone : ∀ t, nextS l t = none → ∀ x, ((⟨t, atS free l t⟩ : Sp) :: stepsT free l t).getLast? = some x → x.free = free + sumN l := by
    intro t hn x hx
    rw [stepsT_none hn] at hx
    simp only [List.getLast?_singleton, Option.some.injEq] at hx
    subst hx
    have h1 := nextS_none.1 hn
    unfold atS
    rw [List.filter_eq_self.2 (fun r hr => decide_eq_true (h1 r hr))]
  induction g with
  | zero =>
    intro t hg
    refine hnone t ?_
    cases hn : nextS l t with
    | none => rfl
    | some n => have := above_lt hn; omega
  | succ g ih =>
    intro t hg x hx
    cases hn : nextS l t with
    | none => exact hnone t hn x hx
    | some n =>
      rw [stepsT_some hn, List.getLast?_cons_cons] at hx
      have h1 := above_lt hn
      exact ih n (by omega) x hx
theorem lastS {now free : Int} {l : List Rn} {x : Sp} (hx : (stepsS now free l)[(stepsS now free l).length - 1]? = some x) : x.free = free + sumN l := by
  rw [← List.getLast?_eq_getElem?, stepsS_eq] at hx
  exact last_all free l _ now (Nat.le_refl _) x hx

/-- The law's own way to what is free at a time. -/
def wantL (t : Int) (a : Int) : List Sp → Int
  | [] => a
  | s :: r => wantL t (if s.at_ ≤ t then s.free else a) r
theorem wantL_late {t a : Int} : ∀ {T : List Sp}, (∀ s ∈ T, t < s.at_) → wantL t a T = a
  | [], _ => rfl
  | s :: r, h => by
    unfold wantL
    have h1 := h s (List.mem_cons_self ..)
    rw [if_neg (by omega)]
    exact wantL_late fun x hx => h x (List.mem_cons_of_mem _ hx)
theorem wantL_goA {t : Int} : ∀ {T : List Sp} {a : Int}, RiseT T → wantL t a T = goA t a T
  | [], _, _ => rfl
  | s :: r, a, h => by
    obtain ⟨h1, h2⟩ := List.pairwise_cons.1 h
    unfold wantL goA
    by_cases hs : t < s.at_
    · rw [if_pos hs, if_neg (by omega)]
      exact wantL_late fun x hx => by have := (h1 x hx).1; omega
    · rw [if_neg hs, if_pos (by omega)]
      exact wantL_goA h2
theorem wantL_step {t a : Int} {T : List Sp} {k : Nat} {x : Sp} (hx : T[k]? = some x) : wantL t a (T.drop k) = wantL t (if x.at_ ≤ t then x.free else a) (T.drop (k + 1)) := by
  have hlt := (List.getElem?_eq_some_iff.1 hx).1
  rw [List.drop_eq_getElem_cons hlt]
  obtain ⟨_, rfl⟩ := List.getElem?_eq_some_iff.1 hx
  rfl
/-- The place of the first that has enough, so far. -/
def FirstAt (need : Int) (T : List Sp) (k : Nat) (f : Int) : Prop :=
  (f = -1 ∧ (0 ≤ need → shadowL need T = shadowL need (T.drop k))) ∨ ∃ (j : Nat) (x : Sp), f = j ∧ T[j]? = some x ∧ 0 ≤ need ∧ need ≤ x.free ∧ shadowL need T = (x.at_, x.free - need, true)
theorem shadow_step {need : Int} {T : List Sp} {k : Nat} {x : Sp} (hx : T[k]? = some x) : shadowL need (T.drop k) = if need ≤ x.free then (x.at_, x.free - need, true) else shadowL need (T.drop (k + 1)) := by
  have hlt := (List.getElem?_eq_some_iff.1 hx).1
  rw [List.drop_eq_getElem_cons hlt]
  obtain ⟨_, rfl⟩ := List.getElem?_eq_some_iff.1 hx
  rfl
theorem FirstAt.found {need : Int} {T : List Sp} {k : Nat} {f : Int} {x : Sp} (h : FirstAt need T k f) (hx : T[k]? = some x) (h1 : f < 0) (h2 : 0 ≤ need) (h3 : need ≤ x.free) : FirstAt need T (k + 1) k := by
  rcases h with ⟨rfl, hs⟩ | ⟨j, y, rfl, -⟩
  · refine .inr ⟨k, x, rfl, hx, h2, h3, ?_⟩
    rw [hs h2, shadow_step hx, if_pos h3]
  · omega
theorem FirstAt.stay {need : Int} {T : List Sp} {k : Nat} {f : Int} {x : Sp} (h : FirstAt need T k f) (hx : T[k]? = some x) (hc : ¬ (f < 0 ∧ 0 ≤ need ∧ need ≤ x.free)) : FirstAt need T (k + 1) f := by
  rcases h with ⟨rfl, hs⟩ | h
  · refine .inl ⟨rfl, fun h2 => ?_⟩
    rw [hs h2, shadow_step hx, if_neg (fun h3 => hc ⟨by omega, h2, h3⟩)]
  · exact .inr h
end Go.Proofs.HL.Pr

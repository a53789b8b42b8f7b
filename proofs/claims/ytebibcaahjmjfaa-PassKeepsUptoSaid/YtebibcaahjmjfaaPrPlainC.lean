/- The shadow as the least time at which enough are free; what a run more, or less, does to it. -/
import Derived.Test.YtebibcaahjmjfaaPrPlainB
set_option linter.unusedVariables false
namespace Go.Proofs.HL.Pr

theorem shadow_go (free : Int) (l : List Rn) (need : Int) : ∀ (g : Nat) (t0 : Int), above l t0 ≤ g →
    (∃ t, shadowL need ((⟨t0, atS free l t0⟩ : Sp) :: stepsT free l t0) = (t, atS free l t - need, true) ∧ t0 ≤ t ∧ need ≤ atS free l t ∧ ∀ u, t0 ≤ u → u < t → atS free l u < need) ∨
    (shadowL need ((⟨t0, atS free l t0⟩ : Sp) :: stepsT free l t0) = (0, 0, false) ∧ ∀ u, t0 ≤ u → atS free l u < need) := by
  intro g
  have hone : ∀ t0, need ≤ atS free l t0 → ∃ t, shadowL need ((⟨t0, atS free l t0⟩ : Sp) :: stepsT free l t0) = (t, atS free l t - need, true) ∧ t0 ≤ t ∧ need ≤ atS free l t ∧ ∀ u, t0 ≤ u → u < t → atS free l u < need := by
    intro t0 h
    exact ⟨t0, by simp only [shadowL, if_pos h], Int.le_refl _, h, fun u h1 h2 => by omega⟩
  have hnone : ∀ t0, nextS l t0 = none → ¬ need ≤ atS free l t0 → shadowL need ((⟨t0, atS free l t0⟩ : Sp) :: stepsT free l t0) = (0, 0, false) ∧ ∀ u, t0 ≤ u → atS free l u < need := by
    intro t0 hn h
    refine ⟨?_, fun u hu => ?_⟩
    · rw [stepsT_none hn]
      simp only [shadowL, if_neg h]
    · have h1 := nextS_none.1 hn
      have := atS_same (free := free) (l := l) (t0 := t0) (t := u) (fun r hr => by have := h1 r hr; omega)
      omega
  induction g with
  | zero =>
    intro t0 hg
    by_cases h : need ≤ atS free l t0
    · exact .inl (hone t0 h)
    · refine .inr (hnone t0 ?_ h)
      cases hn : nextS l t0 with
      | none => rfl
      | some n => have := above_lt hn; omega
  | succ g ih =>
    intro t0 hg
    by_cases h : need ≤ atS free l t0
    · exact .inl (hone t0 h)
    · cases hn : nextS l t0 with
      | none => exact .inr (hnone t0 hn h)
      | some n =>
        have h1 := above_lt hn
        obtain ⟨-, h2, h3⟩ := nextS_some.1 hn
        have hgap : ∀ u, t0 ≤ u → u < n → atS free l u < need := fun u hu1 hu2 => by
          have := atS_same (free := free) (l := l) (t0 := t0) (t := u) (fun r hr => by have := h3 r hr; omega)
          omega
        have e : shadowL need ((⟨t0, atS free l t0⟩ : Sp) :: stepsT free l t0) = shadowL need ((⟨n, atS free l n⟩ : Sp) :: stepsT free l n) := by
          rw [stepsT_some hn]
          exact if_neg h
        rw [e]
        rcases ih n (by omega) with ⟨t, i1, i2, i3, i4⟩ | ⟨i1, i2⟩
        · refine .inl ⟨t, i1, by omega, i3, fun u hu1 hu2 => ?_⟩
          rcases Int.lt_or_le u n with hu | hu
          · exact hgap u hu1 hu
          · exact i4 u hu hu2
        · refine .inr ⟨i1, fun u hu1 => ?_⟩
          rcases Int.lt_or_le u n with hu | hu
          · exact hgap u hu1 hu
          · exact i2 u hu

/-- What Shadow answers, of right numbers. -/
theorem shadow_spec {now free : Int} {l : List Rn} {need : Int} (hf : rightB free l = true) (hn : 0 ≤ need) :
    (∃ t, shadowAll now free l need = (t, atS free l t - need, true) ∧ now ≤ t ∧ need ≤ atS free l t ∧ ∀ u, now ≤ u → u < t → atS free l u < need) ∨
    (shadowAll now free l need = (0, 0, false) ∧ ∀ u, now ≤ u → atS free l u < need) := by
  have e : shadowAll now free l need = shadowL need ((⟨now, atS free l now⟩ : Sp) :: stepsT free l now) := by
    unfold shadowAll stepsAll
    rw [if_neg (by omega), if_pos hf, stepsS_eq]
  rw [e]
  exact shadow_go free l need _ now (Nat.le_refl _)
theorem shadow_right {now free : Int} {l : List Rn} {need a m : Int} (h : shadowAll now free l need = (a, m, true)) : rightB free l = true ∧ 0 ≤ need := by
  have hn : 0 ≤ need := by
    rcases Int.lt_or_le need 0 with h1 | h1
    · unfold shadowAll at h
      rw [if_pos h1] at h
      simp at h
    · exact h1
  refine ⟨?_, hn⟩
  cases hf : rightB free l with
  | true => rfl
  | false =>
    unfold shadowAll stepsAll at h
    rw [hf] at h
    simp [shadowL] at h
theorem shadow_true {now free : Int} {l : List Rn} {need a m : Int} (h : shadowAll now free l need = (a, m, true)) :
    m = atS free l a - need ∧ now ≤ a ∧ need ≤ atS free l a ∧ ∀ u, now ≤ u → u < a → atS free l u < need := by
  obtain ⟨hf, hn⟩ := shadow_right h
  rcases shadow_spec (now := now) hf hn with ⟨t, h1, h2, h3, h4⟩ | ⟨h1, -⟩
  · rw [h] at h1
    simp only [Prod.mk.injEq, and_true] at h1
    obtain ⟨rfl, rfl⟩ := h1
    exact ⟨rfl, h2, h3, h4⟩
  · rw [h] at h1
    simp at h1
theorem shadow_eq {now free : Int} {l : List Rn} {need t : Int} (hf : rightB free l = true) (hn : 0 ≤ need) (h1 : now ≤ t) (h2 : need ≤ atS free l t) (h3 : ∀ u, now ≤ u → u < t → atS free l u < need) :
    shadowAll now free l need = (t, atS free l t - need, true) := by
  rcases shadow_spec (now := now) hf hn with ⟨a, i1, i2, i3, i4⟩ | ⟨-, i2⟩
  · have : a = t := by
      rcases Int.lt_trichotomy a t with h | h | h
      · have := h3 a i2 h; omega
      · exact h
      · have := i4 t h1 h; omega
    rw [i1, this]
  · have := i2 t h1
    omega
/-- Where at no time fewer are free, the shadow is no later. -/
theorem shadow_no_later {now free free' : Int} {l l' : List Rn} {need a m : Int} (h : shadowAll now free l need = (a, m, true)) (hf : rightB free' l' = true) (hmore : atS free l a ≤ atS free' l' a) :
    ∃ a' m', shadowAll now free' l' need = (a', m', true) ∧ a' ≤ a := by
  obtain ⟨-, hn⟩ := shadow_right h
  obtain ⟨-, h1, h2, -⟩ := shadow_true h
  rcases shadow_spec (now := now) hf hn with ⟨t, i1, i2, i3, i4⟩ | ⟨-, i2⟩
  · refine ⟨t, _, i1, ?_⟩
    rcases Int.lt_or_le a t with h3 | h3
    · have := i4 a h1 h3; omega
    · exact h3
  · have := i2 a h1
    omega
theorem shadowAll_perm {l m : List Rn} (h : l.Perm m) (now free need : Int) : shadowAll now free l need = shadowAll now free m need := by
  unfold shadowAll
  rw [stepsAll_perm h]

theorem sum_set {l : List Rn} {p : Nat} {x y : Rn} (hp : l[p]? = some x) (t : Int) (free : Int) : atS free (l.set p y) t = atS free l t - (if x.fin ≤ t then x.nodes else 0) + (if y.fin ≤ t then y.nodes else 0) := by
  unfold atS
  induction l generalizing p with
  | nil => simp at hp
  | cons r l ih =>
    cases p with
    | zero =>
      simp only [List.getElem?_cons_zero, Option.some.injEq] at hp
      subst hp
      rw [List.set_cons_zero]
      by_cases h1 : r.fin ≤ t <;> by_cases h2 : y.fin ≤ t <;> simp [List.filter_cons, h1, h2, sumN] <;> omega
    | succ p =>
      simp only [List.getElem?_cons_succ] at hp
      have := ih hp
      rw [List.set_cons_succ]
      by_cases h1 : r.fin ≤ t
      · simp only [List.filter_cons, h1, decide_true, if_true, sumN]; omega
      · simp only [List.filter_cons, h1, decide_false, Bool.false_eq_true, if_false]; omega
theorem sum_erase {l : List Rn} {p : Nat} {x : Rn} (hp : l[p]? = some x) (t : Int) (free : Int) : atS free (l.eraseIdx p) t = atS free l t - (if x.fin ≤ t then x.nodes else 0) := by
  unfold atS
  induction l generalizing p with
  | nil => simp at hp
  | cons r l ih =>
    cases p with
    | zero =>
      simp only [List.getElem?_cons_zero, Option.some.injEq] at hp
      subst hp
      rw [List.eraseIdx_cons_zero]
      by_cases h1 : r.fin ≤ t <;> simp [List.filter_cons, h1, sumN] <;> omega
    | succ p =>
      simp only [List.getElem?_cons_succ] at hp
      have := ih hp
      rw [List.eraseIdx_cons_succ]
      by_cases h1 : r.fin ≤ t
      · simp only [List.filter_cons, h1, decide_true, if_true, sumN]; omega
      · simp only [List.filter_cons, h1, decide_false, Bool.false_eq_true, if_false]; omega
theorem atS_free (free k : Int) (l : List Rn) (t : Int) : atS (free + k) l t = atS free l t + k := by unfold atS; omega

/-- A run that ends earlier. -/
theorem less_early {now free : Int} {l : List Rn} {need a m e : Int} {p : Nat} {x : Rn} (h : shadowAll now free l need = (a, m, true)) (hp : l[p]? = some x) :
    ∃ a' m', shadowAll now free (l.set p ⟨x.nodes, if e < x.fin then e else x.fin⟩) need = (a', m', true) ∧ a' ≤ a := by
  obtain ⟨hf, hn⟩ := shadow_right h
  obtain ⟨f1, f2, f3⟩ := rightB_iff.1 hf
  have hx := f3 x (List.mem_of_getElem? hp)
  refine shadow_no_later h (rightB_iff.2 ⟨f1, f2, fun r hr => ?_⟩) ?_
  · rcases List.mem_or_eq_of_mem_set hr with hr | rfl
    · exact f3 r hr
    · exact hx
  · rw [sum_set hp]
    have he : (if e < x.fin then e else x.fin) ≤ x.fin := by split <;> omega
    generalize (if e < x.fin then e else x.fin) = e' at he ⊢
    simp only
    split <;> split <;> omega
/-- A run that is gone, its nodes free. -/
theorem less_gone {now free : Int} {l : List Rn} {need a m : Int} {p : Nat} {x : Rn} (h : shadowAll now free l need = (a, m, true)) (hp : l[p]? = some x) (hall : free + x.nodes ≤ 256) :
    ∃ a' m', shadowAll now (free + x.nodes) (l.eraseIdx p) need = (a', m', true) ∧ a' ≤ a := by
  obtain ⟨hf, hn⟩ := shadow_right h
  obtain ⟨f1, f2, f3⟩ := rightB_iff.1 hf
  have hx := f3 x (List.mem_of_getElem? hp)
  refine shadow_no_later h (rightB_iff.2 ⟨by omega, hall, fun r hr => f3 r (List.mem_of_mem_eraseIdx hr)⟩) ?_
  rw [atS_free, sum_erase hp]
  split <;> omega
theorem atS_more (free k e : Int) (l : List Rn) (t : Int) : atS (free - k) (l ++ [⟨k, e⟩]) t = if e ≤ t then atS free l t else atS free l t - k := by
  rw [atS_snoc]
  have := atS_free free (-k) l t
  rw [show free + -k = free - k by omega] at this
  rw [this]
  simp only
  split <;> omega
theorem less_more {now free : Int} {l : List Rn} {need a m k e : Int} (h : shadowAll now free l need = (a, m, true)) (hk1 : 1 ≤ k) (hk2 : k ≤ free) :
    (e ≤ a → shadowAll now (free - k) (l ++ [⟨k, e⟩]) need = (a, m, true)) ∧ (a < e → k ≤ m → shadowAll now (free - k) (l ++ [⟨k, e⟩]) need = (a, m - k, true)) := by
  obtain ⟨hf, hn⟩ := shadow_right h
  obtain ⟨f1, f2, f3⟩ := rightB_iff.1 hf
  obtain ⟨hm, h1, h2, h3⟩ := shadow_true h
  have hf' : rightB (free - k) (l ++ [⟨k, e⟩]) = true := by
    refine rightB_iff.2 ⟨by omega, by omega, fun r hr => ?_⟩
    rcases List.mem_append.1 hr with hr | hr
    · exact f3 r hr
    · obtain rfl := List.mem_singleton.1 hr
      exact ⟨hk1, by simp only; omega⟩
  have hlow : ∀ u, now ≤ u → u < a → atS (free - k) (l ++ [⟨k, e⟩]) u < need := fun u hu1 hu2 => by
    have := h3 u hu1 hu2
    rw [atS_more]
    split <;> omega
  constructor
  · intro he
    have ha : atS (free - k) (l ++ [⟨k, e⟩]) a = atS free l a := by rw [atS_more, if_pos he]
    rw [shadow_eq hf' hn h1 (by rw [ha]; exact h2) hlow, ha, hm]
  · intro he hkm
    have ha : atS (free - k) (l ++ [⟨k, e⟩]) a = atS free l a - k := by rw [atS_more, if_neg (by omega)]
    rw [shadow_eq hf' hn h1 (by rw [ha]; omega) hlow, ha, hm]
    congr 2
    omega
end Go.Proofs.HL.Pr

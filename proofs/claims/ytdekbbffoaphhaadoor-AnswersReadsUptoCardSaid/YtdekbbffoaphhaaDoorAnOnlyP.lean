/- The reference's event, plainly: only, words. -/
import Derived.Test.YtdekbbffoaphhaaDoorAnAll
import Derived.Test.YtdekbbffoaphhaaDoorAnEvent
set_option linter.unusedVariables false
set_option linter.unusedSimpArgs false
namespace Go.Proofs.An
def submitB : ByteArray := ⟨#[115, 117, 98, 109, 105, 116]⟩
def startB : ByteArray := ⟨#[115, 116, 97, 114, 116]⟩
def endB : ByteArray := ⟨#[101, 110, 100]⟩
def pinB : ByteArray := ⟨#[112, 105, 110]⟩
def passB : ByteArray := ⟨#[112, 97, 115, 115]⟩
def tickB : ByteArray := ⟨#[116, 105, 99, 107]⟩
def decayB : ByteArray := ⟨#[100, 101, 99, 97, 121]⟩
def onlyE (e : Ev) : Ev :=
  if e.kind = 1 then ⟨e.kind, e.job, e.tm, e.nd, e.lm, []⟩ else if e.kind = 2 then ⟨e.kind, e.job, e.tm, 0, 0, e.list⟩ else if e.kind = 3 then ⟨e.kind, e.job, e.tm, e.nd, 0, []⟩
  else if e.kind = 4 then ⟨e.kind, e.job, e.tm, 0, 0, []⟩ else if e.kind = 5 then ⟨e.kind, 0, e.tm, 0, 0, e.list⟩ else ⟨e.kind, 0, e.tm, 0, 0, []⟩
def onlyW (e : Ev) : List ByteArray :=
  if e.kind = 1 then submitB :: allW [e.job, e.tm, e.nd, e.lm] else if e.kind = 2 then startB :: allW ([e.job, e.tm] ++ e.list) else if e.kind = 3 then endB :: (allW [e.job, e.tm] ++ [stW e.nd])
  else if e.kind = 4 then pinB :: allW [e.job, e.tm] else if e.kind = 5 then passB :: allW ([e.tm] ++ e.list) else if e.kind = 6 then tickB :: allW [e.tm] else if e.kind = 7 then decayB :: allW [e.tm] else []
theorem numsT_app (l m : List Int) : numsT (l ++ m) = numsT l ++ numsT m := by simp [numsT, List.flatMap_append]
theorem wordsT_end (s : ByteArray) (l : List Int) (t : ByteArray) : wordsT (s :: (allW l ++ [t])) = s.data.toList ++ numsT l ++ 32 :: t.data.toList := by
  rw [← List.cons_append, wordsT_snoc _ _ (by simp), wordsT_nums]
theorem onlyW_text {e : Ev} (h : right e = true) : wordsT (onlyW e) = evT e := by
  rcases kinds7 h with hk | hk | hk | hk | hk | hk | hk
  · rw [evT_1 hk]; simp [onlyW, hk, wordsT_nums, submitB]
  · rw [evT_2 hk]; simp only [onlyW, hk]; rw [if_neg (by decide), if_pos trivial, wordsT_nums, numsT_app]; simp [startB]
  · rw [evT_3 hk]; simp only [onlyW, hk]; rw [if_neg (by decide), if_neg (by decide), if_pos trivial, wordsT_end]; simp [endB]
  · rw [evT_4 hk]; simp [onlyW, hk, wordsT_nums, pinB]
  · rw [evT_5 hk]; simp only [onlyW, hk]; rw [if_neg (by decide), if_neg (by decide), if_neg (by decide), if_neg (by decide), if_pos trivial, wordsT_nums, numsT_app]; simp [passB]
  · rw [evT_6 hk]; simp [onlyW, hk, wordsT_nums, tickB]
  · rw [evT_7 hk]; simp [onlyW, hk, wordsT_nums, decayB]
theorem risF_sgn : ∀ (a : Int) (l : List Int), -1 ≤ a → risF a l = true → sgn l = true
  | _, [], _, _ => rfl
  | a, n :: l, ha, h => by
    simp only [risF, Bool.and_eq_true, decide_eq_true_eq] at h
    have := risF_sgn n l (by omega) h.2
    simp only [sgn, List.all_cons, Bool.and_eq_true, decide_eq_true_eq] at this ⊢
    exact ⟨by omega, this⟩
theorem sgn4 (a b c d : Int) : sgn [a, b, c, d] = (decide (0 ≤ a) && (decide (0 ≤ b) && (decide (0 ≤ c) && decide (0 ≤ d)))) := by simp [sgn]
theorem sgn3 : sgn [] = true := rfl
/-- What the reference asks of an event. -/
def refR1 (e : Ev) : Bool := !((onlyW e).length == 0) && sameB (onlyE e) e && decide (0 ≤ e.job) && decide (0 ≤ e.tm) && decide (0 ≤ e.nd) && decide (0 ≤ e.lm) && sgn e.list
def refR2 (e : Ev) : Bool := !(e.kind == 3 && (decide (e.nd < 3) || decide (6 < e.nd))) && !(e.kind == 2 && !ris e.list)
theorem refR_eq (e : Ev) : (refR1 e && refR2 e) = right e := by
  obtain ⟨k, j, t, n, m, l⟩ := e
  have hs : ris l = true → sgn l = true := fun h => risF_sgn (-1) l (by omega) h
  have hn : sgn [] = true := rfl
  by_cases h1 : k = 1
  · subst h1
    rw [Bool.eq_iff_iff]
    simp [refR1, refR2, right, okK, onlyW, onlyE, sameB, noneB, bareB, allW, sgn4, sgn3]
    cases hl : l with
    | nil => subst hl; simp [sgn, ris, risF]; try omega
    | cons a r =>
      rw [← hl]
      have hne : l ≠ [] := by rw [hl]; simp
      have hne2 : ¬ ([] = l) := fun h => hne h.symm
      cases hr : ris l <;> cases hg : sgn l <;> simp_all <;> try omega
  by_cases h2 : k = 2
  · subst h2
    rw [Bool.eq_iff_iff]
    simp [refR1, refR2, right, okK, onlyW, onlyE, sameB, noneB, bareB, allW, sgn4, sgn3]
    cases hl : l with
    | nil => subst hl; simp [sgn, ris, risF]; try omega
    | cons a r =>
      rw [← hl]
      have hne : l ≠ [] := by rw [hl]; simp
      have hne2 : ¬ ([] = l) := fun h => hne h.symm
      cases hr : ris l <;> cases hg : sgn l <;> simp_all <;> try omega
  by_cases h3 : k = 3
  · subst h3
    rw [Bool.eq_iff_iff]
    simp [refR1, refR2, right, okK, onlyW, onlyE, sameB, noneB, bareB, allW, sgn4, sgn3]
    cases hl : l with
    | nil => subst hl; simp [sgn, ris, risF]; try omega
    | cons a r =>
      rw [← hl]
      have hne : l ≠ [] := by rw [hl]; simp
      have hne2 : ¬ ([] = l) := fun h => hne h.symm
      cases hr : ris l <;> cases hg : sgn l <;> simp_all <;> try omega
  by_cases h4 : k = 4
  · subst h4
    rw [Bool.eq_iff_iff]
    simp [refR1, refR2, right, okK, onlyW, onlyE, sameB, noneB, bareB, allW, sgn4, sgn3]
    cases hl : l with
    | nil => subst hl; simp [sgn, ris, risF]; try omega
    | cons a r =>
      rw [← hl]
      have hne : l ≠ [] := by rw [hl]; simp
      have hne2 : ¬ ([] = l) := fun h => hne h.symm
      cases hr : ris l <;> cases hg : sgn l <;> simp_all <;> try omega
  by_cases h5 : k = 5
  · subst h5
    rw [Bool.eq_iff_iff]
    simp [refR1, refR2, right, okK, onlyW, onlyE, sameB, noneB, bareB, allW, sgn4, sgn3]
    cases hl : l with
    | nil => subst hl; simp [sgn, ris, risF]; try omega
    | cons a r =>
      rw [← hl]
      have hne : l ≠ [] := by rw [hl]; simp
      have hne2 : ¬ ([] = l) := fun h => hne h.symm
      cases hr : ris l <;> cases hg : sgn l <;> simp_all <;> try omega
  by_cases h6 : k = 6
  · subst h6
    rw [Bool.eq_iff_iff]
    simp [refR1, refR2, right, okK, onlyW, onlyE, sameB, noneB, bareB, allW, sgn4, sgn3]
    cases hl : l with
    | nil => subst hl; simp [sgn, ris, risF]; try omega
    | cons a r =>
      rw [← hl]
      have hne : l ≠ [] := by rw [hl]; simp
      have hne2 : ¬ ([] = l) := fun h => hne h.symm
      cases hr : ris l <;> cases hg : sgn l <;> simp_all <;> try omega
  by_cases h7 : k = 7
  · subst h7
    rw [Bool.eq_iff_iff]
    simp [refR1, refR2, right, okK, onlyW, onlyE, sameB, noneB, bareB, allW, sgn4, sgn3]
    cases hl : l with
    | nil => subst hl; simp [sgn, ris, risF]; try omega
    | cons a r =>
      rw [← hl]
      have hne : l ≠ [] := by rw [hl]; simp
      have hne2 : ¬ ([] = l) := fun h => hne h.symm
      cases hr : ris l <;> cases hg : sgn l <;> simp_all <;> try omega
  simp [refR1, right, okK, onlyW, h1, h2, h3, h4, h5, h6, h7]
end Go.Proofs.An

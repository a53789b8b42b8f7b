/- What a pass tells, as plain lists. -/
import Derived.Test.YtebibcaahjmjfaaPaMay
import Derived.Test.YtebibcaahjmjfaaPrPlainC
set_option linter.unusedVariables false
namespace Go.Proofs.HL.Pa
open Go.Proofs.HL.Pr

/-- The beginning. -/
def rs0 (now free holder : Int) (l : List Rn) : RS := ⟨now, free, l, [], holder, 0, 0⟩
/-- The holder's turn, then those in their rank. -/
def passA (now free : Int) (ws : List Wn) (holder : Int) (l : List Rn) : RS × Int := ws.foldl (holdStep holder) (rs0 now free holder l, 0)
def passB (now free : Int) (ws : List Wn) (holder : Int) (l : List Rn) : RS × Int :=
  if (passA now free ws holder l).1.holder = -1 then rankedP (passA now free ws holder l).1 ws else passA now free ws holder l
/-- Who holds has a shadow. -/
def pinS (now : Int) (p : RS × Int) : RS := if 0 ≤ p.1.holder then { p.1 with shadow := (shadowAll now p.1.free p.1.runs p.2).1, extra := (shadowAll now p.1.free p.1.runs p.2).2.1 } else p.1
def passC (now free : Int) (ws : List Wn) (holder : Int) (l : List Rn) : RS := pinS now (passB now free ws holder l)
def passD (now free : Int) (ws : List Wn) (holder : Int) (l : List Rn) : RS :=
  if 0 ≤ (passC now free ws holder l).holder then ws.foldl fillStep (passC now free ws holder l) else passC now free ws holder l

theorem hold_nil {holder : Int} : ∀ (l : List Wn) (p : RS × Int), holder ∉ l.map (·.job) → l.foldl (holdStep holder) p = p
  | [], p, _ => rfl
  | x :: l, p, h => by
    have h1 : x.job ≠ holder := fun e => h (by simp [e])
    have h2 : holder ∉ l.map (·.job) := fun e => h (by simp only [List.map_cons, List.mem_cons]; exact .inr e)
    rw [List.foldl_cons, show holdStep holder p x = p by unfold holdStep; rw [if_pos h1]]
    exact hold_nil l p h2
theorem shadowL_false {need : Int} : ∀ (l : List Sp) {a m : Int}, shadowL need l = (a, m, false) → m = 0
  | [], a, m, h => by simp only [shadowL, Prod.mk.injEq] at h; exact h.2.1.symm
  | s :: r, a, m, h => by
    unfold shadowL at h
    split at h
    · simp at h
    · exact shadowL_false r h
theorem shadow_ex {now free need : Int} {l : List Rn} (hl : l.length ≤ 8796093022208) : 0 ≤ (shadowAll now free l need).2.1 ∧ (shadowAll now free l need).2.1 ≤ 4503599627370496 := by
  obtain ⟨a, m, b, h⟩ : ∃ a m b, shadowAll now free l need = (a, m, b) := ⟨_, _, _, rfl⟩
  rw [h]
  cases b with
  | false =>
    have : m = 0 := by
      unfold shadowAll at h
      split at h
      · simp only [Prod.mk.injEq] at h; exact h.2.1.symm
      · exact shadowL_false _ h
    subst this
    exact ⟨Int.le_refl _, by show (0 : Int) ≤ _; omega⟩
  | true =>
    obtain ⟨hr, hn⟩ := shadow_right h
    have h2 := shadow_true h
    have h3 := atS_bd hr a
    show 0 ≤ m ∧ m ≤ _
    omega
end Go.Proofs.HL.Pa

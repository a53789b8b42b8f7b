/- Commands as plain data. -/
set_option linter.unusedVariables false
namespace Go.Proofs.Ve
structure Cm where
  kind : Int
  name : ByteArray
  par : ByteArray
  sh : Int
  nd : Int
  lm : Int
  jb : Int
  tk : Int
deriving DecidableEq
def numF (c : Cm) (f : Nat) : Int := if f = 2 then c.sh else if f = 3 then c.nd else if f = 4 then c.lm else if f = 5 then c.jb else c.tk
def txtF (c : Cm) (f : Nat) : ByteArray := if f = 0 then c.name else c.par
def setN (c : Cm) (f : Nat) (n : Int) : Cm := if f = 2 then { c with sh := n } else if f = 3 then { c with nd := n } else if f = 4 then { c with lm := n } else if f = 5 then { c with jb := n } else { c with tk := n }
def setT (c : Cm) (f : Nat) (s : ByteArray) : Cm := if f = 0 then { c with name := s } else { c with par := s }
def zeroC (k : Int) : Cm := ⟨k, ⟨#[]⟩, ⟨#[]⟩, 0, 0, 0, 0, 0⟩
/-- A letter of a name. -/
def okN (n : Int) : Bool := (decide (97 ≤ n) && decide (n ≤ 122)) || (decide (65 ≤ n) && decide (n ≤ 90)) || (decide (48 ≤ n) && decide (n ≤ 57)) || n == 45 || n == 95
def okS (l : List UInt8) : Bool := l.all fun c => okN (c.toNat : Int)
def validB (s : ByteArray) : Bool := decide (1 ≤ s.size) && decide (s.size ≤ 32) && okS s.data.toList
structure Verb where
  kind : Int
  word : ByteArray
  fs : List Nat
def verbL : List Verb := [⟨1, ⟨#[115, 117, 98, 109, 105, 116]⟩, [0, 3, 4]⟩, ⟨2, ⟨#[99, 97, 110, 99, 101, 108]⟩, [5]⟩, ⟨3, ⟨#[99, 111, 109, 112, 108, 101, 116, 101]⟩, [5]⟩, ⟨4, ⟨#[116, 105, 99, 107]⟩, [6]⟩,
  ⟨5, ⟨#[97, 99, 99, 111, 117, 110, 116]⟩, [0, 1, 2]⟩, ⟨6, ⟨#[115, 104, 97, 114, 101, 115]⟩, [0, 2]⟩, ⟨7, ⟨#[109, 111, 118, 101]⟩, [0, 1]⟩, ⟨8, ⟨#[99, 108, 111, 115, 101]⟩, [0]⟩, ⟨9, ⟨#[106, 111, 98]⟩, [5]⟩,
  ⟨10, ⟨#[113, 117, 101, 117, 101]⟩, []⟩, ⟨11, ⟨#[117, 115, 97, 103, 101]⟩, [0]⟩, ⟨12, ⟨#[110, 111, 100, 101, 115]⟩, []⟩, ⟨13, ⟨#[99, 111, 110, 102, 105, 103]⟩, []⟩]
/-- What a command's fields are alone; none: one of them may not be. -/
def chk (c : Cm) : Cm → List Nat → Option Cm
  | o, [] => some o
  | o, f :: fs => if f < 2 then (if validB (txtF c f) then chk c (setT o f (txtF c f)) fs else none) else if numF c f < 0 then none else chk c (setN o f (numF c f)) fs
def okV (c : Cm) (v : Verb) : Bool := match chk c (zeroC c.kind) v.fs with | none => false | some o => decide (o = c)
def checkB (c : Cm) : Bool := match verbL.find? (fun v => v.kind == c.kind) with | none => false | some v => okV c v
def checkN (c : Cm) : Int := if checkB c then 0 else 84
theorem fs_le : ∀ V ∈ verbL, ∀ f ∈ V.fs, f ≤ 6 := by decide
theorem find_at {α : Type} {q : α → Bool} : ∀ (l : List α) (k : Nat) (x : α), l[k]? = some x → q x = true → (∀ j y, j < k → l[j]? = some y → q y = false) → l.find? q = some x
  | [], k, x, h, _, _ => by simp at h
  | y :: l, 0, x, h, hx, _ => by
    simp only [List.getElem?_cons_zero, Option.some.injEq] at h
    subst h
    rw [List.find?_cons, hx]
  | y :: l, k + 1, x, h, hx, hb => by
    rw [List.find?_cons, hb 0 y (by omega) rfl]
    exact find_at l k x (by simpa using h) hx (fun j z hj hz => hb (j + 1) z (by omega) (by simpa using hz))
theorem find_no {α : Type} {q : α → Bool} {l : List α} (h : ∀ j y, j < l.length → l[j]? = some y → q y = false) : l.find? q = none := by
  rw [List.find?_eq_none]
  intro x hx
  obtain ⟨j, hj, rfl⟩ := List.getElem_of_mem hx
  rw [h j _ hj (List.getElem?_eq_getElem hj)]
  exact Bool.false_ne_true
theorem checkN_no {c : Cm} (h : checkB c = false) : checkN c = 84 := by unfold checkN; rw [h]; rfl
theorem checkN_yes {c : Cm} (h : checkB c = true) : checkN c = 0 := by unfold checkN; rw [h]; rfl
end Go.Proofs.Ve

/- Events as plain data, and their lines. -/
import Derived.Lib.ItoaLen
import Derived.Lib.ItoaMem
set_option linter.unusedVariables false
namespace Go.Proofs.An
structure Ev where
 kind : Int
 job : Int
 tm : Int
 nd : Int
 lm : Int
 list : List Int
deriving DecidableEq
def stW (n : Int) : ByteArray :=
 if n = 1 then ⟨#[112, 101, 110, 100, 105, 110, 103]⟩ else if n = 2 then ⟨#[114, 117, 110, 110, 105, 110, 103]⟩ else if n = 3 then ⟨#[99, 111, 109, 112, 108, 101, 116, 101, 100]⟩
 else if n = 4 then ⟨#[107, 105, 108, 108, 101, 100]⟩ else if n = 5 then ⟨#[115, 116, 111, 112, 112, 101, 100]⟩ else if n = 6 then ⟨#[100, 114, 111, 112, 112, 101, 100]⟩ else ⟨#[]⟩
/-- A word's state; 0: it is none. -/
def stN (s : ByteArray) : Int := if s = stW 1 then 1 else if s = stW 2 then 2 else if s = stW 3 then 3 else if s = stW 4 then 4 else if s = stW 5 then 5 else if s = stW 6 then 6 else 0
def numsT (l : List Int) : List UInt8 := l.flatMap fun n => 32 :: Lib.itoa n
def sgn (l : List Int) : Bool := l.all fun n => decide (0 ≤ n)
def risF : Int → List Int → Bool
 | _, [] => true
 | a, n :: l => decide (a < n) && risF n l
def ris (l : List Int) : Bool := risF (-1) l
def bareB (e : Ev) : Bool := e.nd == 0 && e.lm == 0
def noneB (e : Ev) : Bool := e.list.length == 0
def okK (e : Ev) : Bool :=
 if e.kind = 1 then noneB e else if e.kind = 2 then bareB e && ris e.list else if e.kind = 3 then decide (3 ≤ e.nd) && decide (e.nd ≤ 6) && e.lm == 0 && noneB e
 else if e.kind = 4 then bareB e && noneB e else if e.kind = 5 then bareB e && e.job == 0 && sgn e.list else if e.kind = 6 ∨ e.kind = 7 then bareB e && e.job == 0 && noneB e else false
/-- An event that may be. -/
def right (e : Ev) : Bool := okK e && sgn [e.job, e.tm, e.nd, e.lm]
/-- An event's line. -/
def evT (e : Ev) : List UInt8 :=
 if e.kind = 1 then [115, 117, 98, 109, 105, 116] ++ numsT [e.job, e.tm, e.nd, e.lm] else if e.kind = 2 then [115, 116, 97, 114, 116] ++ numsT [e.job, e.tm] ++ numsT e.list
 else if e.kind = 3 then [101, 110, 100] ++ numsT [e.job, e.tm] ++ [32] ++ (stW e.nd).data.toList else if e.kind = 4 then [112, 105, 110] ++ numsT [e.job, e.tm]
 else if e.kind = 5 then [112, 97, 115, 115] ++ numsT [e.tm] ++ numsT e.list else if e.kind = 6 then [116, 105, 99, 107] ++ numsT [e.tm] else if e.kind = 7 then [100, 101, 99, 97, 121] ++ numsT [e.tm] else []
def evS (e : Ev) : ByteArray := if right e then ⟨(evT e).toArray⟩ else ⟨#[]⟩
def evN (e : Ev) : Int := if right e then 0 else 90
/-- Numbers that an int holds. -/
def Fits (l : List Int) : Prop := ∀ n ∈ l, -9223372036854775808 ≤ n ∧ n ≤ 9223372036854775807
structure EvOk (e : Ev) : Prop where
 job : -9223372036854775808 ≤ e.job ∧ e.job ≤ 9223372036854775807
 tm : -9223372036854775808 ≤ e.tm ∧ e.tm ≤ 9223372036854775807
 nd : -9223372036854775808 ≤ e.nd ∧ e.nd ≤ 9223372036854775807
 lm : -9223372036854775808 ≤ e.lm ∧ e.lm ≤ 9223372036854775807
 fits : Fits e.list
 few : e.list.length ≤ 4294967296
theorem numsT_snoc (l : List Int) (n : Int) : numsT (l ++ [n]) = numsT l ++ 32 :: Lib.itoa n := by simp [numsT, List.flatMap_append]
theorem numsT_len : ∀ (l : List Int), Fits l → (numsT l).length ≤ 22 * l.length
 | [], _ => by simp [numsT]
 | n :: l, h => by
  have h1 := numsT_len l (fun m hm => h m (List.mem_cons_of_mem _ hm))
  have h2 := h n (List.mem_cons_self ..)
  have h3 := Lib.itoa_length_le n h2.1 h2.2
  simp only [numsT, List.flatMap_cons, List.length_append, List.length_cons] at h1 ⊢
  omega
theorem sgn_snoc (l : List Int) (n : Int) : sgn (l ++ [n]) = (sgn l && decide (0 ≤ n)) := by simp [sgn]
theorem sgn_bad {l : List Int} {n : Int} (h : n ∈ l) (hn : n < 0) : sgn l = false := by
 unfold sgn
 rw [List.all_eq_false]
 exact ⟨n, h, by simp; omega⟩
def lastD (a : Int) (l : List Int) : Int := l.getLastD a
theorem risF_app : ∀ (a : Int) (l : List Int) (n : Int) (r : List Int), risF a (l ++ n :: r) = (risF a (l ++ [n]) && risF n r)
 | a, [], n, r => by simp [risF]
 | a, m :: l, n, r => by simp only [List.cons_append, risF, risF_app m l n r, Bool.and_assoc]
theorem risF_snoc : ∀ (a : Int) (l : List Int) (n : Int), risF a (l ++ [n]) = (risF a l && decide (l.getLastD a < n))
 | a, [], n => by simp [risF]
 | a, m :: l, n => by
  rw [List.cons_append, risF, risF, risF_snoc m l n, Bool.and_assoc]
  cases l with
  | nil => simp
  | cons b r => simp [List.getLast?_cons]
theorem ris_bad {l : List Int} {k : Nat} {n : Int} (h : l[k]? = some n) (hn : n ≤ (l.take k).getLastD (-1)) : ris l = false := by
 have hk := (List.getElem?_eq_some_iff.1 h).1
 have e : l = l.take k ++ n :: l.drop (k + 1) := by
  conv => lhs; rw [← List.take_append_drop k l]
  rw [List.drop_eq_getElem_cons hk, (List.getElem?_eq_some_iff.1 h).2]
 unfold ris
 rw [e, risF_app, risF_snoc]
 have : decide ((l.take k).getLastD (-1) < n) = false := decide_eq_false (by omega)
 rw [this]
 simp
theorem stW_size (n : Int) : (stW n).size ≤ 9 := by
 unfold stW
 repeat' split
 all_goals simp [ByteArray.size]
end Go.Proofs.An

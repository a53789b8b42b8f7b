/- Agendas as lists of entries: the plain side of their methods. -/
import Derived.Test.YthibbjllfmhdmaaSteps
set_option linter.unusedVariables false
namespace Go.Proofs.HL

/-- An entry of an agenda. -/
structure AgE (α : Type) where
  id : Int
  at_ : Int
  x : α

/-- What the map of an agenda holds. -/
def kv {α : Type} (enc : α → Value) (M : List (AgE α)) : List (Int × Value) := M.map fun e => (e.id, .agg #[.int .i64 e.at_, enc e.x])
/-- The entry of a number. -/
def findE {α : Type} (M : List (AgE α)) (id : Int) : Option (AgE α) := M.find? fun e => e.id == id
/-- The time in an entry's value. -/
def atOf : Value → Int | .agg cs => RowKit.intOf (cs.getD 0 undef) | _ => 0
/-- Without a number. -/
def dropE {α : Type} (M : List (AgE α)) (id : Int) : List (AgE α) := M.filter fun e => e.id ≠ id

section
variable {α : Type} (enc : α → Value)
theorem kv_lookup : ∀ (M : List (AgE α)) (id : Int), (kv enc M).lookup id = (findE M id).map fun e => .agg #[.int .i64 e.at_, enc e.x]
  | [], _ => rfl
  | e :: M, id => by
    have ih := kv_lookup M id
    unfold kv findE at *
    rw [List.map_cons, List.lookup_cons, List.find?_cons]
    by_cases h : e.id = id
    · subst h; simp
    · have h1 : (id == e.id) = false := by simp; exact fun e' => h e'.symm
      have h2 : (e.id == id) = false := by simp; exact h
      simp only [h1, h2]
      exact ih
theorem kv_length (M : List (AgE α)) : (kv enc M).length = M.length := by simp [kv]
theorem kv_put_new (M : List (AgE α)) (id at_ : Int) (x : α) (h : findE M id = none) : putKV (kv enc M) id (.agg #[.int .i64 at_, enc x]) = kv enc (M ++ [⟨id, at_, x⟩]) := by
  unfold putKV
  rw [kv_lookup, h]
  simp [kv]
theorem kv_del (M : List (AgE α)) (id : Int) : delKV (kv enc M) id = kv enc (dropE M id) := by
  simp [delKV, kv, dropE, List.filter_map, Function.comp_def]
end
end Go.Proofs.HL

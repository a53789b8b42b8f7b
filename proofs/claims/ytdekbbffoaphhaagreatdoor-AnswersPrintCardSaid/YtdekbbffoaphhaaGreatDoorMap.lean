/- Maps keyed by ints, as things that a call owns: look-up, store, delete, length, one step of a range. -/
import Derived.Test.YtdekbbffoaphhaaGreatDoorHL
import Derived.Maps.Keyed
import Derived.Maps.RangeRun
set_option linter.unusedVariables false
namespace Go.Proofs.HL
open Go.RowKit

/-- What a map keyed by ints holds, in the order in which it was laid in. -/
structure IntMap (es : Array MapEntry) (clock : Nat) (KV : List (Int × Value)) : Prop where
 keys : ∀ e ∈ es.toList, e.key = .int .i64 (intOf e.key)
 kv : es.toList.map (fun e => (intOf e.key, e.val)) = KV
 nodup : (KV.map (·.1)).Nodup
 born : (es.toList.map (·.born)).Nodup
 old : ∀ e ∈ es.toList, e.born < clock

/-- A map of the call's own. -/
def mp (b : Nat) (KV : List (Int × Value)) : At where
 fp := some b
 holds w := ∃ es clock, w.heap[b]? = some (.map es clock) ∧ IntMap es clock KV
 lt := fun w b' e ⟨es, clock, h, _⟩ => by
  cases e
  exact (Array.getElem?_eq_some_iff.1 h).1
 stable := fun w w' row hg hne ⟨es, clock, h, M⟩ => by
  refine ⟨es, clock, ?_, M⟩
  rw [hg.block b (Array.getElem?_eq_some_iff.1 h).1 (hne.resolve_left (by simp))]
  exact h

section
variable {P : Program} {w : World} {t kt et : TypeId} {b : Nat} {es : Array MapEntry} {clock : Nat} {KV : List (Int × Value)}

/-- What a store makes of a map. -/
def putKV (KV : List (Int × Value)) (k : Int) (v : Value) : List (Int × Value) :=
 if (KV.lookup k).isSome then KV.map (fun p => if p.1 = k then (k, v) else p) else KV ++ [(k, v)]
/-- What a delete makes of it. -/
def delKV (KV : List (Int × Value)) (k : Int) : List (Int × Value) := KV.filter (fun p => p.1 ≠ k)

end
end Go.Proofs.HL

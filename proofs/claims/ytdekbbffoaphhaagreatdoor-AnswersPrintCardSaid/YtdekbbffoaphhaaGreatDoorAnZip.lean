/- Short names for the steps that the walks of drawn regions take over and over. -/
import Derived.Deep.RegionHeld
import Derived.Test.YtdekbbffoaphhaaGreatDoorHL
namespace Go
theorem zg1 {α : Type} {xs : List α} {i : Nat} (h : i < xs.toArray.size) : xs.toArray[i]'h = xs[i]'(by simpa using h) := rfl
theorem zg2 {α : Type} (a : α) (as : List α) (h : 0 < (a :: as).length) : (a :: as)[0]'h = a := rfl
theorem zg3 {α : Type} (a : α) (as : List α) (i : Nat) (h : i + 1 < (a :: as).length) : (a :: as)[i + 1]'h = as[i]'(by simpa using h) := rfl
theorem zg4 {α : Type} (l : List α) (i : Nat) (a : α) : l.toArray.setIfInBounds i a = (l.set i a).toArray := List.setIfInBounds_toArray l i a
theorem zg5 {α : Type} {x : α} {xs : List α} {a : α} : (x :: xs).set 0 a = a :: xs := rfl
theorem zg6 {α : Type} {x : α} {xs : List α} {i : Nat} {a : α} : (x :: xs).set (i + 1) a = x :: xs.set i a := rfl
theorem zp {α : Type} : (∀ {xs : List α} {i : Nat} (h : i < xs.toArray.size), xs.toArray[i]'h = xs[i]'(by simpa using h)) ∧ (∀ (a : α) (as : List α) (h : 0 < (a :: as).length), (a :: as)[0]'h = a) ∧ (∀ (a : α) (as : List α) (i : Nat) (h : i + 1 < (a :: as).length), (a :: as)[i + 1]'h = as[i]'(by simpa using h)) ∧ (∀ (l : List α) (i : Nat) (a : α), l.toArray.setIfInBounds i a = (l.set i a).toArray) ∧ (∀ {x : α} {xs : List α} {a : α}, (x :: xs).set 0 a = a :: xs) ∧ (∀ {x : α} {xs : List α} {i : Nat} {a : α}, (x :: xs).set (i + 1) a = x :: xs.set i a) :=
  ⟨zg1, zg2, zg3, zg4, zg5, zg6⟩
section
variable {P : Program} {ops : Array Oper} {Q : Exit → Act → World → Prop} {md : Region.Mode} {S : World → Prop}
theorem ztk (i : Nat) {oi : Oper} {v : Value} {fuel : Nat} {listed : Array Bool} {a : Act} {w : World} (h : wpAnyH P md ops Q S fuel (listed.setIfInBounds i true) (a.put oi.dst v) w) (hi : ops[i]? = some oi := by rfl)
    (hs : Region.noSelect ops = true := by kernel_rfl) (hf : Region.free md ops listed i = true := by kernel_rfl) (hr : (Region.ready md ops listed).contains i = true := by kernel_rfl)
    (hQ : ∀ c a w, Q (.panic c) (a.put oi.dst v) w → Q (.panic c) a w := by exact fun _ _ _ h => h) (hw : Region.wanted oi (yielded ops a.tmps) = true := by rfl)
    (hy : ∀ w, S w → (execOp a.eval oi).run P w = .ok (.value v) w := by (intro w hSw; (try dsimp only at hSw); (repeat obtain ⟨_, hSw⟩ := hSw); go_simp; (try rw [if_neg (by (try simp only [ByteArray.size_append]); omega)]); try with_reducible rfl))
    (hS : S w := by assumption) : wpAnyH P md ops Q S (fuel + 1) listed a w := wpAnyH_take hi hs hf hr hQ (Or.inl ⟨hw, hy⟩) hS h
theorem zry (i : Nat) {fuel : Nat} {listed : Array Bool} {a : Act} {w : World} {o : Oper} 
    (h : ∀ K' : Act → World → Prop, Shut (∀ a w, S w → (S w → wpAnyH P md ops Q S fuel (listed.setIfInBounds i true) a w) → K' a w) → if Region.wanted o (yielded ops a.tmps) = true then Oper.wp P o a w K' Q else K' (a.put o.dst undef) w)
    (hr : Region.ready md ops listed = [i] := by kernel_rfl) (ho : ops[i]? = some o := by rfl) : wpAnyH P md ops Q S (fuel + 1) listed a w :=
  wpAnyH_ready hr (by simp) (AllReadyH.cons ho h AllReadyH.nil)
end
end Go

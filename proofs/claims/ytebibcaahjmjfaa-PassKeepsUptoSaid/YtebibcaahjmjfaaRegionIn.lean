/- A region that draws its order, in a round of a range over a function: by the plain region's law. -/
import Derived.Test.YtebibcaahjmjfaaRegion
import Derived.OrdersIn
import Derived.OwnWalkIn
import Derived.RangeFuncCalls
set_option linter.unusedVariables false
namespace Go.Proofs.HL
section
variable {P : Program} {ops : Array Oper} {Q : Exit → Act → World → Prop} {l : Nat}

theorem rowsIn_round {row : String} {args : Array Value} {w : World} {R : Value → World → Prop} (h : Rows P row args w R) : RowsIn (Fence.wide.inRound l) 0 P row args w R := by
  intro c cs _
  obtain ⟨v, w', r, s⟩ := h c cs
  exact ⟨v, w', r, stepsIn_wide.2 s⟩

theorem wpIn_of_wp {o : Oper} {a : Act} {w : World} {K : Act → World → Prop} (hd : ∀ c, o.op ≠ .defer c) (h : o.wp P a w K Q) : o.wpIn (Fence.wide.inRound l) 0 P a w K Q := by
  refine ⟨fun _ _ => trivial, ?_⟩
  rw [Oper.semAt_plain _ _ _ hd]
  unfold Oper.wp at h
  generalize (execOp a.eval o).run P w = r at h ⊢
  cases r with
  | ok n w' =>
    cases n with
    | value v => exact h
    | skip => exact h
    | defer d => exact h
    | enter f args => exact ⟨(fun e => nomatch e), CallsIn.inRound l (callsIn_wide.2 h)⟩
    | row r args => exact ⟨(fun e => nomatch e), rowsIn_round h⟩
    | _ => exact h.elim
  | halt x w' =>
    cases x <;> first | exact h | exact h.elim

/-- No operation defers. -/
def noDefer (ops : Array Oper) : Bool := ops.all fun o => match o.op with | .defer _ => false | _ => true
theorem noDefer_spec {ops : Array Oper} (h : noDefer ops = true) {i : Nat} {o : Oper} (hi : ops[i]? = some o) : ∀ c, o.op ≠ .defer c := by
  intro c e
  unfold noDefer at h
  rw [Array.all_eq_true_iff_forall_mem] at h
  have := h o (Array.mem_of_getElem? hi)
  rw [e] at this
  cases this

theorem wpAnyIn_of_wpAny (hd : noDefer ops = true) (hQ : ¬ LetsOut Q) {md : Region.Mode} : ∀ (fuel : Nat) (listed : Array Bool) (a : Act) (w : World), wpAny P md ops Q fuel listed a w → wpAnyIn (Fence.wide.inRound l) 0 P md ops Q fuel listed a w
  | 0, _, _, _, h => h
  | fuel + 1, listed, a, w, h => by
    refine ⟨h.1, fun i hi => ?_⟩
    have h1 := h.2 i hi
    unfold wpOp at h1
    unfold wpOpIn
    cases ho : ops[i]? with
    | none =>
      simp only [ho] at h1 ⊢
      exact wpAnyIn_of_wpAny hd hQ fuel _ _ _ h1
    | some o =>
      simp only [ho] at h1 ⊢
      split
      · rename_i hw
        rw [if_pos hw] at h1
        rcases h1 with h1 | ⟨_, h1⟩
        · exact Oper.wpIn_mono (fun a w h => wpAnyIn_of_wpAny hd hQ fuel _ a w h) (wpIn_of_wp (noDefer_spec hd ho) h1)
        · exact absurd h1 hQ
      · rename_i hw
        rw [if_neg hw] at h1
        exact ⟨fun _ _ => trivial, wpAnyIn_of_wpAny hd hQ fuel _ _ _ h1⟩

theorem wpIn_region_cut {id : Nat} {a : Act} {w : World} {os : List Oper} (n : Nat) (hm : P.follows .mixedOrders = true)
    (hB : (noDefer os.toArray && Region.noSelect os.toArray && planB .any os.toArray (masks .any os []) [(n, os.length - n)] 0 (Array.replicate os.length false)) = true) (hQ : ¬ LetsOut Q)
    (h : wpQuiet P os.toArray (fun w' => ∃ k, w' = w.drewN k) (fun a' => ∀ k, wpList P os.toArray Q (os.drop n) a' (w.drewN k)) (os.take n) a) : (Code.region id os.toArray true).wpIn (Fence.wide.inRound l) 0 P Q a w := by
  simp only [Bool.and_eq_true] at hB
  obtain ⟨⟨hd, hs⟩, hp⟩ := hB
  have inv0 : Closed .any os.toArray (Array.replicate os.length false) := ⟨by simp, fun j oj _ hl => (by rw [getD_replicate_false] at hl; cases hl)⟩
  have h2 : wpPlan P os.toArray Q [(n, os.length - n)] os a w.drew := by
    refine ⟨fun w' => ∃ k, w' = w.drewN k, ⟨1, rfl⟩, ?_⟩
    have e : (os.drop n).take (os.length - n) = os.drop n := List.take_of_length_le (by simp)
    rw [e]
    refine wpQuiet_mono' (fun a' h' w' hw' => ?_) _ _ h
    obtain ⟨k, rfl⟩ := hw'
    refine wpList_mono' (fun e a w hq => ?_) _ _ _ (h' k)
    cases e <;> exact hq
  have h3 := wpAny_of_plan (md := .any) hs _ os 0 _ a w.drew (by simp) inv0 (by simpa using hp) h2
  refine wpIn_region_any hm (wpAnyIn_of_wpAny hd hQ _ _ _ _ ?_)
  simpa using h3
end
end Go.Proofs.HL

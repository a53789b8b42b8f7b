/- Ranges over functions whose rounds begin in one frame; atoms in another order. -/
import Derived.Test.YtebibcaahjmjfaaIter
set_option linter.unusedVariables false
namespace Go.Proofs.HL
open Go.RowKit

theorem sel_perm (L : List At) (n : Nat) (is : List Nat) (hn : Nat.ble n L.length = true := by rfl) (hb : is.isPerm (List.range n) = true := by decide) : L.Perm (is.map (fun i => L.getD i noAt) ++ L.drop n) := by
  have hn := Nat.le_of_ble_eq_true hn
  have h1 : (List.range n).map (fun i => L.getD i noAt) = L.take n := by
    apply List.ext_getElem?
    intro i
    by_cases hi : i < n
    · rw [List.getElem?_take_of_lt hi, List.getElem?_map, List.getElem?_range hi]
      simp [List.getD_eq_getElem?_getD, List.getElem?_eq_getElem (show i < L.length by omega)]
    · rw [List.getElem?_take_eq_none (by omega), List.getElem?_eq_none (by simp; omega)]
  have h2 : (is.map fun i => L.getD i noAt).Perm (L.take n) := h1 ▸ (List.isPerm_iff.1 hb).map _
  exact (List.Perm.of_eq (List.take_append_drop n L).symm).trans (h2.symm.append_right _)

section
variable {P : Program} {w0 : World} {α : Type} {encs : α → Array Value} {xs : List α} {Pre : List At → Prop}
theorem wp_rangeFunc_A {g : Operand} {ps : Array Tmp} {assign body : Code} {Q : Exit → Act → World → Prop} {a : Act} {w : World} {L : List At} {gf : FuncId} {lb : Array Value}
    (hg : a.eval g = .func (.func gf) #[] lb) (eg : ∀ args w, (callFunc gf args).run P w = .ok (.enter gf args) w)
    (hit : Iter P w0 gf lb encs xs Pre) (hps : ∀ x, (encs x).size = ps.size) (H : HL w0 w L) (hpre : ∀ R, Pre (L ++ R))
    (I : Nat → List At → Prop) (Ix : Code → List At → Prop) (h0 : I 0 L) (A : α → Act)
    (hassign : ∀ l x W (K : Act → World → Prop), (∀ a', a' = A x → K a' W) →
      assign.wpIn (Fence.wide.inRound l) 0 P (Exit.then K (fun _ _ _ => False)) { tmps := (ps.zip (encs x)).foldl (fun t (p, v) => t.setIfInBounds p v) a.tmps, defers := [] } W)
    (hbody : ∀ l r k x W L1 R, xs[k]? = some x → I k L1 → HL w0 W (L1 ++ blk l (.loop r) :: R) → body.wpIn (Fence.wide.inRound l) 0 P (roundHL w0 I Ix k l r R) (A x) W)
    (hdone : ∀ D W L', I xs.length L' → HL w0 W (blk D (.deferred (some [])) :: L') → Q .normal { a with defers := { target := .collected D, args := #[] } :: a.defers } W)
    (hstop : ∀ D c W L', Ix c L' → HL w0 W (blk D (.deferred (some [])) :: L') → c.wp P Q { a with defers := { target := .collected D, args := #[] } :: a.defers } W) :
    (Code.rangeFunc g ps assign body).wp P Q a w := by
  refine wp_rangeFunc_hl hg eg hit hps H hpre I Ix (fun k x a' L1 => I k L1 ∧ a' = A x) h0 ?_ ?_ hdone hstop
  · intro l k x W L' R K hx hI HW hK
    exact hassign l x W K (fun a' e => hK a' W L' ⟨hI, e⟩ HW)
  · rintro l r k x W a' L1 R hx ⟨hI, rfl⟩ HW
    exact hbody l r k x W L1 R hx hI HW

theorem wpIn_rangeFunc_A {l₀ : Nat} {r₀ : Loop} {g : Operand} {ps : Array Tmp} {assign body : Code} {Q : Exit → Act → World → Prop} {a : Act} {w : World} {L : List At} {gf : FuncId} {lb : Array Value}
    (hg : a.eval g = .func (.func gf) #[] lb) (eg : ∀ args w, (callFunc gf args).run P w = .ok (.enter gf args) w)
    (hit : Iter P w0 gf lb encs xs Pre) (hps : ∀ x, (encs x).size = ps.size) (hl₀ : w.heap[l₀]? = some (.loop r₀)) (H : HL w0 w L) (hpre : ∀ R, Pre (L ++ R))
    (I : Nat → List At → Prop) (Ix : Code → List At → Prop) (h0 : I 0 L) (A : α → Act)
    (hassign : ∀ l x W (K : Act → World → Prop), (∀ a', a' = A x → K a' W) →
      assign.wpIn (Fence.wide.inRound l) 0 P (Exit.then K (fun _ _ _ => False)) { tmps := (ps.zip (encs x)).foldl (fun t (p, v) => t.setIfInBounds p v) a.tmps, defers := [] } W)
    (hbody : ∀ l r k x W L1 R, xs[k]? = some x → I k L1 → HL w0 W (L1 ++ blk l (.loop r) :: R) → body.wpIn (Fence.wide.inRound l) 0 P (roundHL w0 I Ix k l r R) (A x) W)
    (hdone : ∀ W L', I xs.length L' → HL w0 W L' → Q .normal a W)
    (hstop : ∀ c W L', Ix c L' → HL w0 W L' → c.wpIn (Fence.wide.inRound l₀) 0 P Q a W) :
    (Code.rangeFunc g ps assign body).wpIn (Fence.wide.inRound l₀) 0 P Q a w := by
  refine wpIn_rangeFunc_hl hg eg hit hps hl₀ H hpre I Ix (fun k x a' L1 => I k L1 ∧ a' = A x) h0 ?_ ?_ hdone hstop
  · intro l k x W L' R K hx hI HW hK
    exact hassign l x W K (fun a' e => hK a' W L' ⟨hI, e⟩ HW)
  · rintro l r k x W a' L1 R hx ⟨hI, rfl⟩ HW
    exact hbody l r k x W L1 R hx hI HW
end
end Go.Proofs.HL

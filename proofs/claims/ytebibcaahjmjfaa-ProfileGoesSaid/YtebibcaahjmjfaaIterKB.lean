/- A range over a function, whose variable lives in a box of its own. -/
import Derived.Test.YtebibcaahjmjfaaIterK
set_option linter.unusedVariables false
namespace Go.Proofs.HL
open Go.RowKit
section
variable {P : Program} {w0 : World} {α : Type} {encs : α → Array Value} {xs : List α} {priv : List At} {Kp : World → Prop}
theorem wp_rangeFunc_KB {g : Operand} {ps : Array Tmp} {assign body : Code} {Q : Exit → Act → World → Prop} {a : Act} {w : World} {L : List At} {gf : FuncId} {lb : Array Value}
    (box : α → Obj) (t : Tmp)
    (hg : a.eval g = .func (.func gf) #[] lb) (eg : ∀ args w, (callFunc gf args).run P w = .ok (.enter gf args) w)
    (hit : IterK P w0 gf lb encs xs priv Kp) (hps : ∀ x, (encs x).size = ps.size) (H : HL w0 w (L ++ priv))
    (I : Nat → List At → Prop) (Ix : Code → List At → Prop) (h0 : I 0 L) (hkeep : ∀ k L', I k L' → Ent w0 L' Kp)
    (hassign : ∀ l x W (K : Act → World → Prop), K { tmps := ((ps.zip (encs x)).foldl (fun t (p, v) => t.setIfInBounds p v) a.tmps).setIfInBounds t (.pointer (some ⟨W.heap.size, 0, none⟩)), defers := [] } (W.alloc (box x)) →
      assign.wpIn (Fence.wide.inRound l) 0 P (Exit.then K (fun _ _ _ => False)) { tmps := (ps.zip (encs x)).foldl (fun t (p, v) => t.setIfInBounds p v) a.tmps, defers := [] } W)
    (hbody : ∀ l r k x W b L1 R a', a' = { tmps := ((ps.zip (encs x)).foldl (fun t (p, v) => t.setIfInBounds p v) a.tmps).setIfInBounds t (.pointer (some ⟨b, 0, none⟩)), defers := [] } → xs[k]? = some x → I k L1 → HL w0 W (blk b (box x) :: (L1 ++ blk l (.loop r) :: R)) → body.wpIn (Fence.wide.inRound l) 0 P (roundHL w0 I Ix k l r R) a' W)
    (hdone : ∀ D W L', I xs.length L' → HL w0 W (blk D (.deferred (some [])) :: L') → Q .normal { a with defers := { target := .collected D, args := #[] } :: a.defers } W)
    (hstop : ∀ D c W L', Ix c L' → HL w0 W (blk D (.deferred (some [])) :: L') → c.wp P Q { a with defers := { target := .collected D, args := #[] } :: a.defers } W) :
    (Code.rangeFunc g ps assign body).wp P Q a w := by
  refine wp_rangeFunc_K hg eg hit hps H I Ix (fun k x a' L1 => ∃ b L', L1 = blk b (box x) :: L' ∧ I k L' ∧ a' = { tmps := ((ps.zip (encs x)).foldl (fun t (p, v) => t.setIfInBounds p v) a.tmps).setIfInBounds t (.pointer (some ⟨b, 0, none⟩)), defers := [] }) h0 hkeep ?_ ?_ hdone hstop
  · intro l k x W L' R K hx hI HW hK
    exact hassign l x W K (hK _ _ _ ⟨_, _, rfl, hI, rfl⟩ (HW.alloc (box x)))
  · rintro l r k x W a' _ R hx ⟨b, L', rfl, hI, rfl⟩ HW
    exact hbody l r k x W b L' R _ rfl hx hI HW
theorem wpIn_rangeFunc_KB {l₀ : Nat} {r₀ : Loop} {g : Operand} {ps : Array Tmp} {assign body : Code} {Q : Exit → Act → World → Prop} {a : Act} {w : World} {L : List At} {gf : FuncId} {lb : Array Value}
    (box : α → Obj) (t : Tmp)
    (hg : a.eval g = .func (.func gf) #[] lb) (eg : ∀ args w, (callFunc gf args).run P w = .ok (.enter gf args) w)
    (hit : IterK P w0 gf lb encs xs priv Kp) (hps : ∀ x, (encs x).size = ps.size) (hl₀ : w.heap[l₀]? = some (.loop r₀)) (H : HL w0 w (L ++ priv))
    (I : Nat → List At → Prop) (Ix : Code → List At → Prop) (h0 : I 0 L) (hkeep : ∀ k L', I k L' → Ent w0 L' Kp)
    (hassign : ∀ l x W (K : Act → World → Prop), K { tmps := ((ps.zip (encs x)).foldl (fun t (p, v) => t.setIfInBounds p v) a.tmps).setIfInBounds t (.pointer (some ⟨W.heap.size, 0, none⟩)), defers := [] } (W.alloc (box x)) →
      assign.wpIn (Fence.wide.inRound l) 0 P (Exit.then K (fun _ _ _ => False)) { tmps := (ps.zip (encs x)).foldl (fun t (p, v) => t.setIfInBounds p v) a.tmps, defers := [] } W)
    (hbody : ∀ l r k x W b L1 R a', a' = { tmps := ((ps.zip (encs x)).foldl (fun t (p, v) => t.setIfInBounds p v) a.tmps).setIfInBounds t (.pointer (some ⟨b, 0, none⟩)), defers := [] } → xs[k]? = some x → I k L1 → HL w0 W (blk b (box x) :: (L1 ++ blk l (.loop r) :: R)) → body.wpIn (Fence.wide.inRound l) 0 P (roundHL w0 I Ix k l r R) a' W)
    (hdone : ∀ W L', I xs.length L' → HL w0 W L' → Q .normal a W)
    (hstop : ∀ c W L', Ix c L' → HL w0 W L' → c.wpIn (Fence.wide.inRound l₀) 0 P Q a W) :
    (Code.rangeFunc g ps assign body).wpIn (Fence.wide.inRound l₀) 0 P Q a w := by
  refine wpIn_rangeFunc_K hg eg hit hps hl₀ H I Ix (fun k x a' L1 => ∃ b L', L1 = blk b (box x) :: L' ∧ I k L' ∧ a' = { tmps := ((ps.zip (encs x)).foldl (fun t (p, v) => t.setIfInBounds p v) a.tmps).setIfInBounds t (.pointer (some ⟨b, 0, none⟩)), defers := [] }) h0 hkeep ?_ ?_ hdone hstop
  · intro l k x W L' R K hx hI HW hK
    exact hassign l x W K (hK _ _ _ ⟨_, _, rfl, hI, rfl⟩ (HW.alloc (box x)))
  · rintro l r k x W a' _ R hx ⟨b, L', rfl, hI, rfl⟩ HW
    exact hbody l r k x W b L' R _ rfl hx hI HW
end
end Go.Proofs.HL

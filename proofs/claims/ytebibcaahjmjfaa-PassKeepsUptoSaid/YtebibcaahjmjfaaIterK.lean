/- A range over a function that owns some things of its own and reads others, which its caller keeps. -/
import Derived.Test.YtebibcaahjmjfaaIterA
set_option linter.unusedVariables false
namespace Go.Proofs.HL
open Go.RowKit

/-- gf, bound to lb, hands xs on, one by one; priv is its own; its caller keeps what Kp tells of. -/
def IterK {α : Type} (P : Program) (w0 : World) (gf : FuncId) (lb : Array Value) (encs : α → Array Value) (xs : List α) (priv : List At) (Kp : World → Prop) : Prop :=
  ∀ (l : Nat) (J : Nat → List At → Prop) (Jx : List At → Prop) (w : World) (L : List At), HL w0 w (L ++ priv) → J 0 L → (∀ k L', J k L' → Ent w0 L' Kp) →
    (∀ k x W L' R, xs[k]? = some x → J k L' → HL w0 W (L' ++ R) → YieldAt Fence.wide 0 P l (encs x) W fun e W' =>
      ∃ L'', HL w0 W' (L'' ++ R) ∧ ((e = .returned (.bool true) ∧ J (k + 1) L'') ∨ (e = .returned (.bool false) ∧ Jx L''))) →
    CallsIn Fence.wide 0 P gf (#[.func (.yield l) #[] #[]] ++ lb) w fun e W' => (∃ v, e = .returned v) ∧ ∃ L'', HL w0 W' L'' ∧ (J xs.length L'' ∨ Jx L'')

theorem Ent.app {w0 : World} {L R : List At} {P : World → Prop} (h : Ent w0 L P) : Ent w0 (L ++ R) P := fun w hw => h w hw.left

section
variable {P : Program} {w0 : World} {α : Type} {encs : α → Array Value} {xs : List α} {priv : List At} {Kp : World → Prop}
/-- 'for x := range seq { .. }', not within another. -/
theorem wp_rangeFunc_K {g : Operand} {ps : Array Tmp} {assign body : Code} {Q : Exit → Act → World → Prop} {a : Act} {w : World} {L : List At} {gf : FuncId} {lb : Array Value}
    (hg : a.eval g = .func (.func gf) #[] lb) (eg : ∀ args w, (callFunc gf args).run P w = .ok (.enter gf args) w)
    (hit : IterK P w0 gf lb encs xs priv Kp) (hps : ∀ x, (encs x).size = ps.size) (H : HL w0 w (L ++ priv))
    (I : Nat → List At → Prop) (Ix : Code → List At → Prop) (Ax : Nat → α → Act → List At → Prop) (h0 : I 0 L) (hkeep : ∀ k L', I k L' → Ent w0 L' Kp)
    (hassign : ∀ l k x W L' R (K : Act → World → Prop), xs[k]? = some x → I k L' → HL w0 W (L' ++ R) → (∀ a' W' L1, Ax k x a' L1 → HL w0 W' (L1 ++ R) → K a' W') →
      assign.wpIn (Fence.wide.inRound l) 0 P (Exit.then K (fun _ _ _ => False)) { tmps := (ps.zip (encs x)).foldl (fun t (p, v) => t.setIfInBounds p v) a.tmps, defers := [] } W)
    (hbody : ∀ l r k x W a' L1 R, xs[k]? = some x → Ax k x a' L1 → HL w0 W (L1 ++ blk l (.loop r) :: R) → body.wpIn (Fence.wide.inRound l) 0 P (roundHL w0 I Ix k l r R) a' W)
    (hdone : ∀ D W L', I xs.length L' → HL w0 W (blk D (.deferred (some [])) :: L') → Q .normal { a with defers := { target := .collected D, args := #[] } :: a.defers } W)
    (hstop : ∀ D c W L', Ix c L' → HL w0 W (blk D (.deferred (some [])) :: L') → c.wp P Q { a with defers := { target := .collected D, args := #[] } :: a.defers } W) :
    (Code.rangeFunc g ps assign body).wp P Q a w := by
  refine (wpIn_wide (n := 0)).1 (wpIn_rangeFunc ?_)
  intro fn _
  have hl := run_enterLoop_outer (P := P) (w := w) fn a.tmps ps assign body
  have H1 := (H.alloc (.deferred (some []))).alloc (.loop { state := .ready, pending := none, fn, tmps := a.tmps, params := ps, assign, body, defers := w.heap.size })
  rw [World.size_alloc] at H1
  obtain ⟨W1, hW1⟩ : ∃ W1, (w.alloc (.deferred (some []))).alloc (.loop { state := .ready, pending := none, fn, tmps := a.tmps, params := ps, assign, body, defers := w.heap.size }) = W1 := ⟨_, rfl⟩
  rw [hW1] at hl H1
  refine ⟨w.heap.size + 1, [{ target := .collected w.heap.size, args := #[] }], W1, { target := .fn (.func gf) lb, args := #[.func (.yield (w.heap.size + 1)) #[] #[]] }, W1, gf,
    #[.func (.yield (w.heap.size + 1)) #[] #[]] ++ lb, W1, hl, ?_, ?_, ?_, (by simp [Fence.wide]), ?_⟩
  · simp only [resolve, hg]
    simp [go_sem]
  · intro f' _; trivial
  · simp [invoke, go_sem, eg]
  · generalize hr0 : ({ state := .ready, pending := none, fn, tmps := a.tmps, params := ps, assign, body, defers := w.heap.size } : Loop) = r0 at H1 ⊢
    have hs : r0.state = .ready := by rw [← hr0]
    have hpd : r0.pending = none := by rw [← hr0]
    have hpp : r0.params = ps := by rw [← hr0]
    have hpa : r0.assign = assign := by rw [← hr0]
    have hpb : r0.body = body := by rw [← hr0]
    have hpt : r0.tmps = a.tmps := by rw [← hr0]
    have H2 : HL w0 W1 ((L ++ [blk (w.heap.size + 1) (.loop r0), blk w.heap.size (.deferred (some []))]) ++ priv) := H1.perm (by
      have := List.perm_append_comm (l₁ := [blk (w.heap.size + 1) (.loop r0), blk w.heap.size (.deferred (some []))]) (l₂ := L)
      have h2 := this.append_right priv
      simpa using h2)
    refine (hit (w.heap.size + 1) (fun k Lx => ∃ L1, Lx = L1 ++ [blk (w.heap.size + 1) (.loop r0), blk w.heap.size (.deferred (some []))] ∧ I k L1)
      (fun Lx => ∃ c L1, Lx = L1 ++ [blk (w.heap.size + 1) (.loop { r0 with state := .done, pending := some c }), blk w.heap.size (.deferred (some []))] ∧ Ix c L1)
      _ _ H2 ⟨L, rfl, h0⟩ (by rintro k Lx ⟨L1, rfl, hI⟩; exact fun W HW => hkeep k L1 hI W HW.left) ?_).mono ?_
    · rintro k x W _ R hx ⟨L1, rfl, hI⟩ HW
      have HW' : HL w0 W (L1 ++ blk (w.heap.size + 1) (.loop r0) :: (blk w.heap.size (.deferred (some [])) :: R)) := by simpa using HW
      have hy := yield_hl (P := P) (encs := encs) (l := w.heap.size + 1) hs (fun x => by rw [hpp]; exact hps x) hpd (I := I) (Ix := Ix) (Ax := Ax)
        (by rw [hpa, hpp, hpt]; exact hassign (w.heap.size + 1)) (by rw [hpb]; exact hbody (w.heap.size + 1)) k x W L1 _ hx hI HW'
      obtain ⟨f1, f2, f3, f4, f5, f6⟩ := hy
      refine ⟨f1, f2, f3, f4, f5, f6.mono ?_⟩
      rintro e W' ⟨L'', (⟨rfl, hi, h⟩ | ⟨c, rfl, hi, h⟩)⟩
      · exact ⟨L'' ++ [blk (w.heap.size + 1) (.loop r0), blk w.heap.size (.deferred (some []))], by simpa using h, .inl ⟨rfl, L'', rfl, hi⟩⟩
      · exact ⟨L'' ++ [blk (w.heap.size + 1) (.loop { r0 with state := .done, pending := some c }), blk w.heap.size (.deferred (some []))], by simpa using h, .inr ⟨rfl, c, L'', rfl, hi⟩⟩
    · rintro e W2 ⟨⟨v, rfl⟩, L'', HW, (⟨L1, rfl, hi⟩ | ⟨c, L1, rfl, hi⟩)⟩
      · have HW' := HW.mid
        have he := run_endLoop (P := P) (show W2.heap[w.heap.size + 1]? = some (.loop r0) from HW'.head) (by rw [hs]; simp)
        have he2 : (Instr.endLoop (w.heap.size + 1)).run P W2 = .ok none (W2.putObj (w.heap.size + 1) (.loop { r0 with state := .exhausted })) := by
          rw [he]
          rw [hpd]
        refine ⟨none, _, he2, ?_⟩
        have h3 := ((HW'.putObj (.loop { r0 with state := .exhausted })).tail).mid
        exact hdone _ _ _ hi (by simpa using h3)
      · have HW' := HW.mid
        have he := run_endLoop (P := P) (show W2.heap[w.heap.size + 1]? = some (.loop { r0 with state := .done, pending := some c }) from HW'.head) (by simp)
        refine ⟨some c, _, he, ?_⟩
        have h3 := ((HW'.putObj (.loop { r0 with state := .exhausted, pending := some c })).tail).mid
        exact wpIn_wide.2 (hstop _ _ _ _ hi (by simpa using h3))

/-- .. within a round of the loop l₀. -/
theorem wpIn_rangeFunc_K {l₀ : Nat} {r₀ : Loop} {g : Operand} {ps : Array Tmp} {assign body : Code} {Q : Exit → Act → World → Prop} {a : Act} {w : World} {L : List At} {gf : FuncId} {lb : Array Value}
    (hg : a.eval g = .func (.func gf) #[] lb) (eg : ∀ args w, (callFunc gf args).run P w = .ok (.enter gf args) w)
    (hit : IterK P w0 gf lb encs xs priv Kp) (hps : ∀ x, (encs x).size = ps.size) (hl₀ : w.heap[l₀]? = some (.loop r₀)) (H : HL w0 w (L ++ priv))
    (I : Nat → List At → Prop) (Ix : Code → List At → Prop) (Ax : Nat → α → Act → List At → Prop) (h0 : I 0 L) (hkeep : ∀ k L', I k L' → Ent w0 L' Kp)
    (hassign : ∀ l k x W L' R (K : Act → World → Prop), xs[k]? = some x → I k L' → HL w0 W (L' ++ R) → (∀ a' W' L1, Ax k x a' L1 → HL w0 W' (L1 ++ R) → K a' W') →
      assign.wpIn (Fence.wide.inRound l) 0 P (Exit.then K (fun _ _ _ => False)) { tmps := (ps.zip (encs x)).foldl (fun t (p, v) => t.setIfInBounds p v) a.tmps, defers := [] } W)
    (hbody : ∀ l r k x W a' L1 R, xs[k]? = some x → Ax k x a' L1 → HL w0 W (L1 ++ blk l (.loop r) :: R) → body.wpIn (Fence.wide.inRound l) 0 P (roundHL w0 I Ix k l r R) a' W)
    (hdone : ∀ W L', I xs.length L' → HL w0 W L' → Q .normal a W)
    (hstop : ∀ c W L', Ix c L' → HL w0 W L' → c.wpIn (Fence.wide.inRound l₀) 0 P Q a W) :
    (Code.rangeFunc g ps assign body).wpIn (Fence.wide.inRound l₀) 0 P Q a w := by
  refine wpIn_rangeFunc ?_
  intro fn _
  have hl := run_enterLoop_inner (P := P) hl₀ fn a.tmps ps assign body
  have H1 := H.alloc (.loop { state := .ready, pending := none, fn, tmps := a.tmps, params := ps, assign, body, defers := r₀.defers })
  obtain ⟨W1, hW1⟩ : ∃ W1, w.alloc (.loop { state := .ready, pending := none, fn, tmps := a.tmps, params := ps, assign, body, defers := r₀.defers }) = W1 := ⟨_, rfl⟩
  rw [hW1] at hl H1
  refine ⟨w.heap.size, [], W1, { target := .fn (.func gf) lb, args := #[.func (.yield w.heap.size) #[] #[]] }, W1, gf,
    #[.func (.yield w.heap.size) #[] #[]] ++ lb, W1, hl, ?_, ?_, ?_, (by simp [Fence.wide]), ?_⟩
  · simp only [resolve, hg]
    simp [go_sem]
  · intro f' _; trivial
  · simp [invoke, go_sem, eg]
  · generalize hr0 : ({ state := .ready, pending := none, fn, tmps := a.tmps, params := ps, assign, body, defers := r₀.defers } : Loop) = r0 at H1 ⊢
    have hs : r0.state = .ready := by rw [← hr0]
    have hpd : r0.pending = none := by rw [← hr0]
    have hpp : r0.params = ps := by rw [← hr0]
    have hpa : r0.assign = assign := by rw [← hr0]
    have hpb : r0.body = body := by rw [← hr0]
    have hpt : r0.tmps = a.tmps := by rw [← hr0]
    have H2 : HL w0 W1 ((L ++ [blk w.heap.size (.loop r0)]) ++ priv) := H1.perm (by
      have := List.perm_append_comm (l₁ := [blk w.heap.size (.loop r0)]) (l₂ := L)
      have h2 := this.append_right priv
      simpa using h2)
    refine CallsIn.inRound l₀ ((hit w.heap.size (fun k Lx => ∃ L1, Lx = L1 ++ [blk w.heap.size (.loop r0)] ∧ I k L1)
      (fun Lx => ∃ c L1, Lx = L1 ++ [blk w.heap.size (.loop { r0 with state := .done, pending := some c })] ∧ Ix c L1)
      _ _ H2 ⟨L, rfl, h0⟩ (by rintro k Lx ⟨L1, rfl, hI⟩; exact fun W HW => hkeep k L1 hI W HW.left) ?_).mono ?_)
    · rintro k x W _ R hx ⟨L1, rfl, hI⟩ HW
      have HW' : HL w0 W (L1 ++ blk w.heap.size (.loop r0) :: R) := by simpa using HW
      have hy := yield_hl (P := P) (encs := encs) (l := w.heap.size) hs (fun x => by rw [hpp]; exact hps x) hpd (I := I) (Ix := Ix) (Ax := Ax)
        (by rw [hpa, hpp, hpt]; exact hassign w.heap.size) (by rw [hpb]; exact hbody w.heap.size) k x W L1 _ hx hI HW'
      obtain ⟨f1, f2, f3, f4, f5, f6⟩ := hy
      refine ⟨f1, f2, f3, f4, f5, f6.mono ?_⟩
      rintro e W' ⟨L'', (⟨rfl, hi, h⟩ | ⟨c, rfl, hi, h⟩)⟩
      · exact ⟨L'' ++ [blk w.heap.size (.loop r0)], by simpa using h, .inl ⟨rfl, L'', rfl, hi⟩⟩
      · exact ⟨L'' ++ [blk w.heap.size (.loop { r0 with state := .done, pending := some c })], by simpa using h, .inr ⟨rfl, c, L'', rfl, hi⟩⟩
    · rintro e W2 ⟨⟨v, rfl⟩, L'', HW, (⟨L1, rfl, hi⟩ | ⟨c, L1, rfl, hi⟩)⟩
      · have HW' := HW.mid
        have he := run_endLoop (P := P) (show W2.heap[w.heap.size]? = some (.loop r0) from HW'.head) (by rw [hs]; simp)
        have he2 : (Instr.endLoop w.heap.size).run P W2 = .ok none (W2.putObj w.heap.size (.loop { r0 with state := .exhausted })) := by
          rw [he]
          rw [hpd]
        refine ⟨none, _, he2, ?_⟩
        have h3 := (HW'.putObj (.loop { r0 with state := .exhausted })).tail
        exact hdone _ _ hi (by simpa using h3)
      · have HW' := HW.mid
        have he := run_endLoop (P := P) (show W2.heap[w.heap.size]? = some (.loop { r0 with state := .done, pending := some c }) from HW'.head) (by simp)
        refine ⟨some c, _, he, ?_⟩
        have h3 := (HW'.putObj (.loop { r0 with state := .exhausted, pending := some c })).tail
        exact hstop _ _ _ hi (by simpa using h3)

end
end Go.Proofs.HL

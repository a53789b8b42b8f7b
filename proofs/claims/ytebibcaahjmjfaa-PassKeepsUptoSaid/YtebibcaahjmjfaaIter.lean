/- A range over a function, in the words of what a call owns. -/
import Derived.Test.YtebibcaahjmjfaaSteps
import Derived.RangeFuncNested
import Derived.RangeFuncCalls
import Derived.RangeFuncLeaves
import Derived.ControlIn
set_option linter.unusedVariables false
namespace Go.Proofs.HL
open Go.RowKit

/-- gf, bound to lb, hands xs on, one by one, where what is owned is as Pre says; whatever its caller does meanwhile to what it owns. -/
def Iter {α : Type} (P : Program) (w0 : World) (gf : FuncId) (lb : Array Value) (encs : α → Array Value) (xs : List α) (Pre : List At → Prop) : Prop :=
  ∀ (l : Nat) (J : Nat → List At → Prop) (Jx : List At → Prop) (w : World) (L : List At), HL w0 w L → Pre L → J 0 L →
    (∀ k x W L' R, xs[k]? = some x → J k L' → HL w0 W (L' ++ R) → YieldAt Fence.wide 0 P l (encs x) W fun e W' =>
      ∃ L'', HL w0 W' (L'' ++ R) ∧ ((e = .returned (.bool true) ∧ J (k + 1) L'') ∨ (e = .returned (.bool false) ∧ Jx L''))) →
    CallsIn Fence.wide 0 P gf (#[.func (.yield l) #[] #[]] ++ lb) w fun e W' => (∃ v, e = .returned v) ∧ ∃ L'', HL w0 W' L'' ∧ (J xs.length L'' ∨ Jx L'')

/-- How a round may end. -/
def roundHL (w0 : World) (I : Nat → List At → Prop) (Ix : Code → List At → Prop) (k l : Nat) (r : Loop) (R : List At) : Exit → Act → World → Prop
  | .normal, _, W => ∃ L', I (k + 1) L' ∧ HL w0 W (L' ++ blk l (.loop r) :: R)
  | .ret, _, W => ∃ L', Ix .ret L' ∧ HL w0 W (L' ++ blk l (.loop r) :: R)
  | .exit id, _, W => ∃ L', Ix (.exit id) L' ∧ HL w0 W (L' ++ blk l (.loop r) :: R)
  | .goto t, _, W => ∃ L', Ix (.goto t) L' ∧ HL w0 W (L' ++ blk l (.loop r) :: R)
  | .panic _, _, _ => False
  | .outgrown, _, _ => False

theorem HL.mid {w0 w : World} {A : At} {L R : List At} (h : HL w0 w (L ++ A :: R)) : HL w0 w (A :: (L ++ R)) := h.perm List.perm_middle
theorem HL.unmid {w0 w : World} {A : At} {L R : List At} (h : HL w0 w (A :: (L ++ R))) : HL w0 w (L ++ A :: R) := h.perm List.perm_middle.symm
theorem HL.left {w0 w : World} {L R : List At} (h : HL w0 w (L ++ R)) : HL w0 w L := (h.perm List.perm_append_comm).drops

theorem HL.putObj {w0 w : World} {l : Nat} {o : Obj} {L : List At} (h : HL w0 w (blk l o :: L)) (o' : Obj) : HL w0 (w.putObj l o') (blk l o' :: L) := by
  refine h.step (grownBy_putObj' w l o') ?_ (fun b hb => .inl hb)
  exact World.putObj_heap_same (Array.getElem?_eq_some_iff.1 h.head).1

section
variable {P : Program} {w0 : World} {α : Type} {encs : α → Array Value} {xs : List α} {Pre : List At → Prop}

/-- One round, at the record l. -/
theorem yield_hl {l : Nat} {r0 : Loop} (hr0 : r0.state = .ready) {I : Nat → List At → Prop} {Ix : Code → List At → Prop} {Ax : Nat → α → Act → List At → Prop}
    (hps : ∀ x, (encs x).size = r0.params.size) (hpend : r0.pending = none)
    (hassign : ∀ k x W L' R (K : Act → World → Prop), xs[k]? = some x → I k L' → HL w0 W (L' ++ R) → (∀ a' W' L1, Ax k x a' L1 → HL w0 W' (L1 ++ R) → K a' W') →
      r0.assign.wpIn (Fence.wide.inRound l) 0 P (Exit.then K (fun _ _ _ => False)) { tmps := (r0.params.zip (encs x)).foldl (fun t (p, v) => t.setIfInBounds p v) r0.tmps, defers := [] } W)
    (hbody : ∀ r k x W a' L1 R, xs[k]? = some x → Ax k x a' L1 → HL w0 W (L1 ++ blk l (.loop r) :: R) → r0.body.wpIn (Fence.wide.inRound l) 0 P (roundHL w0 I Ix k l r R) a' W)
    (k : Nat) (x : α) (W : World) (L' R : List At) (hx : xs[k]? = some x) (hI : I k L') (H : HL w0 W (L' ++ blk l (.loop r0) :: R)) :
    YieldAt Fence.wide 0 P l (encs x) W fun e W' => ∃ L'', (e = .returned (.bool true) ∧ I (k + 1) L'' ∧ HL w0 W' (L'' ++ blk l (.loop r0) :: R)) ∨
      (∃ c, e = .returned (.bool false) ∧ Ix c L'' ∧ HL w0 W' (L'' ++ blk l (.loop { r0 with state := .done, pending := some c }) :: R)) := by
  have hl : W.heap[l]? = some (.loop r0) := H.mid.head
  have hy := run_yield (P := P) (args := encs x) hl (hps x)
  refine ⟨_, _, _, _, hy, roundIn_of_wpIn trivial (hassign k x W L' (blk l (.loop r0) :: R) _ hx hI H ?_)⟩
  intro a' W1 L1 hA H1
  have hl1 : W1.heap[l]? = some (.loop r0) := H1.mid.head
  refine ⟨_, run_beginRound hl1 hr0, ?_⟩
  have H2 := (H1.mid.putObj (.loop { r0 with state := .busy })).unmid
  refine wpIn_mono (hbody { r0 with state := .busy } k x _ a' L1 R hx hA H2) ?_
  have fin : ∀ (jump : Option Code) (W3 : World) (L3 : List At), HL w0 W3 (L3 ++ blk l (.loop { r0 with state := .busy }) :: R) →
      (Instr.endRound l jump).run P W3 = .ok (.bool jump.isNone) (W3.putObj l (.loop { r0 with state := if jump.isNone then .ready else .done, pending := jump })) ∧
      HL w0 (W3.putObj l (.loop { r0 with state := if jump.isNone then .ready else .done, pending := jump })) (L3 ++ blk l (.loop { r0 with state := if jump.isNone then .ready else .done, pending := jump }) :: R) := by
    intro jump W3 L3 H3
    have h := run_endRound (P := P) jump (show W3.heap[l]? = some (.loop { r0 with state := .busy }) from H3.mid.head)
    exact ⟨h, (H3.mid.putObj _).unmid⟩
  have hready : ({ r0 with state := if (none : Option Code).isNone then LoopState.ready else .done, pending := none } : Loop) = r0 := by
    cases r0
    simp only at hr0 hpend
    subst hr0
    subst hpend
    rfl
  rintro e a3 W3 hp
  cases e with
  | normal =>
    obtain ⟨L3, hi3, H3⟩ := hp
    obtain ⟨hr, H4⟩ := fin none W3 L3 H3
    rw [hready] at H4 hr
    exact ⟨_, _, hr, L3, .inl ⟨rfl, hi3, H4⟩⟩
  | ret =>
    obtain ⟨L3, hi3, H3⟩ := hp
    obtain ⟨hr, H4⟩ := fin (some .ret) W3 L3 H3
    exact ⟨_, _, hr, L3, .inr ⟨.ret, rfl, hi3, H4⟩⟩
  | exit id =>
    obtain ⟨L3, hi3, H3⟩ := hp
    obtain ⟨hr, H4⟩ := fin (some (.exit id)) W3 L3 H3
    exact ⟨_, _, hr, L3, .inr ⟨.exit id, rfl, hi3, H4⟩⟩
  | goto t =>
    obtain ⟨L3, hi3, H3⟩ := hp
    obtain ⟨hr, H4⟩ := fin (some (.goto t)) W3 L3 H3
    exact ⟨_, _, hr, L3, .inr ⟨.goto t, rfl, hi3, H4⟩⟩
  | panic ch => exact hp.elim
  | outgrown => exact hp.elim

/-- 'for x := range seq { .. }', not within another. -/
theorem wp_rangeFunc_hl {g : Operand} {ps : Array Tmp} {assign body : Code} {Q : Exit → Act → World → Prop} {a : Act} {w : World} {L : List At} {gf : FuncId} {lb : Array Value}
    (hg : a.eval g = .func (.func gf) #[] lb) (eg : ∀ args w, (callFunc gf args).run P w = .ok (.enter gf args) w)
    (hit : Iter P w0 gf lb encs xs Pre) (hps : ∀ x, (encs x).size = ps.size) (H : HL w0 w L) (hpre : ∀ R, Pre (L ++ R))
    (I : Nat → List At → Prop) (Ix : Code → List At → Prop) (Ax : Nat → α → Act → List At → Prop) (h0 : I 0 L)
    (hassign : ∀ l k x W L' R (K : Act → World → Prop), xs[k]? = some x → I k L' → HL w0 W (L' ++ R) → (∀ a' W' L1, Ax k x a' L1 → HL w0 W' (L1 ++ R) → K a' W') →
      assign.wpIn (Fence.wide.inRound l) 0 P (Exit.then K (fun _ _ _ => False)) { tmps := (ps.zip (encs x)).foldl (fun t (p, v) => t.setIfInBounds p v) a.tmps, defers := [] } W)
    (hbody : ∀ l r k x W a' L1 R, xs[k]? = some x → Ax k x a' L1 → HL w0 W (L1 ++ blk l (.loop r) :: R) → body.wpIn (Fence.wide.inRound l) 0 P (roundHL w0 I Ix k l r R) a' W)
    (hdone : ∀ D W L', I xs.length L' → HL w0 W (blk D (.deferred (some [])) :: L') → Q .normal { a with defers := { target := .collected D, args := #[] } :: a.defers } W)
    (hstop : ∀ D c W L', Ix c L' → HL w0 W (blk D (.deferred (some [])) :: L') → c.wp P Q { a with defers := { target := .collected D, args := #[] } :: a.defers } W) :
    (Code.rangeFunc g ps assign body).wp P Q a w := by
  refine (wpIn_wide (n := 0)).1 (wpIn_rangeFunc ?_)
  intro fn _
  have hl := run_enterLoop_outer (P := P) (w := w) fn a.tmps ps assign body
  have H1 := (H.alloc (.deferred (some []))).alloc (.loop { state := .ready, pending := none, fn, tmps := a.tmps, params := ps, assign, body, defers := w.heap.size })
  rw [World.size_alloc] at H1
  obtain ⟨W1, hW1⟩ : ∃ W1, (w.alloc (.deferred (some []))).alloc (.loop { state := .ready, pending := none, fn, tmps := a.tmps, params := ps, assign, body, defers := w.heap.size }) = W1 := ⟨_, rfl⟩
  rw [hW1] at hl H1
  refine ⟨w.heap.size + 1, [{ target := .collected w.heap.size, args := #[] }], W1, { target := .fn (.func gf) lb, args := #[.func (.yield (w.heap.size + 1)) #[] #[]] }, W1, gf,
    #[.func (.yield (w.heap.size + 1)) #[] #[]] ++ lb, W1, hl, ?_, ?_, ?_, (by simp [Fence.wide]), ?_⟩
  · simp only [resolve, hg]
    simp [go_sem]
  · intro f' _; trivial
  · simp [invoke, go_sem, eg]
  · generalize hr0 : ({ state := .ready, pending := none, fn, tmps := a.tmps, params := ps, assign, body, defers := w.heap.size } : Loop) = r0 at H1 ⊢
    have hs : r0.state = .ready := by rw [← hr0]
    have hpd : r0.pending = none := by rw [← hr0]
    have hpp : r0.params = ps := by rw [← hr0]
    have hpa : r0.assign = assign := by rw [← hr0]
    have hpb : r0.body = body := by rw [← hr0]
    have hpt : r0.tmps = a.tmps := by rw [← hr0]
    have H2 := H1.perm (List.perm_append_comm (l₁ := [blk (w.heap.size + 1) (.loop r0), blk w.heap.size (.deferred (some []))]) (l₂ := L))
    refine (hit (w.heap.size + 1) (fun k Lx => ∃ L1, Lx = L1 ++ [blk (w.heap.size + 1) (.loop r0), blk w.heap.size (.deferred (some []))] ∧ I k L1)
      (fun Lx => ∃ c L1, Lx = L1 ++ [blk (w.heap.size + 1) (.loop { r0 with state := .done, pending := some c }), blk w.heap.size (.deferred (some []))] ∧ Ix c L1)
      _ _ H2 (hpre _) ⟨L, rfl, h0⟩ ?_).mono ?_
    · rintro k x W _ R hx ⟨L1, rfl, hI⟩ HW
      have HW' : HL w0 W (L1 ++ blk (w.heap.size + 1) (.loop r0) :: (blk w.heap.size (.deferred (some [])) :: R)) := by simpa using HW
      have hy := yield_hl (P := P) (encs := encs) (l := w.heap.size + 1) hs (fun x => by rw [hpp]; exact hps x) hpd (I := I) (Ix := Ix) (Ax := Ax)
        (by rw [hpa, hpp, hpt]; exact hassign (w.heap.size + 1)) (by rw [hpb]; exact hbody (w.heap.size + 1)) k x W L1 _ hx hI HW'
      obtain ⟨f1, f2, f3, f4, f5, f6⟩ := hy
      refine ⟨f1, f2, f3, f4, f5, f6.mono ?_⟩
      rintro e W' ⟨L'', (⟨rfl, hi, h⟩ | ⟨c, rfl, hi, h⟩)⟩
      · exact ⟨L'' ++ [blk (w.heap.size + 1) (.loop r0), blk w.heap.size (.deferred (some []))], by simpa using h, .inl ⟨rfl, L'', rfl, hi⟩⟩
      · exact ⟨L'' ++ [blk (w.heap.size + 1) (.loop { r0 with state := .done, pending := some c }), blk w.heap.size (.deferred (some []))], by simpa using h, .inr ⟨rfl, c, L'', rfl, hi⟩⟩
    · rintro e W2 ⟨⟨v, rfl⟩, L'', HW, (⟨L1, rfl, hi⟩ | ⟨c, L1, rfl, hi⟩)⟩
      · have HW' := HW.mid
        have he := run_endLoop (P := P) (show W2.heap[w.heap.size + 1]? = some (.loop r0) from HW'.head) (by rw [hs]; simp)
        have he2 : (Instr.endLoop (w.heap.size + 1)).run P W2 = .ok none (W2.putObj (w.heap.size + 1) (.loop { r0 with state := .exhausted })) := by
          rw [he]
          rw [hpd]
        refine ⟨none, _, he2, ?_⟩
        have h3 := ((HW'.putObj (.loop { r0 with state := .exhausted })).tail).mid
        exact hdone _ _ _ hi (by simpa using h3)
      · have HW' := HW.mid
        have he := run_endLoop (P := P) (show W2.heap[w.heap.size + 1]? = some (.loop { r0 with state := .done, pending := some c }) from HW'.head) (by simp)
        refine ⟨some c, _, he, ?_⟩
        have h3 := ((HW'.putObj (.loop { r0 with state := .exhausted, pending := some c })).tail).mid
        exact wpIn_wide.2 (hstop _ _ _ _ hi (by simpa using h3))

/-- .. within a round of the loop l₀. -/
theorem wpIn_rangeFunc_hl {l₀ : Nat} {r₀ : Loop} {g : Operand} {ps : Array Tmp} {assign body : Code} {Q : Exit → Act → World → Prop} {a : Act} {w : World} {L : List At} {gf : FuncId} {lb : Array Value}
    (hg : a.eval g = .func (.func gf) #[] lb) (eg : ∀ args w, (callFunc gf args).run P w = .ok (.enter gf args) w)
    (hit : Iter P w0 gf lb encs xs Pre) (hps : ∀ x, (encs x).size = ps.size) (hl₀ : w.heap[l₀]? = some (.loop r₀)) (H : HL w0 w L) (hpre : ∀ R, Pre (L ++ R))
    (I : Nat → List At → Prop) (Ix : Code → List At → Prop) (Ax : Nat → α → Act → List At → Prop) (h0 : I 0 L)
    (hassign : ∀ l k x W L' R (K : Act → World → Prop), xs[k]? = some x → I k L' → HL w0 W (L' ++ R) → (∀ a' W' L1, Ax k x a' L1 → HL w0 W' (L1 ++ R) → K a' W') →
      assign.wpIn (Fence.wide.inRound l) 0 P (Exit.then K (fun _ _ _ => False)) { tmps := (ps.zip (encs x)).foldl (fun t (p, v) => t.setIfInBounds p v) a.tmps, defers := [] } W)
    (hbody : ∀ l r k x W a' L1 R, xs[k]? = some x → Ax k x a' L1 → HL w0 W (L1 ++ blk l (.loop r) :: R) → body.wpIn (Fence.wide.inRound l) 0 P (roundHL w0 I Ix k l r R) a' W)
    (hdone : ∀ W L', I xs.length L' → HL w0 W L' → Q .normal a W)
    (hstop : ∀ c W L', Ix c L' → HL w0 W L' → c.wpIn (Fence.wide.inRound l₀) 0 P Q a W) :
    (Code.rangeFunc g ps assign body).wpIn (Fence.wide.inRound l₀) 0 P Q a w := by
  refine wpIn_rangeFunc ?_
  intro fn _
  have hl := run_enterLoop_inner (P := P) hl₀ fn a.tmps ps assign body
  have H1 := H.alloc (.loop { state := .ready, pending := none, fn, tmps := a.tmps, params := ps, assign, body, defers := r₀.defers })
  obtain ⟨W1, hW1⟩ : ∃ W1, w.alloc (.loop { state := .ready, pending := none, fn, tmps := a.tmps, params := ps, assign, body, defers := r₀.defers }) = W1 := ⟨_, rfl⟩
  rw [hW1] at hl H1
  refine ⟨w.heap.size, [], W1, { target := .fn (.func gf) lb, args := #[.func (.yield w.heap.size) #[] #[]] }, W1, gf,
    #[.func (.yield w.heap.size) #[] #[]] ++ lb, W1, hl, ?_, ?_, ?_, (by simp [Fence.wide]), ?_⟩
  · simp only [resolve, hg]
    simp [go_sem]
  · intro f' _; trivial
  · simp [invoke, go_sem, eg]
  · generalize hr0 : ({ state := .ready, pending := none, fn, tmps := a.tmps, params := ps, assign, body, defers := r₀.defers } : Loop) = r0 at H1 ⊢
    have hs : r0.state = .ready := by rw [← hr0]
    have hpd : r0.pending = none := by rw [← hr0]
    have hpp : r0.params = ps := by rw [← hr0]
    have hpa : r0.assign = assign := by rw [← hr0]
    have hpb : r0.body = body := by rw [← hr0]
    have hpt : r0.tmps = a.tmps := by rw [← hr0]
    have H2 := H1.perm (List.perm_append_comm (l₁ := [blk w.heap.size (.loop r0)]) (l₂ := L))
    refine CallsIn.inRound l₀ ((hit w.heap.size (fun k Lx => ∃ L1, Lx = L1 ++ [blk w.heap.size (.loop r0)] ∧ I k L1)
      (fun Lx => ∃ c L1, Lx = L1 ++ [blk w.heap.size (.loop { r0 with state := .done, pending := some c })] ∧ Ix c L1)
      _ _ H2 (hpre _) ⟨L, rfl, h0⟩ ?_).mono ?_)
    · rintro k x W _ R hx ⟨L1, rfl, hI⟩ HW
      have HW' : HL w0 W (L1 ++ blk w.heap.size (.loop r0) :: R) := by simpa using HW
      have hy := yield_hl (P := P) (encs := encs) (l := w.heap.size) hs (fun x => by rw [hpp]; exact hps x) hpd (I := I) (Ix := Ix) (Ax := Ax)
        (by rw [hpa, hpp, hpt]; exact hassign w.heap.size) (by rw [hpb]; exact hbody w.heap.size) k x W L1 _ hx hI HW'
      obtain ⟨f1, f2, f3, f4, f5, f6⟩ := hy
      refine ⟨f1, f2, f3, f4, f5, f6.mono ?_⟩
      rintro e W' ⟨L'', (⟨rfl, hi, h⟩ | ⟨c, rfl, hi, h⟩)⟩
      · exact ⟨L'' ++ [blk w.heap.size (.loop r0)], by simpa using h, .inl ⟨rfl, L'', rfl, hi⟩⟩
      · exact ⟨L'' ++ [blk w.heap.size (.loop { r0 with state := .done, pending := some c })], by simpa using h, .inr ⟨rfl, c, L'', rfl, hi⟩⟩
    · rintro e W2 ⟨⟨v, rfl⟩, L'', HW, (⟨L1, rfl, hi⟩ | ⟨c, L1, rfl, hi⟩)⟩
      · have HW' := HW.mid
        have he := run_endLoop (P := P) (show W2.heap[w.heap.size]? = some (.loop r0) from HW'.head) (by rw [hs]; simp)
        have he2 : (Instr.endLoop w.heap.size).run P W2 = .ok none (W2.putObj w.heap.size (.loop { r0 with state := .exhausted })) := by
          rw [he]
          rw [hpd]
        refine ⟨none, _, he2, ?_⟩
        have h3 := (HW'.putObj (.loop { r0 with state := .exhausted })).tail
        exact hdone _ _ hi (by simpa using h3)
      · have HW' := HW.mid
        have he := run_endLoop (P := P) (show W2.heap[w.heap.size]? = some (.loop { r0 with state := .done, pending := some c }) from HW'.head) (by simp)
        refine ⟨some c, _, he, ?_⟩
        have h3 := (HW'.putObj (.loop { r0 with state := .exhausted, pending := some c })).tail
        exact hstop _ _ _ hi (by simpa using h3)

/-! ### A function with such a statement -/
theorem calls_of_marks {f : FuncId} {fn : Func} {c : Code} {args : Array Value} {w : World} {R : Ending → World → Prop} (hf : P.funcs[f]? = some fn) (hb : fn.body = some c)
    (h : c.wp P (bodyPostM Fence.wide 0 P fn R) { tmps := args ++ Array.replicate (fn.ntmps - args.size) undef, defers := [] } w) : Calls P f args w R :=
  callsIn_wide.1 (callsIn_of_wp_marks (F := Fence.wide) (n := 0) hf hb trivial (wpIn_wide.2 h) rfl)
/-- It returns, no such statement having been come to. -/
theorem bodyPostM_plain {fn : Func} {R : Ending → World → Prop} {a : Act} {w : World} {v : Value} (hr : (results fn a.tmps).run P w = .ok v w) (hd : a.defers = []) (hR : R (.returned v) w) : bodyPostM Fence.wide 0 P fn R .ret a w := by
  show LeavesInM Fence.wide 0 P fn a.tmps R a.defers .returning w
  rw [hd]
  exact ⟨v, hr, hR⟩
/-- It returns, one having been gone through. -/
theorem bodyPostM_one {fn : Func} {R : Ending → World → Prop} {a : Act} {w w' : World} {D : Nat} (hd : a.defers = [{ target := .collected D, args := #[] }]) (ht : (Instr.takeDeferred D).run P w = .ok [] w')
    {v : Value} (hr : (results fn a.tmps).run P w' = .ok v w') (hR : R (.returned v) w') : bodyPostM Fence.wide 0 P fn R .ret a w := by
  show LeavesInM Fence.wide 0 P fn a.tmps R a.defers .returning w
  rw [hd]
  exact ⟨by simp, .inl ⟨D, w', rfl, ht, ⟨v, hr, hR⟩⟩⟩
/-- .. by coming to its end. -/
theorem bodyPostM_end {fn : Func} {R : Ending → World → Prop} {a : Act} {w w' : World} {D : Nat} (hd : a.defers = [{ target := .collected D, args := #[] }]) (ht : (Instr.takeDeferred D).run P w = .ok [] w')
    {v : Value} (hr : (results fn a.tmps).run P w' = .ok v w') (hR : R (.returned v) w') : bodyPostM Fence.wide 0 P fn R .normal a w := bodyPostM_one hd ht hr hR
theorem HL.takes {w : World} {D : Nat} {L : List At} (H : HL w0 w (blk D (.deferred (some [])) :: L)) : (Instr.takeDeferred D).run P w = .ok [] (w.putObj D (.deferred none)) ∧ HL w0 (w.putObj D (.deferred none)) L :=
  ⟨run_takeDeferred H.head, (H.putObj _).tail⟩
end
end Go.Proofs.HL

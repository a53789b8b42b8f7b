/- A region that draws its order, cut into parts: in each first operations that read (in whatever order), then operations in one forced order. -/
import Derived.Deep.Quiet
import Derived.StillTail
set_option linter.unusedVariables false
namespace Go.Proofs.HL
section
variable {P : Program} {ops : Array Oper} {md : Region.Mode} {C : World → Prop}

/-- t comes behind i, by the edges that bind. -/
inductive Behind (md : Region.Mode) (ops : Array Oper) (i : Nat) : Nat → Prop
  | edge {t : Nat} {o : Oper} {e : Edge} : ops[t]? = some o → e ∈ o.after → Region.binds md e = true → e.on = i → Behind md ops i t
  | trans {t : Nat} {o : Oper} {e : Edge} : ops[t]? = some o → e ∈ o.after → Region.binds md e = true → Behind md ops i e.on → Behind md ops i t

/-- What is listed is closed: whatever a listed one waits for is listed. -/
structure Closed (md : Region.Mode) (ops : Array Oper) (listed : Array Bool) : Prop where
  size : listed.size = ops.size
  closed : ∀ j oj, ops[j]? = some oj → listed.getD j false = true → ∀ e ∈ oj.after, Region.binds md e = true → listed.getD e.on false = true

theorem Closed.set {i : Nat} {listed : Array Bool} (inv : Closed md ops listed) (hi : i ∈ Region.ready md ops listed) : Closed md ops (listed.setIfInBounds i true) := by
  obtain ⟨_, oi, hoi, hall⟩ := mem_ready.1 hi
  refine ⟨by simp [inv.size], fun j oj hj hl e he hb => ?_⟩
  by_cases hij : i = j
  · subst hij
    have : oj = oi := Option.some.inj (hj.symm.trans hoi)
    subst this
    exact getD_set_true (hall e he hb)
  · rw [getD_set_ne false hij] at hl
    exact getD_set_true (inv.closed j oj hj hl e he hb)

theorem Behind.listed {i t : Nat} {listed : Array Bool} (inv : Closed md ops listed) (h : Behind md ops i t) : (t ∈ Region.ready md ops listed ∨ listed.getD t false = true) → listed.getD i false = true := by
  induction h with
  | edge ht he hb hon =>
    rintro (hr | hr)
    · obtain ⟨_, ot, hot, hall⟩ := mem_ready.1 hr
      obtain rfl := Option.some.inj (ht.symm.trans hot)
      exact hon ▸ hall _ he hb
    · exact hon ▸ inv.closed _ _ ht hr _ he hb
  | trans ht he hb _ ih =>
    rintro (hr | hr)
    · obtain ⟨_, ot, hot, hall⟩ := mem_ready.1 hr
      obtain rfl := Option.some.inj (ht.symm.trans hot)
      exact ih (.inr (hall _ he hb))
    · exact ih (.inr (inv.closed _ _ ht hr _ he hb))

/-- For each operation a mask of those ahead of it. -/
def edgesMask (md : Region.Mode) (acc : List Nat) : List Edge → Nat
  | [] => 0
  | e :: es => (if Region.binds md e then (1 <<< e.on) ||| acc.getD e.on 0 else 0) ||| edgesMask md acc es
def masks (md : Region.Mode) : List Oper → List Nat → List Nat
  | [], acc => acc
  | o :: l, acc => masks md l (acc ++ [edgesMask md acc o.after.toList])

theorem edgesMask_spec {acc : List Nat} {t : Nat} {o : Oper} (ht : ops[t]? = some o) (hacc : ∀ s i, (acc.getD s 0).testBit i = true → Behind md ops i s) : ∀ (es : List Edge), (∀ e ∈ es, e ∈ o.after) → ∀ i, (edgesMask md acc es).testBit i = true → Behind md ops i t
  | [], _, i, h => by simp [edgesMask] at h
  | e :: es, hes, i, h => by
    unfold edgesMask at h
    rw [Nat.testBit_or, Bool.or_eq_true] at h
    rcases h with h | h
    · split at h
      · rename_i hb
        rw [Nat.testBit_or, Bool.or_eq_true] at h
        rcases h with h | h
        · rw [Nat.one_shiftLeft, Nat.testBit_two_pow] at h
          exact .edge ht (hes e (List.mem_cons_self ..)) hb (by simpa using h)
        · exact .trans ht (hes e (List.mem_cons_self ..)) hb (hacc _ _ h)
      · simp at h
    · exact edgesMask_spec ht hacc es (fun x hx => hes x (List.mem_cons_of_mem _ hx)) i h

theorem masks_spec : ∀ (l : List Oper) (acc : List Nat), (∀ j, l[j]? = ops[acc.length + j]?) → (∀ s i, (acc.getD s 0).testBit i = true → Behind md ops i s) → ∀ s i, ((masks md l acc).getD s 0).testBit i = true → Behind md ops i s
  | [], acc, _, h, s, i, hs => h s i hs
  | o :: l, acc, hl, h, s, i, hs => by
    have ho : ops[acc.length]? = some o := by simpa using (hl 0).symm
    refine masks_spec l (acc ++ [edgesMask md acc o.after.toList]) (fun j => by have := hl (j + 1); simpa [Nat.add_assoc, Nat.add_comm 1 j] using this) (fun s i hs => ?_) s i hs
    rcases Nat.lt_trichotomy s acc.length with hlt | heq | hgt
    · rw [List.getD_eq_getElem?_getD, List.getElem?_append_left hlt, ← List.getD_eq_getElem?_getD] at hs
      exact h s i hs
    · subst heq
      rw [List.getD_eq_getElem?_getD, List.getElem?_append_right (Nat.le_refl _)] at hs
      simp only [Nat.sub_self, List.getElem?_cons_zero, Option.getD_some] at hs
      exact edgesMask_spec ho h _ (fun e he => by simpa using he) i hs
    · rw [List.getD_eq_getElem?_getD, List.getElem?_eq_none (by simp; omega)] at hs
      simp at hs

/-- Whatever is from n on waits for whatever is from k up to n. -/
def barB (ms : List Nat) (k n size : Nat) : Bool :=
  (List.range size).all fun t => decide (t < n) || (List.range n).all fun i => decide (i < k) || (ms.getD t 0).testBit i

theorem barB_spec {k n : Nat} (h : barB (masks md ops.toList []) k n ops.size = true) {i t : Nat} (hki : k ≤ i) (hin : i < n) (hnt : n ≤ t) (ht : t < ops.size) : Behind md ops i t := by
  have h1 := List.all_eq_true.1 h t (List.mem_range.2 ht)
  simp only [Bool.or_eq_true, decide_eq_true_eq] at h1
  have h2 := List.all_eq_true.1 (h1.resolve_left (by omega)) i (List.mem_range.2 hin)
  simp only [Bool.or_eq_true, decide_eq_true_eq] at h2
  refine masks_spec ops.toList [] (by simp) (by simp) t i (h2.resolve_left (by omega))

theorem bar_not_ready {k n : Nat} (h : barB (masks md ops.toList []) k n ops.size = true) {listed : Array Bool} (inv : Closed md ops listed) {i : Nat} (hki : k ≤ i) (hin : i < n) (hun : listed.getD i true = false) :
    ∀ t ∈ Region.ready md ops listed, t < n := by
  intro t ht
  rcases Nat.lt_or_ge t n with h1 | h1
  · exact h1
  · obtain ⟨_, ot, hot, _⟩ := mem_ready.1 ht
    have := (barB_spec h hki hin h1 (Array.getElem?_eq_some_iff.1 hot).1).listed inv (.inl ht)
    rw [getD_both hun] at this
    cases this

/-- Whatever order is picked of the next f operations, all of them below n. -/
def wpAnyQL (P : Program) (md : Region.Mode) (ops : Array Oper) (C : World → Prop) (n : Nat) (L : Array Bool → Act → Prop) : Nat → Array Bool → Act → Prop
  | 0, listed, a => L listed a
  | f + 1, listed, a =>
    Region.ready md ops listed ≠ [] ∧ ∀ i ∈ Region.ready md ops listed, i < n ∧ qOp P ops C i (wpAnyQL P md ops C n L f (listed.setIfInBounds i true)) a

theorem wpAny_of_headQ {n g : Nat} {L : Array Bool → Act → Prop} {Q' : Exit → Act → World → Prop} (hL : ∀ listed a w, C w → L listed a → wpAny P md ops Q' g listed a w) :
    ∀ (f : Nat) (listed : Array Bool) (a : Act) (w : World), C w → wpAnyQL P md ops C n L f listed a → wpAny P md ops Q' (f + g) listed a w
  | 0, listed, a, w, hw, h => by rw [Nat.zero_add]; exact hL _ _ _ hw h
  | f + 1, listed, a, w, hw, h => by
    rw [show f + 1 + g = (f + g) + 1 by omega]
    exact ⟨fun h0 => absurd h0 h.1, fun i hi => wpOp_of_qOp hw (fun a' w' hw' h' => wpAny_of_headQ hL f _ a' w' hw' h') (h.2 i hi).2⟩

theorem wpAnyQL_first {k n i : Nat} {oi : Oper} {v : Value} {L : Array Bool → Act → Prop} (hi : ops[i]? = some oi) (hsel : ∀ (j : Nat) (o : Oper) cs b, ops[j]? = some o → o.op ≠ .select cs b)
    (hbar : barB (masks md ops.toList []) k n ops.size = true) (hki : k ≤ i) (hin : i < n)
    (hdone : ∀ listed a, L listed a → ∀ j ∈ Region.ready md ops listed, n ≤ j) :
    ∀ (f : Nat) (listed : Array Bool) (a : Act), Closed md ops listed →
      (∀ j oj, ops[j]? = some oj → j ≠ i → listed.getD j true = false → (∀ e ∈ oj.after, Region.binds md e = true → e.on ≠ i) → oi.apart ops oj = true) →
      i ∈ Region.ready md ops listed → YieldsIn P ops C oi v a →
      wpAnyQL P md ops C n L f (listed.setIfInBounds i true) (a.put oi.dst v) → wpAnyQL P md ops C n L (f + 1) listed a := by
  intro f
  induction f with
  | zero =>
    intro listed a inv _ hr hy H
    have hun := (mem_ready.1 hr).1
    refine ⟨fun h => (by rw [h] at hr; cases hr), fun j hj => ?_⟩
    have hjn : j < n := bar_not_ready hbar inv hki hin hun j hj
    refine ⟨hjn, ?_⟩
    by_cases hji : j = i
    · subst hji; exact hy.qOp hi H
    · have := hdone _ _ H j (ready_mono hj hji)
      omega
  | succ f ih =>
    intro listed a inv hfree hr hy H
    have hun := (mem_ready.1 hr).1
    refine ⟨fun h => (by rw [h] at hr; cases hr), fun j hj => ?_⟩
    have hjn : j < n := bar_not_ready hbar inv hki hin hun j hj
    refine ⟨hjn, ?_⟩
    by_cases hji : j = i
    · subst hji; exact hy.qOp hi H
    · have h1 := (H.2 j (ready_mono hj hji)).2
      obtain ⟨hjun, oj, hoj, hall⟩ := mem_ready.1 hj
      have hnot : ∀ e ∈ oj.after, Region.binds md e = true → e.on ≠ i := fun e he hb heq => by
        have h1 := hall e he hb
        rw [heq, getD_both hun] at h1
        cases h1
      have h2 := qOp_put hoj (hfree j oj hoj hji hjun hnot) (fun cs b => hsel i oi cs b hi) (fun cs b => hsel j oj cs b hoj) hy h1
      have hfree' : ∀ k ok, ops[k]? = some ok → k ≠ i → (listed.setIfInBounds j true).getD k true = false →
          (∀ e ∈ ok.after, Region.binds md e = true → e.on ≠ i) → oi.apart ops ok = true := fun k ok hk hki hun hno => by
        refine hfree k ok hk hki ?_ hno
        by_cases hjk : j = k
        · subst hjk; exact hjun
        · rw [getD_set_ne true hjk] at hun; exact hun
      refine qOp_mono (fun a' h3 => ih (listed.setIfInBounds j true) a' (inv.set hj) hfree' (ready_mono hr (Ne.symm hji)) h3.1 ?_) h2
      rw [Array.setIfInBounds_comm _ _ hji]
      exact h3.2

/-- f operations from k on, each ready and free at its turn. -/
def lexFreeB (md : Region.Mode) (ops : Array Oper) : Nat → Nat → Array Bool → Bool
  | 0, _, _ => true
  | f + 1, k, listed => (Region.ready md ops listed).contains k && Region.free md ops listed k && lexFreeB md ops f (k + 1) (listed.setIfInBounds k true)
/-- m operations from k on, each the only one that is ready at its turn. -/
def seqFromB (md : Region.Mode) (ops : Array Oper) : Nat → Nat → Array Bool → Bool
  | 0, _, _ => true
  | g + 1, k, listed => decide (Region.ready md ops listed = [k]) && seqFromB md ops g (k + 1) (listed.setIfInBounds k true)
def mark : Nat → Nat → Array Bool → Array Bool
  | 0, _, listed => listed
  | f + 1, k, listed => mark f (k + 1) (listed.setIfInBounds k true)

/-- A plan: so many that read, then so many in their order; and so on. -/
def planB (md : Region.Mode) (ops : Array Oper) (ms : List Nat) : List (Nat × Nat) → Nat → Array Bool → Bool
  | [], k, listed => (Region.ready md ops listed).isEmpty && decide (k = ops.size)
  | (n, m) :: ps, k, listed => barB ms k (k + n) ops.size && (Region.ready md ops (mark n k listed)).all (fun j => decide (k + n ≤ j)) && lexFreeB md ops n k listed && seqFromB md ops m (k + n) (mark n k listed) &&
      planB md ops ms ps (k + n + m) (mark m (k + n) (mark n k listed))

def wpPlan (P : Program) (ops : Array Oper) (Q : Exit → Act → World → Prop) : List (Nat × Nat) → List Oper → Act → World → Prop
  | [], l, a, w => Q .normal a w
  | (n, m) :: ps, l, a, w => ∃ C : World → Prop, C w ∧ wpQuiet P ops C (fun a' => ∀ w', C w' → wpList P ops (Exit.then (wpPlan P ops Q ps (l.drop (n + m))) Q) ((l.drop n).take m) a' w') (l.take n) a

theorem wpAnyQL_lex {k0 n : Nat} {Lq : Act → Prop} (hsel : Region.noSelect ops = true) (hbar : barB (masks md ops.toList []) k0 n ops.size = true) :
    ∀ (l : List Oper) (k : Nat) (listed : Array Bool) (a : Act), (∀ j, j < l.length → l[j]? = ops[k + j]?) → k0 ≤ k → k + l.length = n → Closed md ops listed →
    lexFreeB md ops l.length k listed = true → ((Region.ready md ops (mark l.length k listed)).all fun j => decide (n ≤ j)) = true → wpQuiet P ops C Lq l a →
    wpAnyQL P md ops C n (fun listed' a' => listed' = mark l.length k listed ∧ Closed md ops listed' ∧ (∀ j ∈ Region.ready md ops listed', n ≤ j) ∧ Lq a') l.length listed a
  | [], k, listed, a, _, _, hk, inv, hB, hr, h => ⟨rfl, inv, fun j hj => by simpa using List.all_eq_true.1 hr j hj, h⟩
  | o :: l, k, listed, a, hl, hk0, hk, inv, hB, hr0, h => by
    have h0 : ops[k]? = some o := by simpa using (hl 0 (by simp)).symm
    simp only [List.length_cons, lexFreeB, Bool.and_eq_true] at hB
    obtain ⟨⟨hr, hf⟩, hB'⟩ := hB
    have hkn : k < n := by simp only [List.length_cons] at hk; omega
    have hr' : k ∈ Region.ready md ops listed := by simpa using hr
    have hst : qOp P ops C k (wpQuiet P ops C Lq l) a := by unfold qOp; simp only [h0]; exact h
    obtain ⟨v, hy, hK⟩ := yieldsIn_of_qOp h0 hst
    exact wpAnyQL_first h0 (Region.noSelect_spec hsel) hbar hk0 hkn (fun listed' a' hL => hL.2.2.1) l.length listed a inv (Region.free_spec h0 hf) hr' hy
      (wpAnyQL_lex hsel hbar l (k + 1) _ _ (fun j hj => by have := hl (j + 1) (by simp; omega); simpa [Nat.add_assoc, Nat.add_comm 1 j] using this) (by omega) (by simp only [List.length_cons] at hk; omega) (inv.set hr') hB' hr0 hK)

theorem wpAny_of_seqFrom {Q' : Exit → Act → World → Prop} {g : Nat} {next : Act → World → Prop} : ∀ (l : List Oper) (k : Nat) (listed : Array Bool) (a : Act) (w : World), (∀ j, j < l.length → l[j]? = ops[k + j]?) → Closed md ops listed →
    seqFromB md ops l.length k listed = true → (∀ a w, Closed md ops (mark l.length k listed) → next a w → wpAny P md ops Q' g (mark l.length k listed) a w) → wpList P ops (Exit.then next Q') l a w → wpAny P md ops Q' (l.length + g) listed a w
  | [], k, listed, a, w, _, inv, _, hn, h => by
    rw [List.length_nil, Nat.zero_add]
    exact hn a w inv h
  | o :: l, k, listed, a, w, hl, inv, hB, hn, h => by
    have h0 : ops[k]? = some o := by simpa using (hl 0 (by simp)).symm
    simp only [List.length_cons, seqFromB, Bool.and_eq_true, decide_eq_true_eq] at hB
    rw [show (o :: l).length + g = (l.length + g) + 1 by simp; omega]
    refine ⟨fun h1 => (by rw [hB.1] at h1; cases h1), fun i hi => ?_⟩
    have hi' := hi
    rw [hB.1] at hi
    have hik : i = k := by simpa using hi
    subst hik
    have hw : wpOp P ops (Exit.then next Q') i (wpList P ops (Exit.then next Q') l) a w := by unfold wpOp; simp only [h0]; exact h
    have hw2 : wpOp P ops Q' i (wpList P ops (Exit.then next Q') l) a w := by
      unfold wpOp at hw ⊢
      simp only [h0] at hw ⊢
      split at hw
      · rename_i hwant
        rw [if_pos hwant]
        rcases hw with hw | ⟨hw, hlo⟩
        · left
          unfold Oper.wp at hw ⊢
          generalize (execOp a.eval o).run P w = r at *
          cases r with
          | ok n w' =>
            cases n <;> simp only [Oper.upon] at hw ⊢
            all_goals first | exact hw | skip
            all_goals (refine hw.mono fun e w'' hh => ?_; cases e <;> simp only at hh ⊢ <;> first | exact hh | (obtain ⟨a', w', q⟩ := hh; exact ⟨a', w', q⟩))
          | halt x w' => cases x <;> simp only [Oper.upon] at hw ⊢ <;> exact hw
        · exact .inr ⟨hw, by obtain ⟨a', w', q⟩ := hlo; exact ⟨a', w', q⟩⟩
      · rename_i hwant
        rw [if_neg hwant]
        exact hw
    exact wpOp_mono (fun a' w' h' => wpAny_of_seqFrom l (i + 1) _ a' w' (fun j hj => by have := hl (j + 1) (by simp; omega); simpa [Nat.add_assoc, Nat.add_comm 1 j] using this) (inv.set hi') hB.2 hn h') hw2

theorem wpAny_of_plan {Q' : Exit → Act → World → Prop} (hsel : Region.noSelect ops = true) : ∀ (ps : List (Nat × Nat)) (l : List Oper) (k : Nat) (listed : Array Bool) (a : Act) (w : World),
    (∀ j, l[j]? = ops[k + j]?) → Closed md ops listed → planB md ops (masks md ops.toList []) ps k listed = true → wpPlan P ops Q' ps l a w → wpAny P md ops Q' (ops.size - k) listed a w
  | [], l, k, listed, a, w, hl, inv, hB, h => by
    simp only [planB, Bool.and_eq_true, decide_eq_true_eq, List.isEmpty_iff] at hB
    rw [hB.2, Nat.sub_self]
    exact ⟨hB.1, h⟩
  | (n, m) :: ps, l, k, listed, a, w, hl, inv, hB, h => by
    simp only [planB, Bool.and_eq_true] at hB
    obtain ⟨⟨⟨⟨hbar, hrd⟩, hfree⟩, hseq⟩, hrest⟩ := hB
    obtain ⟨C, hC, hq⟩ := h
    have hsz : k + n + m ≤ ops.size ∨ ops.size < k + n + m := by omega
    have hlen : l.length = ops.size - k := by
      rcases Nat.lt_trichotomy l.length (ops.size - k) with h1 | h1 | h1
      · have := hl l.length
        rw [List.getElem?_eq_none (Nat.le_refl _), Array.getElem?_eq_getElem (by omega)] at this
        cases this
      · exact h1
      · have := hl (ops.size - k)
        rw [List.getElem?_eq_getElem h1, Array.getElem?_eq_none (by omega)] at this
        cases this
    have hlast : ∀ (ps : List (Nat × Nat)) (k : Nat) (listed : Array Bool), planB md ops (masks md ops.toList []) ps k listed = true → k ≤ ops.size := by
      intro ps
      induction ps with
      | nil => intro k listed h; simp only [planB, Bool.and_eq_true, decide_eq_true_eq] at h; omega
      | cons p ps ih => intro k listed h; obtain ⟨n, m⟩ := p; simp only [planB, Bool.and_eq_true] at h; have := ih _ _ h.2; omega
    have hle := hlast _ _ _ hrest
    have htn : (l.take n).length = n := by rw [List.length_take]; omega
    have htm : ((l.drop n).take m).length = m := by rw [List.length_take, List.length_drop]; omega
    have H := wpAnyQL_lex (md := md) (C := C) (n := k + n) (k0 := k) hsel hbar (l.take n) k listed a (fun j hj => by
      have : j < n := by rw [htn] at hj; exact hj
      rw [List.getElem?_take_of_lt this]; exact hl j) (Nat.le_refl _) (by rw [htn]) inv (by rw [htn]; exact hfree) (by rw [htn]; exact hrd) hq
    have H2 := wpAny_of_headQ (md := md) (Q' := Q') (g := m + (ops.size - (k + n + m))) (fun listed' a' w' hw' hL => by
      obtain ⟨rfl, inv', _, hL⟩ := hL
      rw [htn] at inv' ⊢
      have := wpAny_of_seqFrom (md := md) (Q' := Q') (g := ops.size - (k + n + m)) (next := wpPlan P ops Q' ps (l.drop (n + m))) ((l.drop n).take m) (k + n) (mark n k listed) a' w' (fun j hj => by
        have hj' : j < m := by rw [htm] at hj; exact hj
        rw [List.getElem?_take_of_lt hj', List.getElem?_drop, hl, Nat.add_assoc]) inv' (by rw [htm]; exact hseq) (fun a2 w2 inv2 h2 => by
          rw [htm] at inv2 ⊢
          exact wpAny_of_plan hsel ps (l.drop (n + m)) (k + n + m) _ a2 w2 (fun j => by rw [List.getElem?_drop, hl, Nat.add_assoc, Nat.add_assoc, Nat.add_assoc]) inv2 hrest h2) (hL w' hw')
      rwa [htm] at this) _ listed a w hC H
    rw [htn] at H2
    rw [show ops.size - k = n + (m + (ops.size - (k + n + m))) by omega]
    exact H2

theorem wp_region_plan {id : Nat} {Q : Exit → Act → World → Prop} {a : Act} {w : World} {l : List Oper} (ps : List (Nat × Nat)) (hm : P.follows .mixedOrders = true)
    (hB : (Region.noSelect l.toArray && planB .any l.toArray (masks .any l []) ps 0 (Array.replicate l.length false)) = true)
    (h : wpPlan P l.toArray Q ps l a w.drew) : (Code.region id l.toArray true).wp P Q a w := by
  simp only [Bool.and_eq_true] at hB
  refine wp_region_any hm ?_
  have inv0 : Closed .any l.toArray (Array.replicate l.length false) := ⟨by simp, fun j oj _ hl => (by rw [getD_replicate_false] at hl; cases hl)⟩
  have := wpAny_of_plan (md := .any) hB.1 ps l 0 _ a w.drew (by simp) inv0 (by simpa using hB.2) h
  simpa using this

theorem wpQuiet_mono' {Q Q' : Act → Prop} (hq : ∀ a, Q a → Q' a) : ∀ (l : List Oper) (a : Act), wpQuiet P ops C Q l a → wpQuiet P ops C Q' l a
  | [], a, h => hq a h
  | o :: l, a, h => by
    unfold wpQuiet at h ⊢
    split
    · rename_i hw
      rw [if_pos hw] at h
      exact Oper.quiet_mono (fun a' => wpQuiet_mono' hq l a') h
    · rename_i hw
      rw [if_neg hw] at h
      exact wpQuiet_mono' hq l _ h

theorem wpList_mono' {Q Q' : Exit → Act → World → Prop} (hq : ∀ e a w, Q e a w → Q' e a w) : ∀ (l : List Oper) (a : Act) (w : World), wpList P ops Q l a w → wpList P ops Q' l a w
  | [], a, w, h => hq _ _ _ h
  | o :: l, a, w, h => by
    unfold wpList at h ⊢
    split
    · rename_i hw
      rw [if_pos hw] at h
      rcases h with h | ⟨h, a', w', q⟩
      · left
        unfold Oper.wp at h ⊢
        generalize (execOp a.eval o).run P w = r at *
        cases r with
        | ok n w' =>
          cases n <;> simp only [Oper.upon] at h ⊢
          all_goals first | exact wpList_mono' hq l _ _ h | skip
          · refine h.mono fun e w'' hh => ?_
            cases e with
            | returned v => exact wpList_mono' hq l _ _ hh
            | panicked ch => exact hq _ _ _ hh
            | outgrown => obtain ⟨a', w', q⟩ := hh; exact ⟨a', w', hq _ _ _ q⟩
          · exact h.mono fun v w'' hh => wpList_mono' hq l _ _ hh
        | halt x w' => cases x <;> simp only [Oper.upon] at h ⊢ <;> exact hq _ _ _ h
      · exact .inr ⟨h, a', w', hq _ _ _ q⟩
    · rename_i hw
      rw [if_neg hw] at h
      exact wpList_mono' hq l _ _ h

/-- First n operations that read, in whatever order; then the others, in the text's. -/
theorem wp_region_cut {id : Nat} {Q : Exit → Act → World → Prop} {a : Act} {w : World} {l : List Oper} (n : Nat) (hm : P.follows .mixedOrders = true)
    (hB : (Region.noSelect l.toArray && planB .any l.toArray (masks .any l []) [(n, l.length - n)] 0 (Array.replicate l.length false)) = true)
    (h : wpQuiet P l.toArray (fun w' => ∃ k, w' = w.drewN k) (fun a' => ∀ k, wpList P l.toArray Q (l.drop n) a' (w.drewN k)) (l.take n) a) : (Code.region id l.toArray true).wp P Q a w := by
  refine wp_region_plan [(n, l.length - n)] hm hB ⟨fun w' => ∃ k, w' = w.drewN k, ⟨1, rfl⟩, ?_⟩
  have e : (l.drop n).take (l.length - n) = l.drop n := List.take_of_length_le (by simp)
  rw [e]
  refine wpQuiet_mono' (fun a' h' w' hw' => ?_) _ _ h
  obtain ⟨k, rfl⟩ := hw'
  refine wpList_mono' (fun e a w hq => ?_) _ _ _ (h' k)
  cases e <;> exact hq
end
end Go.Proofs.HL

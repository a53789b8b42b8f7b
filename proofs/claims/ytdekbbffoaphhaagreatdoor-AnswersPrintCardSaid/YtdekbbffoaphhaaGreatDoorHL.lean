/- A small separation logic over the model's worlds: what a call owns, block by block. -/
import Derived.WalkKit
import Derived.Below
import Derived.Laws.AppendOwn
import Derived.Deep.Draws
set_option linter.unusedVariables false
namespace Go.Proofs.HL
open Go.RowKit

/-- A thing that lies in one block, or in none. -/
structure At where
  fp : Option Nat
  holds : World → Prop
  lt : ∀ w b, fp = some b → holds w → b < w.heap.size
  stable : ∀ w w' row, w.grownBy w' row → (fp = none ∨ fp ≠ row) → holds w → holds w'

/-- The call began in w0; all that lay there lies as it lay; what it owns now. -/
structure HL (w0 w : World) (L : List At) : Prop where
  below : Below w0.heap.size w0 w
  all : ∀ A ∈ L, A.holds w ∧ ∀ b, A.fp = some b → w0.heap.size ≤ b
  sep : L.Pairwise fun A B => A.fp = none ∨ A.fp ≠ B.fp

theorem grownBy_refl (w : World) (row : Option Nat) : w.grownBy w row := ⟨rfl, rfl, rfl, Nat.le_refl _, fun _ _ _ => rfl⟩
theorem grownBy_drewN (w : World) (n : Nat) (row : Option Nat) : w.grownBy (w.drewN n) row := ⟨rfl, rfl, rfl, Nat.le_refl _, fun _ _ _ => rfl⟩
theorem grownBy_drew (w : World) (row : Option Nat) : w.grownBy w.drew row := ⟨rfl, rfl, rfl, Nat.le_refl _, fun _ _ _ => rfl⟩
theorem grownBy_setCell (w : World) (a : Addr) (v : Value) : w.grownBy (w.setCell a v) (some a.block) :=
  ⟨rfl, rfl, rfl, by simp, fun k _ hk => Below.heap_setCell _ _ _ _ (fun e => hk (by rw [e]))⟩

theorem HL.start (w : World) : HL w w [] := ⟨Below.refl _ _, (fun _ h => nomatch h), List.Pairwise.nil⟩
theorem HL.size {w0 w : World} {L : List At} (h : HL w0 w L) : w0.heap.size ≤ w.heap.size := h.below.size
theorem HL.head {w0 w : World} {A : At} {L : List At} (h : HL w0 w (A :: L)) : A.holds w := (h.all A (List.mem_cons_self ..)).1
theorem HL.base {w0 w : World} {A : At} {L : List At} (h : HL w0 w (A :: L)) : ∀ b, A.fp = some b → w0.heap.size ≤ b := (h.all A (List.mem_cons_self ..)).2
theorem HL.tail {w0 w : World} {A : At} {L : List At} (h : HL w0 w (A :: L)) : HL w0 w L :=
  ⟨h.below, fun B hB => h.all B (List.mem_cons_of_mem _ hB), (List.pairwise_cons.1 h.sep).2⟩
theorem HL.get {w0 w : World} {A : At} {L : List At} (h : HL w0 w L) (hA : A ∈ L) : A.holds w := (h.all A hA).1
theorem HL.perm {w0 w : World} {L L' : List At} (h : HL w0 w L) (p : L.Perm L') : HL w0 w L' :=
  ⟨h.below, fun A hA => h.all A (p.mem_iff.2 hA), p.pairwise h.sep (fun {A B} r => by
    rcases r with r | r
    · by_cases e : B.fp = none
      · exact .inl e
      · exact .inr (fun e' => e (e'.trans r))
    · by_cases e : B.fp = none
      · exact .inl e
      · exact .inr (fun e' => r e'.symm))⟩
theorem HL.swap {w0 w : World} {A B : At} {L : List At} (h : HL w0 w (A :: B :: L)) : HL w0 w (B :: A :: L) := h.perm (List.Perm.swap ..)
theorem HL.rot3 {w0 w : World} {A B C : At} {L : List At} (h : HL w0 w (A :: B :: C :: L)) : HL w0 w (C :: A :: B :: L) :=
  h.perm (((List.Perm.swap C B L).cons A).trans (List.Perm.swap C A (B :: L)))
/-- The first goes behind the third. -/
theorem HL.rotl3 {w0 w : World} {A B C : At} {L : List At} (h : HL w0 w (A :: B :: C :: L)) : HL w0 w (B :: C :: A :: L) :=
  h.perm ((List.Perm.swap B A (C :: L)).trans ((List.Perm.swap C A L).cons B))
theorem HL.rotl4 {w0 w : World} {A B C D : At} {L : List At} (h : HL w0 w (A :: B :: C :: D :: L)) : HL w0 w (B :: C :: D :: A :: L) :=
  h.perm ((List.Perm.swap B A (C :: D :: L)).trans (((List.Perm.swap C A (D :: L)).trans ((List.Perm.swap D A L).cons C)).cons B))
theorem HL.rot4 {w0 w : World} {A B C D : At} {L : List At} (h : HL w0 w (A :: B :: C :: D :: L)) : HL w0 w (D :: A :: B :: C :: L) := h.rotl4.rotl4.rotl4
theorem HL.drop2 {w0 w : World} {A B : At} {L : List At} (h : HL w0 w (A :: B :: L)) : HL w0 w (A :: L) := h.swap.tail
theorem HL.drops {w0 w : World} {K L : List At} (h : HL w0 w (K ++ L)) : HL w0 w L := by
  induction K with
  | nil => exact h
  | cons A K ih => exact ih h.tail

/-- Nothing. -/
def noAt : At := ⟨none, fun _ => True, (fun _ _ e => nomatch e), fun _ _ _ _ _ _ => trivial⟩
theorem HL.apart {w0 w : World} {L : List At} (h : HL w0 w L) {i j : Nat} (hi : i < L.length) (hj : j < L.length) (e : i ≠ j) : L[i].fp = none ∨ L[i].fp ≠ L[j].fp := by
  rcases Nat.lt_or_gt_of_ne e with h1 | h1
  · exact List.pairwise_iff_getElem.1 h.sep i j hi hj h1
  · rcases List.pairwise_iff_getElem.1 h.sep j i hj hi h1 with r | r
    · by_cases e : L[i].fp = none
      · exact .inl e
      · exact .inr (fun e' => e (e'.trans r))
    · exact .inr (fun e => r e.symm)
/-- Of the first n those that are named, in that order; then what stands behind the n. -/
theorem HL.sel {w0 w : World} {L : List At} (h : HL w0 w L) (n : Nat) (is : List Nat) (hn : Nat.ble n L.length = true := by rfl) (hb : (is.all (fun i => decide (i < n)) && decide is.Nodup) = true := by decide) :
    HL w0 w (is.map (fun i => L.getD i noAt) ++ L.drop n) := by
  have hn := Nat.le_of_ble_eq_true hn
  simp only [Bool.and_eq_true, List.all_eq_true, decide_eq_true_eq] at hb
  obtain ⟨hlt, hnd⟩ := hb
  have hget : ∀ i ∈ is, ∃ hi : i < L.length, L.getD i noAt = L[i] := fun i hi => ⟨by have := hlt i hi; omega, by rw [List.getD_eq_getElem?_getD, List.getElem?_eq_getElem (by have := hlt i hi; omega)]; rfl⟩
  refine ⟨h.below, fun A hA => ?_, List.pairwise_append.2 ⟨?_, ?_, ?_⟩⟩
  · rcases List.mem_append.1 hA with hA | hA
    · obtain ⟨i, hi, rfl⟩ := List.mem_map.1 hA
      obtain ⟨h1, h2⟩ := hget i hi
      rw [h2]
      exact h.all _ (List.getElem_mem h1)
    · exact h.all A (List.mem_of_mem_drop hA)
  · rw [List.pairwise_map]
    refine List.Pairwise.imp_of_mem (fun {i j} hi hj hij => ?_) hnd
    obtain ⟨h1, h2⟩ := hget i hi
    obtain ⟨h3, h4⟩ := hget j hj
    rw [h2, h4]
    exact h.apart h1 h3 hij
  · exact h.sep.sublist (List.drop_sublist _ _)
  · intro A hA B hB
    obtain ⟨i, hi, rfl⟩ := List.mem_map.1 hA
    obtain ⟨h1, h2⟩ := hget i hi
    obtain ⟨j, hj, rfl⟩ := List.getElem_of_mem hB
    rw [h2, List.getElem_drop]
    rw [List.length_drop] at hj
    exact h.apart h1 (by omega) (by have := hlt i hi; omega)

/-- What is another row's lives on. -/
theorem HL.grown {w0 w w' : World} {L : List At} (h : HL w0 w L) {row : Option Nat} (hg : w.grownBy w' row) (hr : ∀ b, row = some b → w0.heap.size ≤ b)
    (hL : ∀ A ∈ L, A.fp = none ∨ A.fp ≠ row) : HL w0 w' L :=
  ⟨h.below.grown hg h.below.size hr, fun A hA => ⟨A.stable w w' row hg (hL A hA) (h.all A hA).1, (h.all A hA).2⟩, h.sep⟩
theorem HL.same {w0 w w' : World} {L : List At} (h : HL w0 w L) (hg : w.grownBy w' none) : HL w0 w' L :=
  h.grown hg (fun b e => by cases e) (fun A _ => by cases e : A.fp <;> simp)
theorem HL.drew {w0 w : World} {L : List At} (h : HL w0 w L) : HL w0 w.drew L := h.same (grownBy_drew w none)
theorem HL.drewN {w0 w : World} {L : List At} (h : HL w0 w L) (n : Nat) : HL w0 (w.drewN n) L := h.same (grownBy_drewN w n none)
theorem HL.alloc' {w0 w : World} {L : List At} (h : HL w0 w L) (o : Obj) : HL w0 (w.alloc o) L := h.same (World.grownBy_alloc w o none)
/-- A thing turns into another in its own block (or moves to a new one). -/
theorem HL.step {w0 w w' : World} {A A' : At} {L : List At} (h : HL w0 w (A :: L)) (hg : w.grownBy w' A.fp) (hA : A'.holds w')
    (hfp : ∀ b, A'.fp = some b → A.fp = some b ∨ w.heap.size ≤ b) : HL w0 w' (A' :: L) := by
  have hs := List.pairwise_cons.1 h.sep
  have ht : HL w0 w' L := h.tail.grown hg h.base (fun B hB => by
    rcases hs.1 B hB with e | e
    · rw [e]; cases B.fp <;> simp
    · exact .inr (fun e' => e e'.symm))
  refine ⟨ht.below, fun B hB => ?_, List.pairwise_cons.2 ⟨fun B hB => ?_, ht.sep⟩⟩
  · rcases List.mem_cons.1 hB with rfl | hB
    · refine ⟨hA, fun b hb => ?_⟩
      rcases hfp b hb with e | e
      · exact h.base b e
      · exact Nat.le_trans h.below.size e
    · exact ht.all B hB
  · cases e : A'.fp with
    | none => exact .inl rfl
    | some b =>
      refine .inr (fun e' => ?_)
      rcases hfp b e with e2 | e2
      · rcases hs.1 B hB with e3 | e3
        · rw [e3] at e2; cases e2
        · exact e3 (e2.trans e')
      · have := B.lt w b e'.symm (h.tail.get hB)
        omega
theorem HL.new {w0 w w' : World} {A' : At} {L : List At} (h : HL w0 w L) (hg : w.grownBy w' none) (hA : A'.holds w') (hfp : ∀ b, A'.fp = some b → w.heap.size ≤ b) : HL w0 w' (A' :: L) := by
  have ht := h.same hg
  refine ⟨ht.below, fun B hB => ?_, List.pairwise_cons.2 ⟨fun B hB => ?_, ht.sep⟩⟩
  · rcases List.mem_cons.1 hB with rfl | hB
    · exact ⟨hA, fun b hb => Nat.le_trans h.below.size (hfp b hb)⟩
    · exact ht.all B hB
  · cases e : A'.fp with
    | none => exact .inl rfl
    | some b =>
      refine .inr (fun e' => ?_)
      have := B.lt w b e'.symm (h.get hB)
      have := hfp b e
      omega
/-- The same thing told otherwise. -/
theorem HL.turn {w0 w : World} {A A' : At} {L : List At} (h : HL w0 w (A :: L)) (hA : A.holds w → A'.holds w) (hfp : ∀ b, A'.fp = some b → A.fp = some b) : HL w0 w (A' :: L) :=
  h.step (grownBy_refl w _) (hA h.head) (fun b hb => .inl (hfp b hb))

/-- What follows of what is owned (and of what lay there at the beginning), in whatever world. -/
def Ent (w0 : World) (L : List At) (P : World → Prop) : Prop := ∀ w, HL w0 w L → P w
theorem Ent.cons {w0 : World} {L : List At} {P : World → Prop} (h : Ent w0 L P) (A : At) : Ent w0 (A :: L) P := fun w hw => h w hw.tail

/-! ### Things -/
/-- A block whose whole content is known. -/
def blk (b : Nat) (o : Obj) : At where
  fp := some b
  holds w := w.heap[b]? = some o
  lt := fun w b' e h => by
    cases e
    exact (Array.getElem?_eq_some_iff.1 h).1
  stable := fun w w' row hg hne h => by
    rw [hg.block b (Array.getElem?_eq_some_iff.1 h).1 (hne.resolve_left (by simp))]
    exact h
/-- A row that is appended to. -/
def row (base : Nat) (E : TypeId) (k : Nat) (v : Value) (n : Nat) (xs : List Value) : At where
  fp := v.ownBlock
  holds w := w.ownsRow base E k v n xs
  lt := fun w b e h => (h.lt b e).2
  stable := fun w w' r hg hne h => h.kept hg hne

theorem HL.alloc {w0 w : World} {L : List At} (h : HL w0 w L) (o : Obj) : HL w0 (w.alloc o) (blk w.heap.size o :: L) :=
  h.new (World.grownBy_alloc w o none) (heap_alloc_new w o) (fun b hb => by cases hb; exact Nat.le_refl _)
theorem HL.cell {w0 w : World} {L : List At} {b : Nat} {vs : Array Value} {E : TypeId} {fz : Nat × Nat} (h : HL w0 w (blk b (.cells vs E fz) :: L)) (i : Nat) : w.cell? ⟨b, i, none⟩ = vs[i]? := by
  have := h.head
  simp only [blk] at this
  simp [World.cell?, this]
theorem HL.frozen {w0 w : World} {L : List At} {b : Nat} {vs : Array Value} {E : TypeId} (h : HL w0 w (blk b (.cells vs E (0, 0)) :: L)) (i : Nat) : w.frozen? ⟨b, i, none⟩ = false := by
  have := h.head
  simp only [blk] at this
  simp [World.frozen?, this]
theorem HL.setCell {w0 w : World} {L : List At} {b : Nat} {vs : Array Value} {E : TypeId} {fz : Nat × Nat} (h : HL w0 w (blk b (.cells vs E fz) :: L)) (i : Nat) (v : Value) :
    HL w0 (w.setCell ⟨b, i, none⟩ v) (blk b (.cells (vs.setIfInBounds i v) E fz) :: L) := by
  refine h.step (grownBy_setCell w ⟨b, i, none⟩ v) ?_ (fun b' hb => .inl hb)
  have := h.head
  simp only [blk] at this ⊢
  simp [World.setCell, Array.getElem?_modify, this]
theorem HL.cellOf {w0 w : World} {L : List At} {b : Nat} {vs : Array Value} {E : TypeId} {fz : Nat × Nat} (h : HL w0 w L) (hm : blk b (.cells vs E fz) ∈ L) (i : Nat) : w.cell? ⟨b, i, none⟩ = vs[i]? := by
  have := h.get hm
  simp only [blk] at this
  simp [World.cell?, this]
theorem HL.frozenOf {w0 w : World} {L : List At} {b : Nat} {vs : Array Value} {E : TypeId} (h : HL w0 w L) (hm : blk b (.cells vs E (0, 0)) ∈ L) (i : Nat) : w.frozen? ⟨b, i, none⟩ = false := by
  have := h.get hm
  simp only [blk] at this
  simp [World.frozen?, this]
theorem HL.setAt {w0 w : World} (L1 : List At) {L2 : List At} {b : Nat} {vs : Array Value} {E : TypeId} {fz : Nat × Nat} (h : HL w0 w (L1 ++ blk b (.cells vs E fz) :: L2)) (i : Nat) (v : Value) :
    HL w0 (w.setCell ⟨b, i, none⟩ v) (L1 ++ blk b (.cells (vs.setIfInBounds i v) E fz) :: L2) :=
  ((h.perm List.perm_middle).setCell i v).perm List.perm_middle.symm
/-- An old cell reads as it did. -/
theorem HL.old {w0 w : World} {L : List At} (h : HL w0 w L) {a : Addr} {v : Value} (hc : w0.cell? a = some v) : w.cell? a = some v :=
  (h.below.cell (World.block_lt_of_cell? w0 a hc)).trans hc
theorem HL.nilRow {w0 w : World} {L : List At} (h : HL w0 w L) (base : Nat) (E : TypeId) (k : Nat) : HL w0 w (row base E k (.slice none 0 0) 0 [] :: L) :=
  h.new (grownBy_refl w none) (World.ownsRow_nil w base E k) (fun b hb => by cases hb)

/-! ### A slice that is read: whole cells, k to an element -/
/-- The slice value v has n elements of k cells each, which are cs. -/
def Rd (k : Nat) (v : Value) (n : Nat) (cs : List Value) (w : World) : Prop :=
  cs.length = n * k ∧ n ≤ maxLen ∧ ∃ a c, v = .slice a n c ∧ n ≤ c ∧ c ≤ maxLen ∧ (a = none → n = 0 ∧ c = 0) ∧ ∀ ad, a = some ad → ∀ j u, cs[j]? = some u → w.cell? (ad.add j) = some u
end Go.Proofs.HL

/- Runs and steps as plain lists: how many nodes are free when; the next end; the steps; the shadow. -/
import Derived.Test.YtebibcaahjmjfaaSteps
set_option linter.unusedVariables false
namespace Go.Proofs.HL.Pr

/-- A run: its nodes, its end. -/
structure Rn where
  nodes : Int
  fin : Int
deriving DecidableEq
/-- A step: from when on, how many are free. -/
structure Sp where
  at_ : Int
  free : Int
deriving DecidableEq
def encR (r : Rn) : List Value := [.int .i64 r.nodes, .int .i64 r.fin]
def encS (s : Sp) : List Value := [.int .i64 s.at_, .int .i64 s.free]

def sumN : List Rn → Int
  | [] => 0
  | r :: l => r.nodes + sumN l
theorem sumN_append : ∀ (l m : List Rn), sumN (l ++ m) = sumN l + sumN m
  | [], m => by simp [sumN]
  | r :: l, m => by simp only [List.cons_append, sumN, sumN_append l m]; omega
theorem sumN_perm {l m : List Rn} (h : l.Perm m) : sumN l = sumN m := by
  induction h with
  | nil => rfl
  | cons x _ ih => simp only [sumN, ih]
  | swap x y l => simp only [sumN]; omega
  | trans _ _ h1 h2 => exact h1.trans h2

def okR (r : Rn) : Bool := decide (1 ≤ r.nodes) && decide (r.nodes ≤ 256)
/-- Right numbers. -/
def rightB (free : Int) (l : List Rn) : Bool := decide (0 ≤ free) && decide (free ≤ 256) && l.all okR
theorem rightB_iff {free : Int} {l : List Rn} : rightB free l = true ↔ 0 ≤ free ∧ free ≤ 256 ∧ ∀ r ∈ l, 1 ≤ r.nodes ∧ r.nodes ≤ 256 := by
  simp [rightB, okR, and_assoc]
theorem sumN_bd {l : List Rn} (h : ∀ r ∈ l, 1 ≤ r.nodes ∧ r.nodes ≤ 256) : 0 ≤ sumN l ∧ sumN l ≤ 256 * l.length := by
  induction l with
  | nil => simp [sumN]
  | cons r l ih =>
    have h1 := h r (List.mem_cons_self ..)
    have h2 := ih (fun x hx => h x (List.mem_cons_of_mem _ hx))
    simp only [sumN, List.length_cons]
    omega

/-- How many are free at a time. -/
def atS (free : Int) (l : List Rn) (t : Int) : Int := free + sumN (l.filter fun r => decide (r.fin ≤ t))
theorem atS_nil (free t : Int) : atS free [] t = free := by simp [atS, sumN]
theorem atS_snoc (free : Int) (l : List Rn) (r : Rn) (t : Int) : atS free (l ++ [r]) t = if r.fin ≤ t then atS free l t + r.nodes else atS free l t := by
  unfold atS
  rw [List.filter_append, sumN_append]
  by_cases h : r.fin ≤ t <;> simp [h, sumN] <;> omega
theorem atS_perm {l m : List Rn} (h : l.Perm m) (free t : Int) : atS free l t = atS free m t := by
  unfold atS
  rw [sumN_perm (h.filter _)]
theorem atS_bd {free : Int} {l : List Rn} (h : rightB free l = true) (t : Int) : 0 ≤ atS free l t ∧ atS free l t ≤ 256 + 256 * l.length := by
  obtain ⟨h1, h2, h3⟩ := rightB_iff.1 h
  have hb := sumN_bd (l := l.filter fun r => decide (r.fin ≤ t)) (fun r hr => h3 r (List.mem_filter.1 hr).1)
  have hl := List.length_filter_le (fun r : Rn => decide (r.fin ≤ t)) l
  unfold atS
  omega
theorem atS_mono {free : Int} {l : List Rn} (h : ∀ r ∈ l, 1 ≤ r.nodes ∧ r.nodes ≤ 256) {t u : Int} (htu : t ≤ u) : atS free l t ≤ atS free l u := by
  unfold atS
  induction l with
  | nil => simp
  | cons r l ih =>
    have h1 := h r (List.mem_cons_self ..)
    have h2 := ih (fun x hx => h x (List.mem_cons_of_mem _ hx))
    by_cases ha : r.fin ≤ t
    · simp only [List.filter_cons, ha, decide_true, if_true, show r.fin ≤ u by omega, sumN]; omega
    · by_cases hb : r.fin ≤ u
      · simp only [List.filter_cons, ha, decide_false, Bool.false_eq_true, if_false, hb, decide_true, if_true, sumN]; omega
      · simp only [List.filter_cons, ha, decide_false, Bool.false_eq_true, if_false, hb]; omega

/-- The least end above a time. -/
def nextS (l : List Rn) (t : Int) : Option Int := l.foldl (fun o r => if t < r.fin then (match o with | none => some r.fin | some b => if r.fin < b then some r.fin else some b) else o) none
theorem nextS_snoc (l : List Rn) (r : Rn) (t : Int) : nextS (l ++ [r]) t = if t < r.fin then (match nextS l t with | none => some r.fin | some b => if r.fin < b then some r.fin else some b) else nextS l t := by
  unfold nextS
  rw [List.foldl_append]
  rfl
theorem list_snoc {α : Type} {p : List α → Prop} (h0 : p []) (h1 : ∀ l x, p l → p (l ++ [x])) (l : List α) : p l := by
  have : ∀ m : List α, p m.reverse := fun m => by
    induction m with
    | nil => exact h0
    | cons x m ih => rw [List.reverse_cons]; exact h1 _ _ ih
  have := this l.reverse
  rwa [List.reverse_reverse] at this
theorem nextS_none {l : List Rn} {t : Int} : nextS l t = none ↔ ∀ r ∈ l, r.fin ≤ t := by
  induction l using list_snoc with
  | h0 => simp [nextS]
  | h1 l x ih =>
    rw [nextS_snoc]
    simp only [List.mem_append, List.mem_singleton]
    by_cases h : t < x.fin
    · rw [if_pos h]
      constructor
      · intro h2
        cases hn : nextS l t with
        | none => rw [hn] at h2; cases h2
        | some b => rw [hn] at h2; simp only at h2; split at h2 <;> cases h2
      · intro h2
        have := h2 x (.inr rfl)
        omega
    · rw [if_neg h, ih]
      constructor
      · intro h2 r hr
        rcases hr with hr | rfl
        · exact h2 r hr
        · omega
      · exact fun h2 r hr => h2 r (.inl hr)
theorem nextS_some {l : List Rn} {t n : Int} : nextS l t = some n ↔ (∃ r ∈ l, r.fin = n) ∧ t < n ∧ ∀ r ∈ l, t < r.fin → n ≤ r.fin := by
  induction l using list_snoc generalizing n with
  | h0 => simp [nextS]
  | h1 l x ih =>
    rw [nextS_snoc]
    by_cases h : t < x.fin
    · rw [if_pos h]
      cases hn : nextS l t with
      | none =>
        have h0 := nextS_none.1 hn
        simp only [Option.some.injEq]
        constructor
        · rintro rfl
          refine ⟨⟨x, by simp, rfl⟩, h, fun r hr hr2 => ?_⟩
          rcases List.mem_append.1 hr with hr | hr
          · have := h0 r hr; omega
          · obtain rfl := List.mem_singleton.1 hr; omega
        · rintro ⟨⟨r, hr, rfl⟩, h1, h2⟩
          rcases List.mem_append.1 hr with hr | hr
          · have := h0 r hr; omega
          · obtain rfl := List.mem_singleton.1 hr; rfl
      | some b =>
        obtain ⟨⟨rb, hrb, hrb2⟩, hb1, hb2⟩ := ih.1 hn
        simp only
        constructor
        · intro hh
          have hcase : n = if x.fin < b then x.fin else b := by
            by_cases hx : x.fin < b
            · rw [if_pos hx] at hh ⊢; exact (Option.some.inj hh).symm
            · rw [if_neg hx] at hh ⊢; exact (Option.some.inj hh).symm
          clear hh ih
          refine ⟨?_, ?_, fun r hr hr2 => ?_⟩
          · by_cases hx : x.fin < b
            · exact ⟨x, by simp, by rw [hcase, if_pos hx]⟩
            · exact ⟨rb, by simp [hrb], by rw [hcase, if_neg hx, hrb2]⟩
          · rw [hcase]; split <;> omega
          · rcases List.mem_append.1 hr with hr | hr
            · have := hb2 r hr hr2; rw [hcase]; split <;> omega
            · obtain rfl := List.mem_singleton.1 hr; rw [hcase]; split <;> omega
        · rintro ⟨⟨r, hr, rfl⟩, h1, h2⟩
          have h3 := h2 x (by simp) h
          have h4 := h2 rb (by simp [hrb]) (by omega)
          rcases List.mem_append.1 hr with hr | hr
          · have h5 := hb2 r hr h1
            rw [if_neg (by omega)]
            congr 1
            omega
          · obtain rfl := List.mem_singleton.1 hr
            split
            · rfl
            · congr 1; omega
    · rw [if_neg h, ih]
      constructor
      · rintro ⟨⟨r, hr, h0⟩, h1, h2⟩
        refine ⟨⟨r, by simp [hr], h0⟩, h1, fun y hy hy2 => ?_⟩
        rcases List.mem_append.1 hy with hy | hy
        · exact h2 y hy hy2
        · obtain rfl := List.mem_singleton.1 hy; omega
      · rintro ⟨⟨r, hr, h0⟩, h1, h2⟩
        refine ⟨?_, h1, fun y hy => h2 y (by simp [hy])⟩
        rcases List.mem_append.1 hr with hr | hr
        · exact ⟨r, hr, h0⟩
        · obtain rfl := List.mem_singleton.1 hr; omega
theorem nextS_perm {l m : List Rn} (h : l.Perm m) (t : Int) : nextS l t = nextS m t := by
  cases hn : nextS m t with
  | none => exact nextS_none.2 fun r hr => nextS_none.1 hn r (h.mem_iff.1 hr)
  | some n =>
    obtain ⟨⟨r, hr, h0⟩, h1, h2⟩ := nextS_some.1 hn
    exact nextS_some.2 ⟨⟨r, h.mem_iff.2 hr, h0⟩, h1, fun y hy => h2 y (h.mem_iff.1 hy)⟩

/-- How many ends are above a time. -/
def above (l : List Rn) (t : Int) : Nat := (l.filter fun r => decide (t < r.fin)).length
theorem above_le (l : List Rn) (t : Int) : above l t ≤ l.length := List.length_filter_le _ _
theorem above_lt {l : List Rn} {t n : Int} (h : nextS l t = some n) : above l n < above l t := by
  obtain ⟨⟨r, hr, h0⟩, h1, -⟩ := nextS_some.1 h
  unfold above
  have hsub : (l.filter fun r => decide (n < r.fin)) = (l.filter fun r => decide (t < r.fin)).filter fun r => decide (n < r.fin) := by
    rw [List.filter_filter]
    congr 1
    funext x
    rw [Bool.eq_iff_iff]
    simp only [decide_eq_true_eq, Bool.and_eq_true]
    omega
  rw [hsub]
  rcases Nat.lt_or_ge ((l.filter fun r => decide (t < r.fin)).filter fun r => decide (n < r.fin)).length (l.filter fun r => decide (t < r.fin)).length with h3 | h3
  · exact h3
  · have h4 := List.length_filter_eq_length_iff.1 (Nat.le_antisymm (List.length_filter_le _ _) h3)
    have := h4 r (List.mem_filter.2 ⟨hr, by simp; omega⟩)
    simp at this
    omega

/-- The steps behind a time. -/
def stepsR (free : Int) (l : List Rn) : Nat → Int → List Sp
  | 0, _ => []
  | g + 1, t => match nextS l t with
    | none => []
    | some n => ⟨n, atS free l n⟩ :: stepsR free l g n
/-- The steps. -/
def stepsS (now free : Int) (l : List Rn) : List Sp := ⟨now, atS free l now⟩ :: stepsR free l l.length now
theorem stepsR_fuel (free : Int) (l : List Rn) : ∀ (g h : Nat) (t : Int), above l t ≤ g → above l t ≤ h → stepsR free l g t = stepsR free l h t
  | 0, 0, t, _, _ => rfl
  | 0, h + 1, t, h1, h2 => by
    unfold stepsR
    cases hn : nextS l t with
    | none => rfl
    | some n => have := above_lt hn; omega
  | g + 1, 0, t, h1, h2 => by
    unfold stepsR
    cases hn : nextS l t with
    | none => rfl
    | some n => have := above_lt hn; omega
  | g + 1, h + 1, t, h1, h2 => by
    unfold stepsR
    cases hn : nextS l t with
    | none => rfl
    | some n =>
      have := above_lt hn
      simp only
      rw [stepsR_fuel free l g h n (by omega) (by omega)]
/-- .. of right numbers; else none. -/
def stepsAll (now free : Int) (l : List Rn) : List Sp := if rightB free l then stepsS now free l else []
theorem stepsR_perm {l m : List Rn} (h : l.Perm m) (free : Int) : ∀ (g : Nat) (t : Int), stepsR free l g t = stepsR free m g t
  | 0, t => rfl
  | g + 1, t => by
    unfold stepsR
    rw [nextS_perm h]
    cases nextS m t with
    | none => rfl
    | some n => simp only; rw [atS_perm h, stepsR_perm h]
theorem stepsS_perm {l m : List Rn} (h : l.Perm m) (now free : Int) : stepsS now free l = stepsS now free m := by
  unfold stepsS
  rw [atS_perm h, stepsR_perm h, h.length_eq]
theorem stepsR_length (free : Int) (l : List Rn) : ∀ (g : Nat) (t : Int), (stepsR free l g t).length ≤ g
  | 0, t => Nat.le_refl _
  | g + 1, t => by
    unfold stepsR
    cases nextS l t with
    | none => simp
    | some n => simp only [List.length_cons]; have := stepsR_length free l g n; omega
theorem stepsS_length (now free : Int) (l : List Rn) : (stepsS now free l).length ≤ l.length + 1 := by
  unfold stepsS
  simp only [List.length_cons]
  have := stepsR_length free l l.length now
  omega
theorem stepsAll_length (now free : Int) (l : List Rn) : (stepsAll now free l).length ≤ l.length + 1 := by
  unfold stepsAll
  split
  · exact stepsS_length now free l
  · simp
/-- What is free, of right numbers, at a time from now on; else 0. -/
def atAll (now free : Int) (l : List Rn) (t : Int) : Int := if rightB free l = true ∧ now ≤ t then atS free l t else 0
/-- The first step that has enough. -/
def shadowL (need : Int) : List Sp → Int × Int × Bool
  | [] => (0, 0, false)
  | s :: r => if need ≤ s.free then (s.at_, s.free - need, true) else shadowL need r
def shadowAll (now free : Int) (l : List Rn) (need : Int) : Int × Int × Bool := if need < 0 then (0, 0, false) else shadowL need (stepsAll now free l)

/-- The steps behind a time, all of them. -/
def stepsT (free : Int) (l : List Rn) (t : Int) : List Sp := stepsR free l (above l t) t
theorem stepsT_none {free : Int} {l : List Rn} {t : Int} (h : nextS l t = none) : stepsT free l t = [] := by
  unfold stepsT
  cases above l t with
  | zero => rfl
  | succ g => simp [stepsR, h]
theorem stepsT_some {free : Int} {l : List Rn} {t n : Int} (h : nextS l t = some n) : stepsT free l t = ⟨n, atS free l n⟩ :: stepsT free l n := by
  unfold stepsT
  have h1 := above_lt h
  obtain ⟨g, hg⟩ : ∃ g, above l t = g + 1 := ⟨above l t - 1, by omega⟩
  rw [hg]
  simp only [stepsR, h]
  rw [stepsR_fuel free l g (above l n) n (by omega) (by omega)]
theorem stepsS_eq (now free : Int) (l : List Rn) : stepsS now free l = ⟨now, atS free l now⟩ :: stepsT free l now := by
  unfold stepsS stepsT
  rw [stepsR_fuel free l l.length (above l now) now (above_le l now) (Nat.le_refl _)]

/-- In the order of their ends. -/
def Rise (l : List Rn) : Prop := l.Pairwise fun x y => x.fin ≤ y.fin
/-- The first k end by t, the others later. -/
structure CutAt (S : List Rn) (k : Nat) (t : Int) : Prop where
  le : ∀ j r, j < k → S[j]? = some r → r.fin ≤ t
  gt : ∀ r, S[k]? = some r → t < r.fin
theorem rise_at {S : List Rn} (h : Rise S) {i j : Nat} {x y : Rn} (hij : i ≤ j) (hx : S[i]? = some x) (hy : S[j]? = some y) : x.fin ≤ y.fin := by
  obtain ⟨h1, rfl⟩ := List.getElem?_eq_some_iff.1 hx
  obtain ⟨h2, rfl⟩ := List.getElem?_eq_some_iff.1 hy
  rcases Nat.lt_or_ge i j with h3 | h3
  · exact List.pairwise_iff_getElem.1 h i j h1 h2 h3
  · have : i = j := by omega
    subst this
    exact Int.le_refl _
theorem sumN_take_succ {S : List Rn} {k : Nat} {r : Rn} (h : S[k]? = some r) : sumN (S.take (k + 1)) = sumN (S.take k) + r.nodes := by
  rw [List.take_add_one, h, sumN_append]
  simp [sumN]
theorem CutAt.at {S : List Rn} (hS : Rise S) {k : Nat} {t : Int} (h : CutAt S k t) (hk : k ≤ S.length) (free : Int) : atS free S t = free + sumN (S.take k) := by
  unfold atS
  have h1 : S.filter (fun r => decide (r.fin ≤ t)) = S.take k := by
    have h2 := List.filter_append (p := fun r : Rn => decide (r.fin ≤ t)) (S.take k) (S.drop k)
    rw [List.take_append_drop] at h2
    rw [h2, List.filter_eq_self.2 (fun r hr => ?_), List.filter_eq_nil_iff.2 (fun r hr => ?_), List.append_nil]
    · obtain ⟨j, hj, rfl⟩ := List.getElem_of_mem hr
      rw [List.length_drop] at hj
      rw [List.getElem_drop]
      have hk' : k < S.length := by omega
      have h3 := h.gt _ (List.getElem?_eq_getElem hk')
      have h4 := rise_at hS (Nat.le_add_right k j) (List.getElem?_eq_getElem hk') (List.getElem?_eq_getElem (show k + j < S.length by omega))
      simp only [decide_eq_true_eq]
      omega
    · obtain ⟨j, hj, rfl⟩ := List.getElem_of_mem hr
      have hj' : j < k := by rw [List.length_take] at hj; omega
      rw [List.getElem_take]
      exact decide_eq_true (h.le j _ hj' (List.getElem?_eq_getElem (by omega)))
  rw [h1]
theorem CutAt.next {S : List Rn} (hS : Rise S) {k : Nat} {t : Int} (h : CutAt S k t) : nextS S t = S[k]?.map (·.fin) := by
  cases hk : S[k]? with
  | none =>
    refine nextS_none.2 fun r hr => ?_
    obtain ⟨j, hj, rfl⟩ := List.getElem_of_mem hr
    have := List.getElem?_eq_none_iff.1 hk
    exact h.le j _ (by omega) (List.getElem?_eq_getElem hj)
  | some r =>
    refine nextS_some.2 ⟨⟨r, List.mem_of_getElem? hk, rfl⟩, h.gt r hk, fun y hy hty => ?_⟩
    obtain ⟨j, hj, rfl⟩ := List.getElem_of_mem hy
    rcases Nat.lt_or_ge j k with h1 | h1
    · have := h.le j _ h1 (List.getElem?_eq_getElem hj)
      omega
    · exact rise_at hS h1 hk (List.getElem?_eq_getElem hj)
theorem sumN_take_bd {free : Int} {S : List Rn} (hf : rightB free S = true) (k : Nat) : 0 ≤ free + sumN (S.take k) ∧ free + sumN (S.take k) ≤ 256 + 256 * S.length := by
  obtain ⟨h1, h2, h3⟩ := rightB_iff.1 hf
  have hb := sumN_bd (l := S.take k) (fun r hr => h3 r (List.mem_of_mem_take hr))
  have hl := List.length_take_le k S
  have : (S.take k).length ≤ S.length := by rw [List.length_take]; omega
  omega
theorem rightB_perm {l m : List Rn} (h : l.Perm m) (free : Int) : rightB free l = rightB free m := by
  rw [Bool.eq_iff_iff, rightB_iff, rightB_iff]
  simp only [h.mem_iff]
theorem stepsAll_perm {l m : List Rn} (h : l.Perm m) (now free : Int) : stepsAll now free l = stepsAll now free m := by
  unfold stepsAll
  rw [rightB_perm h, stepsS_perm h]
end Go.Proofs.HL.Pr

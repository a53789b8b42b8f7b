/- There and back: what is written is read, what was read is written. -/
import Derived.Test.YtdekbbffoaphhaaDoorVeCut
import Derived.Lib.ItoaLen
set_option linter.unusedVariables false
namespace Go.Proofs.Ve
theorem bytes_ext {a b : ByteArray} (h : a.data.toList = b.data.toList) : a = b := by
  cases a
  cases b
  congr 1
  exact Array.toList_inj.1 h
theorem map_bytes : ∀ {l m : List ByteArray}, l.map (·.data.toList) = m.map (·.data.toList) → l = m
  | [], [], _ => rfl
  | [], y :: m, h => by simp at h
  | x :: l, [], h => by simp at h
  | x :: l, y :: m, h => by
    simp only [List.map_cons, List.cons.injEq] at h
    rw [bytes_ext h.1, map_bytes h.2]
theorem word_clean : ∀ V ∈ verbL, (32 : UInt8) ∉ V.word.data.toList := by decide
theorem valid_clean {s : ByteArray} (h : validB s = true) : (32 : UInt8) ∉ s.data.toList := fun hm => by
  simp only [validB, Bool.and_eq_true] at h
  have h2 := h.2
  unfold okS at h2
  have := List.all_eq_true.1 h2 _ hm
  exact absurd this (by decide)
theorem find_word : ∀ V ∈ verbL, verbL.find? (fun v => decide (v.word = V.word)) = some V := by
  intro V hV
  simp only [verbL, List.mem_cons, List.not_mem_nil, or_false] at hV
  rcases hV with rfl | rfl | rfl | rfl | rfl | rfl | rfl | rfl | rfl | rfl | rfl | rfl | rfl <;> rfl
theorem find_kind : ∀ V ∈ verbL, verbL.find? (fun v => v.kind == V.kind) = some V := by
  intro V hV
  simp only [verbL, List.mem_cons, List.not_mem_nil, or_false] at hV
  rcases hV with rfl | rfl | rfl | rfl | rfl | rfl | rfl | rfl | rfl | rfl | rfl | rfl | rfl <;> rfl
theorem chk_read {c : Cm} (hn : ∀ f, numF c f ≤ 9223372036854775807) : ∀ (fs : List Nat) (o p : Cm), chk c o fs = some p → readAll o fs (fs.map (fldB c)) = some p
  | [], o, p, h => h
  | f :: fs, o, p, h => by
    simp only [chk] at h
    simp only [List.map_cons, readAll, readF, fldB]
    by_cases h2 : f < 2
    · rw [if_pos h2] at h
      rw [if_pos h2, if_pos h2]
      by_cases hv : validB (txtF c f) = true
      · rw [if_pos hv] at h ⊢
        exact chk_read hn fs _ p h
      · rw [if_neg hv] at h; cases h
    · rw [if_neg h2] at h
      rw [if_neg h2, if_neg h2]
      by_cases hg : numF c f < 0
      · rw [if_pos hg] at h; cases h
      · rw [if_neg hg] at h
        have e : (⟨(Lib.itoa (numF c f)).toArray⟩ : ByteArray).data.toList = Lib.itoa (numF c f) := by simp
        rw [e, atoi_itoa (by omega) (hn f)]
        simp only
        rw [if_pos ⟨by omega, trivial⟩]
        exact chk_read hn fs _ p h
theorem join_le (M : Nat) : ∀ (xs : List (List UInt8)), (∀ x ∈ xs, x.length ≤ M) → (Lib.join xs [32]).length ≤ xs.length * (M + 1)
  | [], _ => by simp [Lib.join]
  | [x], h => by
    have := h x (by simp)
    simp [Lib.join_one]
    omega
  | x :: y :: r, h => by
    have h1 := h x (by simp)
    have h2 := join_le M (y :: r) (fun z hz => h z (List.mem_cons_of_mem _ hz))
    rw [join_cons _ _ (by simp)]
    simp only [List.length_append, List.length_cons] at h2 ⊢
    rw [Nat.add_mul (r.length + 1) 1]
    omega
/-- What is written is read. -/
theorem there {c : Cm} (h : checkB c = true) (hn : ∀ f, -9223372036854775808 ≤ numF c f ∧ numF c f ≤ 9223372036854775807) : parseR ⟨(printL c).toArray⟩ = (c, 0) := by
  obtain ⟨V, o, hf, hch, rfl⟩ := check_find h
  have hV := List.mem_of_find?_eq_some hf
  have hk : V.kind = o.kind := by have := List.find?_some hf; simpa using this
  have hw := wordsTo_all hf
  have hval := chk_valid _ _ _ hch
  have hpos : ∀ f ∈ V.fs, ¬ f < 2 → 0 ≤ numF o f := by
    have : ∀ (fs : List Nat) (a p : Cm), chk o a fs = some p → ∀ f ∈ fs, ¬ f < 2 → 0 ≤ numF o f := by
      intro fs
      induction fs with
      | nil => intro a p _ f hf; simp at hf
      | cons g fs ih =>
        intro a p h f hf h2
        simp only [chk] at h
        by_cases hg : g < 2
        · rw [if_pos hg] at h
          by_cases hv : validB (txtF o g) = true
          · rw [if_pos hv] at h
            rcases List.mem_cons.1 hf with rfl | hf
            · exact absurd hg h2
            · exact ih _ p h f hf h2
          · rw [if_neg hv] at h; cases h
        · rw [if_neg hg] at h
          by_cases hneg : numF o g < 0
          · rw [if_pos hneg] at h; cases h
          · rw [if_neg hneg] at h
            rcases List.mem_cons.1 hf with rfl | hf
            · omega
            · exact ih _ p h f hf h2
    exact this _ _ _ hch
  have hclean : ∀ x ∈ (wordsTo o 13).map (·.data.toList), (32 : UInt8) ∉ x := fun x hx => by
    obtain ⟨y, hy, rfl⟩ := List.mem_map.1 hx
    rw [hw] at hy
    rcases List.mem_cons.1 hy with rfl | hy
    · exact word_clean V hV
    · obtain ⟨f, hfm, rfl⟩ := List.mem_map.1 hy
      unfold fldB
      split
      · rename_i h2; exact valid_clean (hval f hfm h2)
      · rename_i h2
        intro hm
        have := itoa_digits (hpos f hfm h2) 32 (by simpa using hm)
        simp at this
  have hne : (wordsTo o 13).map (·.data.toList) ≠ [] := by rw [hw]; simp [wordsV]
  have hsize : ¬ 256 < (⟨(printL o).toArray⟩ : ByteArray).size := by
    have h1 := join_le 32 ((wordsTo o 13).map (·.data.toList)) (fun x hx => by
      obtain ⟨y, hy, rfl⟩ := List.mem_map.1 hx
      rw [hw] at hy
      show y.data.toList.length ≤ 32
      rw [Array.length_toList]
      show y.size ≤ 32
      rcases List.mem_cons.1 hy with rfl | hy
      · have := word_few V hV; omega
      · obtain ⟨f, hfm, rfl⟩ := List.mem_map.1 hy
        exact fld_size (hval f hfm) (fun f => Lib.itoa_length_le _ (hn f).1 (hn f).2))
    have h2 := fs_few V hV
    have h3 : ((wordsTo o 13).map (·.data.toList)).length ≤ 4 := by rw [hw]; simp [wordsV]; omega
    have h4 : (printL o).length ≤ 4 * 33 := Nat.le_trans h1 (Nat.mul_le_mul h3 (Nat.le_refl _))
    show ¬ 256 < (printL o).toArray.size
    rw [List.size_toArray]
    omega
  have hwords : wordsOf ⟨(printL o).toArray⟩ = wordsV o V := by
    rw [← hw]
    refine map_bytes ?_
    rw [words_cut]
    show cutL (printL o).toArray.toList = _
    rw [show (printL o).toArray.toList = printL o from by simp]
    exact join_cut _ hne hclean
  unfold parseR
  rw [if_neg hsize, hwords]
  unfold parseW
  rw [show (wordsV o V).headD ⟨#[]⟩ = V.word from rfl, find_word V hV]
  simp only
  rw [if_pos (by simp [wordsV]), show (wordsV o V).tail = V.fs.map (fldB o) from rfl, hk, chk_read (fun f => (hn f).2) _ _ _ hch]
/-- Alike at a field. -/
def SameAt (p o : Cm) (g : Nat) : Prop := (g < 2 → txtF p g = txtF o g) ∧ (2 ≤ g → numF p g = numF o g)
theorem seven6 {f : Nat} (h : f ≤ 6) : f = 0 ∨ f = 1 ∨ f = 2 ∨ f = 3 ∨ f = 4 ∨ f = 5 ∨ f = 6 := by omega
theorem setT_at {o : Cm} {f : Nat} (hf : f < 2) (s : ByteArray) : txtF (setT o f s) f = s ∧ (setT o f s).kind = o.kind ∧ ∀ g, g ≤ 6 → g ≠ f → SameAt (setT o f s) o g := by
  rcases (show f = 0 ∨ f = 1 by omega) with rfl | rfl
  all_goals
    refine ⟨rfl, rfl, fun g hg hne => ?_⟩
    rcases seven6 hg with rfl | rfl | rfl | rfl | rfl | rfl | rfl <;> first | exact absurd rfl hne | exact ⟨fun h => by first | rfl | omega, fun h => by first | rfl | omega⟩
theorem setN_at {o : Cm} {f : Nat} (h2 : 2 ≤ f) (hf : f ≤ 6) (n : Int) : numF (setN o f n) f = n ∧ (setN o f n).kind = o.kind ∧ ∀ g, g ≤ 6 → g ≠ f → SameAt (setN o f n) o g := by
  rcases seven6 hf with rfl | rfl | rfl | rfl | rfl | rfl | rfl
  · omega
  · omega
  all_goals
    refine ⟨rfl, rfl, fun g hg hne => ?_⟩
    rcases seven6 hg with rfl | rfl | rfl | rfl | rfl | rfl | rfl <;> first | exact absurd rfl hne | exact ⟨fun h => by first | rfl | omega, fun h => by first | rfl | omega⟩
theorem read_all : ∀ (fs : List Nat) (o p : Cm) (ws : List ByteArray), readAll o fs ws = some p → fs.Nodup → (∀ f ∈ fs, f ≤ 6) → ws.length = fs.length →
    ws = fs.map (fldB p) ∧ chk p o fs = some p ∧ p.kind = o.kind ∧ ∀ g, g ≤ 6 → g ∉ fs → SameAt p o g
  | [], o, p, ws, h, _, _, hl => by
    obtain rfl : ws = [] := List.eq_nil_of_length_eq_zero hl
    obtain rfl : o = p := Option.some.inj h
    exact ⟨rfl, rfl, rfl, fun g _ _ => ⟨fun _ => rfl, fun _ => rfl⟩⟩
  | f :: fs, o, p, [], h, _, _, hl => by simp at hl
  | f :: fs, o, p, s :: r, h, hn, h6, hl => by
    rw [List.nodup_cons] at hn
    simp only [readAll] at h
    have hf6 := h6 f (List.mem_cons_self ..)
    cases hr : readF o f s with
    | none => rw [hr] at h; cases h
    | some o1 =>
      rw [hr] at h
      obtain ⟨i1, i2, i3, i4⟩ := read_all fs o1 p r h hn.2 (fun g hg => h6 g (List.mem_cons_of_mem _ hg)) (by simpa using hl)
      obtain ⟨k1, k2⟩ := i4 f hf6 hn.1
      unfold readF at hr
      by_cases h2 : f < 2
      · rw [if_pos h2] at hr
        by_cases hv : validB s = true
        · rw [if_pos hv] at hr
          obtain rfl := Option.some.inj hr
          obtain ⟨e1, e2, e3⟩ := setT_at (o := o) h2 s
          have ht : txtF p f = s := (k1 h2).trans e1
          refine ⟨?_, ?_, i3.trans e2, fun g hg hm => ?_⟩
          · rw [List.map_cons, ← i1]
            congr 1
            unfold fldB
            rw [if_pos h2, ht]
          · simp only [chk]
            rw [if_pos h2, ht, if_pos hv]
            exact i2
          · have h3 := i4 g hg (fun h => hm (List.mem_cons_of_mem _ h))
            have h4 := e3 g hg (fun h => hm (h ▸ List.mem_cons_self ..))
            exact ⟨fun h => (h3.1 h).trans (h4.1 h), fun h => (h3.2 h).trans (h4.2 h)⟩
        · rw [if_neg hv] at hr; cases hr
      · rw [if_neg h2] at hr
        have h2' : 2 ≤ f := by omega
        cases hA : Lib.atoiAll s.data.toList with
        | «syntax» => rw [hA] at hr; cases hr
        | range => rw [hA] at hr; cases hr
        | ok n =>
          rw [hA] at hr
          simp only at hr
          by_cases hc : 0 ≤ n ∧ Lib.itoa n = s.data.toList
          · rw [if_pos hc] at hr
            obtain rfl := Option.some.inj hr
            obtain ⟨e1, e2, e3⟩ := setN_at (o := o) h2' hf6 n
            have ht : numF p f = n := (k2 h2').trans e1
            refine ⟨?_, ?_, i3.trans e2, fun g hg hm => ?_⟩
            · rw [List.map_cons, ← i1]
              congr 1
              unfold fldB
              rw [if_neg h2, ht]
              refine bytes_ext ?_
              rw [← hc.2]
            · simp only [chk]
              rw [if_neg h2, ht, if_neg (by omega)]
              exact i2
            · have h3 := i4 g hg (fun h => hm (List.mem_cons_of_mem _ h))
              have h4 := e3 g hg (fun h => hm (h ▸ List.mem_cons_self ..))
              exact ⟨fun h => (h3.1 h).trans (h4.1 h), fun h => (h3.2 h).trans (h4.2 h)⟩
          · rw [if_neg hc] at hr; cases hr
theorem fs_nodup : ∀ V ∈ verbL, V.fs.Nodup := by decide
/-- What was read is written, letter for letter. -/
theorem back {line : ByteArray} {d : Cm} (h : parseR line = (d, 0)) : checkB d = true ∧ printL d = line.data.toList := by
  unfold parseR at h
  by_cases hl : 256 < line.size
  · rw [if_pos hl] at h; simp at h
  · rw [if_neg hl] at h
    unfold parseW at h
    cases hf : verbL.find? (fun v => decide (v.word = (wordsOf line).headD ⟨#[]⟩)) with
    | none => rw [hf] at h; simp at h
    | some V =>
      rw [hf] at h
      simp only at h
      have hV := List.mem_of_find?_eq_some hf
      have hw0 : V.word = (wordsOf line).headD ⟨#[]⟩ := by have := List.find?_some hf; simpa using this
      by_cases hn : (wordsOf line).length = V.fs.length + 1
      · rw [if_pos hn] at h
        cases hr : readAll (zeroC V.kind) V.fs (wordsOf line).tail with
        | none => rw [hr] at h; simp at h
        | some c =>
          rw [hr] at h
          obtain rfl : c = d := by simpa using h
          obtain ⟨i1, i2, i3, -⟩ := read_all _ _ _ _ hr (fs_nodup V hV) (fs_le V hV) (by rw [List.length_tail]; omega)
          have hk : c.kind = V.kind := i3
          have hfk := find_kind V hV
          rw [← hk] at hfk i2
          have hcons : wordsOf line = V.word :: (wordsOf line).tail := by
            cases hw : wordsOf line with
            | nil => rw [hw] at hn; simp at hn
            | cons x r => rw [hw] at hw0; rw [hw0]; rfl
          refine ⟨?_, ?_⟩
          · unfold checkB
            rw [hfk]
            simp only [okV]
            rw [i2]
            simp
          · unfold printL
            rw [wordsTo_all hfk]
            rw [show wordsV c V = wordsOf line from by rw [hcons]; unfold wordsV; rw [← i1], words_cut, cut_join]
      · rw [if_neg hn] at h; simp at h
theorem parse_err {line : ByteArray} (h : (parseR line).2 ≠ 0) : (parseR line).1 = zeroC 0 := by
  revert h
  unfold parseR
  split
  · intro _; rfl
  · unfold parseW
    split
    · intro _; rfl
    · split
      · split
        · intro _; rfl
        · intro h; exact absurd rfl h
      · intro _; rfl
end Go.Proofs.Ve

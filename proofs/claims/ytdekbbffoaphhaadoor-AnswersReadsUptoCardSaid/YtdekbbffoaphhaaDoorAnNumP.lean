/- Numerals: digits and numbers, there and back. A text cut at each byte of a kind, and joined again. -/
import Derived.Test.YtdekbbffoaphhaaDoorAnReads
import Derived.Lib.ItoaLen
import Derived.Lib.ItoaMem
import Derived.Lib.SplitLaws
set_option linter.unusedVariables false
set_option linter.unusedSimpArgs false
namespace Go.Proofs.An
theorem parse_snoc : ∀ (l : List UInt8) (a u d : Nat), Lib.parseUint10 a l = .ok u → d < 10 → u * 10 + d < 18446744073709551616 → Lib.parseUint10 a (l ++ [UInt8.ofNat (48 + d)]) = .ok (u * 10 + d)
  | [], a, u, d, h, hd, hb => by
    simp only [Lib.parseUint10] at h
    obtain rfl : a = u := by injection h
    have e : (UInt8.ofNat (48 + d)).toNat = 48 + d := by simp [UInt8.toNat_ofNat]; omega
    simp only [List.nil_append, Lib.parseUint10, e]
    rw [if_pos (by omega), if_neg (by omega), if_neg (by omega)]
    congr 1
    omega
  | c :: l, a, u, d, h, hd, hb => by
    simp only [List.cons_append, Lib.parseUint10] at h ⊢
    split at h
    · split at h
      · cases h
      · split at h
        · cases h
        · rename_i h1 h2 h3
          rw [if_pos h1, if_neg h2, if_neg h3]
          exact parse_snoc l _ u d h hd hb
    · cases h
theorem parse_dec : ∀ (g u : Nat), u ≤ g → u < 18446744073709551616 → Lib.parseUint10 0 (Lib.decDigits u) = .ok u
  | 0, u, hg, hu => by
    obtain rfl : u = 0 := by omega
    rw [Lib.decDigits, dif_pos (by omega)]
    exact parse_snoc [] 0 0 0 rfl (by omega) (by omega)
  | g + 1, u, hg, hu => by
    by_cases h : u < 10
    · rw [Lib.decDigits, dif_pos h]
      have := parse_snoc [] 0 0 u rfl h (by omega)
      simpa using this
    · rw [Lib.decDigits, dif_neg h]
      have ih := parse_dec g (u / 10) (by omega) (by omega)
      have := parse_snoc _ 0 (u / 10) (u % 10) ih (by omega) (by omega)
      rw [this]
      congr 1
      omega
theorem dec_digits : ∀ (g u : Nat), u ≤ g → ∀ c ∈ Lib.decDigits u, 48 ≤ c.toNat ∧ c.toNat ≤ 57
  | 0, u, hg, c, hc => by
    obtain rfl : u = 0 := by omega
    rw [Lib.decDigits, dif_pos (by omega)] at hc
    rw [List.mem_singleton.1 hc]
    decide
  | g + 1, u, hg, c, hc => by
    by_cases h : u < 10
    · rw [Lib.decDigits, dif_pos h] at hc
      rw [List.mem_singleton.1 hc]
      simp [UInt8.toNat_ofNat]; omega
    · rw [Lib.decDigits, dif_neg h] at hc
      rcases List.mem_append.1 hc with hc | hc
      · exact dec_digits g (u / 10) (by omega) c hc
      · rw [List.mem_singleton.1 hc]
        simp [UInt8.toNat_ofNat]; omega
theorem itoa_digits {n : Int} (h : 0 ≤ n) : ∀ c ∈ Lib.itoa n, 48 ≤ c.toNat ∧ c.toNat ≤ 57 := by
  unfold Lib.itoa
  rw [if_neg (by omega)]
  exact dec_digits _ _ (Nat.le_refl _)
theorem atoi_itoa {n : Int} (h0 : 0 ≤ n) (h1 : n ≤ 9223372036854775807) : Lib.atoiAll (Lib.itoa n) = .ok n := by
  have hd := itoa_digits h0
  have hp := parse_dec _ n.toNat (Nat.le_refl _) (by omega)
  have e : Lib.itoa n = Lib.decDigits n.toNat := by unfold Lib.itoa; rw [if_neg (by omega)]
  rw [e] at hd ⊢
  cases hl : Lib.decDigits n.toNat with
  | nil => rw [hl] at hp; simp [Lib.parseUint10] at hp; rw [← hp] at hl; rw [Lib.decDigits] at hl; simp at hl
  | cons c r =>
    rw [hl] at hd hp
    have hc := hd c (by simp)
    unfold Lib.atoiAll
    simp only
    rw [if_neg (by omega)]
    unfold Lib.parseMag
    rw [if_neg (by simp), hp]
    simp only
    rw [if_neg (by omega), if_neg (by omega), if_neg (by omega)]
    congr 1
    omega
def digU (c : UInt8) : Bool := decide (48 ≤ c.toNat) && decide (c.toNat ≤ 57)
def valD (l : List UInt8) : Nat := l.foldl (fun a c => 10 * a + (c.toNat - 48)) 0
theorem valD_snoc (l : List UInt8) (c : UInt8) : valD (l ++ [c]) = 10 * valD l + (c.toNat - 48) := by simp [valD, List.foldl_append]
theorem val_from : ∀ (l : List UInt8) (a : Nat), a ≤ l.foldl (fun a c => 10 * a + (c.toNat - 48)) a
  | [], a => Nat.le_refl _
  | c :: l, a => by
    have := val_from l (10 * a + (c.toNat - 48))
    simp only [List.foldl_cons]
    omega
theorem valD_mono (l r : List UInt8) : valD l ≤ valD (l ++ r) := by
  unfold valD
  rw [List.foldl_append]
  exact val_from r _
/-- The numeral's number; none: it is no numeral. -/
def natOf (l : List UInt8) : Option Nat := if (!l.isEmpty && l.all digU && (decide (l.length = 1) || decide (l.head? ≠ some 48))) = true then some (valD l) else none
def NumL (l : List UInt8) : Prop := l ≠ [] ∧ (∀ c ∈ l, digU c = true) ∧ (l.length = 1 ∨ l.head? ≠ some 48)
theorem natOf_some {l : List UInt8} {n : Nat} : natOf l = some n ↔ NumL l ∧ valD l = n := by
  unfold natOf NumL
  constructor
  · intro h
    split at h
    · rename_i hc
      simp only [Bool.and_eq_true, Bool.or_eq_true, decide_eq_true_eq, List.all_eq_true] at hc
      refine ⟨⟨fun e => by simp [e] at hc, hc.1.2, hc.2⟩, by simpa using h⟩
    · cases h
  · rintro ⟨⟨h1, h2, h3⟩, rfl⟩
    rw [if_pos]
    simp only [Bool.and_eq_true, Bool.or_eq_true, decide_eq_true_eq, List.all_eq_true]
    exact ⟨⟨by cases l <;> simp_all, h2⟩, h3⟩
theorem chr_dig {c : UInt8} (h : digU c = true) : UInt8.ofNat (48 + (c.toNat - 48)) = c := by
  simp only [digU, Bool.and_eq_true, decide_eq_true_eq] at h
  apply UInt8.toNat_inj.1
  simp [UInt8.toNat_ofNat]
  omega
theorem dig_lt {c : UInt8} (h : digU c = true) : c.toNat - 48 < 10 := by
  simp only [digU, Bool.and_eq_true, decide_eq_true_eq] at h
  omega
theorem dec_val : ∀ (g : Nat) (l : List UInt8), l.length = g → NumL l → Lib.decDigits (valD l) = l
  | 0, l, hg, h => absurd (List.eq_nil_of_length_eq_zero hg) h.1
  | g + 1, l, hg, h => by
    obtain ⟨m, c, rfl⟩ : ∃ m c, l = m ++ [c] := ⟨l.dropLast, l.getLast h.1, (List.dropLast_concat_getLast h.1).symm⟩
    have hc : digU c = true := h.2.1 c (by simp)
    rw [valD_snoc]
    cases m with
    | nil =>
      simp only [valD, List.foldl_nil, Nat.mul_zero, Nat.zero_add, List.nil_append]
      rw [Lib.decDigits_one (dig_lt hc), chr_dig hc]
    | cons d r =>
      have hhead : d ≠ 48 := by
        rcases h.2.2 with e | e
        · simp at e
        · simpa using e
      have hm : NumL (d :: r) := ⟨by simp, fun x hx => h.2.1 x (List.mem_append_left _ hx), .inr (by simpa using hhead)⟩
      have ih := dec_val g (d :: r) (by simpa using hg) hm
      have hv : 1 ≤ valD (d :: r) := by
        rcases Nat.eq_zero_or_pos (valD (d :: r)) with e | e
        · rw [e, Lib.decDigits_one (by omega)] at ih
          simp at ih
          exact absurd ih.1.symm hhead
        · exact e
      have hl := dig_lt hc
      rw [Lib.decDigits, dif_neg (by omega), show (10 * valD (d :: r) + (c.toNat - 48)) / 10 = valD (d :: r) by omega, show (10 * valD (d :: r) + (c.toNat - 48)) % 10 = c.toNat - 48 by omega, ih, chr_dig hc]
theorem dec_num : ∀ (g n : Nat), n ≤ g → NumL (Lib.decDigits n) ∧ valD (Lib.decDigits n) = n ∧ (1 ≤ n → (Lib.decDigits n).head? ≠ some 48)
  | 0, n, hg => by
    obtain rfl : n = 0 := by omega
    rw [Lib.decDigits_one (by omega)]
    exact ⟨⟨by simp, by decide, .inl rfl⟩, rfl, by omega⟩
  | g + 1, n, hg => by
    by_cases h : n < 10
    · rw [Lib.decDigits_one h]
      have e : (UInt8.ofNat (48 + n)).toNat = 48 + n := by simp [UInt8.toNat_ofNat]; omega
      refine ⟨⟨by simp, fun c hc => ?_, .inl rfl⟩, ?_, fun h1 he => ?_⟩
      · rw [List.mem_singleton.1 hc]; simp [digU, e]; omega
      · simp [valD]; omega
      · have := congrArg UInt8.toNat (Option.some.inj he)
        rw [e] at this
        have e48 : (48 : UInt8).toNat = 48 := rfl
        omega
    · obtain ⟨⟨i1, i2, i3⟩, i4, i5⟩ := dec_num g (n / 10) (by omega)
      rw [Lib.decDigits, dif_neg h]
      have e : (UInt8.ofNat (48 + n % 10)).toNat = 48 + n % 10 := by simp [UInt8.toNat_ofNat]; omega
      have hh : (Lib.decDigits (n / 10) ++ [UInt8.ofNat (48 + n % 10)]).head? = (Lib.decDigits (n / 10)).head? := by
        cases hd : Lib.decDigits (n / 10) with
        | nil => exact absurd hd i1
        | cons a b => rfl
      refine ⟨⟨by simp, fun c hc => ?_, .inr ?_⟩, ?_, fun _ => ?_⟩
      · rcases List.mem_append.1 hc with hc | hc
        · exact i2 c hc
        · rw [List.mem_singleton.1 hc]; simp [digU, e]; omega
      · rw [hh]; exact i5 (by omega)
      · rw [valD_snoc, i4, e]; omega
      · rw [hh]; exact i5 (by omega)
theorem natOf_iff {l : List UInt8} {n : Nat} : natOf l = some n ↔ Lib.decDigits n = l := by
  rw [natOf_some]
  constructor
  · rintro ⟨h, rfl⟩
    exact dec_val _ l rfl h
  · rintro rfl
    exact ⟨(dec_num _ n (Nat.le_refl _)).1, (dec_num _ n (Nat.le_refl _)).2.1⟩
theorem dec_len : ∀ (k n : Nat), n < 10 ^ (k + 1) → (Lib.decDigits n).length ≤ k + 1
  | 0, n, h => by rw [Lib.decDigits_one (by simpa using h)]; simp
  | k + 1, n, h => by
    by_cases h10 : n < 10
    · rw [Lib.decDigits_one h10]; simp
    · rw [Lib.decDigits, dif_neg h10, List.length_append]
      have := dec_len k (n / 10) (by rw [Nat.pow_succ] at h; omega)
      simp
      omega
/-- A numeral of a number that is not too great. -/
def numR (most : Nat) (l : List UInt8) : Option Nat := match natOf l with | some n => if n ≤ most then some n else none | none => none
theorem numR_some {most n : Nat} {l : List UInt8} : numR most l = some n ↔ Lib.decDigits n = l ∧ n ≤ most := by
  unfold numR
  cases h : natOf l with
  | none =>
    simp only [reduceCtorEq, false_iff, not_and]
    intro e
    rw [natOf_iff.2 e] at h
    cases h
  | some m =>
    simp only
    have hm := natOf_iff.1 h
    constructor
    · intro hh
      split at hh
      · rename_i hle
        obtain rfl := Option.some.inj hh
        exact ⟨hm, hle⟩
      · cases hh
    · rintro ⟨e, hle⟩
      rw [natOf_iff.2 e] at h
      obtain rfl := Option.some.inj h
      rw [if_pos hle]
theorem numR_none_of {most : Nat} {l : List UInt8} (h : ∀ n, Lib.decDigits n = l → n ≤ most → False) : numR most l = none := by
  cases h2 : numR most l with
  | none => rfl
  | some n => exact absurd (numR_some.1 h2).2 (fun h3 => h n (numR_some.1 h2).1 h3)
theorem numR_bad {most : Nat} {l : List UInt8} (h : ¬ NumL l) : numR most l = none := numR_none_of fun n e _ => h (e ▸ (dec_num n n (Nat.le_refl _)).1)
theorem numR_great {most : Nat} {l : List UInt8} (h : most < valD l) : numR most l = none := numR_none_of fun n e hle => by
  have := (dec_num n n (Nat.le_refl _)).2.1
  rw [e] at this
  omega
theorem numR_good {most : Nat} {l : List UInt8} (h : NumL l) (h2 : valD l ≤ most) : numR most l = some (valD l) := numR_some.2 ⟨dec_val _ l rfl h, h2⟩
theorem numR_long {most k : Nat} {l : List UInt8} (hm : most < 10 ^ (k + 1)) (h : k + 1 < l.length) : numR most l = none := numR_none_of fun n e hle => by
  have := dec_len k n (by omega)
  rw [e] at this
  omega

theorem chr45 : (45 : UInt8).toNat = 45 := rfl

theorem atoi_neg {u : Nat} (h1 : 1 ≤ u) (h2 : u ≤ 9223372036854775808) : Lib.atoiAll (45 :: Lib.decDigits u) = .ok (-(u : Int)) := by
  have hp := parse_dec _ u (Nat.le_refl _) (by omega)
  have hne : Lib.decDigits u ≠ [] := fun e => by
    rw [e] at hp
    simp only [Lib.parseUint10] at hp
    injection hp with hp
    omega
  unfold Lib.atoiAll
  simp only
  rw [if_pos (by right; exact chr45)]
  unfold Lib.parseMag
  rw [if_neg hne, hp]
  simp only [chr45, not_true, false_and, true_and, if_false, if_true]
  rw [if_neg (by omega)]
theorem atoi_back {n : Int} (h0 : -9223372036854775808 ≤ n) (h1 : n ≤ 9223372036854775807) : Lib.atoiAll (Lib.itoa n) = .ok n := by
  by_cases h : 0 ≤ n
  · exact atoi_itoa h h1
  · obtain ⟨u, rfl⟩ : ∃ u : Nat, n = -(u : Int) := ⟨(-n).toNat, by omega⟩
    rw [Lib.itoa_neg u (by omega)]
    exact atoi_neg (by omega) (by omega)
theorem itoa_chars (n : Int) : ∀ c ∈ Lib.itoa n, c.toNat = 45 ∨ (48 ≤ c.toNat ∧ c.toNat ≤ 57) := by
  intro c hc
  by_cases h : 0 ≤ n
  · exact .inr (itoa_digits h c hc)
  · obtain ⟨u, rfl⟩ : ∃ u : Nat, n = -(u : Int) := ⟨(-n).toNat, by omega⟩
    rw [Lib.itoa_neg u (by omega)] at hc
    rcases List.mem_cons.1 hc with rfl | hc
    · exact .inl rfl
    · exact .inr (dec_digits _ u (Nat.le_refl _) c hc)
theorem numW_back {n : Int} (h0 : -9223372036854775808 ≤ n) (h1 : n ≤ 9223372036854775807) : numW ⟨(Lib.itoa n).toArray⟩ = some n := by
  unfold numW
  simp only [List.toList_toArray]
  rw [atoi_back h0 h1]
  simp
/-! ### Cuts -/
def cutC (c : UInt8) : List UInt8 → List (List UInt8)
  | [] => [[]]
  | x :: l => if x = c then [] :: cutC c l else match cutC c l with
    | [] => [[x]]
    | y :: r => (x :: y) :: r
theorem cutC_ne (c : UInt8) (l : List UInt8) : cutC c l ≠ [] := by
  cases l with
  | nil => simp [cutC]
  | cons x l =>
    unfold cutC
    split
    · simp
    · split <;> simp
theorem cutC_miss (c : UInt8) : ∀ (l : List UInt8), Lib.index l [c] = -1 → cutC c l = [l]
  | [], _ => rfl
  | x :: l, h => by
    rw [Lib.index] at h
    by_cases hc : x = c
    · subst hc; simp [List.isPrefixOf] at h
    · have hp : ([c] : List UInt8).isPrefixOf (x :: l) = false := by simp [List.isPrefixOf, Ne.symm hc]
      rw [hp] at h
      have hl : Lib.index l [c] = -1 := by
        by_cases h2 : Lib.index l [c] = -1
        · exact h2
        · have hge := Lib.index_ge l [c]
          simp [h2] at h
          omega
      unfold cutC
      rw [if_neg hc, cutC_miss c l hl]
theorem cutC_hit (c : UInt8) : ∀ (l : List UInt8) (i : Nat), Lib.index l [c] = i → cutC c l = l.take i :: cutC c (l.drop (i + 1))
  | [], i, h => by
    have : Lib.index [] [c] = -1 := by simp [Lib.index]
    omega
  | x :: l, i, h => by
    rw [Lib.index] at h
    by_cases hc : x = c
    · subst hc
      simp [List.isPrefixOf] at h
      have : i = 0 := by omega
      subst this
      simp [cutC]
    · have hp : ([c] : List UInt8).isPrefixOf (x :: l) = false := by simp [List.isPrefixOf, Ne.symm hc]
      rw [hp] at h
      have hge := Lib.index_ge l [c]
      by_cases h2 : Lib.index l [c] = -1
      · (simp [h2] at h) <;> omega
      · simp [h2] at h
        obtain ⟨j, rfl⟩ : ∃ j, i = j + 1 := ⟨i - 1, by omega⟩
        have ih := cutC_hit c l j (by omega)
        rw [cutC, if_neg hc, ih]
        simp
theorem split_cut (c : UInt8) : ∀ (k : Nat) (s : ByteArray), Lib.countB s ⟨#[c]⟩ = k → (Lib.splitB ⟨#[c]⟩ 0 k s).map (·.data.toList) = cutC c s.data.toList
  | 0, s, hk => by
    rcases Lib.indexB_cases s ⟨#[c]⟩ with h | ⟨i, h, -⟩
    · rw [Lib.splitB_zero, cutC_miss c _ h]; rfl
    · rw [Lib.countB_hit s ⟨#[c]⟩ i (by show 1 ≤ 1; decide) h] at hk; omega
  | k + 1, s, hk => by
    rcases Lib.indexB_cases s ⟨#[c]⟩ with h | ⟨i, h, -⟩
    · rw [Lib.countB_miss s ⟨#[c]⟩ h] at hk; omega
    · rw [Lib.countB_hit s ⟨#[c]⟩ i (by show 1 ≤ 1; decide) h] at hk
      rw [Lib.splitB_hit ⟨#[c]⟩ 0 k s i h, List.map_cons, split_cut c k _ (by omega), cutC_hit c _ i h, Lib.extract_to_end, Lib.extract_data, show i + (⟨#[c]⟩ : ByteArray).size = i + 1 from rfl]
      simp
theorem cut_app (c : UInt8) : ∀ (x l : List UInt8), c ∉ x → cutC c (x ++ c :: l) = x :: cutC c l
  | [], l, _ => by simp [cutC]
  | y :: x, l, h => by
    have hc : y ≠ c := fun e => h (by simp [e])
    rw [List.cons_append, cutC, if_neg hc, cut_app c x l (fun h2 => h (List.mem_cons_of_mem _ h2))]
theorem cut_one (c : UInt8) : ∀ (x : List UInt8), c ∉ x → cutC c x = [x]
  | [], _ => rfl
  | y :: x, h => by
    have hc : y ≠ c := fun e => h (by simp [e])
    rw [cutC, if_neg hc, cut_one c x (fun h2 => h (List.mem_cons_of_mem _ h2))]
theorem cutC_mem (c : UInt8) : ∀ (l x : List UInt8), x ∈ cutC c l → x.length ≤ l.length
  | [], x, h => by rw [cutC, List.mem_singleton] at h; rw [h]; simp
  | y :: l, x, h => by
    unfold cutC at h
    split at h
    · rcases List.mem_cons.1 h with rfl | h
      · simp
      · have := cutC_mem c l x h; simp; omega
    · cases hr : cutC c l with
      | nil => exact absurd hr (cutC_ne c l)
      | cons a r =>
        have ih := cutC_mem c l
        rw [hr] at h ih
        simp only at h
        rcases List.mem_cons.1 h with rfl | h
        · have := ih a (by simp); simp; omega
        · have := ih x (List.mem_cons_of_mem _ h); simp; omega
theorem cutC_len (c : UInt8) : ∀ (l : List UInt8), (cutC c l).length ≤ l.length + 1
  | [] => by simp [cutC]
  | y :: l => by
    have ih := cutC_len c l
    unfold cutC
    split
    · simp; omega
    · cases hr : cutC c l with
      | nil => simp
      | cons a r => rw [hr] at ih; simp at ih ⊢; omega
theorem bytes_ext {a b : ByteArray} (h : a.data.toList = b.data.toList) : a = b := by
  cases a
  cases b
  congr 1
  exact Array.toList_inj.1 h
theorem map_bytes : ∀ {l m : List ByteArray}, l.map (·.data.toList) = m.map (·.data.toList) → l = m
  | [], [], _ => rfl
  | [], y :: m, h => by simp at h
  | x :: l, [], h => by simp at h
  | x :: l, y :: m, h => by
    simp only [List.map_cons, List.cons.injEq] at h
    rw [bytes_ext h.1, map_bytes h.2]
abbrev toB (l : List UInt8) : ByteArray := ⟨l.toArray⟩
theorem toB_data (l : List UInt8) : (toB l).data.toList = l := by simp
theorem toB_eq (s : ByteArray) : toB s.data.toList = s := bytes_ext (by simp)
theorem toB_size (l : List UInt8) : (toB l).size = l.length := by simp [ByteArray.size]
/-- The pieces between the bytes of a kind. -/
def wordsC (c : UInt8) (s : ByteArray) : List ByteArray := (cutC c s.data.toList).map toB
theorem wordsC_split (c : UInt8) (s : ByteArray) : Lib.splitB ⟨#[c]⟩ 0 (Lib.countB s ⟨#[c]⟩) s = wordsC c s := map_bytes (by
  rw [split_cut c _ s rfl, wordsC, List.map_map]
  simp [Function.comp_def])
theorem wordsC_len (c : UInt8) (s : ByteArray) : 1 ≤ (wordsC c s).length := by
  unfold wordsC
  rw [List.length_map]
  have := cutC_ne c s.data.toList
  cases h : cutC c s.data.toList with
  | nil => exact absurd h this
  | cons a r => simp
theorem wordsC_most (c : UInt8) (s : ByteArray) : (wordsC c s).length ≤ s.size + 1 := by
  unfold wordsC
  rw [List.length_map]
  exact cutC_len c _
theorem wordsC_size (c : UInt8) (s : ByteArray) : ∀ x ∈ wordsC c s, x.size ≤ s.size := fun x hx => by
  unfold wordsC at hx
  obtain ⟨l, hl, rfl⟩ := List.mem_map.1 hx
  rw [toB_size]
  exact cutC_mem c _ l hl
end Go.Proofs.An

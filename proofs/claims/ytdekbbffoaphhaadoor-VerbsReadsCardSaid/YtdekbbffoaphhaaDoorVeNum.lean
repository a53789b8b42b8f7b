/- Numerals: what a list of digits says, and back. -/
import Derived.Test.YtdekbbffoaphhaaDoorVeCut
import Derived.Lib.ItoaLen
set_option linter.unusedVariables false
set_option linter.unusedSimpArgs false
namespace Go.Proofs.Ve
def digU (c : UInt8) : Bool := decide (48 ≤ c.toNat) && decide (c.toNat ≤ 57)
def valD (l : List UInt8) : Nat := l.foldl (fun a c => 10 * a + (c.toNat - 48)) 0
theorem valD_snoc (l : List UInt8) (c : UInt8) : valD (l ++ [c]) = 10 * valD l + (c.toNat - 48) := by simp [valD, List.foldl_append]
theorem val_from : ∀ (l : List UInt8) (a : Nat), a ≤ l.foldl (fun a c => 10 * a + (c.toNat - 48)) a
  | [], a => Nat.le_refl _
  | c :: l, a => by
    have := val_from l (10 * a + (c.toNat - 48))
    simp only [List.foldl_cons]
    omega
theorem valD_mono (l r : List UInt8) : valD l ≤ valD (l ++ r) := by
  unfold valD
  rw [List.foldl_append]
  exact val_from r _
/-- The numeral's number; none: it is no numeral. -/
def natOf (l : List UInt8) : Option Nat := if (!l.isEmpty && l.all digU && (decide (l.length = 1) || decide (l.head? ≠ some 48))) = true then some (valD l) else none
def NumL (l : List UInt8) : Prop := l ≠ [] ∧ (∀ c ∈ l, digU c = true) ∧ (l.length = 1 ∨ l.head? ≠ some 48)
theorem natOf_some {l : List UInt8} {n : Nat} : natOf l = some n ↔ NumL l ∧ valD l = n := by
  unfold natOf NumL
  constructor
  · intro h
    split at h
    · rename_i hc
      simp only [Bool.and_eq_true, Bool.or_eq_true, decide_eq_true_eq, List.all_eq_true] at hc
      refine ⟨⟨fun e => by simp [e] at hc, hc.1.2, hc.2⟩, by simpa using h⟩
    · cases h
  · rintro ⟨⟨h1, h2, h3⟩, rfl⟩
    rw [if_pos]
    simp only [Bool.and_eq_true, Bool.or_eq_true, decide_eq_true_eq, List.all_eq_true]
    exact ⟨⟨by cases l <;> simp_all, h2⟩, h3⟩
theorem chr_dig {c : UInt8} (h : digU c = true) : UInt8.ofNat (48 + (c.toNat - 48)) = c := by
  simp only [digU, Bool.and_eq_true, decide_eq_true_eq] at h
  apply UInt8.toNat_inj.1
  simp [UInt8.toNat_ofNat]
  omega
theorem dig_lt {c : UInt8} (h : digU c = true) : c.toNat - 48 < 10 := by
  simp only [digU, Bool.and_eq_true, decide_eq_true_eq] at h
  omega
theorem dec_val : ∀ (g : Nat) (l : List UInt8), l.length = g → NumL l → Lib.decDigits (valD l) = l
  | 0, l, hg, h => absurd (List.eq_nil_of_length_eq_zero hg) h.1
  | g + 1, l, hg, h => by
    obtain ⟨m, c, rfl⟩ : ∃ m c, l = m ++ [c] := ⟨l.dropLast, l.getLast h.1, (List.dropLast_concat_getLast h.1).symm⟩
    have hc : digU c = true := h.2.1 c (by simp)
    rw [valD_snoc]
    cases m with
    | nil =>
      simp only [valD, List.foldl_nil, Nat.mul_zero, Nat.zero_add, List.nil_append]
      rw [Lib.decDigits_one (dig_lt hc), chr_dig hc]
    | cons d r =>
      have hhead : d ≠ 48 := by
        rcases h.2.2 with e | e
        · simp at e
        · simpa using e
      have hm : NumL (d :: r) := ⟨by simp, fun x hx => h.2.1 x (List.mem_append_left _ hx), .inr (by simpa using hhead)⟩
      have ih := dec_val g (d :: r) (by simpa using hg) hm
      have hv : 1 ≤ valD (d :: r) := by
        rcases Nat.eq_zero_or_pos (valD (d :: r)) with e | e
        · rw [e, Lib.decDigits_one (by omega)] at ih
          simp at ih
          exact absurd ih.1.symm hhead
        · exact e
      have hl := dig_lt hc
      rw [Lib.decDigits, dif_neg (by omega), show (10 * valD (d :: r) + (c.toNat - 48)) / 10 = valD (d :: r) by omega, show (10 * valD (d :: r) + (c.toNat - 48)) % 10 = c.toNat - 48 by omega, ih, chr_dig hc]
theorem dec_num : ∀ (g n : Nat), n ≤ g → NumL (Lib.decDigits n) ∧ valD (Lib.decDigits n) = n ∧ (1 ≤ n → (Lib.decDigits n).head? ≠ some 48)
  | 0, n, hg => by
    obtain rfl : n = 0 := by omega
    rw [Lib.decDigits_one (by omega)]
    exact ⟨⟨by simp, by decide, .inl rfl⟩, rfl, by omega⟩
  | g + 1, n, hg => by
    by_cases h : n < 10
    · rw [Lib.decDigits_one h]
      have e : (UInt8.ofNat (48 + n)).toNat = 48 + n := by simp [UInt8.toNat_ofNat]; omega
      refine ⟨⟨by simp, fun c hc => ?_, .inl rfl⟩, ?_, fun h1 he => ?_⟩
      · rw [List.mem_singleton.1 hc]; simp [digU, e]; omega
      · simp [valD]; omega
      · have := congrArg UInt8.toNat (Option.some.inj he)
        rw [e] at this
        have e48 : (48 : UInt8).toNat = 48 := rfl
        omega
    · obtain ⟨⟨i1, i2, i3⟩, i4, i5⟩ := dec_num g (n / 10) (by omega)
      rw [Lib.decDigits, dif_neg h]
      have e : (UInt8.ofNat (48 + n % 10)).toNat = 48 + n % 10 := by simp [UInt8.toNat_ofNat]; omega
      have hh : (Lib.decDigits (n / 10) ++ [UInt8.ofNat (48 + n % 10)]).head? = (Lib.decDigits (n / 10)).head? := by
        cases hd : Lib.decDigits (n / 10) with
        | nil => exact absurd hd i1
        | cons a b => rfl
      refine ⟨⟨by simp, fun c hc => ?_, .inr ?_⟩, ?_, fun _ => ?_⟩
      · rcases List.mem_append.1 hc with hc | hc
        · exact i2 c hc
        · rw [List.mem_singleton.1 hc]; simp [digU, e]; omega
      · rw [hh]; exact i5 (by omega)
      · rw [valD_snoc, i4, e]; omega
      · rw [hh]; exact i5 (by omega)
theorem natOf_iff {l : List UInt8} {n : Nat} : natOf l = some n ↔ Lib.decDigits n = l := by
  rw [natOf_some]
  constructor
  · rintro ⟨h, rfl⟩
    exact dec_val _ l rfl h
  · rintro rfl
    exact ⟨(dec_num _ n (Nat.le_refl _)).1, (dec_num _ n (Nat.le_refl _)).2.1⟩
theorem dec_len : ∀ (k n : Nat), n < 10 ^ (k + 1) → (Lib.decDigits n).length ≤ k + 1
  | 0, n, h => by rw [Lib.decDigits_one (by simpa using h)]; simp
  | k + 1, n, h => by
    by_cases h10 : n < 10
    · rw [Lib.decDigits_one h10]; simp
    · rw [Lib.decDigits, dif_neg h10, List.length_append]
      have := dec_len k (n / 10) (by rw [Nat.pow_succ] at h; omega)
      simp
      omega
/-- A numeral of a number that is not too great. -/
def numR (most : Nat) (l : List UInt8) : Option Nat := match natOf l with | some n => if n ≤ most then some n else none | none => none
theorem numR_some {most n : Nat} {l : List UInt8} : numR most l = some n ↔ Lib.decDigits n = l ∧ n ≤ most := by
  unfold numR
  cases h : natOf l with
  | none =>
    simp only [reduceCtorEq, false_iff, not_and]
    intro e
    rw [natOf_iff.2 e] at h
    cases h
  | some m =>
    simp only
    have hm := natOf_iff.1 h
    constructor
    · intro hh
      split at hh
      · rename_i hle
        obtain rfl := Option.some.inj hh
        exact ⟨hm, hle⟩
      · cases hh
    · rintro ⟨e, hle⟩
      rw [natOf_iff.2 e] at h
      obtain rfl := Option.some.inj h
      rw [if_pos hle]
theorem numR_none_of {most : Nat} {l : List UInt8} (h : ∀ n, Lib.decDigits n = l → n ≤ most → False) : numR most l = none := by
  cases h2 : numR most l with
  | none => rfl
  | some n => exact absurd (numR_some.1 h2).2 (fun h3 => h n (numR_some.1 h2).1 h3)
theorem numR_bad {most : Nat} {l : List UInt8} (h : ¬ NumL l) : numR most l = none := numR_none_of fun n e _ => h (e ▸ (dec_num n n (Nat.le_refl _)).1)
theorem numR_great {most : Nat} {l : List UInt8} (h : most < valD l) : numR most l = none := numR_none_of fun n e hle => by
  have := (dec_num n n (Nat.le_refl _)).2.1
  rw [e] at this
  omega
theorem numR_good {most : Nat} {l : List UInt8} (h : NumL l) (h2 : valD l ≤ most) : numR most l = some (valD l) := numR_some.2 ⟨dec_val _ l rfl h, h2⟩
theorem numR_long {most k : Nat} {l : List UInt8} (hm : most < 10 ^ (k + 1)) (h : k + 1 < l.length) : numR most l = none := numR_none_of fun n e hle => by
  have := dec_len k n (by omega)
  rw [e] at this
  omega
/-- The number that strconv.Atoi and back reads. -/
def atoiN (l : List UInt8) : Option Int := match Lib.atoiAll l with | .ok n => if 0 ≤ n ∧ Lib.itoa n = l then some n else none | _ => none
theorem atoi_num (l : List UInt8) : atoiN l = Option.map (fun n : Nat => (n : Int)) (numR 9223372036854775807 l) := by
  unfold atoiN
  cases h : numR 9223372036854775807 l with
  | some n =>
    obtain ⟨e, hle⟩ := numR_some.1 h
    have e2 : Lib.itoa (n : Int) = l := by rw [Lib.itoa_nonneg]; exact e
    rw [← e2, atoi_itoa (by omega) (by omega)]
    simp
  | none =>
    rw [Option.map_none]
    cases hA : Lib.atoiAll l with
    | «syntax» => rfl
    | range => rfl
    | ok n =>
      simp only
      rw [if_neg]
      rintro ⟨h0, hi⟩
      have hb := (Lib.atoiAll_bounds hA).2
      obtain ⟨m, rfl⟩ : ∃ m : Nat, n = m := ⟨n.toNat, by omega⟩
      rw [Lib.itoa_nonneg] at hi
      rw [numR_some.2 ⟨hi, by omega⟩] at h
      cases h
end Go.Proofs.Ve

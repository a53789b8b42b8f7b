/- Numerals: digits and numbers, there and back. A text cut at each byte of a kind, and joined again. -/
import Derived.Test.YtdekbbffoaphhaaGreatDoorAnPkG
import Derived.Lib.ItoaLen
import Derived.Lib.ItoaMem
import Derived.Lib.SplitLaws
import Derived.Laws.RangeAny
import Derived.Laws.RangeString
import Derived.Test.YtdekbbffoaphhaaGreatDoorAnBase
import Derived.Lib.OthersKept
import Derived.WalkSpells
import Derived.Test.YtdekbbffoaphhaaGreatDoorAnZipB
import Derived.Test.YtdekbbffoaphhaaGreatDoorAnOf
import Derived.WalkLawsBesides
import Derived.Test.YtdekbbffoaphhaaGreatDoorAnEvent
set_option linter.unusedVariables false
set_option linter.unusedSimpArgs false
set_option maxRecDepth 100000
set_option maxHeartbeats 8000000
namespace Go.Proofs.An
theorem parse_snoc : ∀ (l : List UInt8) (a u d : Nat), Lib.parseUint10 a l = .ok u → d < 10 → u * 10 + d < 18446744073709551616 → Lib.parseUint10 a (l ++ [UInt8.ofNat (48 + d)]) = .ok (u * 10 + d)
 | [], a, u, d, h, hd, hb => by
  simp only [Lib.parseUint10] at h
  obtain rfl : a = u := by injection h
  have e : (UInt8.ofNat (48 + d)).toNat = 48 + d := by simp [UInt8.toNat_ofNat]; omega
  simp only [List.nil_append, Lib.parseUint10, e]
  rw [if_pos (by omega), if_neg (by omega), if_neg (by omega)]
  congr 1
  omega
 | c :: l, a, u, d, h, hd, hb => by
  simp only [List.cons_append, Lib.parseUint10] at h ⊢
  split at h
  ·split at h
   ·cases h
   ·split at h
    ·cases h
    ·rename_i h1 h2 h3
     rw [if_pos h1, if_neg h2, if_neg h3]
     exact parse_snoc l _ u d h hd hb
  ·cases h
theorem parse_dec : ∀ (g u : Nat), u ≤ g → u < 18446744073709551616 → Lib.parseUint10 0 (Lib.decDigits u) = .ok u
 | 0, u, hg, hu => by
  obtain rfl : u = 0 := by omega
  rw [Lib.decDigits, dif_pos (by omega)]
  exact parse_snoc [] 0 0 0 rfl (by omega) (by omega)
 | g + 1, u, hg, hu => by
  by_cases h : u < 10
  ·rw [Lib.decDigits, dif_pos h]
   have := parse_snoc [] 0 0 u rfl h (by omega)
   simpa using this
  ·rw [Lib.decDigits, dif_neg h]
   have ih := parse_dec g (u / 10) (by omega) (by omega)
   have := parse_snoc _ 0 (u / 10) (u % 10) ih (by omega) (by omega)
   rw [this]
   congr 1
   omega
theorem dec_digits : ∀ (g u : Nat), u ≤ g → ∀ c ∈ Lib.decDigits u, 48 ≤ c.toNat ∧ c.toNat ≤ 57
 | 0, u, hg, c, hc => by
  obtain rfl : u = 0 := by omega
  rw [Lib.decDigits, dif_pos (by omega)] at hc
  rw [List.mem_singleton.1 hc]
  decide
 | g + 1, u, hg, c, hc => by
  by_cases h : u < 10
  ·rw [Lib.decDigits, dif_pos h] at hc
   rw [List.mem_singleton.1 hc]
   simp [UInt8.toNat_ofNat]; omega
  ·rw [Lib.decDigits, dif_neg h] at hc
   rcases List.mem_append.1 hc with hc | hc
   ·exact dec_digits g (u / 10) (by omega) c hc
   ·rw [List.mem_singleton.1 hc]
    simp [UInt8.toNat_ofNat]; omega
theorem itoa_digits {n : Int} (h : 0 ≤ n) : ∀ c ∈ Lib.itoa n, 48 ≤ c.toNat ∧ c.toNat ≤ 57 := by
 unfold Lib.itoa
 rw [if_neg (by omega)]
 exact dec_digits _ _ (Nat.le_refl _)
theorem atoi_itoa {n : Int} (h0 : 0 ≤ n) (h1 : n ≤ 9223372036854775807) : Lib.atoiAll (Lib.itoa n) = .ok n := by
 have hd := itoa_digits h0
 have hp := parse_dec _ n.toNat (Nat.le_refl _) (by omega)
 have e : Lib.itoa n = Lib.decDigits n.toNat := by unfold Lib.itoa; rw [if_neg (by omega)]
 rw [e] at hd ⊢
 cases hl : Lib.decDigits n.toNat with
 | nil => rw [hl] at hp; simp [Lib.parseUint10] at hp; rw [← hp] at hl; rw [Lib.decDigits] at hl; simp at hl
 | cons c r =>
  rw [hl] at hd hp
  have hc := hd c (by simp)
  unfold Lib.atoiAll
  simp only
  rw [if_neg (by omega)]
  unfold Lib.parseMag
  rw [if_neg (by simp), hp]
  simp only
  rw [if_neg (by omega), if_neg (by omega), if_neg (by omega)]
  congr 1
  omega
def digU (c : UInt8) : Bool := decide (48 ≤ c.toNat) && decide (c.toNat ≤ 57)
def valD (l : List UInt8) : Nat := l.foldl (fun a c => 10 * a + (c.toNat - 48)) 0
theorem valD_snoc (l : List UInt8) (c : UInt8) : valD (l ++ [c]) = 10 * valD l + (c.toNat - 48) := by simp [valD, List.foldl_append]
theorem val_from : ∀ (l : List UInt8) (a : Nat), a ≤ l.foldl (fun a c => 10 * a + (c.toNat - 48)) a
 | [], a => Nat.le_refl _
 | c :: l, a => by
  have := val_from l (10 * a + (c.toNat - 48))
  simp only [List.foldl_cons]
  omega
theorem valD_mono (l r : List UInt8) : valD l ≤ valD (l ++ r) := by
 unfold valD
 rw [List.foldl_append]
 exact val_from r _
/-- The numeral's number; none: it is no numeral. -/
def natOf (l : List UInt8) : Option Nat := if (!l.isEmpty && l.all digU && (decide (l.length = 1) || decide (l.head? ≠ some 48))) = true then some (valD l) else none
def NumL (l : List UInt8) : Prop := l ≠ [] ∧ (∀ c ∈ l, digU c = true) ∧ (l.length = 1 ∨ l.head? ≠ some 48)
theorem natOf_some {l : List UInt8} {n : Nat} : natOf l = some n ↔ NumL l ∧ valD l = n := by
 unfold natOf NumL
 constructor
 ·intro h
  split at h
  ·rename_i hc
   simp only [Bool.and_eq_true, Bool.or_eq_true, decide_eq_true_eq, List.all_eq_true] at hc
   refine ⟨⟨fun e => by simp [e] at hc, hc.1.2, hc.2⟩, by simpa using h⟩
  ·cases h
 ·rintro ⟨⟨h1, h2, h3⟩, rfl⟩
  rw [if_pos]
  simp only [Bool.and_eq_true, Bool.or_eq_true, decide_eq_true_eq, List.all_eq_true]
  exact ⟨⟨by cases l <;> simp_all, h2⟩, h3⟩
theorem chr_dig {c : UInt8} (h : digU c = true) : UInt8.ofNat (48 + (c.toNat - 48)) = c := by
 simp only [digU, Bool.and_eq_true, decide_eq_true_eq] at h
 apply UInt8.toNat_inj.1
 simp [UInt8.toNat_ofNat]
 omega
theorem dig_lt {c : UInt8} (h : digU c = true) : c.toNat - 48 < 10 := by
 simp only [digU, Bool.and_eq_true, decide_eq_true_eq] at h
 omega
theorem dec_val : ∀ (g : Nat) (l : List UInt8), l.length = g → NumL l → Lib.decDigits (valD l) = l
 | 0, l, hg, h => absurd (List.eq_nil_of_length_eq_zero hg) h.1
 | g + 1, l, hg, h => by
  obtain ⟨m, c, rfl⟩ : ∃ m c, l = m ++ [c] := ⟨l.dropLast, l.getLast h.1, (List.dropLast_concat_getLast h.1).symm⟩
  have hc : digU c = true := h.2.1 c (by simp)
  rw [valD_snoc]
  cases m with
  | nil =>
   simp only [valD, List.foldl_nil, Nat.mul_zero, Nat.zero_add, List.nil_append]
   rw [Lib.decDigits_one (dig_lt hc), chr_dig hc]
  | cons d r =>
   have hhead : d ≠ 48 := by
    rcases h.2.2 with e | e
    ·simp at e
    ·simpa using e
   have hm : NumL (d :: r) := ⟨by simp, fun x hx => h.2.1 x (List.mem_append_left _ hx), .inr (by simpa using hhead)⟩
   have ih := dec_val g (d :: r) (by simpa using hg) hm
   have hv : 1 ≤ valD (d :: r) := by
    rcases Nat.eq_zero_or_pos (valD (d :: r)) with e | e
    ·rw [e, Lib.decDigits_one (by omega)] at ih
     simp at ih
     exact absurd ih.1.symm hhead
    ·exact e
   have hl := dig_lt hc
   rw [Lib.decDigits, dif_neg (by omega), show (10 * valD (d :: r) + (c.toNat - 48)) / 10 = valD (d :: r) by omega, show (10 * valD (d :: r) + (c.toNat - 48)) % 10 = c.toNat - 48 by omega, ih, chr_dig hc]
theorem dec_num : ∀ (g n : Nat), n ≤ g → NumL (Lib.decDigits n) ∧ valD (Lib.decDigits n) = n ∧ (1 ≤ n → (Lib.decDigits n).head? ≠ some 48)
 | 0, n, hg => by
  obtain rfl : n = 0 := by omega
  rw [Lib.decDigits_one (by omega)]
  exact ⟨⟨by simp, by decide, .inl rfl⟩, rfl, by omega⟩
 | g + 1, n, hg => by
  by_cases h : n < 10
  ·rw [Lib.decDigits_one h]
   have e : (UInt8.ofNat (48 + n)).toNat = 48 + n := by simp [UInt8.toNat_ofNat]; omega
   refine ⟨⟨by simp, fun c hc => ?_, .inl rfl⟩, ?_, fun h1 he => ?_⟩
   ·rw [List.mem_singleton.1 hc]; simp [digU, e]; omega
   ·simp [valD]; omega
   ·have := congrArg UInt8.toNat (Option.some.inj he)
    rw [e] at this
    have e48 : (48 : UInt8).toNat = 48 := rfl
    omega
  ·obtain ⟨⟨i1, i2, i3⟩, i4, i5⟩ := dec_num g (n / 10) (by omega)
   rw [Lib.decDigits, dif_neg h]
   have e : (UInt8.ofNat (48 + n % 10)).toNat = 48 + n % 10 := by simp [UInt8.toNat_ofNat]; omega
   have hh : (Lib.decDigits (n / 10) ++ [UInt8.ofNat (48 + n % 10)]).head? = (Lib.decDigits (n / 10)).head? := by
    cases hd : Lib.decDigits (n / 10) with
    | nil => exact absurd hd i1
    | cons a b => rfl
   refine ⟨⟨by simp, fun c hc => ?_, .inr ?_⟩, ?_, fun _ => ?_⟩
   ·rcases List.mem_append.1 hc with hc | hc
    ·exact i2 c hc
    ·rw [List.mem_singleton.1 hc]; simp [digU, e]; omega
   ·rw [hh]; exact i5 (by omega)
   ·rw [valD_snoc, i4, e]; omega
   ·rw [hh]; exact i5 (by omega)
theorem natOf_iff {l : List UInt8} {n : Nat} : natOf l = some n ↔ Lib.decDigits n = l := by
 rw [natOf_some]
 constructor
 ·rintro ⟨h, rfl⟩
  exact dec_val _ l rfl h
 ·rintro rfl
  exact ⟨(dec_num _ n (Nat.le_refl _)).1, (dec_num _ n (Nat.le_refl _)).2.1⟩
theorem dec_len : ∀ (k n : Nat), n < 10 ^ (k + 1) → (Lib.decDigits n).length ≤ k + 1
 | 0, n, h => by rw [Lib.decDigits_one (by simpa using h)]; simp
 | k + 1, n, h => by
  by_cases h10 : n < 10
  ·rw [Lib.decDigits_one h10]; simp
  ·rw [Lib.decDigits, dif_neg h10, List.length_append]
   have := dec_len k (n / 10) (by rw [Nat.pow_succ] at h; omega)
   simp
   omega
/-- A numeral of a number that is not too great. -/
def numR (most : Nat) (l : List UInt8) : Option Nat := match natOf l with | some n => if n ≤ most then some n else none | none => none
theorem numR_some {most n : Nat} {l : List UInt8} : numR most l = some n ↔ Lib.decDigits n = l ∧ n ≤ most := by
 unfold numR
 cases h : natOf l with
 | none =>
  simp only [reduceCtorEq, false_iff, not_and]
  intro e
  rw [natOf_iff.2 e] at h
  cases h
 | some m =>
  simp only
  have hm := natOf_iff.1 h
  constructor
  ·intro hh
   split at hh
   ·rename_i hle
    obtain rfl := Option.some.inj hh
    exact ⟨hm, hle⟩
   ·cases hh
  ·rintro ⟨e, hle⟩
   rw [natOf_iff.2 e] at h
   obtain rfl := Option.some.inj h
   rw [if_pos hle]
theorem numR_none_of {most : Nat} {l : List UInt8} (h : ∀ n, Lib.decDigits n = l → n ≤ most → False) : numR most l = none := by
 cases h2 : numR most l with
 | none => rfl
 | some n => exact absurd (numR_some.1 h2).2 (fun h3 => h n (numR_some.1 h2).1 h3)
theorem numR_bad {most : Nat} {l : List UInt8} (h : ¬ NumL l) : numR most l = none := numR_none_of fun n e _ => h (e ▸ (dec_num n n (Nat.le_refl _)).1)
theorem numR_great {most : Nat} {l : List UInt8} (h : most < valD l) : numR most l = none := numR_none_of fun n e hle => by
 have := (dec_num n n (Nat.le_refl _)).2.1
 rw [e] at this
 omega
theorem numR_good {most : Nat} {l : List UInt8} (h : NumL l) (h2 : valD l ≤ most) : numR most l = some (valD l) := numR_some.2 ⟨dec_val _ l rfl h, h2⟩
theorem numR_long {most k : Nat} {l : List UInt8} (hm : most < 10 ^ (k + 1)) (h : k + 1 < l.length) : numR most l = none := numR_none_of fun n e hle => by
 have := dec_len k n (by omega)
 rw [e] at this
 omega

theorem chr45 : (45 : UInt8).toNat = 45 := rfl

theorem atoi_neg {u : Nat} (h1 : 1 ≤ u) (h2 : u ≤ 9223372036854775808) : Lib.atoiAll (45 :: Lib.decDigits u) = .ok (-(u : Int)) := by
 have hp := parse_dec _ u (Nat.le_refl _) (by omega)
 have hne : Lib.decDigits u ≠ [] := fun e => by
  rw [e] at hp
  simp only [Lib.parseUint10] at hp
  injection hp with hp
  omega
 unfold Lib.atoiAll
 simp only
 rw [if_pos (by right; exact chr45)]
 unfold Lib.parseMag
 rw [if_neg hne, hp]
 simp only [chr45, not_true, false_and, true_and, if_false, if_true]
 rw [if_neg (by omega)]
theorem atoi_back {n : Int} (h0 : -9223372036854775808 ≤ n) (h1 : n ≤ 9223372036854775807) : Lib.atoiAll (Lib.itoa n) = .ok n := by
 by_cases h : 0 ≤ n
 ·exact atoi_itoa h h1
 ·obtain ⟨u, rfl⟩ : ∃ u : Nat, n = -(u : Int) := ⟨(-n).toNat, by omega⟩
  rw [Lib.itoa_neg u (by omega)]
  exact atoi_neg (by omega) (by omega)
theorem itoa_chars (n : Int) : ∀ c ∈ Lib.itoa n, c.toNat = 45 ∨ (48 ≤ c.toNat ∧ c.toNat ≤ 57) := by
 intro c hc
 by_cases h : 0 ≤ n
 ·exact .inr (itoa_digits h c hc)
 ·obtain ⟨u, rfl⟩ : ∃ u : Nat, n = -(u : Int) := ⟨(-n).toNat, by omega⟩
  rw [Lib.itoa_neg u (by omega)] at hc
  rcases List.mem_cons.1 hc with rfl | hc
  ·exact .inl rfl
  ·exact .inr (dec_digits _ u (Nat.le_refl _) c hc)
theorem numW_back {n : Int} (h0 : -9223372036854775808 ≤ n) (h1 : n ≤ 9223372036854775807) : numW ⟨(Lib.itoa n).toArray⟩ = some n := by
 unfold numW
 simp only [List.toList_toArray]
 rw [atoi_back h0 h1]
 simp
def cutC (c : UInt8) : List UInt8 → List (List UInt8)
 | [] => [[]]
 | x :: l => if x = c then [] :: cutC c l else match cutC c l with
  | [] => [[x]]
  | y :: r => (x :: y) :: r
theorem cutC_ne (c : UInt8) (l : List UInt8) : cutC c l ≠ [] := by
 cases l with
 | nil => simp [cutC]
 | cons x l =>
  unfold cutC
  split
  ·simp
  ·split <;> simp
theorem cutC_miss (c : UInt8) : ∀ (l : List UInt8), Lib.index l [c] = -1 → cutC c l = [l]
 | [], _ => rfl
 | x :: l, h => by
  rw [Lib.index] at h
  by_cases hc : x = c
  ·subst hc; simp [List.isPrefixOf] at h
  ·have hp : ([c] : List UInt8).isPrefixOf (x :: l) = false := by simp [List.isPrefixOf, Ne.symm hc]
   rw [hp] at h
   have hl : Lib.index l [c] = -1 := by
    by_cases h2 : Lib.index l [c] = -1
    ·exact h2
    ·have hge := Lib.index_ge l [c]
     simp [h2] at h
     omega
   unfold cutC
   rw [if_neg hc, cutC_miss c l hl]
theorem cutC_hit (c : UInt8) : ∀ (l : List UInt8) (i : Nat), Lib.index l [c] = i → cutC c l = l.take i :: cutC c (l.drop (i + 1))
 | [], i, h => by
  have : Lib.index [] [c] = -1 := by simp [Lib.index]
  omega
 | x :: l, i, h => by
  rw [Lib.index] at h
  by_cases hc : x = c
  ·subst hc
   simp [List.isPrefixOf] at h
   have : i = 0 := by omega
   subst this
   simp [cutC]
  ·have hp : ([c] : List UInt8).isPrefixOf (x :: l) = false := by simp [List.isPrefixOf, Ne.symm hc]
   rw [hp] at h
   have hge := Lib.index_ge l [c]
   by_cases h2 : Lib.index l [c] = -1
   ·(simp [h2] at h) <;> omega
   ·simp [h2] at h
    obtain ⟨j, rfl⟩ : ∃ j, i = j + 1 := ⟨i - 1, by omega⟩
    have ih := cutC_hit c l j (by omega)
    rw [cutC, if_neg hc, ih]
    simp
theorem split_cut (c : UInt8) : ∀ (k : Nat) (s : ByteArray), Lib.countB s ⟨#[c]⟩ = k → (Lib.splitB ⟨#[c]⟩ 0 k s).map (·.data.toList) = cutC c s.data.toList
 | 0, s, hk => by
  rcases Lib.indexB_cases s ⟨#[c]⟩ with h | ⟨i, h, -⟩
  ·rw [Lib.splitB_zero, cutC_miss c _ h]; rfl
  ·rw [Lib.countB_hit s ⟨#[c]⟩ i (by show 1 ≤ 1; decide) h] at hk; omega
 | k + 1, s, hk => by
  rcases Lib.indexB_cases s ⟨#[c]⟩ with h | ⟨i, h, -⟩
  ·rw [Lib.countB_miss s ⟨#[c]⟩ h] at hk; omega
  ·rw [Lib.countB_hit s ⟨#[c]⟩ i (by show 1 ≤ 1; decide) h] at hk
   rw [Lib.splitB_hit ⟨#[c]⟩ 0 k s i h, List.map_cons, split_cut c k _ (by omega), cutC_hit c _ i h, Lib.extract_to_end, Lib.extract_data, show i + (⟨#[c]⟩ : ByteArray).size = i + 1 from rfl]
   simp
theorem cut_app (c : UInt8) : ∀ (x l : List UInt8), c ∉ x → cutC c (x ++ c :: l) = x :: cutC c l
 | [], l, _ => by simp [cutC]
 | y :: x, l, h => by
  have hc : y ≠ c := fun e => h (by simp [e])
  rw [List.cons_append, cutC, if_neg hc, cut_app c x l (fun h2 => h (List.mem_cons_of_mem _ h2))]
theorem cut_one (c : UInt8) : ∀ (x : List UInt8), c ∉ x → cutC c x = [x]
 | [], _ => rfl
 | y :: x, h => by
  have hc : y ≠ c := fun e => h (by simp [e])
  rw [cutC, if_neg hc, cut_one c x (fun h2 => h (List.mem_cons_of_mem _ h2))]
theorem cutC_mem (c : UInt8) : ∀ (l x : List UInt8), x ∈ cutC c l → x.length ≤ l.length
 | [], x, h => by rw [cutC, List.mem_singleton] at h; rw [h]; simp
 | y :: l, x, h => by
  unfold cutC at h
  split at h
  ·rcases List.mem_cons.1 h with rfl | h
   ·simp
   ·have := cutC_mem c l x h; simp; omega
  ·cases hr : cutC c l with
   | nil => exact absurd hr (cutC_ne c l)
   | cons a r =>
    have ih := cutC_mem c l
    rw [hr] at h ih
    simp only at h
    rcases List.mem_cons.1 h with rfl | h
    ·have := ih a (by simp); simp; omega
    ·have := ih x (List.mem_cons_of_mem _ h); simp; omega
theorem cutC_len (c : UInt8) : ∀ (l : List UInt8), (cutC c l).length ≤ l.length + 1
 | [] => by simp [cutC]
 | y :: l => by
  have ih := cutC_len c l
  unfold cutC
  split
  ·simp; omega
  ·cases hr : cutC c l with
   | nil => simp
   | cons a r => rw [hr] at ih; simp at ih ⊢; omega
theorem bytes_ext {a b : ByteArray} (h : a.data.toList = b.data.toList) : a = b := by
 cases a
 cases b
 congr 1
 exact Array.toList_inj.1 h
theorem map_bytes : ∀ {l m : List ByteArray}, l.map (·.data.toList) = m.map (·.data.toList) → l = m
 | [], [], _ => rfl
 | [], y :: m, h => by simp at h
 | x :: l, [], h => by simp at h
 | x :: l, y :: m, h => by
  simp only [List.map_cons, List.cons.injEq] at h
  rw [bytes_ext h.1, map_bytes h.2]
abbrev toB (l : List UInt8) : ByteArray := ⟨l.toArray⟩
theorem toB_data (l : List UInt8) : (toB l).data.toList = l := by simp
theorem toB_eq (s : ByteArray) : toB s.data.toList = s := bytes_ext (by simp)
theorem toB_size (l : List UInt8) : (toB l).size = l.length := by simp [ByteArray.size]
/-- The pieces between the bytes of a kind. -/
def wordsC (c : UInt8) (s : ByteArray) : List ByteArray := (cutC c s.data.toList).map toB
theorem wordsC_split (c : UInt8) (s : ByteArray) : Lib.splitB ⟨#[c]⟩ 0 (Lib.countB s ⟨#[c]⟩) s = wordsC c s := map_bytes (by
 rw [split_cut c _ s rfl, wordsC, List.map_map]
 simp [Function.comp_def])
theorem wordsC_len (c : UInt8) (s : ByteArray) : 1 ≤ (wordsC c s).length := by
 unfold wordsC
 rw [List.length_map]
 have := cutC_ne c s.data.toList
 cases h : cutC c s.data.toList with
 | nil => exact absurd h this
 | cons a r => simp
theorem wordsC_most (c : UInt8) (s : ByteArray) : (wordsC c s).length ≤ s.size + 1 := by
 unfold wordsC
 rw [List.length_map]
 exact cutC_len c _
theorem wordsC_size (c : UInt8) (s : ByteArray) : ∀ x ∈ wordsC c s, x.size ≤ s.size := fun x hx => by
 unfold wordsC at hx
 obtain ⟨l, hl, rfl⟩ := List.mem_map.1 hx
 rw [toB_size]
 exact cutC_mem c _ l hl
theorem cutC_at {c : UInt8} {l : List UInt8} {n : Nat} (h : c ∉ l.take n) (h2 : l[n]? = some c) : cutC c l = l.take n :: cutC c (l.drop (n + 1)) := by
 have hn := (List.getElem?_eq_some_iff.1 h2).1
 have e : l = l.take n ++ c :: l.drop (n + 1) := by
  conv => lhs; rw [← List.take_append_drop n l]
  rw [List.drop_eq_getElem_cons hn, (List.getElem?_eq_some_iff.1 h2).2]
 conv => lhs; rw [e]
 exact cut_app c _ _ h
/-- The pieces W of l, as far as i, the last cut behind which at f begins what is left. -/
structure Cutting (c : UInt8) (l : List UInt8) (i f : Nat) (W : List ByteArray) : Prop where
 le : i ≤ l.length
 from_le : f ≤ i
 clean : c ∉ (l.drop f).take (i - f)
 eq : cutC c l = W.map (·.data.toList) ++ cutC c (l.drop f)
theorem Cutting.start (c : UInt8) (l : List UInt8) : Cutting c l 0 0 [] := ⟨by omega, by omega, by simp, by simp⟩
theorem Cutting.skip {c : UInt8} {l : List UInt8} {i f : Nat} {W : List ByteArray} (h : Cutting c l i f W) {x : UInt8} (hc : l[i]? = some x) (hx : x ≠ c) : Cutting c l (i + 1) f W := by
 have hi := (List.getElem?_eq_some_iff.1 hc).1
 obtain ⟨h1, h2, h3, h4⟩ := h
 refine ⟨by omega, by omega, ?_, h4⟩
 rw [show i + 1 - f = (i - f) + 1 by omega, List.take_add_one, List.getElem?_drop, show f + (i - f) = i by omega, hc]
 simp only [Option.toList_some, List.mem_append, List.mem_singleton, not_or]
 exact ⟨h3, fun e => hx e.symm⟩
theorem Cutting.skips {c : UInt8} {l : List UInt8} {i f : Nat} {W : List ByteArray} (h : Cutting c l i f W) : ∀ (n : Nat), i + n ≤ l.length → (∀ j, j < n → l[i + j]? ≠ some c) → Cutting c l (i + n) f W
 | 0, _, _ => h
 | n + 1, hn, hj => by
  have ih := h.skips n (by omega) (fun j hj2 => hj j (by omega))
  have hx : l[i + n]? = some l[i + n] := List.getElem?_eq_getElem (by omega)
  exact ih.skip hx (fun e => hj n (by omega) (by rw [hx, e]))
theorem Cutting.cut {c : UInt8} {l : List UInt8} {i f : Nat} {W : List ByteArray} (h : Cutting c l i f W) (hc : l[i]? = some c) {p : ByteArray} (hp : p.data.toList = (l.drop f).take (i - f)) : Cutting c l (i + 1) (i + 1) (W ++ [p]) := by
 have hi := (List.getElem?_eq_some_iff.1 hc).1
 obtain ⟨h1, h2, h3, h4⟩ := h
 refine ⟨by omega, by omega, by simp, ?_⟩
 rw [h4, cutC_at h3 (by rw [List.getElem?_drop, show f + (i - f) = i by omega]; exact hc), List.drop_drop, show f + (i - f + 1) = i + 1 by omega]
 simp [hp]
theorem Cutting.done {c : UInt8} {l : List UInt8} {i f : Nat} {W : List ByteArray} (h : Cutting c l i f W) (hi : l.length ≤ i) : cutC c l = W.map (·.data.toList) ++ [l.drop f] := by
 obtain ⟨h1, h2, h3, h4⟩ := h
 rw [List.take_of_length_le (by rw [List.length_drop]; omega)] at h3
 rw [h4, cut_one c _ h3]
theorem extract_piece (s : ByteArray) (f i : Nat) : (s.extract f i).data.toList = (s.data.toList.drop f).take (i - f) := by
 rw [Lib.extract_data]
theorem extract_last (s : ByteArray) (f : Nat) : (s.extract f s.size).data.toList = s.data.toList.drop f := by
 rw [extract_piece, List.take_of_length_le (by rw [List.length_drop, Array.length_toList]; exact Nat.le_refl _)]
/-- The pieces behind each of which stands the byte; the last piece. -/
theorem Cutting.words {c : UInt8} {s : ByteArray} {i f : Nat} {W : List ByteArray} (h : Cutting c s.data.toList i f W) (hi : s.size ≤ i) : wordsC c s = W ++ [s.extract f s.size] := by
 have hd := h.done (by rw [Array.length_toList]; exact hi)
 apply map_bytes
 unfold wordsC
 rw [List.map_map, hd]
 simp only [Function.comp_def, List.map_append, List.map_cons, List.map_nil, extract_last, List.toList_toArray, List.map_map, toB]
/-- A rune of a text: how many bytes; those behind its first are none of ASCII. -/
theorem decode_shape (s : ByteArray) (pos : Nat) (h : pos < s.size) :
  1 ≤ (Utf8.decode s pos).2 ∧ pos + (Utf8.decode s pos).2 ≤ s.size ∧ ∀ j, 1 ≤ j → j < (Utf8.decode s pos).2 → 128 ≤ (s.get! (pos + j)).toNat := by
 unfold Utf8.decode
 simp only
 have hj : ∀ n, n = 1 → ∀ j, 1 ≤ j → j < n → 128 ≤ (s.get! (pos + j)).toNat := fun n hn j h1 h2 => by omega
 split
 ·exact ⟨by simp, by simp; omega, fun j h1 h2 => by simp at h2; omega⟩
 ·split
  ·rename_i h2
   simp only [Bool.and_eq_true, decide_eq_true_eq, beq_iff_eq] at h2
   split
   ·refine ⟨by simp, by simp; omega, fun j h1 h3 => ?_⟩
    simp at h3
    obtain rfl : j = 1 := by omega
    omega
   ·exact ⟨by simp, by simp; omega, fun j h1 h2 => by simp at h2; omega⟩
  ·split
   ·rename_i h2
    simp only [Bool.and_eq_true, decide_eq_true_eq, beq_iff_eq] at h2
    split
    ·refine ⟨by simp, by simp; omega, fun j h1 h3 => ?_⟩
     simp at h3
     have : j = 1 ∨ j = 2 := by omega
     rcases this with rfl | rfl <;> omega
    ·exact ⟨by simp, by simp; omega, fun j h1 h2 => by simp at h2; omega⟩
   ·split
    ·rename_i h2
     simp only [Bool.and_eq_true, decide_eq_true_eq, beq_iff_eq] at h2
     split
     ·refine ⟨by simp, by simp; omega, fun j h1 h3 => ?_⟩
      simp at h3
      have : j = 1 ∨ j = 2 ∨ j = 3 := by omega
      rcases this with rfl | rfl | rfl <;> omega
     ·exact ⟨by simp, by simp; omega, fun j h1 h2 => by simp at h2; omega⟩
    ·exact ⟨by simp, by simp; omega, fun j h1 h2 => by simp at h2; omega⟩
theorem data_at {s : ByteArray} {i : Nat} (h : i < s.size) : s.data.toList[i]? = some s[i] := by
 rw [List.getElem?_eq_getElem (by rw [Array.length_toList]; exact h)]; rfl
theorem get_at {s : ByteArray} {i : Nat} (h : i < s.size) : s.get! i = s[i] := by
 simp [ByteArray.get!, getElem!_pos, h]; rfl
/-- A rune that is a byte of ASCII stands there as that byte; over any other there is no such byte. -/
theorem rune_at (s : ByteArray) (pos : Nat) (h : pos < s.size) (c : UInt8) (hc : c.toNat < 128) :
  ((Utf8.decode s pos).1 = c.toNat → s.data.toList[pos]? = some c ∧ (Utf8.decode s pos).2 = 1) ∧ ((Utf8.decode s pos).1 ≠ c.toNat → ∀ j, j < (Utf8.decode s pos).2 → s.data.toList[pos + j]? ≠ some c) := by
 obtain ⟨h1, h2, h3⟩ := decode_shape s pos h
 by_cases ha : (s[pos]'h).toNat < 128
 ·have e := decode_ascii s pos h ha
  rw [e] at h1 h2 h3 ⊢
  refine ⟨fun g => ⟨?_, rfl⟩, fun g j hj => ?_⟩
  ·rw [data_at h]
   exact congrArg some (UInt8.toNat_inj.1 g)
  ·obtain rfl : j = 0 := by simp at hj; omega
   rw [Nat.add_zero, data_at h]
   intro e2
   exact g (by rw [Option.some.inj e2])
 ·have hh := (decode_high s pos h (by omega)).1
  refine ⟨fun g => by omega, fun g j hj => ?_⟩
  by_cases hj0 : j = 0
  ·subst hj0
   rw [Nat.add_zero, data_at h]
   intro e2
   have := congrArg UInt8.toNat (Option.some.inj e2)
   omega
  ·have := h3 j (by omega) hj
   have hlt : pos + j < s.size := by omega
   rw [get_at hlt] at this
   rw [data_at hlt]
   intro e2
   have := congrArg UInt8.toNat (Option.some.inj e2)
   omega
/-- The pieces behind each of which stands the end of a line. -/
def linesW (t : ByteArray) : List ByteArray := (wordsC 10 t).dropLast
/-- The last line is ended, and there is one. -/
def linesB (t : ByteArray) : Bool := decide ((wordsC 10 t).getLastD ⟨#[]⟩ = ⟨#[]⟩) && decide (0 < (linesW t).length)
theorem lines_of {t : ByteArray} {f : Nat} {W : List ByteArray} (h : Cutting 10 t.data.toList t.size f W) : linesW t = W ∧ linesB t = (((f : Int) == (t.size : Int)) && decide (0 < (W.length : Int))) := by
 have hw := h.words (Nat.le_refl _)
 have h1 : linesW t = W := by unfold linesW; rw [hw]; simp
 refine ⟨h1, ?_⟩
 unfold linesB
 rw [h1, hw]
 have e : ((W ++ [t.extract f t.size]).getLastD ⟨#[]⟩ = ⟨#[]⟩) ↔ f = t.size := by
  have hle := h.from_le
  rw [List.getLastD_eq_getLast?, List.getLast?_concat, Option.getD_some]
  constructor
  ·intro e
   have := congrArg ByteArray.size e
   rw [ByteArray.size_extract] at this
   have z : (⟨#[]⟩ : ByteArray).size = 0 := rfl
   omega
  ·intro e
   apply bytes_ext
   rw [extract_piece, e]
   simp
 rw [Bool.eq_iff_iff]
 simp only [Bool.and_eq_true, decide_eq_true_eq, beq_iff_eq]
 rw [e]
 omega
end Go.Proofs.An
namespace Go.Proofs.HL
theorem HL.iterAt {w0 w : World} {L : List At} {b : Nat} {s : ByteArray} {p : Nat} (h : HL w0 w (blk b (.stringIter s p) :: L)) (q : Nat) : HL w0 (w.iterAt b s q) (blk b (.stringIter s q) :: L) := by
 have hh : w.heap[b]? = some (.stringIter s p) := h.head
 refine h.step ⟨rfl, rfl, rfl, by rw [Lib.iterAt_size]; exact Nat.le_refl _, fun k hk hne => Lib.iterAt_other w b k s q (fun e => hne (by rw [e]; rfl))⟩ (Lib.iterAt_heap w b s p q hh) (fun b' e => .inl e)
end Go.Proofs.HL
namespace Go.Proofs.YtdekbbffoaphhaaGreatDoor
open Go.RowKit Go.Proofs.HL Go.Proofs.An
section
variable {w0 w : World} {L : List At}
theorem retLn {a b : Value} {p q : Bool} (h : a = b) (h2 : p = q) : Ending.returned (.tuple #[b, .bool q]) = .returned (.tuple #[a, .bool p]) := by rw [h, h2]
theorem lines_ok (H : HL w0 w L) (t : ByteArray) (ht : t.size ≤ 1000000000) :
  Calls Tryz.prog 38 #[.string t] w fun e w' => ∃ v, e = .returned (.tuple #[v, .bool (linesB t)]) ∧ HL w0 w' (strs w0.heap.size v (linesW t) :: L) := by
 have H1 : HL w0 w (strs w0.heap.size (.slice none 0 0) [] :: L) := H.nilRow _ _ _
 have H2 : HL w0 (w.iter t 0) (blk w.heap.size (.stringIter t 0) :: strs w0.heap.size (.slice none 0 0) [] :: L) := H1.alloc (.stringIter t 0)
 clear H H1
 go_enter Tryz.func38, Tryz.ntmps38
 generalize hW0 : w.iter t 0 = wI at *
 generalize hb : w.heap.size = b at *
 go_wp2
 clear hW0 hb
 go_loopg [4, 5] t.size (fun g v f wr => ∃ (pos n : Nat) (W : List ByteArray), f = .int .i64 n ∧ pos + g = t.size ∧ W.length ≤ pos ∧ Cutting 10 t.data.toList pos n W ∧ HL w0 wr (blk b (.stringIter t pos) :: strs w0.heap.size v W :: L))
 case atStart => exact ⟨0, 0, [], rfl, by omega, by simp, Cutting.start _ _, H2⟩
 case round =>
  obtain ⟨pos, n, W, rfl, hk, hW, hC, HK⟩ := hrel
  clear H2
  have hnk := hC.from_le
  have HC := Lib.hid hC
  clear hC
  obtain ⟨A5, c5, rfl, -, h51, h52⟩ := row_shape (show wr.ownsRow w0.heap.size 9 1 u4 W.length (W.map fun s => .string s) from HK.tail.head)
  unfold maxLen at h52
  have hit : wr.heap[b]? = some (.stringIter t pos) := HK.head
  by_cases hlt : pos < t.size
  ·have hnx : ∀ ty, (Instr.next (.pointer (some ⟨b, 0, none⟩)) true ty).run Tryz.prog wr = _ := fun ty => Lib.run_next_any_at wr b t pos ty hit hlt
   obtain ⟨d1, d2, d3⟩ := decode_shape t pos hlt
   obtain ⟨r1, r2⟩ := rune_at t pos hlt 10 (by decide)
   have HK2 := HK.iterAt (pos + (Utf8.decode t pos).2)
   generalize (Utf8.decode t pos).1 = rc at *
   generalize (Utf8.decode t pos).2 = wd at *
   generalize wr.iterAt b t (pos + wd) = W1 at *
   clear hit HK d3
   by_cases c1 : rc = (10 : UInt8).toNat
   ·obtain ⟨r3, rfl⟩ := r1 c1
    have e1 : ((rc : Int) == 10) = true := by rw [c1]; rfl
    have HN := Lib.hid (HC.out.cut r3 (extract_piece t n pos))
    clear r1 r2 r3 c1
    have HX2 := HK2.swap.alloc' (.cells #[.string (t.extract n pos)] 9)
    have hr4 := rd_str (w := W1) (y := t.extract n pos)
    go_wp2_with (at_builtin; refine append_str (v := .slice A5 W.length c5) (xs := W) (y := t.extract n pos) (b := W1.heap.size) rfl _ _ rfl HX2 rfl rfl hr4 (by omega) ?_; intro z5 w5 H5; clear HX2 HK2)
    go_roundg (gk - 1)
    case measure => omega
    case rel => exact ⟨pos + 1, pos + 1, W ++ [t.extract n pos], by go_num, by omega, by simp; omega, HN.out, H5.swap⟩
   ·have e1 : ((rc : Int) == 10) = false := by
     have e10 : (10 : UInt8).toNat = 10 := rfl
     simp; omega
    have HN := Lib.hid (HC.out.skips wd (by rw [Array.length_toList]; exact d2) (r2 c1))
    clear r1 r2 c1
    go_wp2
    go_roundg (gk - wd)
    case measure => omega
    case rel => exact ⟨pos + wd, n, W, rfl, by omega, by omega, HN.out, HK2⟩
  ·have hnx : ∀ ty, (Instr.next (.pointer (some ⟨b, 0, none⟩)) true ty).run Tryz.prog wr = _ := fun ty => Lib.run_next_end_at wr b t pos ty hit hlt
   obtain rfl : pos = t.size := by omega
   obtain ⟨g1, g2⟩ := lines_of HC.out
   have HH := HK.tail
   have G1 := Lib.hid g1; have G2 := Lib.hid g2
   clear g1 g2 HK hit
   cases q1 : ((n : Int) == (t.size : Int))
   ·rw [q1] at G2
    go_wp2
    go_ret2
    exact ⟨_, retLn rfl (by rw [G2.out]; simp), by rw [G1.out]; exact HH⟩
   ·rw [q1] at G2
    go_wp2
    go_ret2
    exact ⟨_, retLn rfl (by rw [G2.out]; simp), by rw [G1.out]; exact HH⟩
end
end Go.Proofs.YtdekbbffoaphhaaGreatDoor
namespace Go.Proofs.An
def blankS : ByteArray := ⟨#[32]⟩
def wordsOf (line : ByteArray) : List ByteArray := Lib.splitB blankS 0 (Lib.countB line blankS) line
theorem words_length (line : ByteArray) : (wordsOf line).length = Lib.countB line blankS + 1 := Lib.splitB_all blankS (by decide) 0 _ _ rfl
theorem split_size (sep : ByteArray) : ∀ (k : Nat) (s x : ByteArray), x ∈ Lib.splitB sep 0 k s → x.size ≤ s.size
 | 0, s, x, h => by rw [Lib.splitB_zero] at h; rw [List.mem_singleton.1 h]; exact Nat.le_refl _
 | k + 1, s, x, h => by
  unfold Lib.splitB at h
  split at h
  ·rw [List.mem_singleton.1 h]; exact Nat.le_refl _
  ·rcases List.mem_cons.1 h with rfl | h
   ·rw [ByteArray.size_extract]; omega
   ·have := split_size sep k _ x h
    rw [ByteArray.size_extract] at this
    omega
def endW : ByteArray := ⟨#[101, 110, 100]⟩
/-- The words without the state at the end, and that state. -/
def cutEnd (W : List ByteArray) : List ByteArray × Int := if W.headD ⟨#[]⟩ = endW then (W.take (W.length - 1), stN (W.getLastD ⟨#[]⟩)) else (W, 0)
/-- An event of a line, as far as it may be one. -/
def candW (W : List ByteArray) : Option Ev := match numsW ((cutEnd W).1.drop 1) with | none => none | some n => some (evOf (cutEnd W).1 n (cutEnd W).2)
def readE (s : ByteArray) : Ev × Int := match candW (wordsOf s) with | none => (zE, 90) | some e => if right e = true ∧ evS e = s then (e, 0) else (zE, 90)
theorem stN_bounds (s : ByteArray) : 0 ≤ stN s ∧ stN s ≤ 6 := by
 unfold stN
 repeat' split
 all_goals decide
theorem hdOf_nd (s : ByteArray) {ended : Int} (h0 : 0 ≤ ended) (h1 : ended ≤ 6) : 0 ≤ (hdOf s ended).2.2 ∧ (hdOf s ended).2.2 ≤ 6 := by
 unfold hdOf
 repeat' split
 all_goals exact ⟨by simp <;> omega, by simp <;> omega⟩
theorem evOk_zero : EvOk zE := by
 refine ⟨?_, ?_, ?_, ?_, fun n hn => by simp [zE] at hn, ?_⟩ <;> simp [zE]
theorem fits_getD {n : List Int} (h : Fits n) (k : Nat) : -9223372036854775808 ≤ n.getD k 0 ∧ n.getD k 0 ≤ 9223372036854775807 := by
 rw [List.getD_eq_getElem?_getD]
 cases hk : n[k]? with
 | none => simp
 | some x => exact h x (List.mem_of_getElem? hk)
theorem evOk_of {ws : List ByteArray} {n : List Int} {ended : Int} (hn : Fits n) (hl : n.length ≤ 4294967296) (h0 : 0 ≤ ended) (h1 : ended ≤ 6) : EvOk (evOf ws n ended) := by
 unfold evOf
 cases ws with
 | nil => exact evOk_zero
 | cons s r =>
  simp only
  split
  ·exact evOk_zero
  ·have hd := hdOf_nd s h0 h1
   have hb : EvOk (bodyOf (hdOf s ended).1 (hdOf s ended).2.1 (hdOf s ended).2.2 n) := by
    unfold bodyOf
    split
    ·exact ⟨fits_getD hn 0, fits_getD hn 1, fits_getD hn 2, fits_getD hn 3, fun n hn => by simp at hn, by simp⟩
    ·split
     ·exact ⟨fits_getD hn 0, fits_getD hn 1, by simp only; omega, by simp, fun n hn => by simp at hn, by simp⟩
     ·exact ⟨by simp, fits_getD hn 0, by simp only; omega, by simp, fun n hn => by simp at hn, by simp⟩
   obtain ⟨b1, b2, b3, b4, -, -⟩ := hb
   refine ⟨b1, b2, b3, b4, ?_, ?_⟩
   ·simp only
    split
    ·exact fun m hm => hn m (List.mem_of_mem_drop hm)
    ·exact fun m hm => by simp at hm
   ·simp only
    split
    ·rw [List.length_drop]; omega
    ·simp
theorem right_zero : right zE = false := by decide
end Go.Proofs.An
namespace Go.Proofs.YtdekbbffoaphhaaGreatDoor
open Go.RowKit Go.Proofs.HL Go.Proofs.An
section
variable {w0 w : World} {L : List At} {vW vN : Value}
theorem of_nil (H : HL w0 w L) {n : List Int} (ended : Int) (AW : Option Addr) (cW : Nat) :
  Calls Tryz.prog 49 #[.slice AW 0 cW, vN, .int .i64 ended] w fun r w' => r = .returned (evV zE (.slice none 0 0)) ∧ HL w0 w' L := by
 have H1 := HL.bzE H
 have H2 : HL w0 ((w.alloc (.cells #[.int .i64 0, .int .i64 0, .int .i64 0, .int .i64 0, .int .i64 0, .slice none 0 0] 46)).alloc (.cells #[.int .i64 0, .int .i64 0, .int .i64 0, .int .i64 0, .int .i64 0, .slice none 0 0] 46)) (boxE (w.alloc (.cells #[.int .i64 0, .int .i64 0, .int .i64 0, .int .i64 0, .int .i64 0, .slice none 0 0] 46)).heap.size zE (.slice none 0 0) :: boxE w.heap.size zE (.slice none 0 0) :: L) := HL.allocE H1 zE (.slice none 0 0)
 rw [World.size_alloc] at H2
 generalize hb6 : w.heap.size = b6 at *
 clear H H1
 go_enter Tryz.func49, Tryz.ntmps49
 go_upto_region 3 with (fail)
 generalize World.alloc (World.alloc _ _) _ = W at *
 have HB6 := Lib.hid hb6
 clear hb6
 obtain ⟨n0, n1, n2, n3, n4, n5⟩ := boxE_cells H2
 obtain ⟨x0, x1, x2, x3, x4, x5⟩ := boxE_cells H2.tail
 obtain ⟨y0, y1, y2, y3, y4, y5⟩ := boxE_froz H2.tail
 have HS := boxE_put (d := zE) (u := .slice none 0 0) H2.tail
 simp only [zE] at n0 n1 n2 n3 n4 HS
 go_wp2
 clear n0 n1 n2 n3 n4 n5 x0 x1 x2 x3 x4 x5 y0 y1 y2 y3 y4 y5 H2
 generalize World.setCell _ _ _ = W9 at *
 obtain ⟨n0, n1, n2, n3, n4, n5⟩ := boxE_cells (e := zE) HS
 refine bodyPost_ret (v := evV zE (.slice none 0 0)) (by simp [results, Tryz.results49, go_sem, n0, n1, n2, n3, n4, n5]; try rfl) rfl ?_
 exact ⟨rfl, HS.tail⟩
theorem readsPost_none_eq {ws : List ByteArray} (h : numsW ws = none) : ReadsPost w0 L ws = fun e w' => e = .returned (.tuple #[.slice none 0 0, .bool false]) ∧ HL w0 w' L := by
 funext e w'
 unfold ReadsPost
 rw [h]
theorem readsPost_some_eq {ws : List ByteArray} {l : List Int} (h : numsW ws = some l) : ReadsPost w0 L ws = fun e w' => ∃ u, e = .returned (.tuple #[u, .bool true]) ∧ HL w0 w' (intsR w0.heap.size u l :: L) := by
 funext e w'
 unfold ReadsPost
 rw [h]
/-- A list value that is nil, or part of a row of numbers in K. -/
def Lies (base : Nat) (K : List At) (u : Value) : Prop := u = .slice none 0 0 ∨ ∃ v xs, intsR base v xs ∈ K ∧ (u = v ∨ Part u v)
def ReadPost2 (w0 : World) (L : List At) (s : ByteArray) (r : Ending) (w' : World) : Prop := ∃ u K, r = .returned (.tuple #[evV (readE s).1 u, .int .i64 (readE s).2]) ∧ Lies w0.heap.size K u ∧ Ints w0 K u (readE s).1.list ∧ HL w0 w' (K ++ L)
theorem readPost_no {s : ByteArray} (h : readE s = (zE, 90)) {w' : World} (H : HL w0 w' L) : ReadPost2 w0 L s (.returned (.tuple #[evV zE (.slice none 0 0), .int .i64 90])) w' := by
 refine ⟨.slice none 0 0, [], by rw [h], .inl rfl, ?_, H⟩
 rw [h]
 exact fun W _ => rd_nil
theorem readPost_yes {s : ByteArray} {e : Ev} (h : readE s = (e, 0)) {u : Value} {K : List At} (hl : Lies w0.heap.size K u) (hu : Ints w0 K u e.list) {w' : World} (H : HL w0 w' (K ++ L)) : ReadPost2 w0 L s (.returned (.tuple #[evV e u, .int .i64 0])) w' := by
 refine ⟨u, K, by rw [h], hl, ?_, H⟩
 rw [h]
 exact hu
theorem read_ok2 (hD : Doors w0) (H : HL w0 w L) (s : ByteArray) (hs : s.size ≤ 1000000000) :
  Calls Tryz.prog 17 #[.string s] w (ReadPost2 w0 L s) := by
 have H1 := HL.bzE H
 generalize hb2 : w.heap.size = b2 at *
 obtain ⟨-, -, -, -, m, hm⟩ := hD.keep H1
 have hsp := Tryz.strings_Split s blankS m _ (by omega) hm (by decide)
 rw [← words_length s, show Lib.splitB blankS 0 (Lib.countB s blankS) s = wordsOf s from rfl] at hsp
 have hws : ∀ x ∈ wordsOf s, x.size ≤ 140737488351232 := fun x hx => by have := split_size _ _ _ _ hx; omega
 have hwl : (wordsOf s).length ≤ 1000000001 := by
  have : Lib.countB s blankS ≤ s.size := Lib.countB_le blankS (by decide) _ _ (Nat.le_refl _)
  rw [words_length]; omega
 have hpos : 0 < (wordsOf s).length := by rw [words_length]; omega
 have hre : readE s = match candW (wordsOf s) with | none => (zE, 90) | some e => if right e = true ∧ evS e = s then (e, 0) else (zE, 90) := rfl
 have HRE := Lib.hid hre
 clear hre
 generalize wordsOf s = W at *
 have H2 := (H1.alloc (.cells (W.map Value.string).toArray 9)).rowOf (k := 1) (n := W.length) (cs := strC W) (by simp) (by unfold maxLen; omega)
 rw [World.size_alloc, hb2] at H2
 obtain ⟨la, hla⟩ : ∃ la, W.length = la + 1 := ⟨W.length - 1, by omega⟩
 rw [hla] at hsp H2 hwl
 have HWS := Lib.hid hws; have HLA := Lib.hid hla
 obtain ⟨s0, hs0⟩ : ∃ s, W[0]? = some s := ⟨_, List.getElem?_eq_getElem hpos⟩
 obtain ⟨sl, hsl⟩ : ∃ s, W[la]? = some s := ⟨_, List.getElem?_eq_getElem (by omega)⟩
 have hhead : W.headD ⟨#[]⟩ = s0 := by cases W with
  | nil => simp at hs0
  | cons x r => simpa using hs0
 have hlastd : W.getLastD ⟨#[]⟩ = sl := by
  rw [List.getLastD_eq_getLast?, List.getLast?_eq_getElem?, hla, Nat.add_sub_cancel, hsl]
  rfl
 have H3 : HL w0 ((w.alloc (.cells #[.int .i64 0, .int .i64 0, .int .i64 0, .int .i64 0, .int .i64 0, .slice none 0 0] 46)).alloc (.cells (W.map Value.string).toArray 9)) (strs w0.heap.size (.slice (some ⟨b2 + 1, 0, none⟩) W.length W.length) W :: boxE b2 zE (.slice none 0 0) :: L) := by rw [hla]; unfold strs; rw [hla]; exact H2
 have e0 := H3.rowCell (E := 9) (k := 1) (List.mem_cons_self ..) 0 (.string s0) (by rw [List.getElem?_map, hs0]; rfl)
 have el := H3.rowCell (E := 9) (k := 1) (List.mem_cons_self ..) la (.string sl) (by rw [List.getElem?_map, hsl]; rfl)
 have hst := fun W => stateOf_ok sl W
 have hcut : cutEnd W = if s0 = endW then (W.take la, stN sl) else (W, 0) := by unfold cutEnd; rw [hhead, hlastd, hla, Nat.add_sub_cancel]
 have hWr := fun W' HW => entRow (w0 := w0) (L := boxE b2 zE (.slice none 0 0) :: L) (base := w0.heap.size) (k := 1) (E := 9) (n := W.length) (v := .slice (some ⟨b2 + 1, 0, none⟩) W.length W.length) (cs := strC W) W' HW
 rw [hla] at hWr
 obtain ⟨W1, ended, hce⟩ : ∃ W1 ended, cutEnd W = (W1, ended) := ⟨_, _, rfl⟩
 rw [hce] at hcut
 have hcand : candW W = match numsW (W1.drop 1) with | none => none | some n => some (evOf W1 n ended) := by unfold candW; rw [hce]
 have HC := Lib.hid hcut; have HCA := Lib.hid hcand; have HWR := Lib.hid hWr
 have hqt : s0 = endW → (s0.toList == [101, 110, 100]) = true := fun g => by rw [g]; decide +kernel
 have hqf : s0 ≠ endW → (s0.toList == [101, 110, 100]) = false := fun g => by rw [beq_eq_false_iff_ne]; exact fun e => g (bytesSame (e.trans (by decide +kernel)))
 obtain ⟨B, hB⟩ : ∃ B, (s0.toList == [101, 110, 100]) = B := ⟨_, rfl⟩
 rw [hB] at hqt hqf
 have HQT := Lib.hid hqt; have HQF := Lib.hid hqf
 clear hqt hqf hws hm H hla hs0 hsl hhead hlastd H2 hcut hpos hWr hce hcand H1
 go_enter Tryz.func17, Tryz.ntmps17
 go_upto_if 20 with (go_at_call 40; refine hsp.mono ?_; rintro e w2 ⟨rfl, rfl⟩)
 have HB2 := Lib.hid hb2; have HBB := Lib.hid hB
 clear hb2 hsp hB
 rw [show (W.map Value.string) = strC W from rfl] at *
 generalize World.alloc (World.alloc _ _) _ = W2 at *
 go_cut [4, 6] (fun t4 t6 wc => t4 = .slice (some ⟨b2 + 1, 0, none⟩) W1.length (la + 1) ∧ t6 = .int .i64 ended ∧ W2 = wc)
 case first =>
  by_cases g : s0 = endW
  ·have h := HC.out
   rw [if_pos g] at h
   simp only [Prod.mk.injEq] at h
   obtain ⟨rfl, rfl⟩ := h
   obtain rfl := HQT.out g
   have hl : (W.take la).length = la := by rw [List.length_take, HLA.out]; omega
   have HL1 := Lib.hid hl; have HG := Lib.hid g
   clear hl g
   go_wp2_with (go_at_call 48; refine (hst _).mono ?_; rintro r w3 ⟨rfl, rfl⟩)
   go_meet
   exact ⟨by rw [HL1.out], rfl, rfl⟩
  ·have h := HC.out
   rw [if_neg g] at h
   simp only [Prod.mk.injEq] at h
   obtain ⟨rfl, rfl⟩ := h
   obtain rfl := HQF.out g
   have HL1 := Lib.hid HLA.out
   clear g
   go_wp2
   go_meet
   exact ⟨by rw [HL1.out], rfl, rfl⟩
 case rest =>
  obtain ⟨rfl, rfl, rfl⟩ := hcut
  have hW1 : W1 = W.take W1.length ∧ W1.length ≤ la + 1 := by
   have h := HC.out
   have hl := HLA.out
   split at h
   ·simp only [Prod.mk.injEq] at h
    rw [h.1, List.length_take, hl]
    exact ⟨by congr 1; omega, by omega⟩
   ·simp only [Prod.mk.injEq] at h
    rw [h.1, hl]
    exact ⟨by rw [← hl, List.take_length], by omega⟩
  have hR1 : ∀ W' L', HL w0 W' (strs w0.heap.size (.slice (some ⟨b2 + 1, 0, none⟩) (la + 1) (la + 1)) W :: L') → Rd 1 (.slice (some ⟨b2 + 1, 0, none⟩) W1.length (la + 1)) W1.length (strC W1) W' := fun W' L' HW => by
   have h1 : Rd 1 (.slice (some ⟨b2 + 1, 0, none⟩) (la + 1) (la + 1)) (la + 1) (strC W) W' := by have := entRow W' HW; rwa [HLA.out] at this
   have h2 := rd_prefix h1 W1.length hW1.2
   rw [Nat.mul_one] at h2
   rwa [strC, ← List.map_take, ← hW1.1] at h2
  have HR1 := Lib.hid hR1
  rw [HLA.out] at H3
  clear hR1 hst e0 el
  rcases Nat.eq_zero_or_pos W1.length with h0 | h0
  ·obtain rfl : W1 = [] := List.eq_nil_of_length_eq_zero h0
   have hrd := reads_any hD H3 (v := .slice (some ⟨b2 + 1, 0, none⟩) 0 (la + 1)) (ws := []) (fun W' HW => by have := HR1.out W' _ HW; simpa using this) (fun s hs => by simp at hs) (by simp)
   rw [readsPost_some_eq (l := []) rfl] at hrd
   have hbad : readE s = (zE, 90) := by rw [HRE.out, HCA.out]; simp [numsW, evOf, right_zero]
   have HBAD := Lib.hid hbad
   have hmin0 : min (1 : Int) 0 = 0 := by decide
   have hez : evS zE = ⟨#[]⟩ := by decide +kernel
   have henz : evN zE = 90 := by decide +kernel
   clear h0 hW1 hbad
   try simp only [List.length_nil]
   go_upto_region 11 with (first
    | (go_at_call 42; refine hrd.mono ?_; rintro r w3 ⟨u, rfl, H4⟩; clear hrd H3)
    | (go_at_call 49; refine (of_nil (n := []) H4 _ _ _).mono ?_; rintro r w5 ⟨rfl, H5⟩; clear H4; simp only [evV, zE]))
   have H6 := HL.bzE H5
   have hev := event_ok hD H6 zE (fun W' _ => rd_nil) evOk_zero
   rw [hez, henz] at hev
   simp only [evV, zE] at hev
   obtain ⟨n0, n1, n2, n3, n4, n5⟩ := boxE_cells H6
   simp only [zE] at n0 n1 n2 n3 n4
   have Hez := Lib.hid hez; have Henz := Lib.hid henz
   clear H5 hez henz
   go_upto_region 12 with (go_at_call 16; refine hev.mono ?_; rintro r w7 ⟨rfl, H7⟩; clear hev H6 n0 n1 n2 n3 n4 n5)
   have H8 := H7.sel 4 [3]
   obtain ⟨x0, x1, x2, x3, x4, x5⟩ := boxE_cells H8
   obtain ⟨y0, y1, y2, y3, y4, y5⟩ := boxE_froz H8
   have HS := boxE_put (d := zE) (u := .slice none 0 0) H8
   simp only [zE] at HS
   go_wp2
   clear x0 x1 x2 x3 x4 x5 y0 y1 y2 y3 y4 y5
   generalize World.setCell _ _ _ = W9 at *
   obtain ⟨x0, x1, x2, x3, x4, x5⟩ := boxE_cells (e := zE) HS
   refine bodyPost_ret (v := .tuple #[evV zE (.slice none 0 0), .int .i64 90]) (by simp [results, Tryz.results17, go_sem, x0, x1, x2, x3, x4, x5]; try rfl) rfl ?_
   exact readPost_no HBAD.out HS.tail
  ·obtain ⟨l1, hl1⟩ : ∃ l1, W1.length = l1 + 1 := ⟨W1.length - 1, by omega⟩
   rw [hl1]
   have HL1 := Lib.hid hl1
   have hle1 : l1 ≤ la := by omega
   have hmin : min (1 : Int) ((l1 : Int) + 1) = 1 := by omega
   obtain ⟨A', hA'⟩ : ∃ A', (if la = 0 then some (⟨b2 + 1, 0, none⟩ : Addr) else some ⟨b2 + 1, 1, none⟩) = A' := ⟨_, rfl⟩
   have hwd : (W1.drop 1).length = l1 := by rw [List.length_drop, hl1]; rfl
   have hRs : Strs w0 (strs w0.heap.size (.slice (some ⟨b2 + 1, 0, none⟩) (la + 1) (la + 1)) W :: boxE b2 zE (.slice none 0 0) :: L) (.slice A' l1 la) (W1.drop 1) := fun W' HW => by
    have h1 := HR1.out W' _ HW
    rw [hl1] at h1
    rw [hwd, strC, List.map_drop, ← hA']
    by_cases hz : la = 0
    ·rw [if_pos hz]
     have := rd_suffix h1 1 (by omega) (a' := ⟨b2 + 1, 0, none⟩) (.inr (by omega))
     simpa using this
    ·rw [if_neg hz]
     have := rd_suffix h1 1 (by omega) (a' := ⟨b2 + 1, 1, none⟩) (.inl (by rw [add_plain]))
     simpa using this
   have hVW : ∀ W' L', HL w0 W' (strs w0.heap.size (.slice (some ⟨b2 + 1, 0, none⟩) (la + 1) (la + 1)) W :: L') → Rd 1 (.slice (some ⟨b2 + 1, 0, none⟩) (l1 + 1) (la + 1)) W1.length (strC W1) W' := fun W' L' HW => by
    have := HR1.out W' L' HW
    rw [show Value.slice (some ⟨b2 + 1, 0, none⟩) W1.length (la + 1) = .slice (some ⟨b2 + 1, 0, none⟩) (l1 + 1) (la + 1) from by rw [hl1]] at this
    exact this
   have hrd := reads_any hD H3 hRs (fun x hx => HWS.out x (by rw [hW1.1] at hx; exact List.mem_of_mem_take (List.mem_of_mem_drop hx))) (by rw [hwd]; omega)
   have HVW := Lib.hid hVW; have HWD := Lib.hid hwd
   clear hl1 h0 hW1 hwd hRs hVW
   cases hnw : numsW (W1.drop 1) with
   | none =>
    rw [readsPost_none_eq hnw] at hrd
    have hbad : readE s = (zE, 90) := by rw [HRE.out, HCA.out, hnw]
    have HBAD := Lib.hid hbad
    clear hbad hnw
    go_upto_region 8 with (go_at_call 42; refine hrd.mono ?_; rintro r w3 ⟨rfl, H4⟩; clear hrd H3)
    have H8 := H4.tail
    obtain ⟨x0, x1, x2, x3, x4, x5⟩ := boxE_cells H8
    obtain ⟨y0, y1, y2, y3, y4, y5⟩ := boxE_froz H8
    have HS := boxE_put (d := zE) (u := .slice none 0 0) H8
    simp only [zE] at HS
    go_wp2
    clear x0 x1 x2 x3 x4 x5 y0 y1 y2 y3 y4 y5
    generalize World.setCell _ _ _ = W9 at *
    obtain ⟨x0, x1, x2, x3, x4, x5⟩ := boxE_cells (e := zE) HS
    refine bodyPost_ret (v := .tuple #[evV zE (.slice none 0 0), .int .i64 90]) (by simp [results, Tryz.results17, go_sem, x0, x1, x2, x3, x4, x5]; try rfl) rfl ?_
    exact readPost_no HBAD.out HS.tail
   | some n =>
    rw [readsPost_some_eq hnw] at hrd
    have hfit := numsW_fits _ _ hnw
    have hnl := numsW_len _ _ hnw
    rw [HWD.out] at hnl
    have hce : candW W = some (evOf W1 n ended) := by rw [HCA.out, hnw]
    have hend : 0 ≤ ended ∧ ended ≤ 6 := by
     have h := HC.out
     split at h
     ·simp only [Prod.mk.injEq] at h; rw [h.2]; exact stN_bounds _
     ·simp only [Prod.mk.injEq] at h; rw [h.2]; exact ⟨by decide, by decide⟩
    have hok : EvOk (evOf W1 n ended) := evOk_of hfit (by omega) hend.1 hend.2
    have HNL := Lib.hid hnl; have HCE := Lib.hid hce
    clear hnw hfit hnl hce hend
    go_upto_region 10 with (go_at_call 42; refine hrd.mono ?_; rintro r w3 ⟨u, rfl, H4⟩; clear hrd H3)
    obtain ⟨AN, cN, hun, -, -⟩ := rd_shape (entRow _ H4)
    have hof := of_ok H4 (vN := u) (vW := .slice (some ⟨b2 + 1, 0, none⟩) (l1 + 1) (la + 1)) (ws := W1) (n := n) (fun W' HW => HVW.out W' _ HW.tail) entRow ended (by rw [HL1.out]; omega)
    have hKu : Ints w0 [intsR w0.heap.size u n] u n := entRow
    have HKU := Lib.hid hKu
    clear hKu hun
    generalize evOf W1 n ended = e at *
    go_upto_region 11 with (go_at_call 49; refine hof.mono ?_; rintro r w5 ⟨u2, rfl, hpt, hu2, H5⟩; obtain ⟨A2, c2, rfl, -, -⟩ := rd_shape (hu2 _ entRow _ H5); have HPT := Lib.hid hpt; clear hpt; clear hof H4; simp only [evV])
    have H6 := HL.allocE H5 e (.slice A2 e.list.length c2)
    have hI2 := hu2 _ (fun W' (HW : HL w0 W' (boxE w5.heap.size e (.slice A2 e.list.length c2) :: intsR w0.heap.size u n :: strs w0.heap.size (.slice (some ⟨b2 + 1, 0, none⟩) (la + 1) (la + 1)) W :: boxE b2 zE (.slice none 0 0) :: L)) => entRow W' HW.tail)
    have hev := event_ok hD H6 e hI2 hok
    obtain ⟨n0, n1, n2, n3, n4, n5⟩ := boxE_cells H6
    have HI := Lib.hid (hu2 _ HKU.out)
    have hread : readE s = if right e = true ∧ evS e = s then (e, 0) else (zE, 90) := by rw [HRE.out, HCE.out]
    have HRD := Lib.hid hread
    clear H5 hu2 hI2 hread
    unfold evV at hev
    go_upto_region 12 with (go_at_call 16; refine hev.mono ?_; rintro r w7 ⟨rfl, H7⟩; clear hev H6 n0 n1 n2 n3 n4 n5)
    cases hrt : right e with
    | false =>
     have hn90 : evN e = 90 := by unfold evN; rw [hrt]; rfl
     have HBAD := Lib.hid (show readE s = (zE, 90) by rw [HRD.out, hrt]; simp)
     rw [hn90]
     have H8 := H7.sel 4 [3]
     have HN := Lib.hid hn90
     clear hrt hn90
     obtain ⟨x0, x1, x2, x3, x4, x5⟩ := boxE_cells H8
     obtain ⟨y0, y1, y2, y3, y4, y5⟩ := boxE_froz H8
     have HS := boxE_put (d := zE) (u := .slice none 0 0) H8
     simp only [zE] at HS
     go_wp2
     clear x0 x1 x2 x3 x4 x5 y0 y1 y2 y3 y4 y5
     generalize World.setCell _ _ _ = W9 at *
     obtain ⟨x0, x1, x2, x3, x4, x5⟩ := boxE_cells (e := zE) HS
     refine bodyPost_ret (v := .tuple #[evV zE (.slice none 0 0), .int .i64 90]) (by simp [results, Tryz.results17, go_sem, x0, x1, x2, x3, x4, x5]; try rfl) rfl ?_
     exact readPost_no HBAD.out HS.tail
    | true =>
     have hn0 : evN e = 0 := by unfold evN; rw [hrt]; rfl
     rw [hn0]
     have HN := Lib.hid hn0
     clear hn0
     by_cases hes : evS e = s
     ·have HGOOD := Lib.hid (show readE s = (e, 0) by rw [HRD.out, hrt, hes]; simp)
      rw [hes]
      have hq : (s.toList == s.toList) = true := beq_self_eq_true _
      have HE := Lib.hid hes
      have H9 := H7.sel 4 [3, 1]
      obtain ⟨n0, n1, n2, n3, n4, n5⟩ := boxE_cells H7
      obtain ⟨x0, x1, x2, x3, x4, x5⟩ := boxE_cells H9
      obtain ⟨y0, y1, y2, y3, y4, y5⟩ := boxE_froz H9
      have HS := boxE_put (d := e) (u := .slice A2 e.list.length c2) H9
      clear hrt hes H7
      go_wp2
      clear n0 n1 n2 n3 n4 n5 x0 x1 x2 x3 x4 x5 y0 y1 y2 y3 y4 y5 H9
      generalize World.setCell _ _ _ = W9 at *
      obtain ⟨x0, x1, x2, x3, x4, x5⟩ := boxE_cells HS
      refine bodyPost_ret (v := .tuple #[evV e (.slice A2 e.list.length c2), .int .i64 0]) (by simp [results, Tryz.results17, go_sem, x0, x1, x2, x3, x4, x5]; try rfl) rfl ?_
      exact readPost_yes HGOOD.out (.inr ⟨_, _, List.mem_singleton.2 rfl, .inr HPT.out⟩) HI.out HS.tail
     ·have HBAD := Lib.hid (show readE s = (zE, 90) by rw [HRD.out, hrt]; simp [hes])
      have hq : ((evS e).toList == s.toList) = false := by rw [beq_eq_false_iff_ne]; exact fun h => hes (bytesSame h)
      have H8 := H7.sel 4 [3]
      clear hrt hes
      generalize evS e = st at *
      obtain ⟨x0, x1, x2, x3, x4, x5⟩ := boxE_cells H8
      obtain ⟨y0, y1, y2, y3, y4, y5⟩ := boxE_froz H8
      have HS := boxE_put (d := zE) (u := .slice none 0 0) H8
      simp only [zE] at HS
      go_wp2
      clear x0 x1 x2 x3 x4 x5 y0 y1 y2 y3 y4 y5
      generalize World.setCell _ _ _ = W9 at *
      obtain ⟨x0, x1, x2, x3, x4, x5⟩ := boxE_cells (e := zE) HS
      refine bodyPost_ret (v := .tuple #[evV zE (.slice none 0 0), .int .i64 90]) (by simp [results, Tryz.results17, go_sem, x0, x1, x2, x3, x4, x5]; try rfl) rfl ?_
      exact readPost_no HBAD.out HS.tail
def ReadPost (w0 : World) (L : List At) (s : ByteArray) (r : Ending) (w' : World) : Prop := ∃ u K, r = .returned (.tuple #[evV (readE s).1 u, .int .i64 (readE s).2]) ∧ Ints w0 K u (readE s).1.list ∧ HL w0 w' (K ++ L)
theorem read_ok (hD : Doors w0) (H : HL w0 w L) (s : ByteArray) (hs : s.size ≤ 1000000000) : Calls Tryz.prog 17 #[.string s] w (ReadPost w0 L s) := (read_ok2 hD H s hs).mono fun e w' ⟨u, K, h1, _, h2, h3⟩ => ⟨u, K, h1, h2, h3⟩
end
end Go.Proofs.YtdekbbffoaphhaaGreatDoor
namespace Go.Proofs.An
theorem take_step {l m : List Int} {k : Nat} {x y : Int} (hx : l[k]? = some x) (hy : m[k]? = some y) (h : l.take k = m.take k) (e : x = y) : l.take (k + 1) = m.take (k + 1) := by
 rw [List.take_add_one, List.take_add_one, hx, hy, h, e]
theorem take_no {l m : List Int} {k : Nat} {x y : Int} (hx : l[k]? = some x) (hy : m[k]? = some y) (e : x ≠ y) : decide (l = m) = false := by
 rw [decide_eq_false_iff_not]
 rintro rfl
 rw [hx] at hy
 exact e (by simpa using hy)
theorem take_all {l m : List Int} {k : Nat} (hk : l.length ≤ k) (hlm : l.length = m.length) (h : l.take k = m.take k) : decide (l = m) = true := by
 rw [List.take_of_length_le hk, List.take_of_length_le (by omega)] at h
 simp [h]
theorem len_no {l m : List Int} (h : l.length ≠ m.length) : decide (l = m) = false := by
 rw [decide_eq_false_iff_not]
 rintro rfl
 exact h rfl
end Go.Proofs.An
namespace Go.Proofs.YtdekbbffoaphhaaGreatDoor
open Go.RowKit Go.Proofs.HL Go.Proofs.An
section
variable {w0 w : World} {L : List At}
theorem Ref.numbers_ok {v v' : Value} {l m : List Int} (H : HL w0 w L) (h : Ints w0 L v l) (h' : Ints w0 L v' m) :
  Calls Tryz.prog 58 #[v, v'] w fun e w' => e = .returned (.bool (decide (l = m))) ∧ HL w0 w' L := by
 obtain ⟨A, c, rfl, hc1, hc2⟩ := rd_shape (h w H)
 obtain ⟨A', c', rfl, hc1', hc2'⟩ := rd_shape (h' w H)
 unfold maxLen at hc2 hc2'
 go_enter Tryz.func58, Tryz.ntmps58
 by_cases hlm : l.length = m.length
 ·have hi : ((l.length : Int) == (m.length : Int)) = true := by simp [hlm]
  go_wp2
  go_loopg [13] l.length (fun g i wr => ∃ k : Nat, i = .int .i64 k ∧ k + g = l.length ∧ l.take k = m.take k ∧ HL w0 wr L)
  case atStart => exact ⟨0, rfl, by omega, rfl, H⟩
  case round =>
   obtain ⟨k, rfl, hk, hno, HK⟩ := hrel
   have HNO := Lib.hid hno
   clear hno
   by_cases hlt : k < l.length
   ·obtain ⟨x, hx⟩ : ∃ x, l[k]? = some x := ⟨_, List.getElem?_eq_getElem hlt⟩
    obtain ⟨y, hy⟩ : ∃ y, m[k]? = some y := ⟨_, List.getElem?_eq_getElem (by omega)⟩
    obtain ⟨b1, o1, c1, hv, d0⟩ := int_at (h _ HK) hx
    obtain ⟨b2, o2, c2, hv2, d1⟩ := int_at (h' _ HK) hy
    simp only [Value.slice.injEq] at hv hv2
    obtain ⟨rfl, -, rfl⟩ := hv
    obtain ⟨rfl, -, rfl⟩ := hv2
    have hlt' : k < m.length := by omega
    by_cases hn : x = y
    ·have HN := Lib.hid (take_step hx hy HNO.out hn)
     have hxy : (x == y) = true := by simp [hn]
     clear hx hy h h' hn
     go_wp2
     go_quiet (fail)
     go_wp2
     go_roundg (gk - 1)
     case measure => omega
     case rel => exact ⟨k + 1, by go_num, by omega, HN.out, HK.drewN _⟩
    ·have HB := Lib.hid (take_no hx hy hn)
     have hxy : (x == y) = false := by simp [hn]
     clear hx hy h h' hn
     go_wp2
     go_quiet (fail)
     go_wp2
     go_ret
     exact ⟨retBo HB.out, HK.drewN _⟩
   ·have HD := Lib.hid (take_all (by omega) hlm HNO.out)
    go_wp2
    go_ret
    exact ⟨retBo HD.out, HK⟩
 ·have HB := Lib.hid (len_no hlm)
  have hi : ((l.length : Int) == (m.length : Int)) = false := by simp; omega
  clear h h'
  go_wp2
  go_ret
  exact ⟨retBo HB.out, H⟩
theorem Ref.digits9_ok (hD : Doors w0) (H : HL w0 w L) (n : Int) (h0 : -9223372036854775808 ≤ n) (h1 : n ≤ 9223372036854775807) :
  Calls Tryz.prog 53 #[.int .i64 n] w fun e w' => e = .returned (.string ⟨(Lib.itoa n).toArray⟩) ∧ HL w0 w' L := by
 go_enter Tryz.func53, Tryz.ntmps53
 go_wp2_with (go_at_call 50; refine (itoa_ok hD H n h0 h1).mono ?_; rintro e w' ⟨rfl, H'⟩)
 go_ret
 exact ⟨rfl, H'⟩
end
end Go.Proofs.YtdekbbffoaphhaaGreatDoor
namespace Go.Proofs.An
def sameB (e f : Ev) : Bool := e.kind == f.kind && e.job == f.job && e.tm == f.tm && e.nd == f.nd && e.lm == f.lm && decide (e.list = f.list)
theorem sameB_0 {e f : Ev} (h : (e.kind == f.kind) = false) : sameB e f = false := by simp [sameB, h]
theorem sameB_1 {e f : Ev} (h : (e.job == f.job) = false) : sameB e f = false := by simp [sameB, h]
theorem sameB_2 {e f : Ev} (h : (e.tm == f.tm) = false) : sameB e f = false := by simp [sameB, h]
theorem sameB_3 {e f : Ev} (h : (e.nd == f.nd) = false) : sameB e f = false := by simp [sameB, h]
theorem sameB_4 {e f : Ev} (h : (e.lm == f.lm) = false) : sameB e f = false := by simp [sameB, h]
theorem sameB_5 {e f : Ev} (h : decide (e.list = f.list) = false) : sameB e f = false := by simp only [sameB, h, Bool.and_false]
theorem sameB_6 {e f : Ev} (h0 : (e.kind == f.kind) = true) (h1 : (e.job == f.job) = true) (h2 : (e.tm == f.tm) = true) (h3 : (e.nd == f.nd) = true) (h4 : (e.lm == f.lm) = true) : sameB e f = decide (e.list = f.list) := by simp only [sameB, h0, h1, h2, h3, h4, Bool.true_and]
end Go.Proofs.An
namespace Go.Proofs.YtdekbbffoaphhaaGreatDoor
open Go.RowKit Go.Proofs.HL Go.Proofs.An
section
variable {w0 w : World} {L : List At}
theorem same_ok (H : HL w0 w L) (e f : Ev) (v v' : Value) (h : Ints w0 L v e.list) (h' : Ints w0 L v' f.list) :
  Calls Tryz.prog 18 #[evV e v, evV f v'] w fun r w' => r = .returned (.bool (sameB e f)) ∧ HL w0 w' L := by
 obtain ⟨A, c, rfl, hc1, hc2⟩ := rd_shape (h w H)
 obtain ⟨A', c', rfl, hc1', hc2'⟩ := rd_shape (h' w H)
 unfold maxLen at hc2 hc2'
 have H1 := HL.allocE H e (.slice A e.list.length c)
 have H2 := HL.allocE H1 f (.slice A' f.list.length c')
 rw [World.size_alloc] at H2
 obtain ⟨n0, n1, n2, n3, n4, n5⟩ := boxE_cells H2.tail
 obtain ⟨m0, m1, m2, m3, m4, m5⟩ := boxE_cells H2
 unfold evV
 have g := (h.cons (boxE w.heap.size e (.slice A e.list.length c))).cons (boxE (w.heap.size + 1) f (.slice A' f.list.length c'))
 have g' := (h'.cons (boxE w.heap.size e (.slice A e.list.length c))).cons (boxE (w.heap.size + 1) f (.slice A' f.list.length c'))
 clear h h' H H1
 go_enter Tryz.func18, Tryz.ntmps18
 go_upto_region 1 with (fail)
 generalize World.alloc (World.alloc _ _) _ = W at *
 generalize w.heap.size = b at *
 cases q0 : (e.kind != f.kind)
 case true =>
  have HB := Lib.hid (sameB_0 (by simpa [bne] using q0))
  clear g g'
  go_wp2
  go_ret
  exact ⟨retBo HB.out, H2.tail.tail⟩
 have E0 := Lib.hid (show (e.kind == f.kind) = true by simpa [bne] using q0)
 cases q1 : (e.job != f.job)
 case true =>
  have HB := Lib.hid (sameB_1 (by simpa [bne] using q1))
  clear g g'
  go_wp2
  go_ret
  exact ⟨retBo HB.out, H2.tail.tail⟩
 have E1 := Lib.hid (show (e.job == f.job) = true by simpa [bne] using q1)
 cases q2 : (e.tm != f.tm)
 case true =>
  have HB := Lib.hid (sameB_2 (by simpa [bne] using q2))
  clear g g'
  go_wp2
  go_ret
  exact ⟨retBo HB.out, H2.tail.tail⟩
 have E2 := Lib.hid (show (e.tm == f.tm) = true by simpa [bne] using q2)
 cases q3 : (e.nd != f.nd)
 case true =>
  have HB := Lib.hid (sameB_3 (by simpa [bne] using q3))
  clear g g'
  go_wp2
  go_ret
  exact ⟨retBo HB.out, H2.tail.tail⟩
 have E3 := Lib.hid (show (e.nd == f.nd) = true by simpa [bne] using q3)
 cases q4 : (e.lm != f.lm)
 case true =>
  have HB := Lib.hid (sameB_4 (by simpa [bne] using q4))
  clear g g'
  go_wp2
  go_ret
  exact ⟨retBo HB.out, H2.tail.tail⟩
 have E4 := Lib.hid (show (e.lm == f.lm) = true by simpa [bne] using q4)
 have HB := Lib.hid (sameB_6 E0.out E1.out E2.out E3.out E4.out)
 by_cases hlm : e.list.length = f.list.length
 case neg =>
  have HN := Lib.hid (sameB_5 (len_no hlm))
  have hi : ((e.list.length : Int) == (f.list.length : Int)) = false := by simp; omega
  have hi2 : ((e.list.length : Int) != (f.list.length : Int)) = true := by simp; omega
  clear g g'
  go_wp2
  go_ret
  exact ⟨retBo HN.out, H2.tail.tail⟩
 have hi : ((e.list.length : Int) == (f.list.length : Int)) = true := by simp [hlm]
 have hi2 : ((e.list.length : Int) != (f.list.length : Int)) = false := by simp [hlm]
 go_wp2
 have HC := Lib.hid n5
 have HC' := Lib.hid m5
 clear n0 n1 n2 n3 n4 n5 m0 m1 m2 m3 m4 m5
 go_loopg [51] e.list.length (fun g i wr => ∃ k : Nat, i = .int .i64 k ∧ k + g = e.list.length ∧ e.list.take k = f.list.take k ∧ HL w0 wr (boxE (b + 1) f (.slice A' f.list.length c') :: boxE b e (.slice A e.list.length c) :: L))
 case atStart => exact ⟨0, rfl, by omega, rfl, H2⟩
 case round =>
  obtain ⟨k, rfl, hk, hno, HK⟩ := hrel
  have HNO := Lib.hid hno
  clear hno H2
  obtain ⟨-, -, -, -, -, n5⟩ := boxE_cells HK.tail
  obtain ⟨-, -, -, -, -, m5⟩ := boxE_cells HK
  by_cases hlt : k < e.list.length
  ·obtain ⟨x, hx⟩ : ∃ x, e.list[k]? = some x := ⟨_, List.getElem?_eq_getElem hlt⟩
   obtain ⟨y, hy⟩ : ∃ y, f.list[k]? = some y := ⟨_, List.getElem?_eq_getElem (by omega)⟩
   obtain ⟨b1, o1, c1, hv, d0⟩ := int_at (g _ HK) hx
   obtain ⟨b2, o2, c2, hv2, d1⟩ := int_at (g' _ HK) hy
   simp only [Value.slice.injEq] at hv hv2
   obtain ⟨rfl, -, rfl⟩ := hv
   obtain ⟨rfl, -, rfl⟩ := hv2
   have hlt' : k < f.list.length := by omega
   by_cases hn : x = y
   ·have HN := Lib.hid (take_step hx hy HNO.out hn)
    have hxy : (x == y) = true := by simp [hn]
    clear hx hy g g' hn
    go_wp2
    go_quiet (fail)
    go_wp2
    go_roundg (gk - 1)
    case measure => omega
    case rel => exact ⟨k + 1, by go_num, by omega, HN.out, HK.drewN _⟩
   ·have HN := Lib.hid (sameB_5 (take_no hx hy hn))
    have hxy : (x == y) = false := by simp [hn]
    clear hx hy g g' hn
    go_wp2
    go_quiet (fail)
    go_wp2
    go_ret
    exact ⟨retBo HN.out, (HK.drewN _).tail.tail⟩
  ·have HD := Lib.hid (HB.out.trans (take_all (by omega) hlm HNO.out))
   clear g g'
   go_wp2
   go_ret
   exact ⟨retBo HD.out, HK.tail.tail⟩
theorem Ref.same_ok (H : HL w0 w L) (e f : Ev) (v v' : Value) (h : Ints w0 L v e.list) (h' : Ints w0 L v' f.list) :
  Calls Tryz.prog 37 #[evV e v, evV f v'] w fun r w' => r = .returned (.bool (sameB e f)) ∧ HL w0 w' L := by
 obtain ⟨A, c, rfl, hc1, hc2⟩ := rd_shape (h w H)
 obtain ⟨A', c', rfl, hc1', hc2'⟩ := rd_shape (h' w H)
 unfold maxLen at hc2 hc2'
 have H1 := HL.allocE H e (.slice A e.list.length c)
 have H2 := HL.allocE H1 f (.slice A' f.list.length c')
 rw [World.size_alloc] at H2
 obtain ⟨n0, n1, n2, n3, n4, n5⟩ := boxE_cells H2.tail
 obtain ⟨m0, m1, m2, m3, m4, m5⟩ := boxE_cells H2
 unfold evV
 have g := (h.cons (boxE w.heap.size e (.slice A e.list.length c))).cons (boxE (w.heap.size + 1) f (.slice A' f.list.length c'))
 have g' := (h'.cons (boxE w.heap.size e (.slice A e.list.length c))).cons (boxE (w.heap.size + 1) f (.slice A' f.list.length c'))
 clear h h' H H1
 go_enter Tryz.func37, Tryz.ntmps37
 go_upto_region 1 with (fail)
 generalize World.alloc (World.alloc _ _) _ = W at *
 generalize w.heap.size = b at *
 cases h0 : (e.kind == f.kind)
 case false =>
  have HB := Lib.hid (sameB_0 h0)
  clear g g'
  go_wp2
  go_ret
  exact ⟨retBo HB.out, H2.tail.tail⟩
 cases h1 : (e.job == f.job)
 case false =>
  have HB := Lib.hid (sameB_1 h1)
  clear g g'
  go_wp2
  go_ret
  exact ⟨retBo HB.out, H2.tail.tail⟩
 cases h2 : (e.tm == f.tm)
 case false =>
  have HB := Lib.hid (sameB_2 h2)
  clear g g'
  go_wp2
  go_ret
  exact ⟨retBo HB.out, H2.tail.tail⟩
 cases h3 : (e.nd == f.nd)
 case false =>
  have HB := Lib.hid (sameB_3 h3)
  clear g g'
  go_wp2
  go_ret
  exact ⟨retBo HB.out, H2.tail.tail⟩
 cases h4 : (e.lm == f.lm)
 case false =>
  have HB := Lib.hid (sameB_4 h4)
  clear g g'
  go_wp2
  go_ret
  exact ⟨retBo HB.out, H2.tail.tail⟩
 have HB := Lib.hid (sameB_6 h0 h1 h2 h3 h4)
 have hcall := Ref.numbers_ok H2 g g'
 clear g g' H2
 go_wp2_with (go_at_call 58; refine hcall.mono ?_; rintro r wr ⟨rfl, HK⟩)
 go_ret
 exact ⟨retBo HB.out, HK.tail.tail⟩
end
end Go.Proofs.YtdekbbffoaphhaaGreatDoor
namespace Go.Proofs.An
def itB (n : Int) : ByteArray := ⟨(Lib.itoa n).toArray⟩
def allW (l : List Int) : List ByteArray := l.map itB
def wordsT : List ByteArray → List UInt8
 | [] => []
 | s :: r => s.data.toList ++ r.flatMap fun t => 32 :: t.data.toList
theorem wordsT_snoc (l : List ByteArray) (x : ByteArray) (h : 0 < l.length) : wordsT (l ++ [x]) = wordsT l ++ 32 :: x.data.toList := by
 cases l with
 | nil => simp at h
 | cons s r => simp [wordsT, List.flatMap_append]
theorem wordsT_nums (s : ByteArray) (l : List Int) : wordsT (s :: allW l) = s.data.toList ++ numsT l := by
 simp [wordsT, allW, numsT, itB, List.flatMap_map]
theorem allW_snoc (l : List Int) (n : Int) : allW (l ++ [n]) = allW l ++ [itB n] := by simp [allW]
theorem allW_len (l : List Int) : (allW l).length = l.length := by simp [allW]
theorem itB_size {n : Int} (h0 : -9223372036854775808 ≤ n) (h1 : n ≤ 9223372036854775807) : (itB n).size ≤ 22 := by
 have := Lib.itoa_length_le n h0 h1
 have e : (itB n).size = (Lib.itoa n).length := by simp [itB, ByteArray.size]
 omega
end Go.Proofs.An
namespace Go.Proofs.YtdekbbffoaphhaaGreatDoor
open Go.RowKit Go.Proofs.HL Go.Proofs.An
section
variable {w0 w : World} {L : List At} {v : Value}
theorem Ref.all_ok (hD : Doors w0) (H : HL w0 w L) {l : List Int} (h : Ints w0 L v l) (hf : Fits l) (hl : l.length ≤ 4294967200) :
  Calls Tryz.prog 54 #[v] w fun e w' => ∃ u, e = .returned u ∧ HL w0 w' (strs w0.heap.size u (allW l) :: L) := by
 obtain ⟨A, c, rfl, hc1, hc2⟩ := rd_shape (h w H)
 unfold maxLen at hc2
 have HE := Lib.hid h; have HF := Lib.hid hf
 have H1 : HL w0 w (strs w0.heap.size (.slice none 0 0) [] :: L) := H.nilRow _ _ _
 clear h hf H
 go_enter Tryz.func54, Tryz.ntmps54
 go_wp2
 go_loopg [3, 8] l.length (fun g u i wr => ∃ k : Nat, i = .int .i64 k ∧ k + g = l.length ∧ HL w0 wr (strs w0.heap.size u (allW (l.take k)) :: L))
 case atStart => exact ⟨0, rfl, by omega, H1⟩
 case round =>
  obtain ⟨k, rfl, hk, HK⟩ := hrel
  clear H1
  obtain ⟨A3, c3, rfl, -, hc3, hc4⟩ := row_shape (show wr.ownsRow w0.heap.size 9 1 u3 (allW (l.take k)).length (strC (allW (l.take k))) from HK.head)
  unfold maxLen at hc4
  by_cases hlt : k < l.length
  ·obtain ⟨x, hx⟩ : ∃ x, l[k]? = some x := ⟨_, List.getElem?_eq_getElem hlt⟩
   obtain ⟨b1, o1, c1, hv, d0⟩ := int_at (HE.out _ HK.tail) hx
   simp only [Value.slice.injEq] at hv
   obtain ⟨rfl, -, rfl⟩ := hv
   obtain ⟨f1, f2⟩ := HF.out x (List.mem_of_getElem? hx)
   have hit := Ref.digits9_ok hD HK x f1 f2
   have hnx : allW (l.take (k + 1)) = allW (l.take k) ++ [itB x] := by
    rw [List.take_add_one, hx]; simp only [Option.toList_some]; rw [allW_snoc]
   have hln : (allW (l.take k)).length ≤ 4294967200 := by rw [allW_len, List.length_take]; omega
   have HN := Lib.hid hnx
   clear hx hnx f1 f2
   generalize allW (l.take k) = X at *
   go_wp2_with (first
    | (go_at_call 53; refine hit.mono ?_; rintro e w7 ⟨rfl, H7⟩; clear hit HK d0; have HA := H7.alloc' (.cells #[.string (itB x)] 9); have hr4 := rd_str (w := w7) (y := itB x))
    | (at_builtin; refine append_str (v := .slice A3 X.length c3) (xs := X) (y := itB x) (b := w7.heap.size) rfl _ _ rfl HA rfl rfl hr4 (by omega) ?_; intro z5 w8 H8; clear HA hr4 H7))
   go_roundg (gk - 1)
   case measure => omega
   case rel => exact ⟨k + 1, by go_num, by omega, by rw [HN.out]; exact H8⟩
  ·have HN := Lib.hid (List.take_of_length_le (show l.length ≤ k by omega))
   go_wp2
   go_ret
   exact ⟨_, rfl, by have := HK; rw [HN.out] at this ⊢; exact this⟩
theorem Ref.words_ok (H : HL w0 w L) {ws : List ByteArray} (h : Strs w0 L v ws) (hz : ∀ s ∈ ws, s.size ≤ 22) (hl : ws.length ≤ 4294967296) :
  Calls Tryz.prog 55 #[v] w fun e w' => e = .returned (.string ⟨(wordsT ws).toArray⟩) ∧ HL w0 w' L := by
 obtain ⟨A, c, rfl, hc1, hc2⟩ := rd_shape (h w H)
 unfold maxLen at hc2
 have HE := Lib.hid h; have HZ := Lib.hid hz
 clear h hz
 go_enter Tryz.func55, Tryz.ntmps55
 go_wp2
 go_loopg [3, 8] ws.length (fun g s i wr => ∃ (k : Nat) (t : ByteArray), i = .int .i64 k ∧ s = .string t ∧ k + g = ws.length ∧ t.data.toList = wordsT (ws.take k) ∧ t.size ≤ 23 * k ∧ HL w0 wr L)
 case atStart => exact ⟨0, ⟨#[]⟩, rfl, rfl, by omega, rfl, by decide, H⟩
 case round =>
  obtain ⟨k, t, rfl, rfl, hk, ht, hts, HK⟩ := hrel
  have HT := Lib.hid ht
  clear ht H
  by_cases hlt : k < ws.length
  ·obtain ⟨x, hx⟩ : ∃ x, ws[k]? = some x := ⟨_, List.getElem?_eq_getElem hlt⟩
   obtain ⟨b1, o1, c1, hv, d0⟩ := str_at (HE.out _ HK) hx
   simp only [Value.slice.injEq] at hv
   obtain ⟨rfl, -, rfl⟩ := hv
   have hsz := HZ.out x (List.mem_of_getElem? hx)
   have hbl : (⟨#[32]⟩ : ByteArray).size = 1 := rfl
   by_cases h0 : k = 0
   ·subst h0
    have hnx : (t ++ x).data.toList = wordsT (ws.take (0 + 1)) := by
     rw [List.take_add_one, hx]
     have e : t.data.toList = [] := HT.out
     simp [wordsT, e]
    have HN := Lib.hid hnx
    have d1 : wr.cell? ⟨b1, o1, none⟩ = some (.string x) := by simpa using d0
    clear hx hnx
    go_wp2
    go_roundg (gk - 1)
    case measure => omega
    case rel => exact ⟨1, t ++ x, by go_num, rfl, by omega, HN.out, by simp only [ByteArray.size_append]; omega, HK⟩
   ·have hnx : (t ++ (⟨#[32]⟩ : ByteArray) ++ x).data.toList = wordsT (ws.take (k + 1)) := by
     rw [List.take_add_one, hx]
     simp only [Option.toList_some]
     rw [wordsT_snoc _ _ (by rw [List.length_take]; omega), ← HT.out]
     simp
    have HN := Lib.hid hnx
    have hk0 : 0 < k := by omega
    have hts2 : (t ++ (⟨#[32]⟩ : ByteArray)).size = t.size + 1 := by simp only [ByteArray.size_append]; rfl
    clear hx hnx
    go_wp2
    go_roundg (gk - 1)
    case measure => omega
    case rel => exact ⟨k + 1, t ++ (⟨#[32]⟩ : ByteArray) ++ x, by go_num, rfl, by omega, HN.out, by simp only [ByteArray.size_append]; omega, HK⟩
  ·have hend : (⟨(wordsT ws).toArray⟩ : ByteArray) = t := by
    have := HT.out
    rw [List.take_of_length_le (by omega)] at this
    rw [← this]
   have HN := Lib.hid hend
   clear hend
   go_wp2
   go_ret
   exact ⟨retVa (congrArg Value.string HN.out), HK⟩
end
end Go.Proofs.YtdekbbffoaphhaaGreatDoor
namespace Go.Proofs.An
def submitB : ByteArray := ⟨#[115, 117, 98, 109, 105, 116]⟩
def startB : ByteArray := ⟨#[115, 116, 97, 114, 116]⟩
def endB : ByteArray := ⟨#[101, 110, 100]⟩
def pinB : ByteArray := ⟨#[112, 105, 110]⟩
def passB : ByteArray := ⟨#[112, 97, 115, 115]⟩
def tickB : ByteArray := ⟨#[116, 105, 99, 107]⟩
def decayB : ByteArray := ⟨#[100, 101, 99, 97, 121]⟩
def onlyE (e : Ev) : Ev :=
  if e.kind = 1 then ⟨e.kind, e.job, e.tm, e.nd, e.lm, []⟩ else if e.kind = 2 then ⟨e.kind, e.job, e.tm, 0, 0, e.list⟩ else if e.kind = 3 then ⟨e.kind, e.job, e.tm, e.nd, 0, []⟩
  else if e.kind = 4 then ⟨e.kind, e.job, e.tm, 0, 0, []⟩ else if e.kind = 5 then ⟨e.kind, 0, e.tm, 0, 0, e.list⟩ else ⟨e.kind, 0, e.tm, 0, 0, []⟩
def onlyW (e : Ev) : List ByteArray :=
  if e.kind = 1 then submitB :: allW [e.job, e.tm, e.nd, e.lm] else if e.kind = 2 then startB :: allW ([e.job, e.tm] ++ e.list) else if e.kind = 3 then endB :: (allW [e.job, e.tm] ++ [stW e.nd])
  else if e.kind = 4 then pinB :: allW [e.job, e.tm] else if e.kind = 5 then passB :: allW ([e.tm] ++ e.list) else if e.kind = 6 then tickB :: allW [e.tm] else if e.kind = 7 then decayB :: allW [e.tm] else []
theorem numsT_app (l m : List Int) : numsT (l ++ m) = numsT l ++ numsT m := by simp [numsT, List.flatMap_append]
theorem wordsT_end (s : ByteArray) (l : List Int) (t : ByteArray) : wordsT (s :: (allW l ++ [t])) = s.data.toList ++ numsT l ++ 32 :: t.data.toList := by
  rw [← List.cons_append, wordsT_snoc _ _ (by simp), wordsT_nums]
theorem onlyW_text {e : Ev} (h : right e = true) : wordsT (onlyW e) = evT e := by
  rcases kinds7 h with hk | hk | hk | hk | hk | hk | hk
  · rw [evT_1 hk]; simp [onlyW, hk, wordsT_nums, submitB]
  · rw [evT_2 hk]; simp only [onlyW, hk]; rw [if_neg (by decide), if_pos trivial, wordsT_nums, numsT_app]; simp [startB]
  · rw [evT_3 hk]; simp only [onlyW, hk]; rw [if_neg (by decide), if_neg (by decide), if_pos trivial, wordsT_end]; simp [endB]
  · rw [evT_4 hk]; simp [onlyW, hk, wordsT_nums, pinB]
  · rw [evT_5 hk]; simp only [onlyW, hk]; rw [if_neg (by decide), if_neg (by decide), if_neg (by decide), if_neg (by decide), if_pos trivial, wordsT_nums, numsT_app]; simp [passB]
  · rw [evT_6 hk]; simp [onlyW, hk, wordsT_nums, tickB]
  · rw [evT_7 hk]; simp [onlyW, hk, wordsT_nums, decayB]
theorem risF_sgn : ∀ (a : Int) (l : List Int), -1 ≤ a → risF a l = true → sgn l = true
  | _, [], _, _ => rfl
  | a, n :: l, ha, h => by
    simp only [risF, Bool.and_eq_true, decide_eq_true_eq] at h
    have := risF_sgn n l (by omega) h.2
    simp only [sgn, List.all_cons, Bool.and_eq_true, decide_eq_true_eq] at this ⊢
    exact ⟨by omega, this⟩
theorem sgn4 (a b c d : Int) : sgn [a, b, c, d] = (decide (0 ≤ a) && (decide (0 ≤ b) && (decide (0 ≤ c) && decide (0 ≤ d)))) := by simp [sgn]
theorem sgn3 : sgn [] = true := rfl
/-- What the reference asks of an event. -/
def refR1 (e : Ev) : Bool := !((onlyW e).length == 0) && sameB (onlyE e) e && decide (0 ≤ e.job) && decide (0 ≤ e.tm) && decide (0 ≤ e.nd) && decide (0 ≤ e.lm) && sgn e.list
def refR2 (e : Ev) : Bool := !(e.kind == 3 && (decide (e.nd < 3) || decide (6 < e.nd))) && !(e.kind == 2 && !ris e.list)
theorem refR_eq (e : Ev) : (refR1 e && refR2 e) = right e := by
  obtain ⟨k, j, t, n, m, l⟩ := e
  have hs : ris l = true → sgn l = true := fun h => risF_sgn (-1) l (by omega) h
  have hn : sgn [] = true := rfl
  by_cases h1 : k = 1
  · subst h1
    rw [Bool.eq_iff_iff]
    simp [refR1, refR2, right, okK, onlyW, onlyE, sameB, noneB, bareB, allW, sgn4, sgn3]
    cases hl : l with
    | nil => subst hl; simp [sgn, ris, risF]; try omega
    | cons a r =>
      rw [← hl]
      have hne : l ≠ [] := by rw [hl]; simp
      have hne2 : ¬ ([] = l) := fun h => hne h.symm
      cases hr : ris l <;> cases hg : sgn l <;> simp_all <;> try omega
  by_cases h2 : k = 2
  · subst h2
    rw [Bool.eq_iff_iff]
    simp [refR1, refR2, right, okK, onlyW, onlyE, sameB, noneB, bareB, allW, sgn4, sgn3]
    cases hl : l with
    | nil => subst hl; simp [sgn, ris, risF]; try omega
    | cons a r =>
      rw [← hl]
      have hne : l ≠ [] := by rw [hl]; simp
      have hne2 : ¬ ([] = l) := fun h => hne h.symm
      cases hr : ris l <;> cases hg : sgn l <;> simp_all <;> try omega
  by_cases h3 : k = 3
  · subst h3
    rw [Bool.eq_iff_iff]
    simp [refR1, refR2, right, okK, onlyW, onlyE, sameB, noneB, bareB, allW, sgn4, sgn3]
    cases hl : l with
    | nil => subst hl; simp [sgn, ris, risF]; try omega
    | cons a r =>
      rw [← hl]
      have hne : l ≠ [] := by rw [hl]; simp
      have hne2 : ¬ ([] = l) := fun h => hne h.symm
      cases hr : ris l <;> cases hg : sgn l <;> simp_all <;> try omega
  by_cases h4 : k = 4
  · subst h4
    rw [Bool.eq_iff_iff]
    simp [refR1, refR2, right, okK, onlyW, onlyE, sameB, noneB, bareB, allW, sgn4, sgn3]
    cases hl : l with
    | nil => subst hl; simp [sgn, ris, risF]; try omega
    | cons a r =>
      rw [← hl]
      have hne : l ≠ [] := by rw [hl]; simp
      have hne2 : ¬ ([] = l) := fun h => hne h.symm
      cases hr : ris l <;> cases hg : sgn l <;> simp_all <;> try omega
  by_cases h5 : k = 5
  · subst h5
    rw [Bool.eq_iff_iff]
    simp [refR1, refR2, right, okK, onlyW, onlyE, sameB, noneB, bareB, allW, sgn4, sgn3]
    cases hl : l with
    | nil => subst hl; simp [sgn, ris, risF]; try omega
    | cons a r =>
      rw [← hl]
      have hne : l ≠ [] := by rw [hl]; simp
      have hne2 : ¬ ([] = l) := fun h => hne h.symm
      cases hr : ris l <;> cases hg : sgn l <;> simp_all <;> try omega
  by_cases h6 : k = 6
  · subst h6
    rw [Bool.eq_iff_iff]
    simp [refR1, refR2, right, okK, onlyW, onlyE, sameB, noneB, bareB, allW, sgn4, sgn3]
    cases hl : l with
    | nil => subst hl; simp [sgn, ris, risF]; try omega
    | cons a r =>
      rw [← hl]
      have hne : l ≠ [] := by rw [hl]; simp
      have hne2 : ¬ ([] = l) := fun h => hne h.symm
      cases hr : ris l <;> cases hg : sgn l <;> simp_all <;> try omega
  by_cases h7 : k = 7
  · subst h7
    rw [Bool.eq_iff_iff]
    simp [refR1, refR2, right, okK, onlyW, onlyE, sameB, noneB, bareB, allW, sgn4, sgn3]
    cases hl : l with
    | nil => subst hl; simp [sgn, ris, risF]; try omega
    | cons a r =>
      rw [← hl]
      have hne : l ≠ [] := by rw [hl]; simp
      have hne2 : ¬ ([] = l) := fun h => hne h.symm
      cases hr : ris l <;> cases hg : sgn l <;> simp_all <;> try omega
  simp [refR1, right, okK, onlyW, h1, h2, h3, h4, h5, h6, h7]
/-- No blank and no line's end in it. -/
def Clean (s : ByteArray) : Prop := ∀ c ∈ s.data.toList, c ≠ 32 ∧ c ≠ 10
theorem itB_clean (n : Int) : Clean (itB n) := fun c hc => by
 have := itoa_chars n c (by simpa [itB] using hc)
 constructor
 ·rintro rfl
  have e : (32 : UInt8).toNat = 32 := rfl
  omega
 ·rintro rfl
  have e : (10 : UInt8).toNat = 10 := rfl
  omega
theorem stW_clean (n : Int) : Clean (stW n) := by
 unfold stW Clean
 repeat' split
 all_goals decide
theorem allW_clean (l : List Int) : ∀ s ∈ allW l, Clean s := fun s hs => by
 obtain ⟨n, -, rfl⟩ := List.mem_map.1 hs
 exact itB_clean n
theorem cut_words : ∀ (ws : List ByteArray), ws ≠ [] → (∀ s ∈ ws, Clean s) → cutC 32 (wordsT ws) = ws.map (·.data.toList)
 | [], h, _ => absurd rfl h
 | [s], _, h => by
  simp only [wordsT, List.flatMap_nil, List.append_nil, List.map_cons, List.map_nil]
  exact cut_one 32 _ (fun hc => (h s (by simp) 32 hc).1 rfl)
 | s :: t :: r, _, h => by
  have e : wordsT (s :: t :: r) = s.data.toList ++ 32 :: wordsT (t :: r) := by simp [wordsT]
  rw [e, cut_app 32 _ _ (fun hc => (h s (by simp) 32 hc).1 rfl), cut_words (t :: r) (by simp) (fun x hx => h x (List.mem_cons_of_mem _ hx))]
  rfl
theorem words_back {ws : List ByteArray} (h : ws ≠ []) (hc : ∀ s ∈ ws, Clean s) : wordsC 32 (toB (wordsT ws)) = ws := by
 unfold wordsC
 rw [toB_data, cut_words ws h hc, List.map_map]
 simp [Function.comp_def]
theorem wordsOf_eq (s : ByteArray) : wordsOf s = wordsC 32 s := wordsC_split 32 s
theorem nums_back : ∀ (l : List Int), Fits l → numsW (allW l) = some l
 | [], _ => rfl
 | n :: l, h => by
  have h1 := h n (List.mem_cons_self ..)
  show numsW (itB n :: allW l) = _
  simp only [numsW]
  rw [show numW (itB n) = some n from numW_back h1.1 h1.2, nums_back l (fun m hm => h m (List.mem_cons_of_mem _ hm))]
theorem onlyW_ne {e : Ev} (h : right e = true) : onlyW e ≠ [] := by
 rcases kinds7 h with hk | hk | hk | hk | hk | hk | hk <;> simp [onlyW, hk]
theorem onlyW_clean {e : Ev} (h : right e = true) : ∀ s ∈ onlyW e, Clean s := by
 intro s hs
 rcases kinds7 h with hk | hk | hk | hk | hk | hk | hk <;> simp only [onlyW, hk] at hs
 ·rw [if_pos trivial] at hs
  rcases List.mem_cons.1 hs with rfl | hs
  ·unfold Clean; decide
  ·exact allW_clean _ s hs
 ·rw [if_neg (by decide), if_pos trivial] at hs
  rcases List.mem_cons.1 hs with rfl | hs
  ·unfold Clean; decide
  ·exact allW_clean _ s hs
 ·rw [if_neg (by decide), if_neg (by decide), if_pos trivial] at hs
  rcases List.mem_cons.1 hs with rfl | hs
  ·unfold Clean; decide
  ·rcases List.mem_append.1 hs with hs | hs
   ·exact allW_clean _ s hs
   ·rw [List.mem_singleton.1 hs]; exact stW_clean _
 ·rw [if_neg (by decide), if_neg (by decide), if_neg (by decide), if_pos trivial] at hs
  rcases List.mem_cons.1 hs with rfl | hs
  ·unfold Clean; decide
  ·exact allW_clean _ s hs
 ·rw [if_neg (by decide), if_neg (by decide), if_neg (by decide), if_neg (by decide), if_pos trivial] at hs
  rcases List.mem_cons.1 hs with rfl | hs
  ·unfold Clean; decide
  ·exact allW_clean _ s hs
 ·rw [if_neg (by decide), if_neg (by decide), if_neg (by decide), if_neg (by decide), if_neg (by decide), if_pos trivial] at hs
  rcases List.mem_cons.1 hs with rfl | hs
  ·unfold Clean; decide
  ·exact allW_clean _ s hs
 ·rw [if_neg (by decide), if_neg (by decide), if_neg (by decide), if_neg (by decide), if_neg (by decide), if_neg (by decide), if_pos trivial] at hs
  rcases List.mem_cons.1 hs with rfl | hs
  ·unfold Clean; decide
  ·exact allW_clean _ s hs
theorem fitsC {n : Int} {l : List Int} (h : -9223372036854775808 ≤ n ∧ n ≤ 9223372036854775807) (hl : Fits l) : Fits (n :: l) := fun m hm => by
 rcases List.mem_cons.1 hm with rfl | hm
 ·exact h
 ·exact hl m hm
theorem fits0 : Fits [] := fun n hn => by simp at hn
theorem none_list {e : Ev} (h : noneB e = true) : e.list = [] := by
 simp only [noneB, beq_iff_eq] at h
 exact List.eq_nil_of_length_eq_zero h
theorem stN_back {n : Int} (h0 : 3 ≤ n) (h1 : n ≤ 6) : stN (stW n) = n := by
 have : n = 3 ∨ n = 4 ∨ n = 5 ∨ n = 6 := by omega
 rcases this with rfl | rfl | rfl | rfl <;> decide
theorem cand_back {e : Ev} (h : right e = true) (hok : EvOk e) : candW (onlyW e) = some e := by
 have hk7 := kinds7 h
 obtain ⟨k, j, t, n, m, l⟩ := e
 obtain ⟨h1, h2, h3, h4, h5, -⟩ := hok
 simp only [right, Bool.and_eq_true] at h
 obtain ⟨h, -⟩ := h
 rcases hk7 with hk | hk | hk | hk | hk | hk | hk <;> simp only at hk h1 h2 h3 h4 h5 <;> subst hk
 ·rw [okK_1 rfl] at h
  have hl : l = [] := none_list h
  subst hl
  have hn : numsW (allW [j, t, n, m]) = some [j, t, n, m] := nums_back _ (fitsC h1 (fitsC h2 (fitsC h3 (fitsC h4 fits0))))
  have e1 : onlyW ⟨1, j, t, n, m, []⟩ = submitB :: allW [j, t, n, m] := rfl
  have e2 : cutEnd (submitB :: allW [j, t, n, m]) = (submitB :: allW [j, t, n, m], 0) := by unfold cutEnd; rw [if_neg (by simp only [List.headD_cons]; decide)]
  unfold candW
  rw [e1, e2]
  simp only [List.drop_succ_cons, List.drop_zero]
  rw [hn]
  rfl
 ·rw [okK_2 rfl] at h
  simp only [bareB, Bool.and_eq_true, beq_iff_eq] at h
  obtain ⟨⟨rfl, rfl⟩, -⟩ := h
  have hn : numsW (allW ([j, t] ++ l)) = some (j :: t :: l) := nums_back _ (fitsC h1 (fitsC h2 h5))
  have e1 : onlyW ⟨2, j, t, 0, 0, l⟩ = startB :: allW ([j, t] ++ l) := rfl
  have e2 : cutEnd (startB :: allW ([j, t] ++ l)) = (startB :: allW ([j, t] ++ l), 0) := by unfold cutEnd; rw [if_neg (by simp only [List.headD_cons]; decide)]
  unfold candW
  rw [e1, e2]
  simp only [List.drop_succ_cons, List.drop_zero]
  rw [hn]
  simp only [evOf]
  rw [show hdOf startB 0 = (2, 2, 0) from rfl, if_neg (by simp only [List.length_cons]; omega)]
  rfl
 ·rw [okK_3 rfl] at h
  simp only [Bool.and_eq_true, beq_iff_eq, decide_eq_true_eq] at h
  obtain ⟨⟨⟨g1, g2⟩, rfl⟩, g3⟩ := h
  have hl : l = [] := none_list g3
  subst hl
  have hn : numsW (allW [j, t]) = some [j, t] := nums_back _ (fitsC h1 (fitsC h2 fits0))
  have e1 : onlyW ⟨3, j, t, n, 0, []⟩ = [endB, itB j, itB t, stW n] := rfl
  have e2 : cutEnd [endB, itB j, itB t, stW n] = (endB :: allW [j, t], n) := by
   unfold cutEnd
   rw [if_pos (by rfl)]
   congr 1
   exact stN_back g1 g2
  unfold candW
  rw [e1, e2]
  simp only [List.drop_succ_cons, List.drop_zero]
  rw [hn]
  rfl
 ·rw [okK_4 rfl] at h
  simp only [bareB, Bool.and_eq_true, beq_iff_eq] at h
  obtain ⟨⟨rfl, rfl⟩, g⟩ := h
  have hl : l = [] := none_list g
  subst hl
  have hn : numsW (allW [j, t]) = some [j, t] := nums_back _ (fitsC h1 (fitsC h2 fits0))
  have e1 : onlyW ⟨4, j, t, 0, 0, []⟩ = pinB :: allW [j, t] := rfl
  have e2 : cutEnd (pinB :: allW [j, t]) = (pinB :: allW [j, t], 0) := by unfold cutEnd; rw [if_neg (by simp only [List.headD_cons]; decide)]
  unfold candW
  rw [e1, e2]
  simp only [List.drop_succ_cons, List.drop_zero]
  rw [hn]
  rfl
 ·rw [okK_5 rfl] at h
  simp only [bareB, Bool.and_eq_true, beq_iff_eq] at h
  obtain ⟨⟨⟨rfl, rfl⟩, rfl⟩, -⟩ := h
  have hn : numsW (allW ([t] ++ l)) = some (t :: l) := nums_back _ (fitsC h2 h5)
  have e1 : onlyW ⟨5, 0, t, 0, 0, l⟩ = passB :: allW ([t] ++ l) := rfl
  have e2 : cutEnd (passB :: allW ([t] ++ l)) = (passB :: allW ([t] ++ l), 0) := by unfold cutEnd; rw [if_neg (by simp only [List.headD_cons]; decide)]
  unfold candW
  rw [e1, e2]
  simp only [List.drop_succ_cons, List.drop_zero]
  rw [hn]
  simp only [evOf]
  rw [show hdOf passB 0 = (5, 1, 0) from rfl, if_neg (by simp only [List.length_cons]; omega)]
  rfl
 ·rw [okK_6 (.inl rfl)] at h
  simp only [bareB, Bool.and_eq_true, beq_iff_eq] at h
  obtain ⟨⟨⟨rfl, rfl⟩, rfl⟩, g⟩ := h
  have hl : l = [] := none_list g
  subst hl
  have hn : numsW (allW [t]) = some [t] := nums_back _ (fitsC h2 fits0)
  have e1 : onlyW ⟨6, 0, t, 0, 0, []⟩ = tickB :: allW [t] := rfl
  have e2 : cutEnd (tickB :: allW [t]) = (tickB :: allW [t], 0) := by unfold cutEnd; rw [if_neg (by simp only [List.headD_cons]; decide)]
  unfold candW
  rw [e1, e2]
  simp only [List.drop_succ_cons, List.drop_zero]
  rw [hn]
  rfl
 ·rw [okK_6 (.inr rfl)] at h
  simp only [bareB, Bool.and_eq_true, beq_iff_eq] at h
  obtain ⟨⟨⟨rfl, rfl⟩, rfl⟩, g⟩ := h
  have hl : l = [] := none_list g
  subst hl
  have hn : numsW (allW [t]) = some [t] := nums_back _ (fitsC h2 fits0)
  have e1 : onlyW ⟨7, 0, t, 0, 0, []⟩ = decayB :: allW [t] := rfl
  have e2 : cutEnd (decayB :: allW [t]) = (decayB :: allW [t], 0) := by unfold cutEnd; rw [if_neg (by simp only [List.headD_cons]; decide)]
  unfold candW
  rw [e1, e2]
  simp only [List.drop_succ_cons, List.drop_zero]
  rw [hn]
  rfl
theorem evS_words {e : Ev} (h : right e = true) : evS e = toB (wordsT (onlyW e)) := by
 unfold evS
 rw [if_pos h, onlyW_text h]
theorem evS_cut {e : Ev} (h : right e = true) : wordsC 32 (evS e) = onlyW e := by
 rw [evS_words h, words_back (onlyW_ne h) (onlyW_clean h)]
theorem read_back {e : Ev} (h : right e = true) (hok : EvOk e) : readE (evS e) = (e, 0) := by
 unfold readE
 rw [wordsOf_eq, evS_cut h, cand_back h hok]
 simp only
 rw [if_pos ⟨h, trivial⟩]
end Go.Proofs.An

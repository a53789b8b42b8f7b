/- A line and its words: cut at blanks, joined by blanks; a number and its numeral. -/
import Derived.Test.YtdekbbffoaphhaaDoorVeParseP
import Derived.Test.YtdekbbffoaphhaaDoorVePrintP
set_option linter.unusedVariables false
namespace Go.Proofs.Ve
def cutL : List UInt8 → List (List UInt8)
  | [] => [[]]
  | c :: l => if c = 32 then [] :: cutL l else match cutL l with
    | [] => [[c]]
    | x :: r => (c :: x) :: r
theorem cutL_ne (l : List UInt8) : cutL l ≠ [] := by
  cases l with
  | nil => simp [cutL]
  | cons c l =>
    unfold cutL
    split
    · simp
    · split <;> simp
theorem cutL_miss : ∀ (l : List UInt8), Lib.index l [32] = -1 → cutL l = [l]
  | [], _ => rfl
  | c :: l, h => by
    rw [Lib.index] at h
    by_cases hc : c = 32
    · subst hc; simp [List.isPrefixOf] at h
    · have hp : ([32] : List UInt8).isPrefixOf (c :: l) = false := by simp [List.isPrefixOf, Ne.symm hc]
      rw [hp] at h
      have hl : Lib.index l [32] = -1 := by
        by_cases h2 : Lib.index l [32] = -1
        · exact h2
        · have hge := Lib.index_ge l [32]
          simp [h2] at h
          omega
      unfold cutL
      rw [if_neg hc, cutL_miss l hl]
theorem cutL_hit : ∀ (l : List UInt8) (i : Nat), Lib.index l [32] = i → cutL l = l.take i :: cutL (l.drop (i + 1))
  | [], i, h => by
    have : Lib.index [] [32] = -1 := by simp [Lib.index]
    omega
  | c :: l, i, h => by
    rw [Lib.index] at h
    by_cases hc : c = 32
    · subst hc
      simp [List.isPrefixOf] at h
      have : i = 0 := by omega
      subst this
      simp [cutL]
    · have hp : ([32] : List UInt8).isPrefixOf (c :: l) = false := by simp [List.isPrefixOf, Ne.symm hc]
      rw [hp] at h
      have hge := Lib.index_ge l [32]
      by_cases h2 : Lib.index l [32] = -1
      · (simp [h2] at h) <;> omega
      · simp [h2] at h
        obtain ⟨j, rfl⟩ : ∃ j, i = j + 1 := ⟨i - 1, by omega⟩
        have ih := cutL_hit l j (by omega)
        rw [cutL, if_neg hc, ih]
        simp
theorem split_cut : ∀ (k : Nat) (s : ByteArray), Lib.countB s blankS = k → (Lib.splitB blankS 0 k s).map (·.data.toList) = cutL s.data.toList
  | 0, s, hk => by
    rcases Lib.indexB_cases s blankS with h | ⟨i, h, -⟩
    · rw [Lib.splitB_zero, cutL_miss _ h]; rfl
    · rw [Lib.countB_hit s blankS i (by decide) h] at hk; omega
  | k + 1, s, hk => by
    rcases Lib.indexB_cases s blankS with h | ⟨i, h, -⟩
    · rw [Lib.countB_miss s blankS h] at hk; omega
    · rw [Lib.countB_hit s blankS i (by decide) h] at hk
      rw [Lib.splitB_hit blankS 0 k s i h, List.map_cons, split_cut k _ (by omega), cutL_hit _ i h, Lib.extract_to_end, Lib.extract_data, show i + blankS.size = i + 1 from rfl]
      simp
theorem words_cut (line : ByteArray) : (wordsOf line).map (·.data.toList) = cutL line.data.toList := split_cut _ _ rfl
theorem join_cons (x : List UInt8) (r : List (List UInt8)) (h : r ≠ []) : Lib.join (x :: r) [32] = x ++ 32 :: Lib.join r [32] := by
  cases r with
  | nil => exact absurd rfl h
  | cons y r => simp [Lib.join, List.intercalate, List.intersperse]
theorem cut_join : ∀ (l : List UInt8), Lib.join (cutL l) [32] = l
  | [] => by simp [cutL, Lib.join_one]
  | c :: l => by
    have ih := cut_join l
    unfold cutL
    by_cases hc : c = 32
    · rw [if_pos hc, join_cons _ _ (cutL_ne l), ih, hc]; rfl
    · rw [if_neg hc]
      cases h : cutL l with
      | nil => exact absurd h (cutL_ne l)
      | cons x r =>
        rw [h] at ih
        simp only
        cases r with
        | nil => rw [Lib.join_one] at ih ⊢; rw [ih]
        | cons y r => rw [join_cons _ _ (by simp)] at ih ⊢; rw [← ih]; rfl
theorem cut_app : ∀ (x l : List UInt8), (32 : UInt8) ∉ x → cutL (x ++ 32 :: l) = x :: cutL l
  | [], l, _ => by simp [cutL]
  | c :: x, l, h => by
    have hc : c ≠ 32 := fun e => h (by simp [e])
    rw [List.cons_append, cutL, if_neg hc, cut_app x l (fun h2 => h (List.mem_cons_of_mem _ h2))]
theorem cut_one : ∀ (x : List UInt8), (32 : UInt8) ∉ x → cutL x = [x]
  | [], _ => rfl
  | c :: x, h => by
    have hc : c ≠ 32 := fun e => h (by simp [e])
    rw [cutL, if_neg hc, cut_one x (fun h2 => h (List.mem_cons_of_mem _ h2))]
theorem join_cut : ∀ (xs : List (List UInt8)), xs ≠ [] → (∀ x ∈ xs, (32 : UInt8) ∉ x) → cutL (Lib.join xs [32]) = xs
  | [], h, _ => absurd rfl h
  | [x], _, h => by rw [Lib.join_one]; exact cut_one x (h x (by simp))
  | x :: y :: r, _, h => by
    rw [join_cons _ _ (by simp), cut_app x _ (h x (by simp)), join_cut (y :: r) (by simp) (fun z hz => h z (List.mem_cons_of_mem _ hz))]

theorem parse_snoc : ∀ (l : List UInt8) (a u d : Nat), Lib.parseUint10 a l = .ok u → d < 10 → u * 10 + d < 18446744073709551616 → Lib.parseUint10 a (l ++ [UInt8.ofNat (48 + d)]) = .ok (u * 10 + d)
  | [], a, u, d, h, hd, hb => by
    simp only [Lib.parseUint10] at h
    obtain rfl : a = u := by injection h
    have e : (UInt8.ofNat (48 + d)).toNat = 48 + d := by simp [UInt8.toNat_ofNat]; omega
    simp only [List.nil_append, Lib.parseUint10, e]
    rw [if_pos (by omega), if_neg (by omega), if_neg (by omega)]
    congr 1
    omega
  | c :: l, a, u, d, h, hd, hb => by
    simp only [List.cons_append, Lib.parseUint10] at h ⊢
    split at h
    · split at h
      · cases h
      · split at h
        · cases h
        · rename_i h1 h2 h3
          rw [if_pos h1, if_neg h2, if_neg h3]
          exact parse_snoc l _ u d h hd hb
    · cases h
theorem parse_dec : ∀ (g u : Nat), u ≤ g → u < 18446744073709551616 → Lib.parseUint10 0 (Lib.decDigits u) = .ok u
  | 0, u, hg, hu => by
    obtain rfl : u = 0 := by omega
    rw [Lib.decDigits, dif_pos (by omega)]
    exact parse_snoc [] 0 0 0 rfl (by omega) (by omega)
  | g + 1, u, hg, hu => by
    by_cases h : u < 10
    · rw [Lib.decDigits, dif_pos h]
      have := parse_snoc [] 0 0 u rfl h (by omega)
      simpa using this
    · rw [Lib.decDigits, dif_neg h]
      have ih := parse_dec g (u / 10) (by omega) (by omega)
      have := parse_snoc _ 0 (u / 10) (u % 10) ih (by omega) (by omega)
      rw [this]
      congr 1
      omega
theorem dec_digits : ∀ (g u : Nat), u ≤ g → ∀ c ∈ Lib.decDigits u, 48 ≤ c.toNat ∧ c.toNat ≤ 57
  | 0, u, hg, c, hc => by
    obtain rfl : u = 0 := by omega
    rw [Lib.decDigits, dif_pos (by omega)] at hc
    rw [List.mem_singleton.1 hc]
    decide
  | g + 1, u, hg, c, hc => by
    by_cases h : u < 10
    · rw [Lib.decDigits, dif_pos h] at hc
      rw [List.mem_singleton.1 hc]
      simp [UInt8.toNat_ofNat]; omega
    · rw [Lib.decDigits, dif_neg h] at hc
      rcases List.mem_append.1 hc with hc | hc
      · exact dec_digits g (u / 10) (by omega) c hc
      · rw [List.mem_singleton.1 hc]
        simp [UInt8.toNat_ofNat]; omega
theorem itoa_digits {n : Int} (h : 0 ≤ n) : ∀ c ∈ Lib.itoa n, 48 ≤ c.toNat ∧ c.toNat ≤ 57 := by
  unfold Lib.itoa
  rw [if_neg (by omega)]
  exact dec_digits _ _ (Nat.le_refl _)
theorem atoi_itoa {n : Int} (h0 : 0 ≤ n) (h1 : n ≤ 9223372036854775807) : Lib.atoiAll (Lib.itoa n) = .ok n := by
  have hd := itoa_digits h0
  have hp := parse_dec _ n.toNat (Nat.le_refl _) (by omega)
  have e : Lib.itoa n = Lib.decDigits n.toNat := by unfold Lib.itoa; rw [if_neg (by omega)]
  rw [e] at hd ⊢
  cases hl : Lib.decDigits n.toNat with
  | nil => rw [hl] at hp; simp [Lib.parseUint10] at hp; rw [← hp] at hl; rw [Lib.decDigits] at hl; simp at hl
  | cons c r =>
    rw [hl] at hd hp
    have hc := hd c (by simp)
    unfold Lib.atoiAll
    simp only
    rw [if_neg (by omega)]
    unfold Lib.parseMag
    rw [if_neg (by simp), hp]
    simp only
    rw [if_neg (by omega), if_neg (by omega), if_neg (by omega)]
    congr 1
    omega
end Go.Proofs.Ve

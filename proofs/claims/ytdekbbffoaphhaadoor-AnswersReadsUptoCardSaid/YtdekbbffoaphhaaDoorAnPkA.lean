/- The reference's cut, its numbers. -/
import Derived.Test.YtdekbbffoaphhaaDoorAnCutP
import Derived.Test.YtdekbbffoaphhaaDoorAnRead
import Derived.WalkSpells
import Derived.Deep.DeepCutAuto
import Derived.Test.YtdekbbffoaphhaaDoorAnBackP
set_option linter.unusedVariables false
set_option linter.unusedSimpArgs false
namespace Go.Proofs.An
/-- A number of digits and whether it is one. -/
def wholeV (s : ByteArray) : Int × Bool := match numR 18446744073709551615 s.data.toList with | some n => ((n : Int), true) | none => (0, false)
theorem wholeV_none {s : ByteArray} (h : numR 18446744073709551615 s.data.toList = none) : wholeV s = (0, false) := by unfold wholeV; rw [h]
theorem wholeV_some {s : ByteArray} {n : Nat} (h : numR 18446744073709551615 s.data.toList = some n) : wholeV s = ((n : Int), true) := by unfold wholeV; rw [h]
theorem wholeV_bd (s : ByteArray) : 0 ≤ (wholeV s).1 ∧ (wholeV s).1 ≤ 18446744073709551615 := by
  unfold wholeV
  cases h : numR 18446744073709551615 s.data.toList with
  | none => simp
  | some n => have := (numR_some.1 h).2; simp only; omega
end Go.Proofs.An
namespace Go.Proofs.YtdekbbffoaphhaaDoor
open Go.RowKit Go.Proofs.HL Go.Proofs.An
section
variable {w0 w : World} {L : List At}
theorem ret2U {a b : Int × Bool} (h : a = b) : Ending.returned (.tuple #[.int .u64 b.1, .bool b.2]) = .returned (.tuple #[.int .u64 a.1, .bool a.2]) := by rw [h]
set_option maxRecDepth 100000 in
set_option maxHeartbeats 2000000 in
theorem Ref.cut_ok (H : HL w0 w L) (s : ByteArray) (hs : s.size ≤ 1000000000) (c : UInt8) :
    Calls Tryd.prog 54 #[.string s, .int .u8 (c.toNat : Int)] w fun e w' => ∃ v, e = .returned v ∧ HL w0 w' (strs w0.heap.size v (wordsC c s) :: L) := by
  have hlen : s.data.toList.length = s.size := Array.length_toList
  have H2 : HL w0 w (strs w0.heap.size (.slice none 0 0) [] :: L) := H.nilRow _ _ _
  have HLEN := Lib.hid hlen
  clear hlen H
  go_enter Tryd.func54, Tryd.ntmps54
  go_wp2
  go_loopg [5, 6, 10] s.size (fun g v f i wr => ∃ (k n : Nat) (W : List ByteArray), i = .int .i64 k ∧ f = .int .i64 n ∧ k + g = s.size ∧ W.length ≤ k ∧ Cutting c s.data.toList k n W ∧ HL w0 wr (strs w0.heap.size v W :: L))
  case atStart => exact ⟨0, 0, [], rfl, rfl, by omega, by simp, Cutting.start _ _, H2⟩
  case round =>
    obtain ⟨k, n, W, rfl, rfl, hk, hW, hC, HK⟩ := hrel
    clear H2
    have hnk := hC.from_le
    have HC := Lib.hid hC
    clear hC
    obtain ⟨A5, c5, rfl, -, h51, h52⟩ := row_shape (show wr.ownsRow w0.heap.size 9 1 u5 W.length (W.map fun s => .string s) from HK.head)
    unfold maxLen at h52
    by_cases hlt : k < s.size
    · have hd : s.data.toList[k]? = some s[k] := data_at hlt
      by_cases c1 : s[k] = c
      · have e1 : ((s[k].toNat : Int) == (c.toNat : Int)) = true := by rw [c1]; simp
        have HN := Lib.hid (HC.out.cut (by rw [hd, c1]) (extract_piece s n k))
        clear hd c1
        have HX2 := HK.alloc' (.cells #[.string (s.extract n k)] 9)
        have hr4 := rd_str (w := wr) (y := s.extract n k)
        go_wp2_with (at_builtin; refine append_str (v := .slice A5 W.length c5) (xs := W) (y := s.extract n k) (b := wr.heap.size) rfl _ _ rfl HX2 rfl rfl hr4 (by omega) ?_; intro z5 w5 H5; clear HX2 HK)
        go_roundg (gk - 1)
        case measure => omega
        case rel => exact ⟨k + 1, k + 1, W ++ [s.extract n k], by go_num, by go_num, by omega, by simp; omega, HN.out, H5⟩
      · have e1 : ((s[k].toNat : Int) == (c.toNat : Int)) = false := by
          rw [beq_eq_false_iff_ne]
          intro e
          exact c1 (UInt8.toNat_inj.1 (by omega))
        have HN := Lib.hid (HC.out.skip hd c1)
        clear hd c1
        go_wp2
        go_roundg (gk - 1)
        case measure => omega
        case rel => exact ⟨k + 1, n, W, by go_num, rfl, by omega, by omega, HN.out, HK⟩
    · obtain rfl : k = s.size := by omega
      have hw := HC.out.words (Nat.le_refl _)
      have HN := Lib.hid hw
      clear hw
      have HX2 := HK.alloc' (.cells #[.string (s.extract n s.size)] 9)
      have hr4 := rd_str (w := wr) (y := s.extract n s.size)
      go_wp2_with (at_builtin; refine append_str (v := .slice A5 W.length c5) (xs := W) (y := s.extract n s.size) (b := wr.heap.size) rfl _ _ rfl HX2 rfl rfl hr4 (by omega) ?_; intro z5 w5 H5; clear HX2 HK)
      go_ret
      exact ⟨_, rfl, by rw [HN.out]; exact H5⟩
set_option maxRecDepth 100000 in
set_option maxHeartbeats 4000000 in
theorem Ref.whole_ok (s : ByteArray) (hs : s.size ≤ 9223372036854775807) (w : World) :
    Calls Tryd.prog 90 #[.string s] w fun e w' => e = .returned (.tuple #[.int .u64 (wholeV s).1, .bool (wholeV s).2]) ∧ w = w' := by
  have hlen : s.data.toList.length = s.size := Array.length_toList
  by_cases h1 : s.size < 1
  · have HF := Lib.hid (wholeV_none (s := s) (numR_bad (fun h => h.1 (List.eq_nil_of_length_eq_zero (by omega)))))
    have d1 : decide ((s.size : Int) < 1) = true := decide_eq_true (by omega)
    go_enter Tryd.func90, Tryd.ntmps90
    go_wp2
    go_ret2
    exact ⟨ret2U HF.out, rfl⟩
  have d1 : decide ((s.size : Int) < 1) = false := decide_eq_false (by omega)
  by_cases h2 : 20 < s.size
  · have HF := Lib.hid (wholeV_none (s := s) (numR_long (k := 19) (by decide) (by omega)))
    have d2 : decide (20 < (s.size : Int)) = true := decide_eq_true (by omega)
    go_enter Tryd.func90, Tryd.ntmps90
    go_wp2
    go_ret2
    exact ⟨ret2U HF.out, rfl⟩
  have d2 : decide (20 < (s.size : Int)) = false := decide_eq_false (by omega)
  have hp0 : 0 < s.size := by omega
  have hd0 : s.data.toList.head? = some s[0] := by rw [List.head?_eq_getElem?, data_at hp0]
  by_cases h3 : 1 < s.size ∧ (s[0].toNat : Int) = 48
  · have HF := Lib.hid (wholeV_none (s := s) (numR_bad (fun h => by
      rcases h.2.2 with e | e
      · omega
      · rw [hd0] at e
        exact e (congrArg some (UInt8.toNat_inj.1 (by have : (48 : UInt8).toNat = 48 := rfl; omega))))))
    obtain ⟨h3, h4⟩ := h3
    clear hd0 hlen
    have e1 : ((s[0].toNat : Int) == 48) = true := by simp [h4]
    have d3 : decide (1 < (s.size : Int)) = true := decide_eq_true (by omega)
    clear h4
    go_enter Tryd.func90, Tryd.ntmps90
    go_wp2
    go_ret2
    exact ⟨ret2U HF.out, rfl⟩
  have hok : s.size = 1 ∨ s.data.toList.head? ≠ some 48 := by
    rcases Nat.lt_or_ge 1 s.size with h | h
    · refine .inr (fun e => h3 ⟨h, ?_⟩)
      rw [hd0] at e
      have := congrArg UInt8.toNat (Option.some.inj e)
      have e48 : (48 : UInt8).toNat = 48 := rfl
      omega
    · exact .inl (by omega)
  have HOK := Lib.hid hok; have HLEN := Lib.hid hlen
  have hcase : (((s[0].toNat : Int) == 48) = false) ∨ (((s[0].toNat : Int) == 48) = true ∧ decide (1 < (s.size : Int)) = false) := by
    cases e1 : ((s[0].toNat : Int) == 48)
    · exact .inl rfl
    · refine .inr ⟨rfl, decide_eq_false (fun h => h3 ⟨by omega, by simpa using e1⟩)⟩
  have HCASE := Lib.hid hcase
  clear h3 hok hd0 hlen hcase
  go_enter Tryd.func90, Tryd.ntmps90
  go_upto_region 1 with (fail)
  go_cut [24] (fun t24 wc => t24 = .bool false ∧ w = wc)
  case first =>
    rcases HCASE.out with e1 | ⟨e1, d3⟩
    · go_wp2
      go_meet
      exact ⟨rfl, rfl⟩
    · go_wp2
      go_meet
      exact ⟨rfl, rfl⟩
  case rest =>
    obtain ⟨rfl, rfl⟩ := hcut
    clear d1 d2
    go_wp2
    go_loopg [4, 27] s.size (fun g n i wr => ∃ k : Nat, i = .int .i64 k ∧ k + g = s.size ∧ n = .int .u64 (valD (s.data.toList.take k) : Nat) ∧ valD (s.data.toList.take k) ≤ 18446744073709551615 ∧ (∀ c ∈ s.data.toList.take k, digU c = true) ∧ w = wr)
    case atStart => exact ⟨0, rfl, by omega, rfl, by simp [valD], (fun c h => by simp at h), rfl⟩
    case round =>
      obtain ⟨k, rfl, hk, rfl, hv, hdig, rfl⟩ := hrel
      have HDG := Lib.hid hdig
      clear hdig
      by_cases hlt : k < s.size
      · have hd : s.data.toList[k]? = some s[k] := data_at hlt
        have htk : s.data.toList.take (k + 1) = s.data.toList.take k ++ [s[k]] := by rw [List.take_add_one, hd]; rfl
        have hmem : s[k] ∈ s.data.toList := List.mem_of_getElem? hd
        have hval : valD (s.data.toList.take (k + 1)) = 10 * valD (s.data.toList.take k) + (s[k].toNat - 48) := by rw [htk, valD_snoc]
        have hmono : valD (s.data.toList.take (k + 1)) ≤ valD s.data.toList := by
          have := valD_mono (s.data.toList.take (k + 1)) (s.data.toList.drop (k + 1))
          rwa [List.take_append_drop] at this
        have hbad : digU s[k] = false → wholeV s = (0, false) := fun h => wholeV_none (numR_bad (fun hn => by rw [hn.2.1 _ hmem] at h; cases h))
        have hnx : digU s[k] = true → ∀ c ∈ s.data.toList.take (k + 1), digU c = true := fun h c hc => by
          rw [htk] at hc
          rcases List.mem_append.1 hc with hc | hc
          · exact HDG.out c hc
          · rw [List.mem_singleton.1 hc]; exact h
        generalize valD (s.data.toList.take k) = V at *
        generalize hV1 : valD (s.data.toList.take (k + 1)) = V1 at *
        have hgr : 18446744073709551615 < V1 → wholeV s = (0, false) := fun h => wholeV_none (numR_great (by omega))
        have HB := Lib.hid hbad; have HN := Lib.hid hnx; have HV1 := Lib.hid hV1; have HGR := Lib.hid hgr; have HVAL := Lib.hid hval
        clear hbad hnx hd htk hmem hmono hgr hV1 hval
        by_cases c1 : (s[k].toNat : Int) < 48
        · have HV := Lib.hid (HB.out (by simp [digU]; omega))
          have e1 : decide ((s[k].toNat : Int) < 48) = true := decide_eq_true c1
          go_wp2
          go_ret2
          exact ⟨ret2U HV.out, rfl⟩
        have e1 : decide ((s[k].toNat : Int) < 48) = false := decide_eq_false c1
        by_cases c2 : 57 < (s[k].toNat : Int)
        · have HV := Lib.hid (HB.out (by simp [digU]; omega))
          have e2 : decide (57 < (s[k].toNat : Int)) = true := decide_eq_true c2
          go_wp2
          go_ret2
          exact ⟨ret2U HV.out, rfl⟩
        have e2 : decide (57 < (s[k].toNat : Int)) = false := decide_eq_false c2
        have hdg : digU s[k] = true := by simp [digU]; omega
        have HND := Lib.hid (HN.out hdg)
        obtain ⟨d, hd⟩ : ∃ d : Nat, (s[k].toNat : Int) - 48 = (d : Int) ∧ d = s[k].toNat - 48 ∧ d ≤ 9 := ⟨s[k].toNat - 48, by omega, rfl, by omega⟩
        obtain ⟨hd1, hd2, hd3⟩ := hd
        have hw0 : IntKind.u64.wrap (s[k].toNat : Int) = (s[k].toNat : Int) := by
          unfold IntKind.wrap
          simp [IntKind.bits, IntKind.signed]
          omega
        have hw1 : IntKind.u64.wrap ((s[k].toNat : Int) - 48) = (d : Int) := by
          rw [hd1]
          unfold IntKind.wrap
          simp [IntKind.bits, IntKind.signed]
          omega
        have hw2 : IntKind.u64.wrap ((18446744073709551615 : Int) - (d : Int)) = 18446744073709551615 - (d : Int) := by
          unfold IntKind.wrap
          simp [IntKind.bits, IntKind.signed]
          omega
        rw [← hd2] at HVAL
        clear hdg hd1 hd2 c1 c2
        obtain ⟨q, hq⟩ : ∃ q : Nat, (18446744073709551615 - (d : Int)) / 10 = (q : Int) ∧ 10 * q ≤ 18446744073709551615 - d ∧ 18446744073709551615 - d < 10 * q + 10 := ⟨(18446744073709551615 - d) / 10, by omega, by omega, by omega⟩
        obtain ⟨hq1, hq2, hq3⟩ := hq
        by_cases c5 : q < V
        · have e3 : decide ((q : Int) < (V : Int)) = true := decide_eq_true (by omega)
          have HV := Lib.hid (HGR.out (by have := HVAL.out; omega))
          go_wp2
          go_ret2
          exact ⟨ret2U HV.out, rfl⟩
        · have e3 : decide ((q : Int) < (V : Int)) = false := decide_eq_false (by omega)
          have hv1 : V1 ≤ 18446744073709551615 := by have := HVAL.out; omega
          have hw3 : IntKind.u64.wrap (10 * (V : Int)) = 10 * (V : Int) := by
            unfold IntKind.wrap
            simp [IntKind.bits, IntKind.signed]
            omega
          have hw4 : IntKind.u64.wrap (10 * (V : Int) + (d : Int)) = (V1 : Int) := by
            have := HVAL.out
            unfold IntKind.wrap
            simp [IntKind.bits, IntKind.signed]
            omega
          go_wp2
          go_roundg (gk - 1)
          case measure => omega
          case rel => exact ⟨k + 1, by go_num, by omega, by rw [HV1.out], by rw [HV1.out]; exact hv1, HND.out, rfl⟩
      · have hnum : wholeV s = (((valD (s.data.toList.take k) : Nat) : Int), true) := by
          rw [List.take_of_length_le (by rw [HLEN.out]; omega)] at hv HDG ⊢
          exact wholeV_some (numR_good ⟨(fun e => by rw [e] at HLEN; have := HLEN.out; simp at this; omega), HDG.out, HOK.out.imp (fun h => by rw [HLEN.out]; exact h) id⟩ hv)
        have HV := Lib.hid hnum
        clear hnum hv
        generalize valD (s.data.toList.take k) = V at *
        go_wp2
        go_ret2
        exact ⟨ret2U HV.out, rfl⟩
end
end Go.Proofs.YtdekbbffoaphhaaDoor
/- The reference's number, its list of numbers. -/
set_option linter.unusedVariables false
set_option linter.unusedSimpArgs false
namespace Go.Proofs.An
def numberV (s : ByteArray) : Int × Bool :=
  if s.data.toList.head? = some 45 then (if (wholeV (s.extract 1 s.size)).2 = false ∨ (wholeV (s.extract 1 s.size)).1 < 1 ∨ 9223372036854775808 < (wholeV (s.extract 1 s.size)).1 then (0, false) else (-(wholeV (s.extract 1 s.size)).1, true))
  else (if (wholeV s).2 = false ∨ 9223372036854775807 < (wholeV s).1 then (0, false) else ((wholeV s).1, true))
def readV : List ByteArray → Option (List Int)
  | [] => some []
  | s :: r => if (numberV s).2 = false then none else match readV r with | none => none | some l => some ((numberV s).1 :: l)
theorem readV_app : ∀ (l r : List ByteArray), readV (l ++ r) = match readV l with | none => none | some a => match readV r with | none => none | some b => some (a ++ b)
  | [], r => by simp only [List.nil_append, readV]; cases readV r <;> rfl
  | s :: l, r => by
    rw [List.cons_append, readV, readV, readV_app l r]
    by_cases h : (numberV s).2 = false
    · rw [if_pos h, if_pos h]
    · rw [if_neg h, if_neg h]
      cases readV l with
      | none => rfl
      | some a => cases readV r <;> rfl
theorem readV_len : ∀ (l : List ByteArray) (a : List Int), readV l = some a → a.length = l.length
  | [], a, h => by simp only [readV, Option.some.injEq] at h; subst h; rfl
  | s :: l, a, h => by
    simp only [readV] at h
    split at h
    · cases h
    · cases hl : readV l with
      | none => rw [hl] at h; cases h
      | some b =>
        rw [hl] at h
        simp only [Option.some.injEq] at h
        subst h
        simp [readV_len l b hl]
theorem readV_bad {ws : List ByteArray} {k : Nat} {s : ByteArray} (hs : ws[k]? = some s) (h : (numberV s).2 = false) : readV ws = none := by
  have hk := (List.getElem?_eq_some_iff.1 hs).1
  have e : ws = ws.take k ++ s :: ws.drop (k + 1) := by
    conv => lhs; rw [← List.take_append_drop k ws]
    rw [List.drop_eq_getElem_cons hk, (List.getElem?_eq_some_iff.1 hs).2]
  rw [e, readV_app]
  cases readV (ws.take k) with
  | none => rfl
  | some a => simp [readV, h]
theorem numberV_bd (s : ByteArray) : -9223372036854775808 ≤ (numberV s).1 ∧ (numberV s).1 ≤ 9223372036854775807 := by
  have h1 := wholeV_bd s
  have h2 := wholeV_bd (s.extract 1 s.size)
  unfold numberV
  split
  · split
    · simp
    · simp only; omega
  · split
    · simp
    · simp only; omega
theorem readV_fits : ∀ (l : List ByteArray) (a : List Int), readV l = some a → Fits a
  | [], a, h => by simp only [readV, Option.some.injEq] at h; subst h; exact fun n hn => by simp at hn
  | s :: l, a, h => by
    simp only [readV] at h
    split at h
    · cases h
    · cases hl : readV l with
      | none => rw [hl] at h; cases h
      | some b =>
        rw [hl] at h
        simp only [Option.some.injEq] at h
        subst h
        intro m hm
        rcases List.mem_cons.1 hm with rfl | hm
        · exact numberV_bd s
        · exact readV_fits l b hl m hm
end Go.Proofs.An
namespace Go.Proofs.YtdekbbffoaphhaaDoor
open Go.RowKit Go.Proofs.HL Go.Proofs.An
section
variable {w0 w : World} {L : List At} {v : Value}
theorem ret2J {a b : Int × Bool} (h : a = b) : Ending.returned (.tuple #[.int .i64 b.1, .bool b.2]) = .returned (.tuple #[.int .i64 a.1, .bool a.2]) := by rw [h]
set_option maxRecDepth 100000 in
set_option maxHeartbeats 4000000 in
theorem Ref.number_ok (s : ByteArray) (hs : s.size ≤ 1000000000) (w : World) :
    Calls Tryd.prog 75 #[.string s] w fun e w' => e = .returned (.tuple #[.int .i64 (numberV s).1, .bool (numberV s).2]) ∧ w = w' := by
  have hdef : numberV s = if s.data.toList.head? = some 45 then (if (wholeV (s.extract 1 s.size)).2 = false ∨ (wholeV (s.extract 1 s.size)).1 < 1 ∨ 9223372036854775808 < (wholeV (s.extract 1 s.size)).1 then (0, false) else (-(wholeV (s.extract 1 s.size)).1, true))
    else (if (wholeV s).2 = false ∨ 9223372036854775807 < (wholeV s).1 then (0, false) else ((wholeV s).1, true)) := rfl
  have hw1 := Ref.whole_ok s (by omega)
  have hw2 := Ref.whole_ok (s.extract 1 s.size) (by rw [ByteArray.size_extract]; omega)
  have b1 := wholeV_bd s
  have b2 := wholeV_bd (s.extract 1 s.size)
  obtain ⟨⟨n1, o1⟩, h1⟩ : ∃ p, wholeV s = p := ⟨_, rfl⟩
  obtain ⟨⟨n2, o2⟩, h2⟩ : ∃ p, wholeV (s.extract 1 s.size) = p := ⟨_, rfl⟩
  rw [h1] at hw1 b1 hdef
  rw [h2] at hw2 b2 hdef
  dsimp only at hw1 hw2 b1 b2 hdef
  have HD := Lib.hid hdef
  have hh : (0 < s.size ∧ s.data.toList.head? = some 45) ∨ ((s.size = 0 ∨ 0 < s.size) ∧ s.data.toList.head? ≠ some 45) := by
    by_cases h : s.data.toList.head? = some 45
    · refine .inl ⟨?_, h⟩
      rcases Nat.eq_zero_or_pos s.size with h0 | h0
      · have : s.data.toList = [] := List.eq_nil_of_length_eq_zero (by rw [Array.length_toList]; exact h0)
        rw [this] at h; simp at h
      · exact h0
    · exact .inr ⟨by omega, h⟩
  clear h1 h2 hdef
  rcases hh with ⟨h0, hm⟩ | ⟨h0, hm⟩
  · have hd0 : s.data.toList.head? = some s[0] := by rw [List.head?_eq_getElem?, data_at h0]
    have e1 : ((s[0].toNat : Int) == 45) = true := by
      rw [hd0] at hm
      rw [Option.some.inj hm]; rfl
    have d0 : decide (0 < (s.size : Int)) = true := decide_eq_true (by omega)
    have hx : numberV s = if o2 = false ∨ n2 < 1 ∨ 9223372036854775808 < n2 then (0, false) else (-n2, true) := by rw [HD.out, if_pos hm]
    have HX := Lib.hid hx
    have i1 : (1 : Int) ≤ (s.size : Int) := by omega
    clear hm hd0 hx hw1 b1
    go_enter Tryd.func75, Tryd.ntmps75
    go_upto_region 3 with (go_at_call 90; refine (hw2 _).mono ?_; rintro e w2 ⟨rfl, rfl⟩)
    cases o2
    · have HY := Lib.hid (show numberV s = (0, false) by rw [HX.out]; simp)
      go_wp2
      go_ret2
      exact ⟨ret2J HY.out, rfl⟩
    by_cases c1 : n2 < 1
    · have HY := Lib.hid (show numberV s = (0, false) by rw [HX.out]; simp [c1])
      have q1 : decide (n2 < 1) = true := decide_eq_true c1
      go_wp2
      go_ret2
      exact ⟨ret2J HY.out, rfl⟩
    have q1 : decide (n2 < 1) = false := decide_eq_false c1
    by_cases c2 : 9223372036854775808 < n2
    · have HY := Lib.hid (show numberV s = (0, false) by rw [HX.out]; simp [c2])
      have q2 : decide (9223372036854775808 < n2) = true := decide_eq_true c2
      go_wp2
      go_ret2
      exact ⟨ret2J HY.out, rfl⟩
    have q2 : decide (9223372036854775808 < n2) = false := decide_eq_false c2
    have HY := Lib.hid (show numberV s = (-n2, true) by rw [HX.out, if_neg (by simp [c1, c2])])
    have hwr : wrap64 (-(wrap64 n2)) = -n2 := by
      unfold wrap64
      omega
    clear c1 c2
    go_wp2
    go_ret2
    exact ⟨by rw [HY.out]; show Ending.returned (.tuple #[.int .i64 (wrap64 (-(wrap64 n2))), .bool true]) = _; rw [hwr], rfl⟩
  · have hx : numberV s = if o1 = false ∨ 9223372036854775807 < n1 then (0, false) else (n1, true) := by rw [HD.out, if_neg hm]
    have HX := Lib.hid hx
    have hc : (decide (0 < (s.size : Int)) = false) ∨ (∃ h : 0 < s.size, ((s[0].toNat : Int) == 45) = false) := by
      rcases h0 with h0 | h0
      · exact .inl (decide_eq_false (by omega))
      · refine .inr ⟨h0, ?_⟩
        have hd0 : s.data.toList.head? = some s[0] := by rw [List.head?_eq_getElem?, data_at h0]
        rw [hd0] at hm
        rw [beq_eq_false_iff_ne]
        intro e
        exact hm (congrArg some (UInt8.toNat_inj.1 (by have : (45 : UInt8).toNat = 45 := rfl; omega)))
    clear hm hx hw2 b2 h0
    go_enter Tryd.func75, Tryd.ntmps75
    go_upto_region 1 with (fail)
    go_cut [15] (fun t15 wc => t15 = .bool false ∧ w = wc)
    case first =>
      rcases hc with d0 | ⟨h0, e1⟩
      · go_wp2
        all_goals (go_meet; exact ⟨by first | rfl | simp_all, rfl⟩)
      · have d0 : decide (0 < (s.size : Int)) = true := decide_eq_true (by omega)
        go_wp2
        go_meet
        exact ⟨by first | rfl | rw [e1], rfl⟩
    case rest =>
      obtain ⟨rfl, rfl⟩ := hcut
      clear hc
      go_upto_region 7 with (go_at_call 90; refine (hw1 _).mono ?_; rintro e w2 ⟨rfl, rfl⟩)
      cases o1
      · have HY := Lib.hid (show numberV s = (0, false) by rw [HX.out]; simp)
        go_wp2
        go_ret2
        exact ⟨ret2J HY.out, rfl⟩
      by_cases c2 : 9223372036854775807 < n1
      · have HY := Lib.hid (show numberV s = (0, false) by rw [HX.out]; simp [c2])
        have q2 : decide (9223372036854775807 < n1) = true := decide_eq_true c2
        go_wp2
        go_ret2
        exact ⟨ret2J HY.out, rfl⟩
      have q2 : decide (9223372036854775807 < n1) = false := decide_eq_false c2
      have HY := Lib.hid (show numberV s = (n1, true) by rw [HX.out, if_neg (by simp [c2])])
      have hwr : IntKind.i64.wrap n1 = n1 := by rw [IntWalk.i64_in] <;> omega
      clear c2
      go_wp2
      go_ret2
      exact ⟨ret2J HY.out, rfl⟩
def RefReadsPost (w0 : World) (L : List At) (ws : List ByteArray) (e : Ending) (w' : World) : Prop :=
  match readV ws with | some l => ∃ u, e = .returned (.tuple #[u, .bool true]) ∧ HL w0 w' (intsR w0.heap.size u l :: L) | none => e = .returned (.tuple #[.slice none 0 0, .bool false]) ∧ HL w0 w' L
theorem refReads_some {ws : List ByteArray} {l : List Int} (h : readV ws = some l) {u : Value} {w' : World} (H : HL w0 w' (intsR w0.heap.size u l :: L)) : RefReadsPost w0 L ws (.returned (.tuple #[u, .bool true])) w' := by
  unfold RefReadsPost; rw [h]; exact ⟨u, rfl, H⟩
theorem refReads_none {ws : List ByteArray} (h : readV ws = none) {w' : World} (H : HL w0 w' L) : RefReadsPost w0 L ws (.returned (.tuple #[.slice none 0 0, .bool false])) w' := by
  unfold RefReadsPost; rw [h]; exact ⟨rfl, H⟩
set_option maxRecDepth 100000 in
set_option maxHeartbeats 2000000 in
theorem Ref.read_ok (H : HL w0 w L) {ws : List ByteArray} (h : Strs w0 L v ws) (hz : ∀ s ∈ ws, s.size ≤ 1000000000) (hl : ws.length ≤ 4294967296) :
    Calls Tryd.prog 56 #[v] w (RefReadsPost w0 L ws) := by
  obtain ⟨A, c, rfl, hc1, hc2⟩ := rd_shape (h w H)
  unfold maxLen at hc2
  have HE := Lib.hid h; have HZ := Lib.hid hz
  have H1 : HL w0 w (intsR w0.heap.size (.slice none 0 0) [] :: L) := H.nilRow _ _ _
  clear h hz H
  go_enter Tryd.func56, Tryd.ntmps56
  go_wp2
  go_loopg [4, 11] ws.length (fun g u i wr => ∃ (k : Nat) (l : List Int), i = .int .i64 k ∧ k + g = ws.length ∧ readV (ws.take k) = some l ∧ HL w0 wr (intsR w0.heap.size u l :: L))
  case atStart => exact ⟨0, [], rfl, by omega, rfl, H1⟩
  case round =>
    obtain ⟨k, l, rfl, hk, ht, HK⟩ := hrel
    have hlen := readV_len _ _ ht
    have hlk : l.length ≤ ws.length := by rw [hlen, List.length_take]; omega
    have HT := Lib.hid ht
    clear ht H1 hlen
    obtain ⟨A4, c4, rfl, -, hc3, hc4⟩ := row_shape (show wr.ownsRow w0.heap.size 3 1 u4 l.length (intC l) from HK.head)
    unfold maxLen at hc4
    by_cases hlt : k < ws.length
    · obtain ⟨x, hx⟩ : ∃ x, ws[k]? = some x := ⟨_, List.getElem?_eq_getElem hlt⟩
      obtain ⟨b1, o1, c1, hv, d0⟩ := str_at (HE.out _ HK.tail) hx
      simp only [Value.slice.injEq] at hv
      obtain ⟨rfl, -, rfl⟩ := hv
      have hnum := Ref.number_ok x (HZ.out x (List.mem_of_getElem? hx))
      have HB := Lib.hid (fun h => readV_bad hx h)
      have hgood : (numberV x).2 = true → readV (ws.take (k + 1)) = some (l ++ [(numberV x).1]) := fun hn => by
        rw [List.take_add_one, hx, readV_app, HT.out]; simp [readV, hn]
      have HG := Lib.hid hgood
      obtain ⟨⟨n, o⟩, hno⟩ : ∃ p, numberV x = p := ⟨_, rfl⟩
      rw [hno] at hnum HB HG
      dsimp only at hnum HB HG
      clear hgood hx hno
      go_upto_region 6 with (go_at_call 75; refine (hnum _).mono ?_; rintro e w2 ⟨rfl, rfl⟩)
      cases o
      · have HN := Lib.hid (HB.out rfl)
        go_wp2
        go_ret2
        exact refReads_none HN.out HK.tail
      · have HN := Lib.hid (HG.out rfl)
        have HA := HK.alloc' (.cells #[.int .i64 n] 3)
        have hr4 := rd_int (w := wr) (y := n)
        go_wp2_with (at_builtin; refine append_int (v := .slice A4 l.length c4) (xs := l) (y := n) (b := wr.heap.size) rfl _ _ rfl HA rfl rfl hr4 (by omega) ?_; intro z5 w8 H8; clear HA hr4 HK)
        go_roundg (gk - 1)
        case measure => omega
        case rel => exact ⟨k + 1, l ++ [n], by go_num, by omega, HN.out, H8⟩
    · have hend : readV ws = some l := by have := HT.out; rwa [List.take_of_length_le (by omega)] at this
      have HN := Lib.hid hend
      clear hend
      go_wp2
      go_ret2
      exact refReads_some HN.out HK
end
end Go.Proofs.YtdekbbffoaphhaaDoor
/- The reference's reading of an event's line is the program's (plain). -/
set_option linter.unusedVariables false
set_option linter.unusedSimpArgs false
namespace Go.Proofs.An
/-- The state that a word tells, as far as an end may have it. -/
def stE (s : ByteArray) : Int := if 3 ≤ stN s then stN s else 0
/-- Is it an end's line. -/
def isE (W : List ByteArray) : Prop := W.headD ⟨#[]⟩ = endW ∧ W.length = 4
instance (W : List ByteArray) : Decidable (isE W) := by unfold isE; exact inferInstance
def refEv (s : ByteArray) (n : List Int) (nd : Int) (b : Bool) : Option Ev :=
  if s = submitB ∧ n.length = 4 then some ⟨1, n.getD 0 0, n.getD 1 0, n.getD 2 0, n.getD 3 0, []⟩
  else if s = startB ∧ 2 ≤ n.length then some ⟨2, n.getD 0 0, n.getD 1 0, 0, 0, n.drop 2⟩
  else if b = true ∧ n.length = 2 then some ⟨3, n.getD 0 0, n.getD 1 0, nd, 0, []⟩
  else if s = pinB ∧ n.length = 2 then some ⟨4, n.getD 0 0, n.getD 1 0, 0, 0, []⟩
  else if s = passB ∧ 1 ≤ n.length then some ⟨5, 0, n.getD 0 0, 0, 0, n.drop 1⟩
  else if s = tickB ∧ n.length = 1 then some ⟨6, 0, n.getD 0 0, 0, 0, []⟩
  else if s = decayB ∧ n.length = 1 then some ⟨7, 0, n.getD 0 0, 0, 0, []⟩
  else none
def refCand (W : List ByteArray) : Option Ev :=
  if isE W then match readV ((W.take 3).drop 1) with | none => none | some n => refEv (W.headD ⟨#[]⟩) n (stE (W.getLastD ⟨#[]⟩)) true
  else match readV (W.drop 1) with | none => none | some n => refEv (W.headD ⟨#[]⟩) n 0 false
def refReadE (s : ByteArray) : Ev × Int := match refCand (wordsC 32 s) with | none => (zE, 90) | some e => if right e = true ∧ evS e = s then (e, 0) else (zE, 90)
theorem refEv_ok {s : ByteArray} {n : List Int} {nd : Int} {b : Bool} {e : Ev} (h : refEv s n nd b = some e) (hn : Fits n) (hl : n.length ≤ 4294967296) (h0 : 0 ≤ nd) (h1 : nd ≤ 6) : EvOk e := by
  have hd : ∀ k, Fits (n.drop k) := fun k m hm => hn m (List.mem_of_mem_drop hm)
  have h0 := fits_getD hn 0
  have h1 := fits_getD hn 1
  have h2 := fits_getD hn 2
  have h3 := fits_getD hn 3
  unfold refEv at h
  repeat' split at h
  all_goals first
    | (simp only [Option.some.injEq] at h; subst h; exact ⟨by first | assumption | simp, by first | assumption | simp, by first | assumption | (simp only; omega), by first | assumption | simp, by first | exact hd _ | exact fits0, by first | (simp only [List.length_drop]; omega) | simp⟩)
    | cases h
theorem stE_bounds (s : ByteArray) : 0 ≤ stE s ∧ stE s ≤ 6 := by
  have := stN_bounds s
  unfold stE
  split <;> omega
theorem stE_back {n : Int} (h0 : 3 ≤ n) (h1 : n ≤ 6) : stE (stW n) = n := by
  unfold stE
  rw [stN_back h0 h1, if_pos h0]
theorem numberV_back {n : Int} (h0 : -9223372036854775808 ≤ n) (h1 : n ≤ 9223372036854775807) : numberV (itB n) = (n, true) := by
  by_cases hn : n < 0
  · obtain ⟨u, rfl⟩ : ∃ u : Nat, n = -(u : Int) := ⟨(-n).toNat, by omega⟩
    have hi : Lib.itoa (-(u : Int)) = 45 :: Lib.decDigits u := by
      unfold Lib.itoa
      rw [if_pos (by omega)]
      congr 2
      omega
    have hx : (itB (-(u : Int))).extract 1 (itB (-(u : Int))).size = toB (Lib.decDigits u) := bytes_ext (by
      rw [extract_last, toB_data]
      show (List.drop 1 (Lib.itoa (-(u : Int)))) = _
      rw [hi]; rfl)
    have hw : wholeV (toB (Lib.decDigits u)) = ((u : Int), true) := wholeV_some (numR_some.2 ⟨by rw [toB_data], by omega⟩)
    unfold numberV
    rw [if_pos (show (itB (-(u : Int))).data.toList.head? = some 45 by show (Lib.itoa (-(u : Int))).head? = _; rw [hi]; rfl), hx, hw]
    simp only
    rw [if_neg (by simp; omega)]
  · obtain ⟨u, rfl⟩ : ∃ u : Nat, n = (u : Int) := ⟨n.toNat, by omega⟩
    have hi : Lib.itoa (u : Int) = Lib.decDigits u := by
      unfold Lib.itoa
      rw [if_neg (by omega)]
      congr 1
    have hd := dec_num u u (Nat.le_refl _)
    have hh : (Lib.decDigits u).head? ≠ some 45 := by
      intro h
      have := dec_digits u u (Nat.le_refl _) 45 (List.mem_of_mem_head? (by rw [h]; rfl))
      have e : (45 : UInt8).toNat = 45 := rfl
      omega
    have hw : wholeV (itB (u : Int)) = ((u : Int), true) := wholeV_some (numR_some.2 ⟨by show Lib.decDigits u = Lib.itoa (u : Int); rw [hi], by omega⟩)
    unfold numberV
    rw [if_neg (show (itB (u : Int)).data.toList.head? ≠ some 45 by show (Lib.itoa (u : Int)).head? ≠ _; rw [hi]; exact hh), hw]
    simp only
    rw [if_neg (by simp; omega)]
theorem readV_back : ∀ (l : List Int), Fits l → readV (allW l) = some l
  | [], _ => rfl
  | n :: l, h => by
    have h1 := h n (List.mem_cons_self ..)
    show readV (itB n :: allW l) = _
    simp only [readV]
    rw [numberV_back h1.1 h1.2, readV_back l (fun m hm => h m (List.mem_cons_of_mem _ hm))]
    rfl
theorem refCand_no {W : List ByteArray} (h : ¬ isE W) {n : List Int} (hn : readV (W.drop 1) = some n) : refCand W = refEv (W.headD ⟨#[]⟩) n 0 false := by
  unfold refCand; rw [if_neg h, hn]
theorem refCand_cons {x : ByteArray} (h : x ≠ endW) {r : List ByteArray} {n : List Int} (hn : readV r = some n) : refCand (x :: r) = refEv x n 0 false := by
  rw [refCand_no (W := x :: r) (n := n) (fun g => h g.1) hn, List.headD_cons]
theorem refCand_back {e : Ev} (h : right e = true) (hok : EvOk e) : refCand (onlyW e) = some e := by
  have hk7 := kinds7 h
  obtain ⟨k, j, t, n, m, l⟩ := e
  obtain ⟨h1, h2, h3, h4, h5, -⟩ := hok
  simp only [right, Bool.and_eq_true] at h
  obtain ⟨h, -⟩ := h
  rcases hk7 with hk | hk | hk | hk | hk | hk | hk <;> simp only at hk h1 h2 h3 h4 h5 <;> subst hk
  · rw [okK_1 rfl] at h
    have hl : l = [] := none_list h
    subst hl
    have hn : readV (allW [j, t, n, m]) = some [j, t, n, m] := readV_back _ (fitsC h1 (fitsC h2 (fitsC h3 (fitsC h4 fits0))))
    have e1 : onlyW ⟨1, j, t, n, m, []⟩ = submitB :: allW [j, t, n, m] := rfl
    rw [e1, refCand_cons (by decide) hn]
    rfl
  · rw [okK_2 rfl] at h
    simp only [bareB, Bool.and_eq_true, beq_iff_eq] at h
    obtain ⟨⟨rfl, rfl⟩, -⟩ := h
    have hn : readV (allW ([j, t] ++ l)) = some (j :: t :: l) := readV_back _ (fitsC h1 (fitsC h2 h5))
    have e1 : onlyW ⟨2, j, t, 0, 0, l⟩ = startB :: allW ([j, t] ++ l) := rfl
    rw [e1, refCand_cons (by decide) hn]
    unfold refEv
    rw [if_neg (fun h => absurd h.1 (by decide)), if_pos ⟨rfl, by simp only [List.length_cons]; omega⟩]
    rfl
  · rw [okK_3 rfl] at h
    simp only [Bool.and_eq_true, beq_iff_eq, decide_eq_true_eq] at h
    obtain ⟨⟨⟨g1, g2⟩, rfl⟩, g3⟩ := h
    have hl : l = [] := none_list g3
    subst hl
    have hn : readV (allW [j, t]) = some [j, t] := readV_back _ (fitsC h1 (fitsC h2 fits0))
    have e1 : onlyW ⟨3, j, t, n, 0, []⟩ = [endB, itB j, itB t, stW n] := rfl
    unfold refCand
    rw [e1, if_pos (by exact ⟨rfl, rfl⟩), show (List.take 3 [endB, itB j, itB t, stW n]).drop 1 = allW [j, t] from rfl, hn, show [endB, itB j, itB t, stW n].getLastD ⟨#[]⟩ = stW n from rfl, stE_back g1 g2]
    rfl
  · rw [okK_4 rfl] at h
    simp only [bareB, Bool.and_eq_true, beq_iff_eq] at h
    obtain ⟨⟨rfl, rfl⟩, g⟩ := h
    have hl : l = [] := none_list g
    subst hl
    have hn : readV (allW [j, t]) = some [j, t] := readV_back _ (fitsC h1 (fitsC h2 fits0))
    have e1 : onlyW ⟨4, j, t, 0, 0, []⟩ = pinB :: allW [j, t] := rfl
    rw [e1, refCand_cons (by decide) hn]
    rfl
  · rw [okK_5 rfl] at h
    simp only [bareB, Bool.and_eq_true, beq_iff_eq] at h
    obtain ⟨⟨⟨rfl, rfl⟩, rfl⟩, -⟩ := h
    have hn : readV (allW ([t] ++ l)) = some (t :: l) := readV_back _ (fitsC h2 h5)
    have e1 : onlyW ⟨5, 0, t, 0, 0, l⟩ = passB :: allW ([t] ++ l) := rfl
    rw [e1, refCand_cons (by decide) hn]
    unfold refEv
    rw [if_neg (fun h => absurd h.1 (by decide)), if_neg (fun h => absurd h.1 (by decide)), if_neg (fun h => absurd h.1 (by decide)), if_neg (fun h => absurd h.1 (by decide)), if_pos ⟨rfl, by simp only [List.length_cons]; omega⟩]
    rfl
  · rw [okK_6 (.inl rfl)] at h
    simp only [bareB, Bool.and_eq_true, beq_iff_eq] at h
    obtain ⟨⟨⟨rfl, rfl⟩, rfl⟩, g⟩ := h
    have hl : l = [] := none_list g
    subst hl
    have hn : readV (allW [t]) = some [t] := readV_back _ (fitsC h2 fits0)
    have e1 : onlyW ⟨6, 0, t, 0, 0, []⟩ = tickB :: allW [t] := rfl
    rw [e1, refCand_cons (by decide) hn]
    rfl
  · rw [okK_6 (.inr rfl)] at h
    simp only [bareB, Bool.and_eq_true, beq_iff_eq] at h
    obtain ⟨⟨⟨rfl, rfl⟩, rfl⟩, g⟩ := h
    have hl : l = [] := none_list g
    subst hl
    have hn : readV (allW [t]) = some [t] := readV_back _ (fitsC h2 fits0)
    have e1 : onlyW ⟨7, 0, t, 0, 0, []⟩ = decayB :: allW [t] := rfl
    rw [e1, refCand_cons (by decide) hn]
    rfl
theorem refCand_ok {s : ByteArray} (hs : s.size ≤ 1000000000) {e : Ev} (h : refCand (wordsC 32 s) = some e) : EvOk e := by
  have hw := wordsC_most 32 s
  unfold refCand at h
  split at h
  · cases hr : readV (((wordsC 32 s).take 3).drop 1) with
    | none => rw [hr] at h; cases h
    | some n =>
      rw [hr] at h
      have hl := readV_len _ _ hr
      simp only [List.length_drop, List.length_take] at hl
      exact refEv_ok h (readV_fits _ _ hr) (by omega) (stE_bounds _).1 (stE_bounds _).2
  · cases hr : readV ((wordsC 32 s).drop 1) with
    | none => rw [hr] at h; cases h
    | some n =>
      rw [hr] at h
      have hl := readV_len _ _ hr
      simp only [List.length_drop] at hl
      exact refEv_ok h (readV_fits _ _ hr) (by omega) (by decide) (by decide)
theorem readE_cases (s : ByteArray) : readE s = (zE, 90) ∨ (right (readE s).1 = true ∧ evS (readE s).1 = s ∧ (readE s).2 = 0) := by
  unfold readE
  cases candW (wordsOf s) with
  | none => exact .inl rfl
  | some e =>
    simp only
    split
    · rename_i h; exact .inr ⟨h.1, h.2, rfl⟩
    · exact .inl rfl
/-- What the reference takes for an event: its words, kind and state by the last word, is it an end. -/
theorem refCand_sel {W : List ByteArray} {s0 : ByteArray} (hs0 : W[0]? = some s0) : ∃ (W1 : List ByteArray) (kd nd : Int) (b : Bool), (W1 = W.take W1.length ∧ 1 ≤ W1.length ∧ W1.length ≤ W.length) ∧ ((b = true ∧ kd = 3 ∧ s0 = endW ∧ W.length = 4 ∧ W1.length = 3 ∧ ∃ sl, W[3]? = some sl ∧ nd = stE sl) ∨ (b = false ∧ kd = 0 ∧ nd = 0 ∧ W1.length = W.length ∧ ¬ (s0 = endW ∧ W.length = 4))) ∧ refCand W = match readV (W1.drop 1) with | none => none | some n => refEv s0 n nd b := by
  have hhead : W.headD ⟨#[]⟩ = s0 := by cases W with
    | nil => simp at hs0
    | cons x r => simpa using hs0
  have hlen : 1 ≤ W.length := by
    rcases Nat.eq_zero_or_pos W.length with h | h
    · rw [List.eq_nil_of_length_eq_zero h] at hs0; simp at hs0
    · exact h
  by_cases h : isE W
  · have h2 := h
    obtain ⟨h3, h4⟩ := h2
    rw [hhead] at h3
    have hl : (W.take 3).length = 3 := by rw [List.length_take]; omega
    refine ⟨W.take 3, 3, stE (W.getLastD ⟨#[]⟩), true, ⟨by rw [hl], by omega, by omega⟩, .inl ⟨rfl, rfl, h3, h4, hl, W.getLastD ⟨#[]⟩, ?_, rfl⟩, ?_⟩
    · rw [List.getLastD_eq_getLast?, List.getLast?_eq_getElem?, h4]
      simp only [Nat.reduceSub]
      rw [List.getElem?_eq_getElem (by omega)]
      rfl
    · unfold refCand
      rw [if_pos h, hhead]
  · refine ⟨W, 0, 0, false, ⟨by rw [List.take_length], hlen, Nat.le_refl _⟩, .inr ⟨rfl, rfl, rfl, rfl, fun g => h ⟨by rw [hhead]; exact g.1, g.2⟩⟩, ?_⟩
    unfold refCand
    rw [if_neg h, hhead]
/-- The state that the loop has found so far. -/
def ndK (s : ByteArray) (k : Nat) : Int := if 3 ≤ stN s ∧ stN s < 3 + (k : Int) then stN s else 0
theorem ndK_0 (s : ByteArray) : ndK s 0 = 0 := by unfold ndK; rw [if_neg (by omega)]
theorem ndK_4 (s : ByteArray) : ndK s 4 = stE s := by
  have := stN_bounds s
  unfold ndK stE
  by_cases h : 3 ≤ stN s
  · rw [if_pos ⟨h, by omega⟩, if_pos h]
  · rw [if_neg (fun g => h g.1), if_neg h]
theorem ndK_hit {s : ByteArray} {k : Nat} (hk : k < 4) (h : stW (3 + (k : Int)) = s) : ndK s (k + 1) = 3 + (k : Int) := by
  have hn : stN s = 3 + (k : Int) := by rw [← h]; exact stN_back (by omega) (by omega)
  unfold ndK
  rw [hn, if_pos ⟨by omega, by omega⟩]
theorem stW_of {s : ByteArray} {n : Int} (h : stN s = n) (h1 : 1 ≤ n) : stW n = s := by
  unfold stN at h
  repeat' split at h
  all_goals first
    | omega
    | (subst h; first | exact (Eq.symm (by assumption)) | (exfalso; omega))
theorem ndK_miss {s : ByteArray} {k : Nat} (hk : k < 4) (h : stW (3 + (k : Int)) ≠ s) : ndK s (k + 1) = ndK s k := by
  have hn : stN s ≠ 3 + (k : Int) := fun g => h (stW_of g (by omega))
  unfold ndK
  by_cases h3 : 3 ≤ stN s ∧ stN s < 3 + (k : Int)
  · rw [if_pos h3, if_pos ⟨h3.1, by omega⟩]
  · rw [if_neg h3, if_neg (fun g => h3 ⟨g.1, by omega⟩)]
theorem refEv_1 {n : List Int} {nd : Int} : refEv submitB n nd false = if n.length = 4 then some ⟨1, n.getD 0 0, n.getD 1 0, n.getD 2 0, n.getD 3 0, []⟩ else none := by
  unfold refEv
  by_cases h : n.length = 4
  · rw [if_pos ⟨rfl, h⟩, if_pos h]
  · rw [if_neg (fun g => h g.2), if_neg (fun g => absurd g.1 (by decide)), if_neg (fun g => absurd g.1 (by decide)), if_neg (fun g => absurd g.1 (by decide)), if_neg (fun g => absurd g.1 (by decide)), if_neg (fun g => absurd g.1 (by decide)), if_neg (fun g => absurd g.1 (by decide)), if_neg h]
theorem refEv_2 {n : List Int} {nd : Int} : refEv startB n nd false = if 2 ≤ n.length then some ⟨2, n.getD 0 0, n.getD 1 0, 0, 0, n.drop 2⟩ else none := by
  unfold refEv
  rw [if_neg (fun g => absurd g.1 (by decide))]
  by_cases h : 2 ≤ n.length
  · rw [if_pos ⟨rfl, h⟩, if_pos h]
  · rw [if_neg (fun g => h g.2), if_neg (fun g => absurd g.1 (by decide)), if_neg (fun g => absurd g.1 (by decide)), if_neg (fun g => absurd g.1 (by decide)), if_neg (fun g => absurd g.1 (by decide)), if_neg (fun g => absurd g.1 (by decide)), if_neg h]
theorem refEv_3 {n : List Int} {nd : Int} : refEv endW n nd true = if n.length = 2 then some ⟨3, n.getD 0 0, n.getD 1 0, nd, 0, []⟩ else none := by
  unfold refEv
  rw [if_neg (fun g => absurd g.1 (by decide)), if_neg (fun g => absurd g.1 (by decide))]
  by_cases h : n.length = 2
  · rw [if_pos ⟨rfl, h⟩, if_pos h]
  · rw [if_neg (fun g => h g.2), if_neg (fun g => absurd g.1 (by decide)), if_neg (fun g => absurd g.1 (by decide)), if_neg (fun g => absurd g.1 (by decide)), if_neg (fun g => absurd g.1 (by decide)), if_neg h]
theorem refEv_4 {n : List Int} {nd : Int} : refEv pinB n nd false = if n.length = 2 then some ⟨4, n.getD 0 0, n.getD 1 0, 0, 0, []⟩ else none := by
  unfold refEv
  rw [if_neg (fun g => absurd g.1 (by decide)), if_neg (fun g => absurd g.1 (by decide)), if_neg (fun g => absurd g.1 (by decide))]
  by_cases h : n.length = 2
  · rw [if_pos ⟨rfl, h⟩, if_pos h]
  · rw [if_neg (fun g => h g.2), if_neg (fun g => absurd g.1 (by decide)), if_neg (fun g => absurd g.1 (by decide)), if_neg (fun g => absurd g.1 (by decide)), if_neg h]
theorem refEv_5 {n : List Int} {nd : Int} : refEv passB n nd false = if 1 ≤ n.length then some ⟨5, 0, n.getD 0 0, 0, 0, n.drop 1⟩ else none := by
  unfold refEv
  rw [if_neg (fun g => absurd g.1 (by decide)), if_neg (fun g => absurd g.1 (by decide)), if_neg (fun g => absurd g.1 (by decide)), if_neg (fun g => absurd g.1 (by decide))]
  by_cases h : 1 ≤ n.length
  · rw [if_pos ⟨rfl, h⟩, if_pos h]
  · rw [if_neg (fun g => h g.2), if_neg (fun g => absurd g.1 (by decide)), if_neg (fun g => absurd g.1 (by decide)), if_neg h]
theorem refEv_6 {n : List Int} {nd : Int} : refEv tickB n nd false = if n.length = 1 then some ⟨6, 0, n.getD 0 0, 0, 0, []⟩ else none := by
  unfold refEv
  rw [if_neg (fun g => absurd g.1 (by decide)), if_neg (fun g => absurd g.1 (by decide)), if_neg (fun g => absurd g.1 (by decide)), if_neg (fun g => absurd g.1 (by decide)), if_neg (fun g => absurd g.1 (by decide))]
  by_cases h : n.length = 1
  · rw [if_pos ⟨rfl, h⟩, if_pos h]
  · rw [if_neg (fun g => h g.2), if_neg (fun g => absurd g.1 (by decide)), if_neg h]
theorem refEv_7 {n : List Int} {nd : Int} : refEv decayB n nd false = if n.length = 1 then some ⟨7, 0, n.getD 0 0, 0, 0, []⟩ else none := by
  unfold refEv
  rw [if_neg (fun g => absurd g.1 (by decide)), if_neg (fun g => absurd g.1 (by decide)), if_neg (fun g => absurd g.1 (by decide)), if_neg (fun g => absurd g.1 (by decide)), if_neg (fun g => absurd g.1 (by decide)), if_neg (fun g => absurd g.1 (by decide))]
  by_cases h : n.length = 1
  · rw [if_pos ⟨rfl, h⟩, if_pos h]
  · rw [if_neg (fun g => h g.2), if_neg h]
theorem refEv_no {s : ByteArray} {n : List Int} {nd : Int} (h1 : s ≠ submitB) (h2 : s ≠ startB) (h4 : s ≠ pinB) (h5 : s ≠ passB) (h6 : s ≠ tickB) (h7 : s ≠ decayB) : refEv s n nd false = none := by
  unfold refEv
  rw [if_neg (fun g => h1 g.1), if_neg (fun g => h2 g.1), if_neg (fun g => absurd g.1 (by decide)), if_neg (fun g => h4 g.1), if_neg (fun g => h5 g.1), if_neg (fun g => h6 g.1), if_neg (fun g => h7 g.1)]
theorem refEv_few {s : ByteArray} {n : List Int} {nd : Int} {b : Bool} {e : Ev} (h : refEv s n nd b = some e) : e.list.length ≤ n.length := by
  unfold refEv at h
  repeat' split at h
  all_goals first
    | (simp only [Option.some.injEq] at h; subst h; simp only [List.length_drop, List.length_nil]; omega)
    | cases h
theorem word_iff {s X : ByteArray} {l : List UInt8} (h : X.toList = l) : (s.toList == l) = true ↔ s = X := by
  rw [beq_iff_eq]
  exact ⟨fun e => Go.Proofs.YtdekbbffoaphhaaDoor.bytesSame (e.trans h.symm), fun e => by rw [e, h]⟩
theorem len_is {n : List Int} {k : Nat} : ((n.length : Int) == (k : Int)) = true ↔ n.length = k := by
  rw [beq_iff_eq]; omega
theorem len_ge {n : List Int} {k : Nat} : decide ((k : Int) ≤ (n.length : Int)) = true ↔ k ≤ n.length := by
  rw [decide_eq_true_iff]; omega
/-- The reference's tests, as its code takes them. -/
theorem refEv_tests (s : ByteArray) (n : List Int) (nd : Int) {b : Bool} {kd : Int} (hb : (kd == 3) = b) : refEv s n nd b =
  if ((s.toList == [115, 117, 98, 109, 105, 116]) && ((n.length : Int) == 4)) = true then some ⟨1, n.getD 0 0, n.getD 1 0, n.getD 2 0, n.getD 3 0, []⟩
  else if ((s.toList == [115, 116, 97, 114, 116]) && decide ((2 : Int) ≤ (n.length : Int))) = true then some ⟨2, n.getD 0 0, n.getD 1 0, 0, 0, n.drop 2⟩
  else if ((kd == 3) && ((n.length : Int) == 2)) = true then some ⟨3, n.getD 0 0, n.getD 1 0, nd, 0, []⟩
  else if ((s.toList == [112, 105, 110]) && ((n.length : Int) == 2)) = true then some ⟨4, n.getD 0 0, n.getD 1 0, 0, 0, []⟩
  else if ((s.toList == [112, 97, 115, 115]) && decide ((1 : Int) ≤ (n.length : Int))) = true then some ⟨5, 0, n.getD 0 0, 0, 0, n.drop 1⟩
  else if ((s.toList == [116, 105, 99, 107]) && ((n.length : Int) == 1)) = true then some ⟨6, 0, n.getD 0 0, 0, 0, []⟩
  else if ((s.toList == [100, 101, 99, 97, 121]) && ((n.length : Int) == 1)) = true then some ⟨7, 0, n.getD 0 0, 0, 0, []⟩
  else none := by
  have l4 := len_is (n := n) (k := 4); have l2 := len_is (n := n) (k := 2); have l1 := len_is (n := n) (k := 1); have g2 := len_ge (n := n) (k := 2); have g1 := len_ge (n := n) (k := 1)
  simp only [Int.cast_ofNat_Int, Int.natCast_one] at l4 l2 l1 g2 g1
  unfold refEv
  simp only [Bool.and_eq_true, hb, word_iff (s := s) (show submitB.toList = [115, 117, 98, 109, 105, 116] by decide +kernel), word_iff (s := s) (show startB.toList = [115, 116, 97, 114, 116] by decide +kernel), word_iff (s := s) (show pinB.toList = [112, 105, 110] by decide +kernel), word_iff (s := s) (show passB.toList = [112, 97, 115, 115] by decide +kernel), word_iff (s := s) (show tickB.toList = [116, 105, 99, 107] by decide +kernel), word_iff (s := s) (show decayB.toList = [100, 101, 99, 97, 121] by decide +kernel), l4, l2, l1, g2, g1]
end Go.Proofs.An

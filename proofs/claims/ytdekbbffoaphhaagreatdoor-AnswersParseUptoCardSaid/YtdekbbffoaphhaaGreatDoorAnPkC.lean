/- The reference's cut, its numbers. -/
import Derived.Test.YtdekbbffoaphhaaGreatDoorAnPkA
import Derived.WalkSpells
import Derived.Deep.DeepCutAuto
import Derived.Test.YtdekbbffoaphhaaGreatDoorAnPkB
set_option linter.unusedVariables false
set_option linter.unusedSimpArgs false
set_option maxRecDepth 100000
set_option maxHeartbeats 4000000
namespace Go.Proofs.An
/-- A number of digits and whether it is one. -/
def wholeV (s : ByteArray) : Int × Bool := match numR 18446744073709551615 s.data.toList with | some n => ((n : Int), true) | none => (0, false)
theorem wholeV_none {s : ByteArray} (h : numR 18446744073709551615 s.data.toList = none) : wholeV s = (0, false) := by unfold wholeV; rw [h]
theorem wholeV_some {s : ByteArray} {n : Nat} (h : numR 18446744073709551615 s.data.toList = some n) : wholeV s = ((n : Int), true) := by unfold wholeV; rw [h]
theorem wholeV_bd (s : ByteArray) : 0 ≤ (wholeV s).1 ∧ (wholeV s).1 ≤ 18446744073709551615 := by
 unfold wholeV
 cases h : numR 18446744073709551615 s.data.toList with
 | none => simp
 | some n => have := (numR_some.1 h).2; simp only; omega
end Go.Proofs.An
namespace Go.Proofs.YtdekbbffoaphhaaGreatDoor
open Go.RowKit Go.Proofs.HL Go.Proofs.An
section
variable {w0 w : World} {L : List At}
theorem ret2U {a b : Int × Bool} (h : a = b) : Ending.returned (.tuple #[.int .u64 b.1, .bool b.2]) = .returned (.tuple #[.int .u64 a.1, .bool a.2]) := by rw [h]
theorem Ref.cut_ok (H : HL w0 w L) (s : ByteArray) (hs : s.size ≤ 1000000000) (c : UInt8) :
  Calls Tryz.prog 44 #[.string s, .int .u8 (c.toNat : Int)] w fun e w' => ∃ v, e = .returned v ∧ HL w0 w' (strs w0.heap.size v (wordsC c s) :: L) := by
 have hlen : s.data.toList.length = s.size := Array.length_toList
 have H2 : HL w0 w (strs w0.heap.size (.slice none 0 0) [] :: L) := H.nilRow _ _ _
 have HLEN := Lib.hid hlen
 clear hlen H
 go_enter Tryz.func44, Tryz.ntmps44
 go_wp2
 go_loopg [5, 6, 10] s.size (fun g v f i wr => ∃ (k n : Nat) (W : List ByteArray), i = .int .i64 k ∧ f = .int .i64 n ∧ k + g = s.size ∧ W.length ≤ k ∧ Cutting c s.data.toList k n W ∧ HL w0 wr (strs w0.heap.size v W :: L))
 case atStart => exact ⟨0, 0, [], rfl, rfl, by omega, by simp, Cutting.start _ _, H2⟩
 case round =>
  obtain ⟨k, n, W, rfl, rfl, hk, hW, hC, HK⟩ := hrel
  clear H2
  have hnk := hC.from_le
  have HC := Lib.hid hC
  clear hC
  obtain ⟨A5, c5, rfl, -, h51, h52⟩ := row_shape (show wr.ownsRow w0.heap.size 9 1 u5 W.length (W.map fun s => .string s) from HK.head)
  unfold maxLen at h52
  by_cases hlt : k < s.size
  ·have hd : s.data.toList[k]? = some s[k] := data_at hlt
   by_cases c1 : s[k] = c
   ·have e1 : ((s[k].toNat : Int) == (c.toNat : Int)) = true := by rw [c1]; simp
    have HN := Lib.hid (HC.out.cut (by rw [hd, c1]) (extract_piece s n k))
    clear hd c1
    have HX2 := HK.alloc' (.cells #[.string (s.extract n k)] 9)
    have hr4 := rd_str (w := wr) (y := s.extract n k)
    go_wp2_with (at_builtin; refine append_str (v := .slice A5 W.length c5) (xs := W) (y := s.extract n k) (b := wr.heap.size) rfl _ _ rfl HX2 rfl rfl hr4 (by omega) ?_; intro z5 w5 H5; clear HX2 HK)
    go_roundg (gk - 1)
    case measure => omega
    case rel => exact ⟨k + 1, k + 1, W ++ [s.extract n k], by go_num, by go_num, by omega, by simp; omega, HN.out, H5⟩
   ·have e1 : ((s[k].toNat : Int) == (c.toNat : Int)) = false := by
     rw [beq_eq_false_iff_ne]
     intro e
     exact c1 (UInt8.toNat_inj.1 (by omega))
    have HN := Lib.hid (HC.out.skip hd c1)
    clear hd c1
    go_wp2
    go_roundg (gk - 1)
    case measure => omega
    case rel => exact ⟨k + 1, n, W, by go_num, rfl, by omega, by omega, HN.out, HK⟩
  ·obtain rfl : k = s.size := by omega
   have hw := HC.out.words (Nat.le_refl _)
   have HN := Lib.hid hw
   clear hw
   have HX2 := HK.alloc' (.cells #[.string (s.extract n s.size)] 9)
   have hr4 := rd_str (w := wr) (y := s.extract n s.size)
   go_wp2_with (at_builtin; refine append_str (v := .slice A5 W.length c5) (xs := W) (y := s.extract n s.size) (b := wr.heap.size) rfl _ _ rfl HX2 rfl rfl hr4 (by omega) ?_; intro z5 w5 H5; clear HX2 HK)
   go_ret
   exact ⟨_, rfl, by rw [HN.out]; exact H5⟩
theorem Ref.whole_ok (s : ByteArray) (hs : s.size ≤ 9223372036854775807) (w : World) :
  Calls Tryz.prog 77 #[.string s] w fun e w' => e = .returned (.tuple #[.int .u64 (wholeV s).1, .bool (wholeV s).2]) ∧ w = w' := by
 have hlen : s.data.toList.length = s.size := Array.length_toList
 by_cases h1 : s.size < 1
 ·have HF := Lib.hid (wholeV_none (s := s) (numR_bad (fun h => h.1 (List.eq_nil_of_length_eq_zero (by omega)))))
  have d1 : decide ((s.size : Int) < 1) = true := decide_eq_true (by omega)
  go_enter Tryz.func77, Tryz.ntmps77
  go_wp2
  go_ret2
  exact ⟨ret2U HF.out, rfl⟩
 have d1 : decide ((s.size : Int) < 1) = false := decide_eq_false (by omega)
 by_cases h2 : 20 < s.size
 ·have HF := Lib.hid (wholeV_none (s := s) (numR_long (k := 19) (by decide) (by omega)))
  have d2 : decide (20 < (s.size : Int)) = true := decide_eq_true (by omega)
  go_enter Tryz.func77, Tryz.ntmps77
  go_wp2
  go_ret2
  exact ⟨ret2U HF.out, rfl⟩
 have d2 : decide (20 < (s.size : Int)) = false := decide_eq_false (by omega)
 have hp0 : 0 < s.size := by omega
 have hd0 : s.data.toList.head? = some s[0] := by rw [List.head?_eq_getElem?, data_at hp0]
 by_cases h3 : 1 < s.size ∧ (s[0].toNat : Int) = 48
 ·have HF := Lib.hid (wholeV_none (s := s) (numR_bad (fun h => by
   rcases h.2.2 with e | e
   ·omega
   ·rw [hd0] at e
    exact e (congrArg some (UInt8.toNat_inj.1 (by have : (48 : UInt8).toNat = 48 := rfl; omega))))))
  obtain ⟨h3, h4⟩ := h3
  clear hd0 hlen
  have e1 : ((s[0].toNat : Int) == 48) = true := by simp [h4]
  have d3 : decide (1 < (s.size : Int)) = true := decide_eq_true (by omega)
  clear h4
  go_enter Tryz.func77, Tryz.ntmps77
  go_wp2
  go_ret2
  exact ⟨ret2U HF.out, rfl⟩
 have hok : s.size = 1 ∨ s.data.toList.head? ≠ some 48 := by
  rcases Nat.lt_or_ge 1 s.size with h | h
  ·refine .inr (fun e => h3 ⟨h, ?_⟩)
   rw [hd0] at e
   have := congrArg UInt8.toNat (Option.some.inj e)
   have e48 : (48 : UInt8).toNat = 48 := rfl
   omega
  ·exact .inl (by omega)
 have HOK := Lib.hid hok; have HLEN := Lib.hid hlen
 have hcase : (((s[0].toNat : Int) == 48) = false) ∨ (((s[0].toNat : Int) == 48) = true ∧ decide (1 < (s.size : Int)) = false) := by
  cases e1 : ((s[0].toNat : Int) == 48)
  ·exact .inl rfl
  ·refine .inr ⟨rfl, decide_eq_false (fun h => h3 ⟨by omega, by simpa using e1⟩)⟩
 have HCASE := Lib.hid hcase
 clear h3 hok hd0 hlen hcase
 go_enter Tryz.func77, Tryz.ntmps77
 go_upto_region 1 with (fail)
 go_cut [24] (fun t24 wc => t24 = .bool false ∧ w = wc)
 case first =>
  rcases HCASE.out with e1 | ⟨e1, d3⟩
  ·go_wp2
   go_meet
   exact ⟨rfl, rfl⟩
  ·go_wp2
   go_meet
   exact ⟨rfl, rfl⟩
 case rest =>
  obtain ⟨rfl, rfl⟩ := hcut
  clear d1 d2
  go_wp2
  go_loopg [4, 27] s.size (fun g n i wr => ∃ k : Nat, i = .int .i64 k ∧ k + g = s.size ∧ n = .int .u64 (valD (s.data.toList.take k) : Nat) ∧ valD (s.data.toList.take k) ≤ 18446744073709551615 ∧ (∀ c ∈ s.data.toList.take k, digU c = true) ∧ w = wr)
  case atStart => exact ⟨0, rfl, by omega, rfl, by simp [valD], (fun c h => by simp at h), rfl⟩
  case round =>
   obtain ⟨k, rfl, hk, rfl, hv, hdig, rfl⟩ := hrel
   have HDG := Lib.hid hdig
   clear hdig
   by_cases hlt : k < s.size
   ·have hd : s.data.toList[k]? = some s[k] := data_at hlt
    have htk : s.data.toList.take (k + 1) = s.data.toList.take k ++ [s[k]] := by rw [List.take_add_one, hd]; rfl
    have hmem : s[k] ∈ s.data.toList := List.mem_of_getElem? hd
    have hval : valD (s.data.toList.take (k + 1)) = 10 * valD (s.data.toList.take k) + (s[k].toNat - 48) := by rw [htk, valD_snoc]
    have hmono : valD (s.data.toList.take (k + 1)) ≤ valD s.data.toList := by
     have := valD_mono (s.data.toList.take (k + 1)) (s.data.toList.drop (k + 1))
     rwa [List.take_append_drop] at this
    have hbad : digU s[k] = false → wholeV s = (0, false) := fun h => wholeV_none (numR_bad (fun hn => by rw [hn.2.1 _ hmem] at h; cases h))
    have hnx : digU s[k] = true → ∀ c ∈ s.data.toList.take (k + 1), digU c = true := fun h c hc => by
     rw [htk] at hc
     rcases List.mem_append.1 hc with hc | hc
     ·exact HDG.out c hc
     ·rw [List.mem_singleton.1 hc]; exact h
    generalize valD (s.data.toList.take k) = V at *
    generalize hV1 : valD (s.data.toList.take (k + 1)) = V1 at *
    have hgr : 18446744073709551615 < V1 → wholeV s = (0, false) := fun h => wholeV_none (numR_great (by omega))
    have HB := Lib.hid hbad; have HN := Lib.hid hnx; have HV1 := Lib.hid hV1; have HGR := Lib.hid hgr; have HVAL := Lib.hid hval
    clear hbad hnx hd htk hmem hmono hgr hV1 hval
    by_cases c1 : (s[k].toNat : Int) < 48
    ·have HV := Lib.hid (HB.out (by simp [digU]; omega))
     have e1 : decide ((s[k].toNat : Int) < 48) = true := decide_eq_true c1
     go_wp2
     go_ret2
     exact ⟨ret2U HV.out, rfl⟩
    have e1 : decide ((s[k].toNat : Int) < 48) = false := decide_eq_false c1
    by_cases c2 : 57 < (s[k].toNat : Int)
    ·have HV := Lib.hid (HB.out (by simp [digU]; omega))
     have e2 : decide (57 < (s[k].toNat : Int)) = true := decide_eq_true c2
     go_wp2
     go_ret2
     exact ⟨ret2U HV.out, rfl⟩
    have e2 : decide (57 < (s[k].toNat : Int)) = false := decide_eq_false c2
    have hdg : digU s[k] = true := by simp [digU]; omega
    have HND := Lib.hid (HN.out hdg)
    obtain ⟨d, hd⟩ : ∃ d : Nat, (s[k].toNat : Int) - 48 = (d : Int) ∧ d = s[k].toNat - 48 ∧ d ≤ 9 := ⟨s[k].toNat - 48, by omega, rfl, by omega⟩
    obtain ⟨hd1, hd2, hd3⟩ := hd
    have hw0 : IntKind.u64.wrap (s[k].toNat : Int) = (s[k].toNat : Int) := by
     unfold IntKind.wrap
     simp [IntKind.bits, IntKind.signed]
     omega
    have hw1 : IntKind.u64.wrap ((s[k].toNat : Int) - 48) = (d : Int) := by
     rw [hd1]
     unfold IntKind.wrap
     simp [IntKind.bits, IntKind.signed]
     omega
    have hw2 : IntKind.u64.wrap ((18446744073709551615 : Int) - (d : Int)) = 18446744073709551615 - (d : Int) := by
     unfold IntKind.wrap
     simp [IntKind.bits, IntKind.signed]
     omega
    rw [← hd2] at HVAL
    clear hdg hd1 hd2 c1 c2
    obtain ⟨q, hq⟩ : ∃ q : Nat, (18446744073709551615 - (d : Int)) / 10 = (q : Int) ∧ 10 * q ≤ 18446744073709551615 - d ∧ 18446744073709551615 - d < 10 * q + 10 := ⟨(18446744073709551615 - d) / 10, by omega, by omega, by omega⟩
    obtain ⟨hq1, hq2, hq3⟩ := hq
    by_cases c5 : q < V
    ·have e3 : decide ((q : Int) < (V : Int)) = true := decide_eq_true (by omega)
     have HV := Lib.hid (HGR.out (by have := HVAL.out; omega))
     go_wp2
     go_ret2
     exact ⟨ret2U HV.out, rfl⟩
    ·have e3 : decide ((q : Int) < (V : Int)) = false := decide_eq_false (by omega)
     have hv1 : V1 ≤ 18446744073709551615 := by have := HVAL.out; omega
     have hw3 : IntKind.u64.wrap (10 * (V : Int)) = 10 * (V : Int) := by
      unfold IntKind.wrap
      simp [IntKind.bits, IntKind.signed]
      omega
     have hw4 : IntKind.u64.wrap (10 * (V : Int) + (d : Int)) = (V1 : Int) := by
      have := HVAL.out
      unfold IntKind.wrap
      simp [IntKind.bits, IntKind.signed]
      omega
     go_wp2
     go_roundg (gk - 1)
     case measure => omega
     case rel => exact ⟨k + 1, by go_num, by omega, by rw [HV1.out], by rw [HV1.out]; exact hv1, HND.out, rfl⟩
   ·have hnum : wholeV s = (((valD (s.data.toList.take k) : Nat) : Int), true) := by
     rw [List.take_of_length_le (by rw [HLEN.out]; omega)] at hv HDG ⊢
     exact wholeV_some (numR_good ⟨(fun e => by rw [e] at HLEN; have := HLEN.out; simp at this; omega), HDG.out, HOK.out.imp (fun h => by rw [HLEN.out]; exact h) id⟩ hv)
    have HV := Lib.hid hnum
    clear hnum hv
    generalize valD (s.data.toList.take k) = V at *
    go_wp2
    go_ret2
    exact ⟨ret2U HV.out, rfl⟩
end
end Go.Proofs.YtdekbbffoaphhaaGreatDoor
namespace Go.Proofs.An
def numberV (s : ByteArray) : Int × Bool :=
 if s.data.toList.head? = some 45 then (if (wholeV (s.extract 1 s.size)).2 = false ∨ (wholeV (s.extract 1 s.size)).1 < 1 ∨ 9223372036854775808 < (wholeV (s.extract 1 s.size)).1 then (0, false) else (-(wholeV (s.extract 1 s.size)).1, true))
 else (if (wholeV s).2 = false ∨ 9223372036854775807 < (wholeV s).1 then (0, false) else ((wholeV s).1, true))
def readV : List ByteArray → Option (List Int)
 | [] => some []
 | s :: r => if (numberV s).2 = false then none else match readV r with | none => none | some l => some ((numberV s).1 :: l)
theorem readV_app : ∀ (l r : List ByteArray), readV (l ++ r) = match readV l with | none => none | some a => match readV r with | none => none | some b => some (a ++ b)
 | [], r => by simp only [List.nil_append, readV]; cases readV r <;> rfl
 | s :: l, r => by
  rw [List.cons_append, readV, readV, readV_app l r]
  by_cases h : (numberV s).2 = false
  ·rw [if_pos h, if_pos h]
  ·rw [if_neg h, if_neg h]
   cases readV l with
   | none => rfl
   | some a => cases readV r <;> rfl
theorem readV_len : ∀ (l : List ByteArray) (a : List Int), readV l = some a → a.length = l.length
 | [], a, h => by simp only [readV, Option.some.injEq] at h; subst h; rfl
 | s :: l, a, h => by
  simp only [readV] at h
  split at h
  ·cases h
  ·cases hl : readV l with
   | none => rw [hl] at h; cases h
   | some b =>
    rw [hl] at h
    simp only [Option.some.injEq] at h
    subst h
    simp [readV_len l b hl]
theorem readV_bad {ws : List ByteArray} {k : Nat} {s : ByteArray} (hs : ws[k]? = some s) (h : (numberV s).2 = false) : readV ws = none := by
 have hk := (List.getElem?_eq_some_iff.1 hs).1
 have e : ws = ws.take k ++ s :: ws.drop (k + 1) := by
  conv => lhs; rw [← List.take_append_drop k ws]
  rw [List.drop_eq_getElem_cons hk, (List.getElem?_eq_some_iff.1 hs).2]
 rw [e, readV_app]
 cases readV (ws.take k) with
 | none => rfl
 | some a => simp [readV, h]
theorem numberV_bd (s : ByteArray) : -9223372036854775808 ≤ (numberV s).1 ∧ (numberV s).1 ≤ 9223372036854775807 := by
 have h1 := wholeV_bd s
 have h2 := wholeV_bd (s.extract 1 s.size)
 unfold numberV
 split
 ·split
  ·simp
  ·simp only; omega
 ·split
  ·simp
  ·simp only; omega
theorem readV_fits : ∀ (l : List ByteArray) (a : List Int), readV l = some a → Fits a
 | [], a, h => by simp only [readV, Option.some.injEq] at h; subst h; exact fun n hn => by simp at hn
 | s :: l, a, h => by
  simp only [readV] at h
  split at h
  ·cases h
  ·cases hl : readV l with
   | none => rw [hl] at h; cases h
   | some b =>
    rw [hl] at h
    simp only [Option.some.injEq] at h
    subst h
    intro m hm
    rcases List.mem_cons.1 hm with rfl | hm
    ·exact numberV_bd s
    ·exact readV_fits l b hl m hm
end Go.Proofs.An
namespace Go.Proofs.YtdekbbffoaphhaaGreatDoor
open Go.RowKit Go.Proofs.HL Go.Proofs.An
section
variable {w0 w : World} {L : List At} {v : Value}
theorem ret2J {a b : Int × Bool} (h : a = b) : Ending.returned (.tuple #[.int .i64 b.1, .bool b.2]) = .returned (.tuple #[.int .i64 a.1, .bool a.2]) := by rw [h]
theorem Ref.number_ok (s : ByteArray) (hs : s.size ≤ 1000000000) (w : World) :
  Calls Tryz.prog 65 #[.string s] w fun e w' => e = .returned (.tuple #[.int .i64 (numberV s).1, .bool (numberV s).2]) ∧ w = w' := by
 have hdef : numberV s = if s.data.toList.head? = some 45 then (if (wholeV (s.extract 1 s.size)).2 = false ∨ (wholeV (s.extract 1 s.size)).1 < 1 ∨ 9223372036854775808 < (wholeV (s.extract 1 s.size)).1 then (0, false) else (-(wholeV (s.extract 1 s.size)).1, true))
  else (if (wholeV s).2 = false ∨ 9223372036854775807 < (wholeV s).1 then (0, false) else ((wholeV s).1, true)) := rfl
 have hw1 := Ref.whole_ok s (by omega)
 have hw2 := Ref.whole_ok (s.extract 1 s.size) (by rw [ByteArray.size_extract]; omega)
 have b1 := wholeV_bd s
 have b2 := wholeV_bd (s.extract 1 s.size)
 obtain ⟨⟨n1, o1⟩, h1⟩ : ∃ p, wholeV s = p := ⟨_, rfl⟩
 obtain ⟨⟨n2, o2⟩, h2⟩ : ∃ p, wholeV (s.extract 1 s.size) = p := ⟨_, rfl⟩
 rw [h1] at hw1 b1 hdef
 rw [h2] at hw2 b2 hdef
 dsimp only at hw1 hw2 b1 b2 hdef
 have HD := Lib.hid hdef
 have hh : (0 < s.size ∧ s.data.toList.head? = some 45) ∨ ((s.size = 0 ∨ 0 < s.size) ∧ s.data.toList.head? ≠ some 45) := by
  by_cases h : s.data.toList.head? = some 45
  ·refine .inl ⟨?_, h⟩
   rcases Nat.eq_zero_or_pos s.size with h0 | h0
   ·have : s.data.toList = [] := List.eq_nil_of_length_eq_zero (by rw [Array.length_toList]; exact h0)
    rw [this] at h; simp at h
   ·exact h0
  ·exact .inr ⟨by omega, h⟩
 clear h1 h2 hdef
 rcases hh with ⟨h0, hm⟩ | ⟨h0, hm⟩
 ·have hd0 : s.data.toList.head? = some s[0] := by rw [List.head?_eq_getElem?, data_at h0]
  have e1 : ((s[0].toNat : Int) == 45) = true := by
   rw [hd0] at hm
   rw [Option.some.inj hm]; rfl
  have d0 : decide (0 < (s.size : Int)) = true := decide_eq_true (by omega)
  have hx : numberV s = if o2 = false ∨ n2 < 1 ∨ 9223372036854775808 < n2 then (0, false) else (-n2, true) := by rw [HD.out, if_pos hm]
  have HX := Lib.hid hx
  have i1 : (1 : Int) ≤ (s.size : Int) := by omega
  clear hm hd0 hx hw1 b1
  go_enter Tryz.func65, Tryz.ntmps65
  go_upto_region 3 with (go_at_call 77; refine (hw2 _).mono ?_; rintro e w2 ⟨rfl, rfl⟩)
  cases o2
  ·have HY := Lib.hid (show numberV s = (0, false) by rw [HX.out]; simp)
   go_wp2
   go_ret2
   exact ⟨ret2J HY.out, rfl⟩
  by_cases c1 : n2 < 1
  ·have HY := Lib.hid (show numberV s = (0, false) by rw [HX.out]; simp [c1])
   have q1 : decide (n2 < 1) = true := decide_eq_true c1
   go_wp2
   go_ret2
   exact ⟨ret2J HY.out, rfl⟩
  have q1 : decide (n2 < 1) = false := decide_eq_false c1
  by_cases c2 : 9223372036854775808 < n2
  ·have HY := Lib.hid (show numberV s = (0, false) by rw [HX.out]; simp [c2])
   have q2 : decide (9223372036854775808 < n2) = true := decide_eq_true c2
   go_wp2
   go_ret2
   exact ⟨ret2J HY.out, rfl⟩
  have q2 : decide (9223372036854775808 < n2) = false := decide_eq_false c2
  have HY := Lib.hid (show numberV s = (-n2, true) by rw [HX.out, if_neg (by simp [c1, c2])])
  have hwr : wrap64 (-(wrap64 n2)) = -n2 := by
   unfold wrap64
   omega
  clear c1 c2
  go_wp2
  go_ret2
  exact ⟨by rw [HY.out]; show Ending.returned (.tuple #[.int .i64 (wrap64 (-(wrap64 n2))), .bool true]) = _; rw [hwr], rfl⟩
 ·have hx : numberV s = if o1 = false ∨ 9223372036854775807 < n1 then (0, false) else (n1, true) := by rw [HD.out, if_neg hm]
  have HX := Lib.hid hx
  have hc : (decide (0 < (s.size : Int)) = false) ∨ (∃ h : 0 < s.size, ((s[0].toNat : Int) == 45) = false) := by
   rcases h0 with h0 | h0
   ·exact .inl (decide_eq_false (by omega))
   ·refine .inr ⟨h0, ?_⟩
    have hd0 : s.data.toList.head? = some s[0] := by rw [List.head?_eq_getElem?, data_at h0]
    rw [hd0] at hm
    rw [beq_eq_false_iff_ne]
    intro e
    exact hm (congrArg some (UInt8.toNat_inj.1 (by have : (45 : UInt8).toNat = 45 := rfl; omega)))
  clear hm hx hw2 b2 h0
  go_enter Tryz.func65, Tryz.ntmps65
  go_upto_region 1 with (fail)
  go_cut [15] (fun t15 wc => t15 = .bool false ∧ w = wc)
  case first =>
   rcases hc with d0 | ⟨h0, e1⟩
   ·go_wp2
    all_goals (go_meet; exact ⟨by first | rfl | simp_all, rfl⟩)
   ·have d0 : decide (0 < (s.size : Int)) = true := decide_eq_true (by omega)
    go_wp2
    go_meet
    exact ⟨by first | rfl | rw [e1], rfl⟩
  case rest =>
   obtain ⟨rfl, rfl⟩ := hcut
   clear hc
   go_upto_region 7 with (go_at_call 77; refine (hw1 _).mono ?_; rintro e w2 ⟨rfl, rfl⟩)
   cases o1
   ·have HY := Lib.hid (show numberV s = (0, false) by rw [HX.out]; simp)
    go_wp2
    go_ret2
    exact ⟨ret2J HY.out, rfl⟩
   by_cases c2 : 9223372036854775807 < n1
   ·have HY := Lib.hid (show numberV s = (0, false) by rw [HX.out]; simp [c2])
    have q2 : decide (9223372036854775807 < n1) = true := decide_eq_true c2
    go_wp2
    go_ret2
    exact ⟨ret2J HY.out, rfl⟩
   have q2 : decide (9223372036854775807 < n1) = false := decide_eq_false c2
   have HY := Lib.hid (show numberV s = (n1, true) by rw [HX.out, if_neg (by simp [c2])])
   have hwr : IntKind.i64.wrap n1 = n1 := by rw [IntWalk.i64_in] <;> omega
   clear c2
   go_wp2
   go_ret2
   exact ⟨ret2J HY.out, rfl⟩
def RefReadsPost (w0 : World) (L : List At) (ws : List ByteArray) (e : Ending) (w' : World) : Prop :=
 match readV ws with | some l => ∃ u, e = .returned (.tuple #[u, .bool true]) ∧ HL w0 w' (intsR w0.heap.size u l :: L) | none => e = .returned (.tuple #[.slice none 0 0, .bool false]) ∧ HL w0 w' L
theorem refReads_some {ws : List ByteArray} {l : List Int} (h : readV ws = some l) {u : Value} {w' : World} (H : HL w0 w' (intsR w0.heap.size u l :: L)) : RefReadsPost w0 L ws (.returned (.tuple #[u, .bool true])) w' := by
 unfold RefReadsPost; rw [h]; exact ⟨u, rfl, H⟩
theorem refReads_none {ws : List ByteArray} (h : readV ws = none) {w' : World} (H : HL w0 w' L) : RefReadsPost w0 L ws (.returned (.tuple #[.slice none 0 0, .bool false])) w' := by
 unfold RefReadsPost; rw [h]; exact ⟨rfl, H⟩
theorem Ref.read_ok (H : HL w0 w L) {ws : List ByteArray} (h : Strs w0 L v ws) (hz : ∀ s ∈ ws, s.size ≤ 1000000000) (hl : ws.length ≤ 4294967296) :
  Calls Tryz.prog 46 #[v] w (RefReadsPost w0 L ws) := by
 obtain ⟨A, c, rfl, hc1, hc2⟩ := rd_shape (h w H)
 unfold maxLen at hc2
 have HE := Lib.hid h; have HZ := Lib.hid hz
 have H1 : HL w0 w (intsR w0.heap.size (.slice none 0 0) [] :: L) := H.nilRow _ _ _
 clear h hz H
 go_enter Tryz.func46, Tryz.ntmps46
 go_wp2
 go_loopg [4, 11] ws.length (fun g u i wr => ∃ (k : Nat) (l : List Int), i = .int .i64 k ∧ k + g = ws.length ∧ readV (ws.take k) = some l ∧ HL w0 wr (intsR w0.heap.size u l :: L))
 case atStart => exact ⟨0, [], rfl, by omega, rfl, H1⟩
 case round =>
  obtain ⟨k, l, rfl, hk, ht, HK⟩ := hrel
  have hlen := readV_len _ _ ht
  have hlk : l.length ≤ ws.length := by rw [hlen, List.length_take]; omega
  have HT := Lib.hid ht
  clear ht H1 hlen
  obtain ⟨A4, c4, rfl, -, hc3, hc4⟩ := row_shape (show wr.ownsRow w0.heap.size 3 1 u4 l.length (intC l) from HK.head)
  unfold maxLen at hc4
  by_cases hlt : k < ws.length
  ·obtain ⟨x, hx⟩ : ∃ x, ws[k]? = some x := ⟨_, List.getElem?_eq_getElem hlt⟩
   obtain ⟨b1, o1, c1, hv, d0⟩ := str_at (HE.out _ HK.tail) hx
   simp only [Value.slice.injEq] at hv
   obtain ⟨rfl, -, rfl⟩ := hv
   have hnum := Ref.number_ok x (HZ.out x (List.mem_of_getElem? hx))
   have HB := Lib.hid (fun h => readV_bad hx h)
   have hgood : (numberV x).2 = true → readV (ws.take (k + 1)) = some (l ++ [(numberV x).1]) := fun hn => by
    rw [List.take_add_one, hx, readV_app, HT.out]; simp [readV, hn]
   have HG := Lib.hid hgood
   obtain ⟨⟨n, o⟩, hno⟩ : ∃ p, numberV x = p := ⟨_, rfl⟩
   rw [hno] at hnum HB HG
   dsimp only at hnum HB HG
   clear hgood hx hno
   go_upto_region 6 with (go_at_call 65; refine (hnum _).mono ?_; rintro e w2 ⟨rfl, rfl⟩)
   cases o
   ·have HN := Lib.hid (HB.out rfl)
    go_wp2
    go_ret2
    exact refReads_none HN.out HK.tail
   ·have HN := Lib.hid (HG.out rfl)
    have HA := HK.alloc' (.cells #[.int .i64 n] 3)
    have hr4 := rd_int (w := wr) (y := n)
    go_wp2_with (at_builtin; refine append_int (v := .slice A4 l.length c4) (xs := l) (y := n) (b := wr.heap.size) rfl _ _ rfl HA rfl rfl hr4 (by omega) ?_; intro z5 w8 H8; clear HA hr4 HK)
    go_roundg (gk - 1)
    case measure => omega
    case rel => exact ⟨k + 1, l ++ [n], by go_num, by omega, HN.out, H8⟩
  ·have hend : readV ws = some l := by have := HT.out; rwa [List.take_of_length_le (by omega)] at this
   have HN := Lib.hid hend
   clear hend
   go_wp2
   go_ret2
   exact refReads_some HN.out HK
end
end Go.Proofs.YtdekbbffoaphhaaGreatDoor
namespace Go.Proofs.An
/-- The state that a word tells, as far as an end may have it. -/
def stE (s : ByteArray) : Int := if 3 ≤ stN s then stN s else 0
/-- Is it an end's line. -/
def isE (W : List ByteArray) : Prop := W.headD ⟨#[]⟩ = endW ∧ W.length = 4
instance (W : List ByteArray) : Decidable (isE W) := by unfold isE; exact inferInstance
def refEv (s : ByteArray) (n : List Int) (nd : Int) (b : Bool) : Option Ev :=
 if s = submitB ∧ n.length = 4 then some ⟨1, n.getD 0 0, n.getD 1 0, n.getD 2 0, n.getD 3 0, []⟩
 else if s = startB ∧ 2 ≤ n.length then some ⟨2, n.getD 0 0, n.getD 1 0, 0, 0, n.drop 2⟩
 else if b = true ∧ n.length = 2 then some ⟨3, n.getD 0 0, n.getD 1 0, nd, 0, []⟩
 else if s = pinB ∧ n.length = 2 then some ⟨4, n.getD 0 0, n.getD 1 0, 0, 0, []⟩
 else if s = passB ∧ 1 ≤ n.length then some ⟨5, 0, n.getD 0 0, 0, 0, n.drop 1⟩
 else if s = tickB ∧ n.length = 1 then some ⟨6, 0, n.getD 0 0, 0, 0, []⟩
 else if s = decayB ∧ n.length = 1 then some ⟨7, 0, n.getD 0 0, 0, 0, []⟩
 else none
def refCand (W : List ByteArray) : Option Ev :=
 if isE W then match readV ((W.take 3).drop 1) with | none => none | some n => refEv (W.headD ⟨#[]⟩) n (stE (W.getLastD ⟨#[]⟩)) true
 else match readV (W.drop 1) with | none => none | some n => refEv (W.headD ⟨#[]⟩) n 0 false
def refReadE (s : ByteArray) : Ev × Int := match refCand (wordsC 32 s) with | none => (zE, 90) | some e => if right e = true ∧ evS e = s then (e, 0) else (zE, 90)
theorem refEv_ok {s : ByteArray} {n : List Int} {nd : Int} {b : Bool} {e : Ev} (h : refEv s n nd b = some e) (hn : Fits n) (hl : n.length ≤ 4294967296) (h0 : 0 ≤ nd) (h1 : nd ≤ 6) : EvOk e := by
 have hd : ∀ k, Fits (n.drop k) := fun k m hm => hn m (List.mem_of_mem_drop hm)
 have h0 := fits_getD hn 0
 have h1 := fits_getD hn 1
 have h2 := fits_getD hn 2
 have h3 := fits_getD hn 3
 unfold refEv at h
 repeat' split at h
 all_goals first
  | (simp only [Option.some.injEq] at h; subst h; exact ⟨by first | assumption | simp, by first | assumption | simp, by first | assumption | (simp only; omega), by first | assumption | simp, by first | exact hd _ | exact fits0, by first | (simp only [List.length_drop]; omega) | simp⟩)
  | cases h
theorem stE_bounds (s : ByteArray) : 0 ≤ stE s ∧ stE s ≤ 6 := by
 have := stN_bounds s
 unfold stE
 split <;> omega
theorem stE_back {n : Int} (h0 : 3 ≤ n) (h1 : n ≤ 6) : stE (stW n) = n := by
 unfold stE
 rw [stN_back h0 h1, if_pos h0]
theorem numberV_back {n : Int} (h0 : -9223372036854775808 ≤ n) (h1 : n ≤ 9223372036854775807) : numberV (itB n) = (n, true) := by
 by_cases hn : n < 0
 ·obtain ⟨u, rfl⟩ : ∃ u : Nat, n = -(u : Int) := ⟨(-n).toNat, by omega⟩
  have hi : Lib.itoa (-(u : Int)) = 45 :: Lib.decDigits u := by
   unfold Lib.itoa
   rw [if_pos (by omega)]
   congr 2
   omega
  have hx : (itB (-(u : Int))).extract 1 (itB (-(u : Int))).size = toB (Lib.decDigits u) := bytes_ext (by
   rw [extract_last, toB_data]
   show (List.drop 1 (Lib.itoa (-(u : Int)))) = _
   rw [hi]; rfl)
  have hw : wholeV (toB (Lib.decDigits u)) = ((u : Int), true) := wholeV_some (numR_some.2 ⟨by rw [toB_data], by omega⟩)
  unfold numberV
  rw [if_pos (show (itB (-(u : Int))).data.toList.head? = some 45 by show (Lib.itoa (-(u : Int))).head? = _; rw [hi]; rfl), hx, hw]
  simp only
  rw [if_neg (by simp; omega)]
 ·obtain ⟨u, rfl⟩ : ∃ u : Nat, n = (u : Int) := ⟨n.toNat, by omega⟩
  have hi : Lib.itoa (u : Int) = Lib.decDigits u := by
   unfold Lib.itoa
   rw [if_neg (by omega)]
   congr 1
  have hd := dec_num u u (Nat.le_refl _)
  have hh : (Lib.decDigits u).head? ≠ some 45 := by
   intro h
   have := dec_digits u u (Nat.le_refl _) 45 (List.mem_of_mem_head? (by rw [h]; rfl))
   have e : (45 : UInt8).toNat = 45 := rfl
   omega
  have hw : wholeV (itB (u : Int)) = ((u : Int), true) := wholeV_some (numR_some.2 ⟨by show Lib.decDigits u = Lib.itoa (u : Int); rw [hi], by omega⟩)
  unfold numberV
  rw [if_neg (show (itB (u : Int)).data.toList.head? ≠ some 45 by show (Lib.itoa (u : Int)).head? ≠ _; rw [hi]; exact hh), hw]
  simp only
  rw [if_neg (by simp; omega)]
theorem readV_back : ∀ (l : List Int), Fits l → readV (allW l) = some l
 | [], _ => rfl
 | n :: l, h => by
  have h1 := h n (List.mem_cons_self ..)
  show readV (itB n :: allW l) = _
  simp only [readV]
  rw [numberV_back h1.1 h1.2, readV_back l (fun m hm => h m (List.mem_cons_of_mem _ hm))]
  rfl
theorem refCand_no {W : List ByteArray} (h : ¬ isE W) {n : List Int} (hn : readV (W.drop 1) = some n) : refCand W = refEv (W.headD ⟨#[]⟩) n 0 false := by
 unfold refCand; rw [if_neg h, hn]
theorem refCand_cons {x : ByteArray} (h : x ≠ endW) {r : List ByteArray} {n : List Int} (hn : readV r = some n) : refCand (x :: r) = refEv x n 0 false := by
 rw [refCand_no (W := x :: r) (n := n) (fun g => h g.1) hn, List.headD_cons]
theorem refCand_back {e : Ev} (h : right e = true) (hok : EvOk e) : refCand (onlyW e) = some e := by
 have hk7 := kinds7 h
 obtain ⟨k, j, t, n, m, l⟩ := e
 obtain ⟨h1, h2, h3, h4, h5, -⟩ := hok
 simp only [right, Bool.and_eq_true] at h
 obtain ⟨h, -⟩ := h
 rcases hk7 with hk | hk | hk | hk | hk | hk | hk <;> simp only at hk h1 h2 h3 h4 h5 <;> subst hk
 ·rw [okK_1 rfl] at h
  have hl : l = [] := none_list h
  subst hl
  have hn : readV (allW [j, t, n, m]) = some [j, t, n, m] := readV_back _ (fitsC h1 (fitsC h2 (fitsC h3 (fitsC h4 fits0))))
  have e1 : onlyW ⟨1, j, t, n, m, []⟩ = submitB :: allW [j, t, n, m] := rfl
  rw [e1, refCand_cons (by decide) hn]
  rfl
 ·rw [okK_2 rfl] at h
  simp only [bareB, Bool.and_eq_true, beq_iff_eq] at h
  obtain ⟨⟨rfl, rfl⟩, -⟩ := h
  have hn : readV (allW ([j, t] ++ l)) = some (j :: t :: l) := readV_back _ (fitsC h1 (fitsC h2 h5))
  have e1 : onlyW ⟨2, j, t, 0, 0, l⟩ = startB :: allW ([j, t] ++ l) := rfl
  rw [e1, refCand_cons (by decide) hn]
  unfold refEv
  rw [if_neg (fun h => absurd h.1 (by decide)), if_pos ⟨rfl, by simp only [List.length_cons]; omega⟩]
  rfl
 ·rw [okK_3 rfl] at h
  simp only [Bool.and_eq_true, beq_iff_eq, decide_eq_true_eq] at h
  obtain ⟨⟨⟨g1, g2⟩, rfl⟩, g3⟩ := h
  have hl : l = [] := none_list g3
  subst hl
  have hn : readV (allW [j, t]) = some [j, t] := readV_back _ (fitsC h1 (fitsC h2 fits0))
  have e1 : onlyW ⟨3, j, t, n, 0, []⟩ = [endB, itB j, itB t, stW n] := rfl
  unfold refCand
  rw [e1, if_pos (by exact ⟨rfl, rfl⟩), show (List.take 3 [endB, itB j, itB t, stW n]).drop 1 = allW [j, t] from rfl, hn, show [endB, itB j, itB t, stW n].getLastD ⟨#[]⟩ = stW n from rfl, stE_back g1 g2]
  rfl
 ·rw [okK_4 rfl] at h
  simp only [bareB, Bool.and_eq_true, beq_iff_eq] at h
  obtain ⟨⟨rfl, rfl⟩, g⟩ := h
  have hl : l = [] := none_list g
  subst hl
  have hn : readV (allW [j, t]) = some [j, t] := readV_back _ (fitsC h1 (fitsC h2 fits0))
  have e1 : onlyW ⟨4, j, t, 0, 0, []⟩ = pinB :: allW [j, t] := rfl
  rw [e1, refCand_cons (by decide) hn]
  rfl
 ·rw [okK_5 rfl] at h
  simp only [bareB, Bool.and_eq_true, beq_iff_eq] at h
  obtain ⟨⟨⟨rfl, rfl⟩, rfl⟩, -⟩ := h
  have hn : readV (allW ([t] ++ l)) = some (t :: l) := readV_back _ (fitsC h2 h5)
  have e1 : onlyW ⟨5, 0, t, 0, 0, l⟩ = passB :: allW ([t] ++ l) := rfl
  rw [e1, refCand_cons (by decide) hn]
  unfold refEv
  rw [if_neg (fun h => absurd h.1 (by decide)), if_neg (fun h => absurd h.1 (by decide)), if_neg (fun h => absurd h.1 (by decide)), if_neg (fun h => absurd h.1 (by decide)), if_pos ⟨rfl, by simp only [List.length_cons]; omega⟩]
  rfl
 ·rw [okK_6 (.inl rfl)] at h
  simp only [bareB, Bool.and_eq_true, beq_iff_eq] at h
  obtain ⟨⟨⟨rfl, rfl⟩, rfl⟩, g⟩ := h
  have hl : l = [] := none_list g
  subst hl
  have hn : readV (allW [t]) = some [t] := readV_back _ (fitsC h2 fits0)
  have e1 : onlyW ⟨6, 0, t, 0, 0, []⟩ = tickB :: allW [t] := rfl
  rw [e1, refCand_cons (by decide) hn]
  rfl
 ·rw [okK_6 (.inr rfl)] at h
  simp only [bareB, Bool.and_eq_true, beq_iff_eq] at h
  obtain ⟨⟨⟨rfl, rfl⟩, rfl⟩, g⟩ := h
  have hl : l = [] := none_list g
  subst hl
  have hn : readV (allW [t]) = some [t] := readV_back _ (fitsC h2 fits0)
  have e1 : onlyW ⟨7, 0, t, 0, 0, []⟩ = decayB :: allW [t] := rfl
  rw [e1, refCand_cons (by decide) hn]
  rfl
theorem refCand_ok {s : ByteArray} (hs : s.size ≤ 1000000000) {e : Ev} (h : refCand (wordsC 32 s) = some e) : EvOk e := by
 have hw := wordsC_most 32 s
 unfold refCand at h
 split at h
 ·cases hr : readV (((wordsC 32 s).take 3).drop 1) with
  | none => rw [hr] at h; cases h
  | some n =>
   rw [hr] at h
   have hl := readV_len _ _ hr
   simp only [List.length_drop, List.length_take] at hl
   exact refEv_ok h (readV_fits _ _ hr) (by omega) (stE_bounds _).1 (stE_bounds _).2
 ·cases hr : readV ((wordsC 32 s).drop 1) with
  | none => rw [hr] at h; cases h
  | some n =>
   rw [hr] at h
   have hl := readV_len _ _ hr
   simp only [List.length_drop] at hl
   exact refEv_ok h (readV_fits _ _ hr) (by omega) (by decide) (by decide)
theorem readE_cases (s : ByteArray) : readE s = (zE, 90) ∨ (right (readE s).1 = true ∧ evS (readE s).1 = s ∧ (readE s).2 = 0) := by
 unfold readE
 cases candW (wordsOf s) with
 | none => exact .inl rfl
 | some e =>
  simp only
  split
  ·rename_i h; exact .inr ⟨h.1, h.2, rfl⟩
  ·exact .inl rfl
/-- The state that the loop has found so far. -/
def ndK (s : ByteArray) (k : Nat) : Int := if 3 ≤ stN s ∧ stN s < 3 + (k : Int) then stN s else 0
theorem ndK_0 (s : ByteArray) : ndK s 0 = 0 := by unfold ndK; rw [if_neg (by omega)]
theorem ndK_4 (s : ByteArray) : ndK s 4 = stE s := by
 have := stN_bounds s
 unfold ndK stE
 by_cases h : 3 ≤ stN s
 ·rw [if_pos ⟨h, by omega⟩, if_pos h]
 ·rw [if_neg (fun g => h g.1), if_neg h]
theorem ndK_hit {s : ByteArray} {k : Nat} (hk : k < 4) (h : stW (3 + (k : Int)) = s) : ndK s (k + 1) = 3 + (k : Int) := by
 have hn : stN s = 3 + (k : Int) := by rw [← h]; exact stN_back (by omega) (by omega)
 unfold ndK
 rw [hn, if_pos ⟨by omega, by omega⟩]
theorem stW_of {s : ByteArray} {n : Int} (h : stN s = n) (h1 : 1 ≤ n) : stW n = s := by
 unfold stN at h
 repeat' split at h
 all_goals first
  | omega
  | (subst h; first | exact (Eq.symm (by assumption)) | (exfalso; omega))
theorem ndK_miss {s : ByteArray} {k : Nat} (hk : k < 4) (h : stW (3 + (k : Int)) ≠ s) : ndK s (k + 1) = ndK s k := by
 have hn : stN s ≠ 3 + (k : Int) := fun g => h (stW_of g (by omega))
 unfold ndK
 by_cases h3 : 3 ≤ stN s ∧ stN s < 3 + (k : Int)
 ·rw [if_pos h3, if_pos ⟨h3.1, by omega⟩]
 ·rw [if_neg h3, if_neg (fun g => h3 ⟨g.1, by omega⟩)]
theorem refEv_1 {n : List Int} {nd : Int} : refEv submitB n nd false = if n.length = 4 then some ⟨1, n.getD 0 0, n.getD 1 0, n.getD 2 0, n.getD 3 0, []⟩ else none := by
 unfold refEv
 by_cases h : n.length = 4
 ·rw [if_pos ⟨rfl, h⟩, if_pos h]
 ·rw [if_neg (fun g => h g.2), if_neg (fun g => absurd g.1 (by decide)), if_neg (fun g => absurd g.1 (by decide)), if_neg (fun g => absurd g.1 (by decide)), if_neg (fun g => absurd g.1 (by decide)), if_neg (fun g => absurd g.1 (by decide)), if_neg (fun g => absurd g.1 (by decide)), if_neg h]
theorem refEv_2 {n : List Int} {nd : Int} : refEv startB n nd false = if 2 ≤ n.length then some ⟨2, n.getD 0 0, n.getD 1 0, 0, 0, n.drop 2⟩ else none := by
 unfold refEv
 rw [if_neg (fun g => absurd g.1 (by decide))]
 by_cases h : 2 ≤ n.length
 ·rw [if_pos ⟨rfl, h⟩, if_pos h]
 ·rw [if_neg (fun g => h g.2), if_neg (fun g => absurd g.1 (by decide)), if_neg (fun g => absurd g.1 (by decide)), if_neg (fun g => absurd g.1 (by decide)), if_neg (fun g => absurd g.1 (by decide)), if_neg (fun g => absurd g.1 (by decide)), if_neg h]
theorem refEv_3 {n : List Int} {nd : Int} : refEv endW n nd true = if n.length = 2 then some ⟨3, n.getD 0 0, n.getD 1 0, nd, 0, []⟩ else none := by
 unfold refEv
 rw [if_neg (fun g => absurd g.1 (by decide)), if_neg (fun g => absurd g.1 (by decide))]
 by_cases h : n.length = 2
 ·rw [if_pos ⟨rfl, h⟩, if_pos h]
 ·rw [if_neg (fun g => h g.2), if_neg (fun g => absurd g.1 (by decide)), if_neg (fun g => absurd g.1 (by decide)), if_neg (fun g => absurd g.1 (by decide)), if_neg (fun g => absurd g.1 (by decide)), if_neg h]
theorem refEv_4 {n : List Int} {nd : Int} : refEv pinB n nd false = if n.length = 2 then some ⟨4, n.getD 0 0, n.getD 1 0, 0, 0, []⟩ else none := by
 unfold refEv
 rw [if_neg (fun g => absurd g.1 (by decide)), if_neg (fun g => absurd g.1 (by decide)), if_neg (fun g => absurd g.1 (by decide))]
 by_cases h : n.length = 2
 ·rw [if_pos ⟨rfl, h⟩, if_pos h]
 ·rw [if_neg (fun g => h g.2), if_neg (fun g => absurd g.1 (by decide)), if_neg (fun g => absurd g.1 (by decide)), if_neg (fun g => absurd g.1 (by decide)), if_neg h]
theorem refEv_5 {n : List Int} {nd : Int} : refEv passB n nd false = if 1 ≤ n.length then some ⟨5, 0, n.getD 0 0, 0, 0, n.drop 1⟩ else none := by
 unfold refEv
 rw [if_neg (fun g => absurd g.1 (by decide)), if_neg (fun g => absurd g.1 (by decide)), if_neg (fun g => absurd g.1 (by decide)), if_neg (fun g => absurd g.1 (by decide))]
 by_cases h : 1 ≤ n.length
 ·rw [if_pos ⟨rfl, h⟩, if_pos h]
 ·rw [if_neg (fun g => h g.2), if_neg (fun g => absurd g.1 (by decide)), if_neg (fun g => absurd g.1 (by decide)), if_neg h]
theorem refEv_6 {n : List Int} {nd : Int} : refEv tickB n nd false = if n.length = 1 then some ⟨6, 0, n.getD 0 0, 0, 0, []⟩ else none := by
 unfold refEv
 rw [if_neg (fun g => absurd g.1 (by decide)), if_neg (fun g => absurd g.1 (by decide)), if_neg (fun g => absurd g.1 (by decide)), if_neg (fun g => absurd g.1 (by decide)), if_neg (fun g => absurd g.1 (by decide))]
 by_cases h : n.length = 1
 ·rw [if_pos ⟨rfl, h⟩, if_pos h]
 ·rw [if_neg (fun g => h g.2), if_neg (fun g => absurd g.1 (by decide)), if_neg h]
theorem refEv_7 {n : List Int} {nd : Int} : refEv decayB n nd false = if n.length = 1 then some ⟨7, 0, n.getD 0 0, 0, 0, []⟩ else none := by
 unfold refEv
 rw [if_neg (fun g => absurd g.1 (by decide)), if_neg (fun g => absurd g.1 (by decide)), if_neg (fun g => absurd g.1 (by decide)), if_neg (fun g => absurd g.1 (by decide)), if_neg (fun g => absurd g.1 (by decide)), if_neg (fun g => absurd g.1 (by decide))]
 by_cases h : n.length = 1
 ·rw [if_pos ⟨rfl, h⟩, if_pos h]
 ·rw [if_neg (fun g => h g.2), if_neg h]
theorem refEv_no {s : ByteArray} {n : List Int} {nd : Int} (h1 : s ≠ submitB) (h2 : s ≠ startB) (h4 : s ≠ pinB) (h5 : s ≠ passB) (h6 : s ≠ tickB) (h7 : s ≠ decayB) : refEv s n nd false = none := by
 unfold refEv
 rw [if_neg (fun g => h1 g.1), if_neg (fun g => h2 g.1), if_neg (fun g => absurd g.1 (by decide)), if_neg (fun g => h4 g.1), if_neg (fun g => h5 g.1), if_neg (fun g => h6 g.1), if_neg (fun g => h7 g.1)]
theorem refEv_few {s : ByteArray} {n : List Int} {nd : Int} {b : Bool} {e : Ev} (h : refEv s n nd b = some e) : e.list.length ≤ n.length := by
 unfold refEv at h
 repeat' split at h
 all_goals first
  | (simp only [Option.some.injEq] at h; subst h; simp only [List.length_drop, List.length_nil]; omega)
  | cases h
def jW (k : Int) (ws : List ByteArray) : List ByteArray := if jbB k ws then ws.take 5 ++ ws.drop 6 else ws
def stJ (k : Int) (ws : List ByteArray) : Int := if jbB k ws then stN (ws.getD 5 ⟨#[]⟩) else 0
def firstN (k st : Int) (n : List Int) : Ans :=
 if (k = 1 ∨ k = 5) ∧ n.length = 1 then { zA with id := n.getD 0 0 }
 else if k = 9 ∧ 6 ≤ n.length then { zA with job := ⟨n.getD 0 0, n.getD 1 0, n.getD 2 0, n.getD 3 0, st, n.getD 4 0, n.getD 5 0, n.drop 6⟩ }
 else if k = 10 ∧ n.length = 2 then { zA with holder := n.getD 0 0, shadow := n.getD 1 0 }
 else if k = 12 ∧ n.length = 1 then { zA with free := n.getD 0 0 }
 else if k = 13 ∧ n.length = 9 then { zA with cfg := ⟨n.getD 0 0, n.getD 1 0, n.getD 2 0, n.getD 3 0, n.getD 4 0, n.getD 5 0, n.getD 6 0, n.getD 7 0⟩, bound := n.getD 8 0 }
 else { zA with job := { zJ with st := st } }
def firstR (k : Int) (ws : List ByteArray) : Ans × Bool :=
 if ws.headD ⟨#[]⟩ = errorW ∧ ws.length = 2 then ({ zA with code := (numberV (ws.getD 1 ⟨#[]⟩)).1 }, (numberV (ws.getD 1 ⟨#[]⟩)).2)
 else if k = 11 then (if ws.length = 4 then ({ zA with raw := (numberV (ws.getD 1 ⟨#[]⟩)).1, usage := (wholeV (ws.getD 2 ⟨#[]⟩)).1, factor := (wholeV (ws.getD 3 ⟨#[]⟩)).1 }, (numberV (ws.getD 1 ⟨#[]⟩)).2 && (wholeV (ws.getD 2 ⟨#[]⟩)).2 && (wholeV (ws.getD 3 ⟨#[]⟩)).2) else (zA, false))
 else match readV ((jW k ws).drop 1) with | none => ({ zA with job := { zJ with st := stJ k ws } }, false) | some n => (firstN k (stJ k ws) n, true)
def rkRead (s : ByteArray) : Option Rk := match readV (wordsC 32 s) with | some [x, y] => some ⟨x, y⟩ | _ => none
def rksRead : List ByteArray → Option (List Rk)
 | [] => some []
 | s :: r => match rkRead s with | none => none | some x => match rksRead r with | none => none | some l => some (x :: l)
def evsRead : List ByteArray → Option (List Ev)
 | [] => some []
 | s :: r => if (readE s).2 = 0 then (match evsRead r with | none => none | some l => some ((readE s).1 :: l)) else none
def bodyR (k : Int) (a : Ans) (ls : List ByteArray) : Option Ans := if k = 10 then (rksRead ls).map (fun rs => { a with ranks := rs }) else (evsRead ls).map (fun es => { a with events := es })
def midW (L : List ByteArray) : List ByteArray := (L.take (L.length - 1)).drop 1
def refParse (k : Int) (t : ByteArray) : Ans × Int :=
 if (firstR k (wordsC 32 ((wordsC 10 t).headD ⟨#[]⟩))).2 = false ∨ (wordsC 10 t).length < 2 then (zA, 90)
 else match bodyR k (firstR k (wordsC 32 ((wordsC 10 t).headD ⟨#[]⟩))).1 (midW (wordsC 10 t)) with | none => (zA, 90) | some a => if checkA k a = 0 ∧ printS k a = t then (a, 0) else (zA, 90)
theorem wholeV_dec {n : Int} (h0 : 0 ≤ n) (h1 : n < 18446744073709551616) : wholeV (decB n) = (n, true) := by
 obtain ⟨u, rfl⟩ : ∃ u : Nat, n = (u : Int) := ⟨n.toNat, by omega⟩
 have hb : (decB (u : Int)).data.toList = Lib.decDigits u := by simp [decB]
 exact wholeV_some (numR_some.2 ⟨hb.symm, by omega⟩)
theorem firstR_back {k : Int} {a : Ans} (h : checkA k a = 0) (hok : AnsOk a) : firstR k (firstW k a) = ({ a with events := [], ranks := [] }, true) := by
 by_cases hc : a.code = 0
 case neg =>
  have he := (check_code h hc).2.2
  have e1 : firstW k a = [errorW, itB a.code] := by simp [firstW, hc]
  have hn : numberV (itB a.code) = (a.code, true) := numberV_back hok.code.1 hok.code.2
  rw [e1]
  unfold firstR
  rw [if_pos (by exact ⟨rfl, rfl⟩)]
  simp only [List.getD_cons_succ, List.getD_cons_zero, hn]
  rw [he]
  rfl
 have hfine := check_fine h hc
 have hown := rest_own hc (fine_rest hfine)
 have hfst : firstW k a = if k = 1 then jobB :: allW [a.id] else if k = 5 then accountB :: allW [a.id]
   else if k = 9 then jobB :: (allW [a.job.acc, a.job.nodes, a.job.lim, a.job.sub] ++ stW a.job.st :: allW ([a.job.start, a.job.fin] ++ a.job.set))
   else if k = 10 then holderB :: allW [a.holder, a.shadow] else if k = 11 then [usageB, itB a.raw, decB a.usage, decB a.factor]
   else if k = 12 then freeB :: allW [a.free] else if k = 13 then configB :: allW [a.cfg.c0, a.cfg.c1, a.cfg.c2, a.cfg.c3, a.cfg.c4, a.cfg.c5, a.cfg.c6, a.cfg.c7, a.bound] else [okB] := by
  simp [firstW, hc]
 have n1 : jobB ≠ errorW ∧ accountB ≠ errorW ∧ holderB ≠ errorW ∧ usageB ≠ errorW ∧ freeB ≠ errorW ∧ configB ≠ errorW ∧ okB ≠ errorW := by decide
 obtain ⟨m1, m2, m3, m4, m5, m6, m7⟩ := n1
 rw [hfst]
 unfold firstR
 conv => rhs; rw [← hown]
 by_cases h1 : k = 1
 ·subst h1
  have hn : readV (allW [a.id]) = some [a.id] := readV_back _ (fitsCons hok.id fitsNil)
  simp only [if_true, List.headD_cons]
  rw [if_neg (fun g => m1 g.1), if_neg (by decide)]
  simp only [jW, stJ, jbB, show ((1 : Int) == 9) = false from rfl, Bool.false_and, Bool.false_eq_true, if_false, List.drop_succ_cons, List.drop_zero, hn]
  simp [firstN, ownA, ownK, hasB, zA]
 by_cases h5 : k = 5
 ·subst h5
  have hn : readV (allW [a.id]) = some [a.id] := readV_back _ (fitsCons hok.id fitsNil)
  simp only [if_neg h1, if_true, List.headD_cons]
  rw [if_neg (fun g => m2 g.1), if_neg (by decide)]
  simp only [jW, stJ, jbB, show ((5 : Int) == 9) = false from rfl, Bool.false_and, Bool.false_eq_true, if_false, List.drop_succ_cons, List.drop_zero, hn]
  simp [firstN, ownA, ownK, hasB, zA]
 by_cases h9 : k = 9
 ·subst h9
  have hst : stN (stW a.job.st) = a.job.st := by
   apply stN_all
   simp only [okA, Bool.and_eq_true] at hfine
   have := hfine.1.1.2
   simp only [if_true, Bool.and_eq_true, decide_eq_true_eq] at this
   exact this.1.2
  have hn : readV (allW ([a.job.acc, a.job.nodes, a.job.lim, a.job.sub] ++ ([a.job.start, a.job.fin] ++ a.job.set))) = some ([a.job.acc, a.job.nodes, a.job.lim, a.job.sub] ++ ([a.job.start, a.job.fin] ++ a.job.set)) :=
   readV_back _ (fitsCons hok.acc (fitsCons hok.nodes (fitsCons hok.lim (fitsCons hok.sub (fitsCons hok.start (fitsCons hok.fin hok.set))))))
  have hj : jbB 9 (jobB :: (allW [a.job.acc, a.job.nodes, a.job.lim, a.job.sub] ++ stW a.job.st :: allW ([a.job.start, a.job.fin] ++ a.job.set))) = true := by
   simp [jbB, allW]
  simp only [if_neg h1, if_neg h5, if_true, List.headD_cons]
  rw [if_neg (fun g => m1 g.1), if_neg (by decide)]
  have e2 : ((jobB :: (allW [a.job.acc, a.job.nodes, a.job.lim, a.job.sub] ++ stW a.job.st :: allW ([a.job.start, a.job.fin] ++ a.job.set))).take 5 ++ (jobB :: (allW [a.job.acc, a.job.nodes, a.job.lim, a.job.sub] ++ stW a.job.st :: allW ([a.job.start, a.job.fin] ++ a.job.set))).drop 6).drop 1 = allW ([a.job.acc, a.job.nodes, a.job.lim, a.job.sub] ++ ([a.job.start, a.job.fin] ++ a.job.set)) := by
   simp [allW]
  have e3 : (jobB :: (allW [a.job.acc, a.job.nodes, a.job.lim, a.job.sub] ++ stW a.job.st :: allW ([a.job.start, a.job.fin] ++ a.job.set))).getD 5 ⟨#[]⟩ = stW a.job.st := by simp [allW]
  simp only [jW, stJ, hj, if_true]
  rw [e2, e3, hn, hst]
  simp [firstN, ownA, ownK, hasB, zA]
 by_cases h10 : k = 10
 ·subst h10
  have hn : readV (allW [a.holder, a.shadow]) = some [a.holder, a.shadow] := readV_back _ (fitsCons hok.holder (fitsCons hok.shadow fitsNil))
  simp only [if_neg h1, if_neg h5, if_neg h9, if_true, List.headD_cons]
  rw [if_neg (fun g => m3 g.1), if_neg (by decide)]
  simp only [jW, stJ, jbB, show ((10 : Int) == 9) = false from rfl, Bool.false_and, Bool.false_eq_true, if_false, List.drop_succ_cons, List.drop_zero, hn]
  simp [firstN, ownA, ownK, hasB, zA]
 by_cases h11 : k = 11
 ·subst h11
  have hn : numberV (itB a.raw) = (a.raw, true) := numberV_back hok.raw.1 hok.raw.2
  simp only [if_neg h1, if_neg h5, if_neg h9, if_neg h10, if_true, List.headD_cons]
  rw [if_neg (fun g => m4 g.1)]
  simp [hn, wholeV_dec hok.usage.1 hok.usage.2, wholeV_dec hok.factor.1 hok.factor.2, ownA, ownK, hasB, zA]
 by_cases h12 : k = 12
 ·subst h12
  have hn : readV (allW [a.free]) = some [a.free] := readV_back _ (fitsCons hok.free fitsNil)
  simp only [if_neg h1, if_neg h5, if_neg h9, if_neg h10, if_neg h11, if_true, List.headD_cons]
  rw [if_neg (fun g => m5 g.1)]
  simp only [jW, stJ, jbB, show ((12 : Int) == 9) = false from rfl, Bool.false_and, Bool.false_eq_true, if_false, List.drop_succ_cons, List.drop_zero, hn]
  simp [firstN, ownA, ownK, hasB, zA]
 by_cases h13 : k = 13
 ·subst h13
  have hn : readV (allW [a.cfg.c0, a.cfg.c1, a.cfg.c2, a.cfg.c3, a.cfg.c4, a.cfg.c5, a.cfg.c6, a.cfg.c7, a.bound]) = some [a.cfg.c0, a.cfg.c1, a.cfg.c2, a.cfg.c3, a.cfg.c4, a.cfg.c5, a.cfg.c6, a.cfg.c7, a.bound] :=
   readV_back _ (fitsCons hok.c0 (fitsCons hok.c1 (fitsCons hok.c2 (fitsCons hok.c3 (fitsCons hok.c4 (fitsCons hok.c5 (fitsCons hok.c6 (fitsCons hok.c7 (fitsCons hok.bound fitsNil)))))))))
  simp only [if_neg h1, if_neg h5, if_neg h9, if_neg h10, if_neg h11, if_neg h12, if_true, List.headD_cons]
  rw [if_neg (fun g => m6 g.1)]
  simp only [jW, stJ, jbB, show ((13 : Int) == 9) = false from rfl, Bool.false_and, Bool.false_eq_true, if_false, List.drop_succ_cons, List.drop_zero, hn]
  simp [firstN, ownA, ownK, hasB, zA]
 ·have e9 : (k == 9) = false := by simp [h9]
  simp only [if_neg h1, if_neg h5, if_neg h9, if_neg h10, if_neg h11, if_neg h12, if_neg h13, List.headD_cons]
  rw [if_neg (fun g => m7 g.1)]
  simp only [jW, stJ, jbB, e9, Bool.false_and, Bool.false_eq_true, if_false, List.drop_succ_cons, List.drop_zero, readV]
  cases hh : hasB k <;> simp [firstN, ownA, ownK, h1, h5, h9, h10, h11, h12, h13, hh, zA, zJ]
theorem rkRead_back {r : Rk} (h1 : Int64 r.job) (h2 : Int64 r.prio) : rkRead (rkB2 r) = some r := by
 have hw : wordsC 32 (rkB2 r) = allW [r.job, r.prio] := words_back (by simp) (fun x hx => by
   simp only [List.mem_cons, List.not_mem_nil, or_false] at hx
   rcases hx with rfl | rfl <;> exact itB_clean _)
 unfold rkRead
 rw [hw, readV_back _ (fitsCons h1 (fitsCons h2 fitsNil))]
theorem rksRead_back : ∀ (rs : List Rk), (∀ r ∈ rs, Int64 r.job ∧ Int64 r.prio) → rksRead (rs.map rkB2) = some rs
 | [], _ => rfl
 | r :: rs, h => by
  have h1 := h r (by simp)
  simp only [List.map_cons, rksRead]
  rw [rkRead_back h1.1 h1.2, rksRead_back rs (fun x hx => h x (List.mem_cons_of_mem _ hx))]
theorem evsRead_back : ∀ (es : List Ev), (∀ e ∈ es, right e = true ∧ EvOk e) → evsRead (es.map evS) = some es
 | [], _ => rfl
 | e :: es, h => by
  have h1 := h e (by simp)
  simp only [List.map_cons, evsRead]
  rw [read_back h1.1 h1.2, evsRead_back es (fun x hx => h x (List.mem_cons_of_mem _ hx))]
  rfl
theorem wordsC_lines {ls : List ByteArray} (h : ∀ s ∈ ls, (10 : UInt8) ∉ s.data.toList) : wordsC 10 (toB (ls.flatMap fun s => s.data.toList ++ [10])) = ls ++ [⟨#[]⟩] := by
 unfold wordsC
 rw [toB_data, cut_lines ls h, List.map_append, List.map_map]
 congr 1
 conv => rhs; rw [← List.map_id ls]
 apply List.map_congr_left
 intro x _
 exact toB_eq x
theorem refParse_back {k : Int} {a : Ans} (h : checkA k a = 0) (hok : AnsOk a) : refParse k (printS k a) = (a, 0) := by
 have he := check_events h
 have hp : printS k a = toB ((linesA k a).flatMap fun s => s.data.toList ++ [10]) := by unfold printS; rw [if_pos h, print_lines h]
 have hw : wordsC 10 (printS k a) = linesA k a ++ [⟨#[]⟩] := by rw [hp, wordsC_lines (lines_clean h he)]
 have hhd : (linesA k a ++ [(⟨#[]⟩ : ByteArray)]).headD ⟨#[]⟩ = toB (wordsT (firstW k a)) := rfl
 have hf : wordsC 32 (toB (wordsT (firstW k a))) = firstW k a := words_back (firstW_ne k a) (firstW_clean k a)
 have hmid : midW (linesA k a ++ [⟨#[]⟩]) = a.events.map evS ++ a.ranks.map rkB2 := by
  unfold midW
  rw [List.length_append, List.length_singleton, Nat.add_sub_cancel, List.take_left']
  ·rfl
  ·rfl
 have hlen : ¬ (linesA k a ++ [(⟨#[]⟩ : ByteArray)]).length < 2 := by simp [linesA]; omega
 have hown : (hasB k = false → a.events = []) ∧ (k ≠ 10 → a.ranks = []) := by
  by_cases hc : a.code = 0
  ·exact own_events (rest_own hc (fine_rest (check_fine h hc)))
  ·rw [(check_code h hc).2.2]
   exact ⟨fun _ => rfl, fun _ => rfl⟩
 unfold refParse
 rw [hw, hhd, hf, firstR_back h hok, hmid, if_neg (by simp only [not_or]; exact ⟨by simp, hlen⟩)]
 have hb : bodyR k { a with events := [], ranks := [] } (a.events.map evS ++ a.ranks.map rkB2) = some a := by
  unfold bodyR
  by_cases h10 : k = 10
  ·have h0 := hown.1 (by rw [h10]; rfl)
   rw [if_pos h10, h0, List.map_nil, List.nil_append, rksRead_back _ hok.ranks]
   simp only [Option.map_some]
   cases a
   simp only at h0
   subst h0
   rfl
  ·have h0 := hown.2 h10
   rw [if_neg h10, h0, List.map_nil, List.append_nil, evsRead_back _ (fun e hm => ⟨he e hm, hok.events e hm⟩)]
   simp only [Option.map_some]
   cases a
   simp only at h0
   subst h0
   rfl
 simp only
 rw [hb]
 simp only
 rw [if_pos ⟨h, trivial⟩]
theorem zA_ok : AnsOk zA := tail_ok (k := 0) (st := 0) (us := 0) (fa := 0) (n := []) fitsNil (by simp) int0 (by decide) (by decide)
theorem firstN_ok {k st : Int} {n : List Int} (hf : Fits n) (hl : n.length ≤ 4294967296) (hst : Int64 st) : AnsOk (firstN k st n) ∧ (firstN k st n).job.set.length ≤ n.length := by
 have g : ∀ i, Int64 (n.getD i 0) := fun i => fits_getD hf i
 have g6 : Fits (n.drop 6) := fun m hm => hf m (List.mem_of_mem_drop hm)
 have l6 : (n.drop 6).length ≤ 4294967296 := by rw [List.length_drop]; omega
 have u0 : (0 : Int) ≤ 0 ∧ (0 : Int) < 18446744073709551616 := by decide
 have z0 : ([] : List Int).length ≤ 4294967296 := by simp
 have ze : ([] : List Ev).length ≤ 4294967296 := by simp
 have zr : ([] : List Rk).length ≤ 4294967296 := by simp
 have e0 : ∀ e ∈ ([] : List Ev), EvOk e := fun e h => by simp at h
 have r0 : ∀ r ∈ ([] : List Rk), Int64 r.job ∧ Int64 r.prio := fun r h => by simp at h
 unfold firstN
 repeat' split
 all_goals
  refine ⟨?_, by first | (simp [zA, zJ]; done) | (simp only [List.length_drop]; omega)⟩
  constructor <;> first | exact int0 | exact g _ | exact hst | exact g6 | exact l6 | exact u0 | exact z0 | exact ze | exact zr | exact e0 | exact r0 | exact fitsNil
theorem jW_len (k : Int) (ws : List ByteArray) : (jW k ws).length ≤ ws.length := by
 unfold jW
 split
 ·rw [List.length_append, List.length_take, List.length_drop]; omega
 ·exact Nat.le_refl _
theorem firstR_ok {k : Int} {ws : List ByteArray} (hl : ws.length ≤ 1048577) : AnsOk (firstR k ws).1 ∧ (firstR k ws).1.job.set.length ≤ ws.length ∧ (firstR k ws).1.events = [] ∧ (firstR k ws).1.ranks = [] := by
 have z := zA_ok
 have hst : Int64 (stJ k ws) := by unfold stJ; split; exact stN_int _; exact int0
 have hev : ∀ n, (firstN k (stJ k ws) n).events = [] ∧ (firstN k (stJ k ws) n).ranks = [] := fun n => by
  unfold firstN
  repeat' split
  all_goals exact ⟨rfl, rfl⟩
 unfold firstR
 split
 ·refine ⟨?_, by simp [zA, zJ], rfl, rfl⟩
  obtain ⟨a1, a2, a3, a4, a5, a6, a7, a8, a9, a10, a11, a12, a13, a14, a15, a16, a17, a18, a19, a20, a21, a22, a23, a24, a25, a26, a27, a28, a29, a30⟩ := z
  exact ⟨numberV_bd _, a2, a3, a4, a5, a6, a7, a8, a9, a10, a11, a12, a13, a14, a15, a16, a17, a18, a19, a20, a21, a22, a23, a24, a25, a26, a27, a28, a29, a30⟩
 ·split
  ·split
   ·refine ⟨?_, by simp [zA, zJ], rfl, rfl⟩
    obtain ⟨a1, a2, a3, a4, a5, a6, a7, a8, a9, a10, a11, a12, a13, a14, a15, a16, a17, a18, a19, a20, a21, a22, a23, a24, a25, a26, a27, a28, a29, a30⟩ := z
    exact ⟨a1, a2, a3, a4, a5, a6, a7, a8, a9, a10, a11, a12, a13, a14, a15, numberV_bd _, by have := wholeV_bd (ws.getD 2 ⟨#[]⟩); simp only; omega, by have := wholeV_bd (ws.getD 3 ⟨#[]⟩); simp only; omega, a19, a20, a21, a22, a23, a24, a25, a26, a27, a28, a29, a30⟩
   ·exact ⟨z, by simp [zA, zJ], rfl, rfl⟩
  ·cases hr : readV ((jW k ws).drop 1) with
   | none =>
    refine ⟨?_, by simp [zA, zJ], rfl, rfl⟩
    obtain ⟨a1, a2, a3, a4, a5, a6, a7, a8, a9, a10, a11, a12, a13, a14, a15, a16, a17, a18, a19, a20, a21, a22, a23, a24, a25, a26, a27, a28, a29, a30⟩ := z
    exact ⟨a1, a2, a3, a4, a5, a6, a7, a8, hst, a10, a11, a12, a13, a14, a15, a16, a17, a18, a19, a20, a21, a22, a23, a24, a25, a26, a27, a28, a29, a30⟩
   | some n =>
    have hn := readV_len _ _ hr
    have hj := jW_len k ws
    rw [List.length_drop] at hn
    obtain ⟨h1, h2⟩ := firstN_ok (k := k) (readV_fits _ _ hr) (by omega) hst
    exact ⟨h1, by simp only; omega, hev n⟩
theorem rksRead_ok : ∀ (ls : List ByteArray) (rs : List Rk), rksRead ls = some rs → (∀ r ∈ rs, Int64 r.job ∧ Int64 r.prio) ∧ rs.length = ls.length
 | [], rs, h => by simp only [rksRead, Option.some.injEq] at h; subst h; exact ⟨fun r hr => by simp at hr, rfl⟩
 | s :: r, rs, h => by
  simp only [rksRead] at h
  cases hx : rkRead s with
  | none => rw [hx] at h; cases h
  | some x =>
   cases hl : rksRead r with
   | none => rw [hx, hl] at h; cases h
   | some l =>
    rw [hx, hl] at h
    simp only [Option.some.injEq] at h
    subst h
    obtain ⟨h1, h2⟩ := rksRead_ok r l hl
    have hxb : Int64 x.job ∧ Int64 x.prio := by
     unfold rkRead at hx
     split at hx
     ·rename_i y z hr
      simp only [Option.some.injEq] at hx
      subst hx
      have hf := readV_fits _ _ hr
      exact ⟨hf y (by simp), hf z (by simp)⟩
     ·cases hx
    refine ⟨fun q hq => ?_, by simp [h2]⟩
    rcases List.mem_cons.1 hq with rfl | hq
    ·exact hxb
    ·exact h1 q hq
theorem evsRead_ok : ∀ (ls : List ByteArray) (es : List Ev), evsRead ls = some es → es = ls.map fun s => (readE s).1
 | [], es, h => by simp only [evsRead, Option.some.injEq] at h; subst h; rfl
 | s :: r, es, h => by
  simp only [evsRead] at h
  split at h
  ·cases hl : evsRead r with
   | none => rw [hl] at h; cases h
   | some l =>
    rw [hl] at h
    simp only [Option.some.injEq] at h
    subst h
    rw [evsRead_ok r l hl]; rfl
  ·cases h
theorem numsT_ge : ∀ (l : List Int), l.length ≤ (numsT l).length
 | [] => Nat.zero_le _
 | n :: l => by
  have ih := numsT_ge l
  simp only [numsT, List.flatMap_cons, List.length_append, List.length_cons] at ih ⊢
  omega
theorem evT_list (e : Ev) (h : right e = true) : e.list.length ≤ (evT e).length := by
 have hk7 := kinds7 h
 obtain ⟨k, j, t, n, m, l⟩ := e
 have hl := numsT_ge l
 simp only [right, Bool.and_eq_true] at h
 obtain ⟨h, -⟩ := h
 rcases hk7 with hk | hk | hk | hk | hk | hk | hk <;> simp only at hk <;> subst hk
 ·rw [okK_1 rfl] at h
  have e : l = [] := none_list h
  subst e; exact Nat.zero_le _
 ·rw [evT_2 rfl]
  simp only [List.length_append]
  omega
 ·rw [okK_3 rfl] at h
  simp only [Bool.and_eq_true] at h
  have e : l = [] := none_list h.2
  subst e; exact Nat.zero_le _
 ·rw [okK_4 rfl] at h
  simp only [Bool.and_eq_true] at h
  have e : l = [] := none_list h.2
  subst e; exact Nat.zero_le _
 ·rw [evT_5 rfl]
  simp only [List.length_append]
  omega
 ·rw [okK_6 (.inl rfl)] at h
  simp only [Bool.and_eq_true] at h
  have e : l = [] := none_list h.2
  subst e; exact Nat.zero_le _
 ·rw [okK_6 (.inr rfl)] at h
  simp only [Bool.and_eq_true] at h
  have e : l = [] := none_list h.2
  subst e; exact Nat.zero_le _
theorem readE_list {s : ByteArray} (hs : s.size ≤ 1048576) : (readE s).1.list.length ≤ s.size := by
 have h := readE_len s
 rcases readE_cases s with e | ⟨h1, h2, h3⟩
 ·rw [e]; simp [zE]
 ·have hl := evT_list (readE s).1 h1
  omega
theorem midW_sub {L : List ByteArray} {s : ByteArray} (h : s ∈ midW L) : s ∈ L := List.mem_of_mem_take (List.mem_of_mem_drop h)
theorem sum_take_le (l : List Nat) (n : Nat) : (l.take n).sum ≤ l.sum := by
 have e : l.sum = (l.take n).sum + (l.drop n).sum := by rw [← List.sum_append, List.take_append_drop]
 omega
theorem sum_drop_le (l : List Nat) (n : Nat) : (l.drop n).sum ≤ l.sum := by
 have e : l.sum = (l.take n).sum + (l.drop n).sum := by rw [← List.sum_append, List.take_append_drop]
 omega
theorem midW_sum (L : List ByteArray) : ((midW L).map (·.size)).sum ≤ (L.map (·.size)).sum := by
 unfold midW
 rw [List.map_drop, List.map_take]
 exact Nat.le_trans (sum_drop_le _ _) (sum_take_le _ _)
theorem midW_len (L : List ByteArray) : (midW L).length ≤ L.length := by
 unfold midW
 rw [List.length_drop, List.length_take]
 omega
/-- How great a candidate may be. -/
structure CandOk (k : Int) (a : Ans) : Prop where
 ok : AnsOk a
 fe : a.events.length ≤ 4194304
 fr : a.ranks.length ≤ 4194304
 fs : a.job.set.length ≤ 4194304
 fw : ∀ e ∈ a.events, e.list.length ≤ 4294967200
 print : (printT k a).length ≤ 1000000000
theorem body_ok {k : Int} {t : ByteArray} (ht : t.size ≤ 1048576) {a : Ans} (h : bodyR k (firstR k (wordsC 32 ((wordsC 10 t).headD ⟨#[]⟩))).1 (midW (wordsC 10 t)) = some a) : CandOk k a := by
 have hL := wordsC_most 10 t
 have hsum := wordsC_sum 10 t
 have hms := midW_sum (wordsC 10 t)
 have hml := midW_len (wordsC 10 t)
 have hsz : ∀ s ∈ midW (wordsC 10 t), s.size ≤ 1048576 := fun s hs => by
  have := wordsC_size 10 t s (midW_sub hs)
  omega
 have h0 : ((wordsC 10 t).headD ⟨#[]⟩).size ≤ 1048576 := by
  cases hw : wordsC 10 t with
  | nil => exact Nat.zero_le _
  | cons x r =>
   have := wordsC_size 10 t x (by rw [hw]; simp)
   simp only [List.headD_cons]; omega
 have hw1 : (wordsC 32 ((wordsC 10 t).headD ⟨#[]⟩)).length ≤ 1048577 := by
  have := wordsC_most 32 ((wordsC 10 t).headD ⟨#[]⟩)
  omega
 obtain ⟨hf, hset, hev, hrk⟩ := firstR_ok (k := k) hw1
 generalize (firstR k (wordsC 32 ((wordsC 10 t).headD ⟨#[]⟩))).1 = f at *
 generalize midW (wordsC 10 t) = M at *
 have hset2 : f.job.set.length ≤ 1048577 := by omega
 unfold bodyR at h
 split at h
 ·cases hr : rksRead M with
  | none => rw [hr] at h; cases h
  | some rs =>
   rw [hr] at h
   simp only [Option.map_some, Option.some.injEq] at h
   subst h
   obtain ⟨r1, r2⟩ := rksRead_ok M rs hr
   obtain ⟨a1, a2, a3, a4, a5, a6, a7, a8, a9, a10, a11, a12, a13, a14, a15, a16, a17, a18, a19, a20, a21, a22, a23, a24, a25, a26, a27, a28, a29, a30⟩ := hf
   have hok : AnsOk { f with ranks := rs } := ⟨a1, a2, a3, a4, a5, a6, a7, a8, a9, a10, a11, a12, a13, r1, by simp only; omega, a16, a17, a18, a19, a20, a21, a22, a23, a24, a25, a26, a27, a28, a29, a30⟩
   refine ⟨hok, by simp only [hev]; simp, by simp only; omega, by simp only; omega, fun e he => by simp only [hev] at he; simp at he, ?_⟩
   have p1 := firstT_most (k := k) hok
   have p2 := rksT_most rs r1
   have p3 := numsT_len [f.code] (fitsCons a1 fitsNil)
   simp only [List.length_cons, List.length_nil] at p1 p3
   have e0 : (evsT f.events).length = 0 := by rw [hev]; rfl
   unfold printT
   split
   ·simp only [List.length_append, List.length_cons, List.length_nil]; omega
   ·simp only [List.length_append, List.length_cons, List.length_nil]; omega
 ·cases hr : evsRead M with
  | none => rw [hr] at h; cases h
  | some es =>
   rw [hr] at h
   simp only [Option.map_some, Option.some.injEq] at h
   subst h
   have he := evsRead_ok M es hr
   have hel : es.length = M.length := by rw [he, List.length_map]
   have heo : ∀ e ∈ es, EvOk e := fun e hm => by
    rw [he] at hm
    obtain ⟨s, hs, rfl⟩ := List.mem_map.1 hm
    exact readE_ok (by have := hsz s hs; omega)
   have hfw : ∀ e ∈ es, e.list.length ≤ 4294967200 := fun e hm => by
    rw [he] at hm
    obtain ⟨s, hs, rfl⟩ := List.mem_map.1 hm
    have := readE_list (hsz s hs)
    have := hsz s hs
    omega
   obtain ⟨a1, a2, a3, a4, a5, a6, a7, a8, a9, a10, a11, a12, a13, a14, a15, a16, a17, a18, a19, a20, a21, a22, a23, a24, a25, a26, a27, a28, a29, a30⟩ := hf
   have hok : AnsOk { f with events := es } := ⟨a1, a2, heo, by simp only; omega, a5, a6, a7, a8, a9, a10, a11, a12, a13, a14, a15, a16, a17, a18, a19, a20, a21, a22, a23, a24, a25, a26, a27, a28, a29, a30⟩
   refine ⟨hok, by simp only; omega, by simp only [hrk]; simp, by simp only; omega, hfw, ?_⟩
   have p1 := firstT_most (k := k) hok
   have p2 := evsT_reads M
   rw [← he] at p2
   have p3 := numsT_len [f.code] (fitsCons a1 fitsNil)
   simp only [List.length_cons, List.length_nil] at p1 p3
   have e0 : (rksT f.ranks).length = 0 := by rw [hrk]; rfl
   unfold printT
   split
   ·simp only [List.length_append, List.length_cons, List.length_nil]; omega
   ·simp only [List.length_append, List.length_cons, List.length_nil]; omega
theorem refParse_cases (k : Int) (t : ByteArray) : refParse k t = (zA, 90) ∨ (∃ a, bodyR k (firstR k (wordsC 32 ((wordsC 10 t).headD ⟨#[]⟩))).1 (midW (wordsC 10 t)) = some a ∧ checkA k a = 0 ∧ printS k a = t ∧ refParse k t = (a, 0)) := by
 unfold refParse
 split
 ·exact .inl rfl
 ·cases hb : bodyR k (firstR k (wordsC 32 ((wordsC 10 t).headD ⟨#[]⟩))).1 (midW (wordsC 10 t)) with
  | none => exact .inl rfl
  | some a =>
   simp only
   split
   ·rename_i h
    exact .inr ⟨a, rfl, h.1, h.2, rfl⟩
   ·exact .inl rfl
theorem refParse_eq {k : Int} {t : ByteArray} (ht : t.size ≤ 1048576) : refParse k t = parseA k t := by
 rcases refParse_cases k t with h | ⟨a, h1, h2, h3, h4⟩
 ·rw [h]
  unfold parseA
  split
  ·rename_i hh
   obtain ⟨-, g1, g2⟩ := hh
   have := refParse_back g1 (cand_fits (k := k) (t := t) (by omega)).1
   rw [g2, h] at this
   simp at this
  ·rfl
 ·rw [h4, ← h3, parse_back h2 (body_ok ht h1).ok]
end Go.Proofs.An

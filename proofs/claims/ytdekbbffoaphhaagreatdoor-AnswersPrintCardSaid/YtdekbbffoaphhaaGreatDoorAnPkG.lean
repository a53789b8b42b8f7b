/- Answers' small functions, and the reference's: signs, rising, states' words, numbers. -/
import Derived.Test.YtdekbbffoaphhaaGreatDoorAnBase
import Derived.Test.YtdekbbffoaphhaaGreatDoorView
import Derived.Deep.DeepCutAuto
import Derived.Deep.CutBlock
set_option linter.unusedVariables false
set_option linter.unusedSimpArgs false
set_option maxRecDepth 100000
set_option maxHeartbeats 4000000
namespace Go.Proofs.YtdekbbffoaphhaaGreatDoor
open Go.RowKit Go.Proofs.HL Go.Proofs.An
theorem signs_ok {w : World} {v : Value} {l : List Int} (h : Rd 1 v l.length (intC l) w) :
  Calls Tryz.prog 26 #[v] w fun e w' => e = .returned (.bool (sgn l)) ∧ w = w' := by
 obtain ⟨A, c, rfl, hc1, hc2⟩ := rd_shape h
 unfold maxLen at hc2
 go_enter Tryz.func26, Tryz.ntmps26
 go_wp2
 go_loopg [7] l.length (fun g i wr => ∃ k : Nat, i = .int .i64 k ∧ k + g = l.length ∧ sgn (l.take k) = true ∧ w = wr)
 case atStart => exact ⟨0, rfl, by omega, rfl, rfl⟩
 case round =>
  obtain ⟨k, rfl, hk, hno, rfl⟩ := hrel
  have HNO := Lib.hid hno
  clear hno
  by_cases hlt : k < l.length
  ·obtain ⟨x, hx⟩ : ∃ x, l[k]? = some x := ⟨_, List.getElem?_eq_getElem hlt⟩
   obtain ⟨b1, o1, c1, hv, d0⟩ := int_at h hx
   simp only [Value.slice.injEq] at hv
   obtain ⟨rfl, -, rfl⟩ := hv
   by_cases hn : x < 0
   ·have HB := Lib.hid (sgn_bad (List.mem_of_getElem? hx) hn)
    clear hx h
    go_wp2
    go_ret
    exact ⟨retBo HB.out, rfl⟩
   ·have hnx : sgn (l.take (k + 1)) = true := by rw [List.take_add_one, hx]; simp only [Option.toList_some]; rw [sgn_snoc, HNO.out]; simp; omega
    have HN := Lib.hid hnx
    clear hx hnx h
    go_wp2
    go_roundg (gk - 1)
    case measure => omega
    case rel => exact ⟨k + 1, by go_num, by omega, HN.out, rfl⟩
  ·have hd : sgn l = true := by have := HNO.out; rwa [List.take_of_length_le (by omega)] at this
   have HD := Lib.hid hd
   clear hd
   go_wp2
   go_ret
   exact ⟨retBo HD.out, rfl⟩
theorem Ref.from0_ok {w : World} {v : Value} {l : List Int} (h : Rd 1 v l.length (intC l) w) :
  Calls Tryz.prog 31 #[v] w fun e w' => e = .returned (.bool (sgn l)) ∧ w = w' := by
 obtain ⟨A, c, rfl, hc1, hc2⟩ := rd_shape h
 unfold maxLen at hc2
 go_enter Tryz.func31, Tryz.ntmps31
 go_wp2
 go_loopg [7] l.length (fun g i wr => ∃ k : Nat, i = .int .i64 k ∧ k + g = l.length ∧ sgn (l.take k) = true ∧ w = wr)
 case atStart => exact ⟨0, rfl, by omega, rfl, rfl⟩
 case round =>
  obtain ⟨k, rfl, hk, hno, rfl⟩ := hrel
  have HNO := Lib.hid hno
  clear hno
  by_cases hlt : k < l.length
  ·obtain ⟨x, hx⟩ : ∃ x, l[k]? = some x := ⟨_, List.getElem?_eq_getElem hlt⟩
   obtain ⟨b1, o1, c1, hv, d0⟩ := int_at h hx
   simp only [Value.slice.injEq] at hv
   obtain ⟨rfl, -, rfl⟩ := hv
   by_cases hn : x < 0
   ·have HB := Lib.hid (sgn_bad (List.mem_of_getElem? hx) hn)
    clear hx h
    go_wp2
    go_ret
    exact ⟨retBo HB.out, rfl⟩
   ·have hnx : sgn (l.take (k + 1)) = true := by rw [List.take_add_one, hx]; simp only [Option.toList_some]; rw [sgn_snoc, HNO.out]; simp; omega
    have HN := Lib.hid hnx
    clear hx hnx h
    go_wp2
    go_roundg (gk - 1)
    case measure => omega
    case rel => exact ⟨k + 1, by go_num, by omega, HN.out, rfl⟩
  ·have hd : sgn l = true := by have := HNO.out; rwa [List.take_of_length_le (by omega)] at this
   have HD := Lib.hid hd
   clear hd
   go_wp2
   go_ret
   exact ⟨retBo HD.out, rfl⟩
theorem rises_ok {w : World} {v : Value} {l : List Int} (h : Rd 1 v l.length (intC l) w) :
  Calls Tryz.prog 28 #[v] w fun e w' => e = .returned (.bool (ris l)) ∧ w = w' := by
 obtain ⟨A, c, rfl, hc1, hc2⟩ := rd_shape h
 unfold maxLen at hc2
 go_enter Tryz.func28, Tryz.ntmps28
 go_wp2
 go_loopg [3, 8] l.length (fun g la i wr => ∃ k : Nat, i = .int .i64 k ∧ la = .int .i64 ((l.take k).getLastD (-1)) ∧ k + g = l.length ∧ ris (l.take k) = true ∧ w = wr)
 case atStart => exact ⟨0, rfl, rfl, by omega, rfl, rfl⟩
 case round =>
  obtain ⟨k, rfl, rfl, hk, hno, rfl⟩ := hrel
  have HNO := Lib.hid hno
  clear hno
  by_cases hlt : k < l.length
  ·obtain ⟨x, hx⟩ : ∃ x, l[k]? = some x := ⟨_, List.getElem?_eq_getElem hlt⟩
   obtain ⟨b1, o1, c1, hv, d0⟩ := int_at h hx
   simp only [Value.slice.injEq] at hv
   obtain ⟨rfl, -, rfl⟩ := hv
   have hbad := fun hn => ris_bad hx (n := x) hn
   have hgood : (l.take k).getLastD (-1) < x → ris (l.take (k + 1)) = true := fun hn => by
    rw [List.take_add_one, hx]; simp only [Option.toList_some]; unfold ris; rw [risF_snoc, show risF (-1) (l.take k) = true from HNO.out]; simpa using hn
   have hlast : (l.take (k + 1)).getLastD (-1) = x := by rw [List.take_add_one, hx]; simp
   generalize (l.take k).getLastD (-1) = la at *
   have HL := Lib.hid hlast
   by_cases hn : x ≤ la
   ·have HB := Lib.hid (hbad hn)
    clear hx hbad hgood hlast h
    go_wp2
    go_ret
    exact ⟨retBo HB.out, rfl⟩
   ·have HN := Lib.hid (hgood (by omega))
    clear hx hbad hgood hlast h
    go_wp2
    go_roundg (gk - 1)
    case measure => omega
    case rel => exact ⟨k + 1, by go_num, by rw [HL.out], by omega, HN.out, rfl⟩
  ·have hd : ris l = true := by have := HNO.out; rwa [List.take_of_length_le (by omega)] at this
   have HD := Lib.hid hd
   clear hd
   go_wp2
   go_ret
   exact ⟨retBo HD.out, rfl⟩
theorem Ref.rises_ok {w : World} {v : Value} {l : List Int} (h : Rd 1 v l.length (intC l) w) :
  Calls Tryz.prog 33 #[v] w fun e w' => e = .returned (.bool (ris l)) ∧ w = w' := by
 obtain ⟨A, c, rfl, hc1, hc2⟩ := rd_shape h
 unfold maxLen at hc2
 go_enter Tryz.func33, Tryz.ntmps33
 go_wp2
 go_loopg [3, 8] l.length (fun g la i wr => ∃ k : Nat, i = .int .i64 k ∧ la = .int .i64 ((l.take k).getLastD (-1)) ∧ k + g = l.length ∧ ris (l.take k) = true ∧ w = wr)
 case atStart => exact ⟨0, rfl, rfl, by omega, rfl, rfl⟩
 case round =>
  obtain ⟨k, rfl, rfl, hk, hno, rfl⟩ := hrel
  have HNO := Lib.hid hno
  clear hno
  by_cases hlt : k < l.length
  ·obtain ⟨x, hx⟩ : ∃ x, l[k]? = some x := ⟨_, List.getElem?_eq_getElem hlt⟩
   obtain ⟨b1, o1, c1, hv, d0⟩ := int_at h hx
   simp only [Value.slice.injEq] at hv
   obtain ⟨rfl, -, rfl⟩ := hv
   have hbad := fun hn => ris_bad hx (n := x) hn
   have hgood : (l.take k).getLastD (-1) < x → ris (l.take (k + 1)) = true := fun hn => by
    rw [List.take_add_one, hx]; simp only [Option.toList_some]; unfold ris; rw [risF_snoc, show risF (-1) (l.take k) = true from HNO.out]; simpa using hn
   have hlast : (l.take (k + 1)).getLastD (-1) = x := by rw [List.take_add_one, hx]; simp
   generalize (l.take k).getLastD (-1) = la at *
   have HL := Lib.hid hlast
   by_cases hn : x ≤ la
   ·have HB := Lib.hid (hbad hn)
    clear hx hbad hgood hlast h
    go_wp2
    go_ret
    exact ⟨retBo HB.out, rfl⟩
   ·have HN := Lib.hid (hgood (by omega))
    clear hx hbad hgood hlast h
    go_wp2
    go_roundg (gk - 1)
    case measure => omega
    case rel => exact ⟨k + 1, by go_num, by rw [HL.out], by omega, HN.out, rfl⟩
  ·have hd : ris l = true := by have := HNO.out; rwa [List.take_of_length_le (by omega)] at this
   have HD := Lib.hid hd
   clear hd
   go_wp2
   go_ret
   exact ⟨retBo HD.out, rfl⟩
theorem state_ok (k : Int) (w : World) : Calls Tryz.prog 27 #[.int .i64 k] w fun e w' => e = .returned (.string (stW k)) ∧ w = w' := by
 by_cases h1 : k = 1
 ·subst h1
  go_enter Tryz.func27, Tryz.ntmps27
  go_wp2
  go_ret
  exact ⟨rfl, rfl⟩
 by_cases h2 : k = 2
 ·subst h2
  go_enter Tryz.func27, Tryz.ntmps27
  go_wp2
  go_ret
  exact ⟨rfl, rfl⟩
 by_cases h3 : k = 3
 ·subst h3
  go_enter Tryz.func27, Tryz.ntmps27
  go_wp2
  go_ret
  exact ⟨rfl, rfl⟩
 by_cases h4 : k = 4
 ·subst h4
  go_enter Tryz.func27, Tryz.ntmps27
  go_wp2
  go_ret
  exact ⟨rfl, rfl⟩
 by_cases h5 : k = 5
 ·subst h5
  go_enter Tryz.func27, Tryz.ntmps27
  go_wp2
  go_ret
  exact ⟨rfl, rfl⟩
 by_cases h6 : k = 6
 ·subst h6
  go_enter Tryz.func27, Tryz.ntmps27
  go_wp2
  go_ret
  exact ⟨rfl, rfl⟩
 have e : stW k = ⟨#[]⟩ := by unfold stW; simp [h1, h2, h3, h4, h5, h6]
 have b1 : (k == 1) = false := by simp [h1]
 have b2 : (k == 2) = false := by simp [h2]
 have b3 : (k == 3) = false := by simp [h3]
 have b4 : (k == 4) = false := by simp [h4]
 have b5 : (k == 5) = false := by simp [h5]
 have b6 : (k == 6) = false := by simp [h6]
 rw [e]
 clear e h1 h2 h3 h4 h5 h6
 go_enter Tryz.func27, Tryz.ntmps27
 go_wp2
 go_ret
 exact ⟨rfl, rfl⟩
theorem Ref.state_ok (k : Int) (w : World) : Calls Tryz.prog 34 #[.int .i64 k] w fun e w' => e = .returned (.string (stW k)) ∧ w = w' := by
 by_cases h1 : k = 1
 ·subst h1
  go_enter Tryz.func34, Tryz.ntmps34
  go_wp2
  go_ret
  exact ⟨rfl, rfl⟩
 by_cases h2 : k = 2
 ·subst h2
  go_enter Tryz.func34, Tryz.ntmps34
  go_wp2
  go_ret
  exact ⟨rfl, rfl⟩
 by_cases h3 : k = 3
 ·subst h3
  go_enter Tryz.func34, Tryz.ntmps34
  go_wp2
  go_ret
  exact ⟨rfl, rfl⟩
 by_cases h4 : k = 4
 ·subst h4
  go_enter Tryz.func34, Tryz.ntmps34
  go_wp2
  go_ret
  exact ⟨rfl, rfl⟩
 by_cases h5 : k = 5
 ·subst h5
  go_enter Tryz.func34, Tryz.ntmps34
  go_wp2
  go_ret
  exact ⟨rfl, rfl⟩
 by_cases h6 : k = 6
 ·subst h6
  go_enter Tryz.func34, Tryz.ntmps34
  go_wp2
  go_ret
  exact ⟨rfl, rfl⟩
 have e : stW k = ⟨#[]⟩ := by unfold stW; simp [h1, h2, h3, h4, h5, h6]
 have b1 : (k == 1) = false := by simp [h1]
 have b2 : (k == 2) = false := by simp [h2]
 have b3 : (k == 3) = false := by simp [h3]
 have b4 : (k == 4) = false := by simp [h4]
 have b5 : (k == 5) = false := by simp [h5]
 have b6 : (k == 6) = false := by simp [h6]
 rw [e]
 clear e h1 h2 h3 h4 h5 h6
 go_enter Tryz.func34, Tryz.ntmps34
 go_wp2
 go_ret
 exact ⟨rfl, rfl⟩
theorem stateOf_ok (s : ByteArray) (w : World) : Calls Tryz.prog 48 #[.string s] w fun e w' => e = .returned (.int .i64 (stN s)) ∧ w = w' := by
 have hne : ∀ n : Int, s ≠ stW n → ((stW n).toList == s.toList) = false := fun n h => by
  rw [beq_eq_false_iff_ne]
  exact fun e => h (bytesSame e).symm
 have HNE := Lib.hid hne
 clear hne
 go_enter Tryz.func48, Tryz.ntmps48
 go_wp2
 go_loopg [3] 6 (fun g i wr => ∃ k : Nat, i = .int .i64 ((k : Int) + 1) ∧ k + g = 6 ∧ (∀ j : Nat, j < k → s ≠ stW ((j : Int) + 1)) ∧ w = wr)
 case atStart => exact ⟨0, rfl, rfl, (fun j h => by omega), rfl⟩
 case round =>
  obtain ⟨k, rfl, hk, hno, rfl⟩ := hrel
  have HNO := Lib.hid hno
  clear hno
  have hst := fun W => state_ok ((k : Int) + 1) W
  by_cases hlt : k < 6
  ·have hg : (k : Int) + 1 ≤ 6 := by omega
   by_cases hs : s = stW ((k : Int) + 1)
   ·have hq : ((stW ((k : Int) + 1)).toList == s.toList) = true := by rw [← hs]; exact beq_self_eq_true _
    have hr : stN s = (k : Int) + 1 := by
     rcases (show k = 0 ∨ k = 1 ∨ k = 2 ∨ k = 3 ∨ k = 4 ∨ k = 5 by omega) with rfl | rfl | rfl | rfl | rfl | rfl <;> (rw [hs]; decide +kernel)
    have HR := Lib.hid hr
    clear hr hs
    generalize stW ((k : Int) + 1) = S at *
    go_wp2_with (go_at_call 27; refine (hst _).mono ?_; rintro e w3 ⟨rfl, rfl⟩)
    go_ret
    exact ⟨retIn HR.out, rfl⟩
   ·have hq := HNE.out _ hs
    have hn : ∀ j : Nat, j < k + 1 → s ≠ stW ((j : Int) + 1) := fun j hj => by
     rcases Nat.lt_or_ge j k with h | h
     ·exact HNO.out j h
     ·obtain rfl : j = k := by omega
      exact hs
    have HN := Lib.hid hn
    clear hn hs
    generalize stW ((k : Int) + 1) = S at *
    go_wp2_with (go_at_call 27; refine (hst _).mono ?_; rintro e w3 ⟨rfl, rfl⟩)
    go_roundg (gk - 1)
    case measure => omega
    case rel => exact ⟨k + 1, by go_num, by omega, HN.out, rfl⟩
  ·have hg : (6 : Int) < (k : Int) + 1 := by omega
   have hr : stN s = 0 := by
    obtain rfl : k = 6 := by omega
    have h := HNO.out
    unfold stN
    rw [if_neg (show s ≠ stW 1 from h 0 (by omega)), if_neg (show s ≠ stW 2 from h 1 (by omega)), if_neg (show s ≠ stW 3 from h 2 (by omega)), if_neg (show s ≠ stW 4 from h 3 (by omega)), if_neg (show s ≠ stW 5 from h 4 (by omega)), if_neg (show s ≠ stW 6 from h 5 (by omega))]
   have HR := Lib.hid hr
   clear hr hst
   go_wp2
   go_ret
   exact ⟨retIn HR.out, rfl⟩
section
variable {w0 w : World} {L : List At} {v : Value}
theorem numbers_ok (hD : Doors w0) (H : HL w0 w L) {l : List Int} (h : Ints w0 L v l) (hf : Fits l) (hl : l.length ≤ 4294967296) :
  Calls Tryz.prog 19 #[v] w fun e w' => e = .returned (.string ⟨(numsT l).toArray⟩) ∧ HL w0 w' L := by
 obtain ⟨A, c, rfl, hc1, hc2⟩ := rd_shape (h w H)
 unfold maxLen at hc2
 have HE := Lib.hid h; have HF := Lib.hid hf
 clear h hf
 go_enter Tryz.func19, Tryz.ntmps19
 go_wp2
 go_loopg [3, 8] l.length (fun g s i wr => ∃ (k : Nat) (t : ByteArray), i = .int .i64 k ∧ s = .string t ∧ k + g = l.length ∧ t.data.toList = numsT (l.take k) ∧ t.size ≤ 22 * k ∧ HL w0 wr L)
 case atStart => exact ⟨0, ⟨#[]⟩, rfl, rfl, by omega, rfl, by decide, H⟩
 case round =>
  obtain ⟨k, t, rfl, rfl, hk, ht, hts, HK⟩ := hrel
  have HT := Lib.hid ht
  clear ht H
  by_cases hlt : k < l.length
  ·obtain ⟨x, hx⟩ : ∃ x, l[k]? = some x := ⟨_, List.getElem?_eq_getElem hlt⟩
   obtain ⟨b1, o1, c1, hv, d0⟩ := int_at (HE.out _ HK) hx
   simp only [Value.slice.injEq] at hv
   obtain ⟨rfl, -, rfl⟩ := hv
   obtain ⟨f1, f2⟩ := HF.out x (List.mem_of_getElem? hx)
   have hit := itoa_ok hD HK x f1 f2
   have hsz : (⟨(Lib.itoa x).toArray⟩ : ByteArray).size ≤ 21 := by have := Lib.itoa_length_le x f1 f2; simpa [ByteArray.size] using this
   have hnx : ∀ q : ByteArray, q.data.toList = t.data.toList ++ 32 :: Lib.itoa x → q.data.toList = numsT (l.take (k + 1)) := fun q hq => by
    rw [hq, HT.out, List.take_add_one, hx]; simp only [Option.toList_some]; rw [numsT_snoc]
   have hqq : (t ++ ((⟨#[32]⟩ : ByteArray) ++ (⟨(Lib.itoa x).toArray⟩ : ByteArray))).data.toList = t.data.toList ++ 32 :: Lib.itoa x := by simp
   have HN := Lib.hid (hnx _ hqq)
   have hbl : (⟨#[32]⟩ : ByteArray).size = 1 := rfl
   clear hx hnx hqq f1 f2
   generalize (⟨(Lib.itoa x).toArray⟩ : ByteArray) = D at *
   go_wp2_with (go_at_call 50; refine hit.mono ?_; rintro e w7 ⟨rfl, H7⟩; clear hit HK d0)
   go_roundg (gk - 1)
   case measure => omega
   case rel => exact ⟨k + 1, t ++ (⟨#[32]⟩ ++ D), by go_num, rfl, by omega, HN.out, by simp only [ByteArray.size_append]; omega, H7⟩
  ·have hend : (⟨(numsT l).toArray⟩ : ByteArray) = t := by
    have := HT.out
    rw [List.take_of_length_le (by omega)] at this
    rw [← this]
   have HN := Lib.hid hend
   clear hend
   go_wp2
   go_ret
   exact ⟨retVa (congrArg Value.string HN.out), HK⟩
end
end Go.Proofs.YtdekbbffoaphhaaGreatDoor
namespace Go.Proofs.An
/-- The number that a word says, and says so. -/
def numW (s : ByteArray) : Option Int := match Lib.atoiAll s.data.toList with | .ok n => if Lib.itoa n = s.data.toList then some n else none | _ => none
def numsW : List ByteArray → Option (List Int)
 | [] => some []
 | s :: r => match numW s with | none => none | some n => match numsW r with | none => none | some l => some (n :: l)
theorem numsW_app : ∀ (l r : List ByteArray), numsW (l ++ r) = match numsW l with | none => none | some a => match numsW r with | none => none | some b => some (a ++ b)
 | [], r => by simp only [List.nil_append, numsW]; cases numsW r <;> rfl
 | s :: l, r => by
  rw [List.cons_append, numsW, numsW, numsW_app l r]
  cases numW s with
  | none => rfl
  | some n =>
   cases numsW l with
   | none => rfl
   | some a => cases numsW r <;> rfl
theorem numsW_len : ∀ (l : List ByteArray) (a : List Int), numsW l = some a → a.length = l.length
 | [], a, h => by simp only [numsW, Option.some.injEq] at h; subst h; rfl
 | s :: l, a, h => by
  simp only [numsW] at h
  cases hn : numW s with
  | none => rw [hn] at h; cases h
  | some n =>
   rw [hn] at h
   cases hl : numsW l with
   | none => rw [hl] at h; cases h
   | some b =>
    rw [hl] at h
    simp only [Option.some.injEq] at h
    subst h
    simp [numsW_len l b hl]
theorem numW_none {s : ByteArray} (h : ∀ n, Lib.atoiAll s.data.toList ≠ .ok n) : numW s = none := by
 unfold numW
 cases hA : Lib.atoiAll s.data.toList with
 | ok n => exact absurd hA (h n)
 | «syntax» => rfl
 | range => rfl
theorem numW_fits {s : ByteArray} {n : Int} (h : numW s = some n) : -9223372036854775808 ≤ n ∧ n ≤ 9223372036854775807 := by
 unfold numW at h
 split at h
 ·rename_i m hm
  split at h
  ·obtain rfl := Option.some.inj h
   exact Lib.atoiAll_bounds hm
  ·cases h
 ·cases h
theorem numsW_fits : ∀ (l : List ByteArray) (a : List Int), numsW l = some a → Fits a
 | [], a, h => by simp only [numsW, Option.some.injEq] at h; subst h; exact fun n hn => by simp at hn
 | s :: l, a, h => by
  simp only [numsW] at h
  cases hn : numW s with
  | none => rw [hn] at h; cases h
  | some n =>
   rw [hn] at h
   cases hl : numsW l with
   | none => rw [hl] at h; cases h
   | some b =>
    rw [hl] at h
    simp only [Option.some.injEq] at h
    subst h
    intro m hm
    rcases List.mem_cons.1 hm with rfl | hm
    ·exact numW_fits hn
    ·exact numsW_fits l b hl m hm
end Go.Proofs.An
namespace Go.Proofs.YtdekbbffoaphhaaGreatDoor
open Go.RowKit Go.Proofs.HL Go.Proofs.An
section
variable {w0 w : World} {L : List At} {v : Value}
def ReadsPost (w0 : World) (L : List At) (ws : List ByteArray) (e : Ending) (w' : World) : Prop :=
 match numsW ws with | some l => ∃ u, e = .returned (.tuple #[u, .bool true]) ∧ HL w0 w' (intsR w0.heap.size u l :: L) | none => e = .returned (.tuple #[.slice none 0 0, .bool false]) ∧ HL w0 w' L
theorem readsPost_some {ws : List ByteArray} {l : List Int} (h : numsW ws = some l) {u : Value} {w' : World} (H : HL w0 w' (intsR w0.heap.size u l :: L)) : ReadsPost w0 L ws (.returned (.tuple #[u, .bool true])) w' := by
 unfold ReadsPost; rw [h]; exact ⟨u, rfl, H⟩
theorem readsPost_none {ws : List ByteArray} (h : numsW ws = none) {w' : World} (H : HL w0 w' L) : ReadsPost w0 L ws (.returned (.tuple #[.slice none 0 0, .bool false])) w' := by
 unfold ReadsPost; rw [h]; exact ⟨rfl, H⟩
theorem numsW_bad {ws : List ByteArray} {k : Nat} {s : ByteArray} (hs : ws[k]? = some s) (h : numW s = none) : numsW ws = none := by
 have hk := (List.getElem?_eq_some_iff.1 hs).1
 have e : ws = ws.take k ++ s :: ws.drop (k + 1) := by
  conv => lhs; rw [← List.take_append_drop k ws]
  rw [List.drop_eq_getElem_cons hk, (List.getElem?_eq_some_iff.1 hs).2]
 rw [e, numsW_app]
 cases numsW (ws.take k) with
 | none => rfl
 | some a => simp [numsW, h]
theorem reads_any (hD : Doors w0) (H : HL w0 w L) {ws : List ByteArray} (h : Strs w0 L v ws) (hz : ∀ s ∈ ws, s.size ≤ 140737488351232) (hl : ws.length ≤ 4294967296) :
  Calls Tryz.prog 42 #[v] w (ReadsPost w0 L ws) := by
 obtain ⟨A, c, rfl, hc1, hc2⟩ := rd_shape (h w H)
 unfold maxLen at hc2
 have HE := Lib.hid h; have HZ := Lib.hid hz
 have H1 : HL w0 w (intsR w0.heap.size (.slice none 0 0) [] :: L) := H.nilRow _ _ _
 clear h hz H
 go_enter Tryz.func42, Tryz.ntmps42
 go_wp2
 go_loopg [4, 11] ws.length (fun g u i wr => ∃ (k : Nat) (l : List Int), i = .int .i64 k ∧ k + g = ws.length ∧ numsW (ws.take k) = some l ∧ HL w0 wr (intsR w0.heap.size u l :: L))
 case atStart => exact ⟨0, [], rfl, by omega, rfl, H1⟩
 case round =>
  obtain ⟨k, l, rfl, hk, ht, HK⟩ := hrel
  have hlen := numsW_len _ _ ht
  have hlk : l.length ≤ ws.length := by rw [hlen, List.length_take]; omega
  have HT := Lib.hid ht
  clear ht H1 hlen
  obtain ⟨A4, c4, rfl, -, hc3, hc4⟩ := row_shape (show wr.ownsRow w0.heap.size 3 1 u4 l.length (intC l) from HK.head)
  unfold maxLen at hc4
  by_cases hlt : k < ws.length
  ·obtain ⟨x, hx⟩ : ∃ x, ws[k]? = some x := ⟨_, List.getElem?_eq_getElem hlt⟩
   obtain ⟨b1, o1, c1, hv, d0⟩ := str_at (HE.out _ HK.tail) hx
   simp only [Value.slice.injEq] at hv
   obtain ⟨rfl, -, rfl⟩ := hv
   have hat := atoi_ok hD HK x (HZ.out x (List.mem_of_getElem? hx))
   have hbad := fun h => numsW_bad hx h
   have hgood : ∀ n, numW x = some n → numsW (ws.take (k + 1)) = some (l ++ [n]) := fun n hn => by
    rw [List.take_add_one, hx, numsW_app, HT.out]; simp [numsW, hn]
   have HB := Lib.hid hbad; have HG := Lib.hid hgood
   have hbeq : ∀ n, decide (Lib.itoa n = x.data.toList) = (Lib.itoa n == x.toList) := fun n => by rw [Go.ByteArray.toList_eq, Bool.eq_iff_iff]; simp
   have HQ := Lib.hid hbeq
   clear hbad hgood hx hbeq
   go_upto_region 6 with (go_at_call 62; refine hat.mono ?_; rintro e w2 (⟨n, hA, rfl, H2⟩ | ⟨hA, n, t, p, rfl, H2⟩))
   ·have hb := Lib.atoiAll_bounds hA
    have hit := itoa_ok hD H2 n hb.1 hb.2
    have hnw : numW x = if Lib.itoa n = x.data.toList then some n else none := by unfold numW; rw [hA]
    have HNW := Lib.hid hnw
    clear hnw hA hat HK d0
    by_cases hi : Lib.itoa n = x.data.toList
    ·have hq : (Lib.itoa n == x.toList) = true := by rw [← HQ.out, hi]; simp
     have hq2 : (!(Lib.itoa n == x.toList)) = false := by rw [hq]; rfl
     have HN := Lib.hid (HG.out n (by rw [HNW.out, if_pos hi]))
     clear hi
     go_wp2_with (first
      | (go_at_call 50; refine hit.mono ?_; rintro e w7 ⟨rfl, H7⟩; clear hit H2; have HA := H7.alloc' (.cells #[.int .i64 n] 3); have hr4 := rd_int (w := w7) (y := n))
      | (at_builtin; refine append_int (v := .slice A4 l.length c4) (xs := l) (y := n) (b := w7.heap.size) rfl _ _ rfl HA rfl rfl hr4 (by omega) ?_; intro z5 w8 H8; clear HA hr4 H7))
     go_roundg (gk - 1)
     case measure => omega
     case rel => exact ⟨k + 1, l ++ [n], by go_num, by omega, HN.out, H8⟩
    ·have hq : (Lib.itoa n == x.toList) = false := by rw [← HQ.out]; simp [hi]
     have HN := Lib.hid (HB.out (by rw [HNW.out, if_neg hi]))
     clear hi
     go_wp2_with (go_at_call 50; refine hit.mono ?_; rintro e w7 ⟨rfl, H7⟩; clear hit H2)
     go_ret2
     exact readsPost_none HN.out H7.tail
   ·have HN := Lib.hid (HB.out (numW_none hA))
    clear hA hat HK d0
    go_wp2
    go_ret2
    exact readsPost_none HN.out H2.tail
  ·have hend : numsW ws = some l := by have := HT.out; rwa [List.take_of_length_le (by omega)] at this
   have HN := Lib.hid hend
   clear hend
   go_wp2
   go_ret2
   exact readsPost_some HN.out HK
end
end Go.Proofs.YtdekbbffoaphhaaGreatDoor
namespace Go.Proofs.An
theorem okK_1 {e : Ev} (h : e.kind = 1) : okK e = noneB e := by simp [okK, h]
theorem okK_2 {e : Ev} (h : e.kind = 2) : okK e = (bareB e && ris e.list) := by simp [okK, h]
theorem okK_3 {e : Ev} (h : e.kind = 3) : okK e = (decide (3 ≤ e.nd) && decide (e.nd ≤ 6) && e.lm == 0 && noneB e) := by simp [okK, h]
theorem okK_4 {e : Ev} (h : e.kind = 4) : okK e = (bareB e && noneB e) := by simp [okK, h]
theorem okK_5 {e : Ev} (h : e.kind = 5) : okK e = (bareB e && e.job == 0 && sgn e.list) := by simp [okK, h]
theorem okK_6 {e : Ev} (h : e.kind = 6 ∨ e.kind = 7) : okK e = (bareB e && e.job == 0 && noneB e) := by rcases h with h | h <;> simp [okK, h]
theorem okK_no {e : Ev} (h1 : e.kind ≠ 1) (h2 : e.kind ≠ 2) (h3 : e.kind ≠ 3) (h4 : e.kind ≠ 4) (h5 : e.kind ≠ 5) (h6 : e.kind ≠ 6) (h7 : e.kind ≠ 7) : okK e = false := by simp [okK, h1, h2, h3, h4, h5, h6, h7]
end Go.Proofs.An
namespace Go.Proofs.YtdekbbffoaphhaaGreatDoor
open Go.RowKit Go.Proofs.HL Go.Proofs.An
def evV (e : Ev) (v : Value) : Value := .agg #[.int .i64 e.kind, .int .i64 e.job, .int .i64 e.tm, .int .i64 e.nd, .int .i64 e.lm, v]
def boxE (b : Nat) (e : Ev) (v : Value) : At := blk b (.cells #[.int .i64 e.kind, .int .i64 e.job, .int .i64 e.tm, .int .i64 e.nd, .int .i64 e.lm, v] 46)
section
variable {w0 w : World} {L : List At} {v : Value} {b : Nat} {e : Ev}
theorem HL.allocE (H : HL w0 w L) (e : Ev) (v : Value) : HL w0 (w.alloc (.cells #[.int .i64 e.kind, .int .i64 e.job, .int .i64 e.tm, .int .i64 e.nd, .int .i64 e.lm, v] 46)) (boxE w.heap.size e v :: L) := H.alloc _
theorem boxE_cells (H : HL w0 w (boxE b e v :: L)) : w.cell? ⟨b, 0, none⟩ = some (.int .i64 e.kind) ∧ w.cell? ⟨b, 1, none⟩ = some (.int .i64 e.job) ∧ w.cell? ⟨b, 2, none⟩ = some (.int .i64 e.tm) ∧ w.cell? ⟨b, 3, none⟩ = some (.int .i64 e.nd) ∧ w.cell? ⟨b, 4, none⟩ = some (.int .i64 e.lm) ∧ w.cell? ⟨b, 5, none⟩ = some v :=
 ⟨HL.cell H 0, HL.cell H 1, HL.cell H 2, HL.cell H 3, HL.cell H 4, HL.cell H 5⟩
theorem boxE_froz (H : HL w0 w (boxE b e v :: L)) : w.frozen? ⟨b, 0, none⟩ = false ∧ w.frozen? ⟨b, 1, none⟩ = false ∧ w.frozen? ⟨b, 2, none⟩ = false ∧ w.frozen? ⟨b, 3, none⟩ = false ∧ w.frozen? ⟨b, 4, none⟩ = false ∧ w.frozen? ⟨b, 5, none⟩ = false :=
 ⟨HL.frozen H 0, HL.frozen H 1, HL.frozen H 2, HL.frozen H 3, HL.frozen H 4, HL.frozen H 5⟩
theorem ne_beq {k n : Int} (h : k ≠ n) : (k == n) = false := by simp [h]
theorem right_ok (H : HL w0 w L) (e : Ev) (h : Ints w0 L v e.list) :
  Calls Tryz.prog 29 #[evV e v] w fun r w' => r = .returned (.bool (right e)) ∧ HL w0 w' L := by
 obtain ⟨A, c, rfl, hc1, hc2⟩ := rd_shape (h w H)
 unfold maxLen at hc2
 have H1 := HL.allocE H e (.slice A e.list.length c)
 have hrd := h.cons (boxE w.heap.size e (.slice A e.list.length c)) _ H1
 obtain ⟨n0, n1, n2, n3, n4, n5⟩ := boxE_cells H1
 unfold evV
 generalize hb1 : w.heap.size = b1 at *
 clear H h
 go_enter Tryz.func29, Tryz.ntmps29
 go_upto_region 1 with (fail)
 have HB1 := Lib.hid hb1
 clear hb1
 generalize World.alloc _ _ = W at *
 go_cut [3] (fun t3 wc => t3 = .bool (bareB e) ∧ W = wc)
 case first =>
  have hd : bareB e = (e.nd == 0 && e.lm == 0) := rfl
  cases hb1 : (e.nd == 0)
  ·rw [hb1] at hd
   have HD := Lib.hid hd
   clear hd
   go_wp2
   go_meet
   exact ⟨by rw [HD.out]; rfl, rfl⟩
  ·cases hb2 : (e.lm == 0)
   ·rw [hb1, hb2] at hd
    have HD := Lib.hid hd
    clear hd
    go_wp2
    go_meet
    exact ⟨by rw [HD.out]; rfl, rfl⟩
   ·rw [hb1, hb2] at hd
    have HD := Lib.hid hd
    clear hd
    go_wp2
    go_meet
    exact ⟨by rw [HD.out]; rfl, rfl⟩
 case rest =>
  obtain ⟨rfl, rfl⟩ := hcut
  go_upto_region 2 with (fail)
  go_cut [4] (fun t4 wc => t4 = .bool (noneB e) ∧ W = wc)
  case first =>
   by_cases hz : e.list.length = 0
   ·have hd : noneB e = true := by simp [noneB, hz]
    have hq : ((e.list.length : Int) == 0) = true := by simp [hz]
    have HD := Lib.hid hd; have HZ := Lib.hid hz
    clear hd hz
    go_wp2
    go_meet
    exact ⟨by rw [HD.out], rfl⟩
   ·have hd : noneB e = false := by simp [noneB, hz]
    have hq : ((e.list.length : Int) == 0) = false := by simp [hz]
    have HD := Lib.hid hd; have HZ := Lib.hid hz
    clear hd hz
    go_wp2
    go_meet
    exact ⟨by rw [HD.out], rfl⟩
  case rest =>
   obtain ⟨rfl, rfl⟩ := hcut
   have hri := rises_ok hrd
   have hsi := signs_ok hrd
   have o1 := okK_1 (e := e); have o2 := okK_2 (e := e); have o3 := okK_3 (e := e); have o4 := okK_4 (e := e); have o5 := okK_5 (e := e); have o6 := okK_6 (e := e); have o7 := okK_no (e := e)
   have hright : right e = (okK e && sgn [e.job, e.tm, e.nd, e.lm]) := rfl
   have HR := Lib.hid hright
   clear hright
   generalize bareB e = B1 at *
   generalize noneB e = B2 at *
   generalize ris e.list = R at *
   generalize sgn e.list = S at *
   generalize hOK : okK e = OK at *
   have O1 := Lib.hid o1; have O2 := Lib.hid o2; have O3 := Lib.hid o3; have O4 := Lib.hid o4; have O5 := Lib.hid o5; have O6 := Lib.hid o6; have O7 := Lib.hid o7
   clear o1 o2 o3 o4 o5 o6 o7 hOK
   go_upto_block 0 with (fail)
   go_cut [5] (fun t5 wc => t5 = .bool OK ∧ W = wc)
   case first =>
    by_cases k1 : e.kind = 1
    ·have HD := Lib.hid (O1.out k1)
     have qk : (e.kind == 1) = true := by simp [k1]

     have q2 : (e.kind == 2) = false := by simp [k1]
     clear k1
     go_wp2
     go_meet
     exact ⟨by rw [HD.out], rfl⟩
    by_cases k2 : e.kind = 2
    ·have HD := Lib.hid (O2.out k2)
     have qk : (e.kind == 2) = true := by simp [k2]
     have q1 : (e.kind == 1) = false := by simp [k2]

     clear k2
     cases B1
     ·go_wp2
      go_meet
      exact ⟨by rw [HD.out]; rfl, rfl⟩
     ·go_wp2_with (go_at_call 28; refine hri.mono ?_; rintro r w3 ⟨rfl, rfl⟩)
      go_meet
      exact ⟨by rw [HD.out]; rfl, rfl⟩
    have q1 := ne_beq k1; have q2 := ne_beq k2
    by_cases k3 : e.kind = 3
    ·have HD := Lib.hid (O3.out k3)
     have qk : (e.kind == 3) = true := by simp [k3]
     clear k3
     by_cases m1 : 3 ≤ e.nd
     ·by_cases m2 : e.nd ≤ 6
      ·cases m3 : (e.lm == 0)
       ·go_wp2
        go_meet
        exact ⟨by rw [HD.out, m3]; simp, rfl⟩
       ·go_wp2
        go_meet
        exact ⟨by rw [HD.out, m3]; simp [m1, m2], rfl⟩
      ·have d2 : decide (e.nd ≤ 6) = false := decide_eq_false m2
       go_wp2
       go_meet
       exact ⟨by rw [HD.out, d2]; simp, rfl⟩
     ·have d2 : decide (3 ≤ e.nd) = false := decide_eq_false m1
      go_wp2
      go_meet
      exact ⟨by rw [HD.out, d2]; simp, rfl⟩
    have q3 := ne_beq k3
    by_cases k4 : e.kind = 4
    ·have HD := Lib.hid (O4.out k4)
     have qk : (e.kind == 4) = true := by simp [k4]
     clear k4
     cases B1
     ·go_wp2
      go_meet
      exact ⟨by rw [HD.out]; rfl, rfl⟩
     ·go_wp2
      go_meet
      exact ⟨by rw [HD.out]; rfl, rfl⟩
    have q4 := ne_beq k4
    by_cases k5 : e.kind = 5
    ·have HD := Lib.hid (O5.out k5)
     have qk : (e.kind == 5) = true := by simp [k5]
     clear k5
     cases B1
     ·go_wp2
      go_meet
      exact ⟨by rw [HD.out]; rfl, rfl⟩
     ·cases m3 : (e.job == 0)
      ·go_wp2
       go_meet
       exact ⟨by rw [HD.out, m3]; rfl, rfl⟩
      ·go_wp2_with (go_at_call 26; refine hsi.mono ?_; rintro r w3 ⟨rfl, rfl⟩)
       go_meet
       exact ⟨by rw [HD.out, m3]; rfl, rfl⟩
    have q5 := ne_beq k5
    by_cases k6 : e.kind = 6
    ·have HD := Lib.hid (O6.out (.inl k6))
     have qk : (e.kind == 6) = true := by simp [k6]
     clear k6
     cases B1
     ·go_wp2
      go_meet
      exact ⟨by rw [HD.out]; rfl, rfl⟩
     ·cases m3 : (e.job == 0)
      ·go_wp2
       go_meet
       exact ⟨by rw [HD.out, m3]; rfl, rfl⟩
      ·go_wp2
       go_meet
       exact ⟨by rw [HD.out, m3]; rfl, rfl⟩
    have q6 := ne_beq k6
    by_cases k7 : e.kind = 7
    ·have HD := Lib.hid (O6.out (.inr k7))
     have qk : (e.kind == 7) = true := by simp [k7]
     clear k7
     cases B1
     ·go_wp2
      go_meet
      exact ⟨by rw [HD.out]; rfl, rfl⟩
     ·cases m3 : (e.job == 0)
      ·go_wp2
       go_meet
       exact ⟨by rw [HD.out, m3]; rfl, rfl⟩
      ·go_wp2
       go_meet
       exact ⟨by rw [HD.out, m3]; rfl, rfl⟩
    have q7 := ne_beq k7
    have HD := Lib.hid (O7.out k1 k2 k3 k4 k5 k6 k7)
    clear k1 k2 k3 k4 k5 k6 k7
    go_wp2
    go_meet
    exact ⟨by rw [HD.out], rfl⟩
   case rest =>
    obtain ⟨rfl, rfl⟩ := hcut
    clear hri hsi hrd
    cases OK
    ·go_wp2
     go_ret
     exact ⟨retBo (by rw [HR.out]; rfl), H1.tail⟩
    ·have hsg := signs_ok (w := W.alloc (.cells #[.int .i64 e.job, .int .i64 e.tm, .int .i64 e.nd, .int .i64 e.lm] 3)) (l := [e.job, e.tm, e.nd, e.lm]) (rd_new (cs := intC [e.job, e.tm, e.nd, e.lm]) (b := W.heap.size) rfl rfl (by unfold maxLen; simp))
     have H2 := H1.tail.alloc' (.cells #[.int .i64 e.job, .int .i64 e.tm, .int .i64 e.nd, .int .i64 e.lm] 3)
     go_wp2_with (go_at_call 26; refine hsg.mono ?_; rintro r w3 ⟨rfl, rfl⟩)
     go_ret
     exact ⟨retBo (by rw [HR.out]; rfl), H2⟩
end
end Go.Proofs.YtdekbbffoaphhaaGreatDoor

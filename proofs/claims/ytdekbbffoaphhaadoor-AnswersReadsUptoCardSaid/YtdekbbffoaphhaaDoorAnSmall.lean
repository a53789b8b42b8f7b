/- Answers' small functions, and the reference's: signs, rising, states' words, numbers. -/
import Derived.Test.YtdekbbffoaphhaaDoorAnBase
import Derived.Test.YtdekbbffoaphhaaDoorView
set_option linter.unusedVariables false
set_option linter.unusedSimpArgs false
namespace Go.Proofs.YtdekbbffoaphhaaDoor
open Go.RowKit Go.Proofs.HL Go.Proofs.An
set_option maxRecDepth 100000 in
set_option maxHeartbeats 1000000 in
theorem signs_ok {w : World} {v : Value} {l : List Int} (h : Rd 1 v l.length (intC l) w) :
    Calls Tryd.prog 70 #[v] w fun e w' => e = .returned (.bool (sgn l)) ∧ w = w' := by
  obtain ⟨A, c, rfl, hc1, hc2⟩ := rd_shape h
  unfold maxLen at hc2
  go_enter Tryd.func70, Tryd.ntmps70
  go_wp2
  go_loopg [7] l.length (fun g i wr => ∃ k : Nat, i = .int .i64 k ∧ k + g = l.length ∧ sgn (l.take k) = true ∧ w = wr)
  case atStart => exact ⟨0, rfl, by omega, rfl, rfl⟩
  case round =>
    obtain ⟨k, rfl, hk, hno, rfl⟩ := hrel
    have HNO := Lib.hid hno
    clear hno
    by_cases hlt : k < l.length
    · obtain ⟨x, hx⟩ : ∃ x, l[k]? = some x := ⟨_, List.getElem?_eq_getElem hlt⟩
      obtain ⟨b1, o1, c1, hv, d0⟩ := int_at h hx
      simp only [Value.slice.injEq] at hv
      obtain ⟨rfl, -, rfl⟩ := hv
      by_cases hn : x < 0
      · have HB := Lib.hid (sgn_bad (List.mem_of_getElem? hx) hn)
        clear hx h
        go_wp2
        go_ret
        exact ⟨retBo HB.out, rfl⟩
      · have hnx : sgn (l.take (k + 1)) = true := by rw [List.take_add_one, hx]; simp only [Option.toList_some]; rw [sgn_snoc, HNO.out]; simp; omega
        have HN := Lib.hid hnx
        clear hx hnx h
        go_wp2
        go_roundg (gk - 1)
        case measure => omega
        case rel => exact ⟨k + 1, by go_num, by omega, HN.out, rfl⟩
    · have hd : sgn l = true := by have := HNO.out; rwa [List.take_of_length_le (by omega)] at this
      have HD := Lib.hid hd
      clear hd
      go_wp2
      go_ret
      exact ⟨retBo HD.out, rfl⟩
set_option maxRecDepth 100000 in
set_option maxHeartbeats 1000000 in
theorem Ref.from0_ok {w : World} {v : Value} {l : List Int} (h : Rd 1 v l.length (intC l) w) :
    Calls Tryd.prog 48 #[v] w fun e w' => e = .returned (.bool (sgn l)) ∧ w = w' := by
  obtain ⟨A, c, rfl, hc1, hc2⟩ := rd_shape h
  unfold maxLen at hc2
  go_enter Tryd.func48, Tryd.ntmps48
  go_wp2
  go_loopg [7] l.length (fun g i wr => ∃ k : Nat, i = .int .i64 k ∧ k + g = l.length ∧ sgn (l.take k) = true ∧ w = wr)
  case atStart => exact ⟨0, rfl, by omega, rfl, rfl⟩
  case round =>
    obtain ⟨k, rfl, hk, hno, rfl⟩ := hrel
    have HNO := Lib.hid hno
    clear hno
    by_cases hlt : k < l.length
    · obtain ⟨x, hx⟩ : ∃ x, l[k]? = some x := ⟨_, List.getElem?_eq_getElem hlt⟩
      obtain ⟨b1, o1, c1, hv, d0⟩ := int_at h hx
      simp only [Value.slice.injEq] at hv
      obtain ⟨rfl, -, rfl⟩ := hv
      by_cases hn : x < 0
      · have HB := Lib.hid (sgn_bad (List.mem_of_getElem? hx) hn)
        clear hx h
        go_wp2
        go_ret
        exact ⟨retBo HB.out, rfl⟩
      · have hnx : sgn (l.take (k + 1)) = true := by rw [List.take_add_one, hx]; simp only [Option.toList_some]; rw [sgn_snoc, HNO.out]; simp; omega
        have HN := Lib.hid hnx
        clear hx hnx h
        go_wp2
        go_roundg (gk - 1)
        case measure => omega
        case rel => exact ⟨k + 1, by go_num, by omega, HN.out, rfl⟩
    · have hd : sgn l = true := by have := HNO.out; rwa [List.take_of_length_le (by omega)] at this
      have HD := Lib.hid hd
      clear hd
      go_wp2
      go_ret
      exact ⟨retBo HD.out, rfl⟩
set_option maxRecDepth 100000 in
set_option maxHeartbeats 1000000 in
theorem rises_ok {w : World} {v : Value} {l : List Int} (h : Rd 1 v l.length (intC l) w) :
    Calls Tryd.prog 71 #[v] w fun e w' => e = .returned (.bool (ris l)) ∧ w = w' := by
  obtain ⟨A, c, rfl, hc1, hc2⟩ := rd_shape h
  unfold maxLen at hc2
  go_enter Tryd.func71, Tryd.ntmps71
  go_wp2
  go_loopg [3, 8] l.length (fun g la i wr => ∃ k : Nat, i = .int .i64 k ∧ la = .int .i64 ((l.take k).getLastD (-1)) ∧ k + g = l.length ∧ ris (l.take k) = true ∧ w = wr)
  case atStart => exact ⟨0, rfl, rfl, by omega, rfl, rfl⟩
  case round =>
    obtain ⟨k, rfl, rfl, hk, hno, rfl⟩ := hrel
    have HNO := Lib.hid hno
    clear hno
    by_cases hlt : k < l.length
    · obtain ⟨x, hx⟩ : ∃ x, l[k]? = some x := ⟨_, List.getElem?_eq_getElem hlt⟩
      obtain ⟨b1, o1, c1, hv, d0⟩ := int_at h hx
      simp only [Value.slice.injEq] at hv
      obtain ⟨rfl, -, rfl⟩ := hv
      have hbad := fun hn => ris_bad hx (n := x) hn
      have hgood : (l.take k).getLastD (-1) < x → ris (l.take (k + 1)) = true := fun hn => by
        rw [List.take_add_one, hx]; simp only [Option.toList_some]; unfold ris; rw [risF_snoc, show risF (-1) (l.take k) = true from HNO.out]; simpa using hn
      have hlast : (l.take (k + 1)).getLastD (-1) = x := by rw [List.take_add_one, hx]; simp
      generalize (l.take k).getLastD (-1) = la at *
      have HL := Lib.hid hlast
      by_cases hn : x ≤ la
      · have HB := Lib.hid (hbad hn)
        clear hx hbad hgood hlast h
        go_wp2
        go_ret
        exact ⟨retBo HB.out, rfl⟩
      · have HN := Lib.hid (hgood (by omega))
        clear hx hbad hgood hlast h
        go_wp2
        go_roundg (gk - 1)
        case measure => omega
        case rel => exact ⟨k + 1, by go_num, by rw [HL.out], by omega, HN.out, rfl⟩
    · have hd : ris l = true := by have := HNO.out; rwa [List.take_of_length_le (by omega)] at this
      have HD := Lib.hid hd
      clear hd
      go_wp2
      go_ret
      exact ⟨retBo HD.out, rfl⟩
set_option maxRecDepth 100000 in
set_option maxHeartbeats 1000000 in
theorem Ref.rises_ok {w : World} {v : Value} {l : List Int} (h : Rd 1 v l.length (intC l) w) :
    Calls Tryd.prog 49 #[v] w fun e w' => e = .returned (.bool (ris l)) ∧ w = w' := by
  obtain ⟨A, c, rfl, hc1, hc2⟩ := rd_shape h
  unfold maxLen at hc2
  go_enter Tryd.func49, Tryd.ntmps49
  go_wp2
  go_loopg [3, 8] l.length (fun g la i wr => ∃ k : Nat, i = .int .i64 k ∧ la = .int .i64 ((l.take k).getLastD (-1)) ∧ k + g = l.length ∧ ris (l.take k) = true ∧ w = wr)
  case atStart => exact ⟨0, rfl, rfl, by omega, rfl, rfl⟩
  case round =>
    obtain ⟨k, rfl, rfl, hk, hno, rfl⟩ := hrel
    have HNO := Lib.hid hno
    clear hno
    by_cases hlt : k < l.length
    · obtain ⟨x, hx⟩ : ∃ x, l[k]? = some x := ⟨_, List.getElem?_eq_getElem hlt⟩
      obtain ⟨b1, o1, c1, hv, d0⟩ := int_at h hx
      simp only [Value.slice.injEq] at hv
      obtain ⟨rfl, -, rfl⟩ := hv
      have hbad := fun hn => ris_bad hx (n := x) hn
      have hgood : (l.take k).getLastD (-1) < x → ris (l.take (k + 1)) = true := fun hn => by
        rw [List.take_add_one, hx]; simp only [Option.toList_some]; unfold ris; rw [risF_snoc, show risF (-1) (l.take k) = true from HNO.out]; simpa using hn
      have hlast : (l.take (k + 1)).getLastD (-1) = x := by rw [List.take_add_one, hx]; simp
      generalize (l.take k).getLastD (-1) = la at *
      have HL := Lib.hid hlast
      by_cases hn : x ≤ la
      · have HB := Lib.hid (hbad hn)
        clear hx hbad hgood hlast h
        go_wp2
        go_ret
        exact ⟨retBo HB.out, rfl⟩
      · have HN := Lib.hid (hgood (by omega))
        clear hx hbad hgood hlast h
        go_wp2
        go_roundg (gk - 1)
        case measure => omega
        case rel => exact ⟨k + 1, by go_num, by rw [HL.out], by omega, HN.out, rfl⟩
    · have hd : ris l = true := by have := HNO.out; rwa [List.take_of_length_le (by omega)] at this
      have HD := Lib.hid hd
      clear hd
      go_wp2
      go_ret
      exact ⟨retBo HD.out, rfl⟩
set_option maxHeartbeats 1000000 in
theorem state_ok (k : Int) (w : World) : Calls Tryd.prog 45 #[.int .i64 k] w fun e w' => e = .returned (.string (stW k)) ∧ w = w' := by
  by_cases h1 : k = 1
  · subst h1
    go_enter Tryd.func45, Tryd.ntmps45
    go_wp2
    go_ret
    exact ⟨rfl, rfl⟩
  by_cases h2 : k = 2
  · subst h2
    go_enter Tryd.func45, Tryd.ntmps45
    go_wp2
    go_ret
    exact ⟨rfl, rfl⟩
  by_cases h3 : k = 3
  · subst h3
    go_enter Tryd.func45, Tryd.ntmps45
    go_wp2
    go_ret
    exact ⟨rfl, rfl⟩
  by_cases h4 : k = 4
  · subst h4
    go_enter Tryd.func45, Tryd.ntmps45
    go_wp2
    go_ret
    exact ⟨rfl, rfl⟩
  by_cases h5 : k = 5
  · subst h5
    go_enter Tryd.func45, Tryd.ntmps45
    go_wp2
    go_ret
    exact ⟨rfl, rfl⟩
  by_cases h6 : k = 6
  · subst h6
    go_enter Tryd.func45, Tryd.ntmps45
    go_wp2
    go_ret
    exact ⟨rfl, rfl⟩
  have e : stW k = ⟨#[]⟩ := by unfold stW; simp [h1, h2, h3, h4, h5, h6]
  have b1 : (k == 1) = false := by simp [h1]
  have b2 : (k == 2) = false := by simp [h2]
  have b3 : (k == 3) = false := by simp [h3]
  have b4 : (k == 4) = false := by simp [h4]
  have b5 : (k == 5) = false := by simp [h5]
  have b6 : (k == 6) = false := by simp [h6]
  rw [e]
  clear e h1 h2 h3 h4 h5 h6
  go_enter Tryd.func45, Tryd.ntmps45
  go_wp2
  go_ret
  exact ⟨rfl, rfl⟩
set_option maxHeartbeats 1000000 in
theorem Ref.state_ok (k : Int) (w : World) : Calls Tryd.prog 55 #[.int .i64 k] w fun e w' => e = .returned (.string (stW k)) ∧ w = w' := by
  by_cases h1 : k = 1
  · subst h1
    go_enter Tryd.func55, Tryd.ntmps55
    go_wp2
    go_ret
    exact ⟨rfl, rfl⟩
  by_cases h2 : k = 2
  · subst h2
    go_enter Tryd.func55, Tryd.ntmps55
    go_wp2
    go_ret
    exact ⟨rfl, rfl⟩
  by_cases h3 : k = 3
  · subst h3
    go_enter Tryd.func55, Tryd.ntmps55
    go_wp2
    go_ret
    exact ⟨rfl, rfl⟩
  by_cases h4 : k = 4
  · subst h4
    go_enter Tryd.func55, Tryd.ntmps55
    go_wp2
    go_ret
    exact ⟨rfl, rfl⟩
  by_cases h5 : k = 5
  · subst h5
    go_enter Tryd.func55, Tryd.ntmps55
    go_wp2
    go_ret
    exact ⟨rfl, rfl⟩
  by_cases h6 : k = 6
  · subst h6
    go_enter Tryd.func55, Tryd.ntmps55
    go_wp2
    go_ret
    exact ⟨rfl, rfl⟩
  have e : stW k = ⟨#[]⟩ := by unfold stW; simp [h1, h2, h3, h4, h5, h6]
  have b1 : (k == 1) = false := by simp [h1]
  have b2 : (k == 2) = false := by simp [h2]
  have b3 : (k == 3) = false := by simp [h3]
  have b4 : (k == 4) = false := by simp [h4]
  have b5 : (k == 5) = false := by simp [h5]
  have b6 : (k == 6) = false := by simp [h6]
  rw [e]
  clear e h1 h2 h3 h4 h5 h6
  go_enter Tryd.func55, Tryd.ntmps55
  go_wp2
  go_ret
  exact ⟨rfl, rfl⟩
set_option maxRecDepth 100000 in
set_option maxHeartbeats 1000000 in
theorem stateOf_ok (s : ByteArray) (w : World) : Calls Tryd.prog 51 #[.string s] w fun e w' => e = .returned (.int .i64 (stN s)) ∧ w = w' := by
  have hne : ∀ n : Int, s ≠ stW n → ((stW n).toList == s.toList) = false := fun n h => by
    rw [beq_eq_false_iff_ne]
    exact fun e => h (bytesSame e).symm
  have HNE := Lib.hid hne
  clear hne
  go_enter Tryd.func51, Tryd.ntmps51
  go_wp2
  go_loopg [3] 6 (fun g i wr => ∃ k : Nat, i = .int .i64 ((k : Int) + 1) ∧ k + g = 6 ∧ (∀ j : Nat, j < k → s ≠ stW ((j : Int) + 1)) ∧ w = wr)
  case atStart => exact ⟨0, rfl, rfl, (fun j h => by omega), rfl⟩
  case round =>
    obtain ⟨k, rfl, hk, hno, rfl⟩ := hrel
    have HNO := Lib.hid hno
    clear hno
    have hst := fun W => state_ok ((k : Int) + 1) W
    by_cases hlt : k < 6
    · have hg : (k : Int) + 1 ≤ 6 := by omega
      by_cases hs : s = stW ((k : Int) + 1)
      · have hq : ((stW ((k : Int) + 1)).toList == s.toList) = true := by rw [← hs]; exact beq_self_eq_true _
        have hr : stN s = (k : Int) + 1 := by
          rcases (show k = 0 ∨ k = 1 ∨ k = 2 ∨ k = 3 ∨ k = 4 ∨ k = 5 by omega) with rfl | rfl | rfl | rfl | rfl | rfl <;> (rw [hs]; decide +kernel)
        have HR := Lib.hid hr
        clear hr hs
        generalize stW ((k : Int) + 1) = S at *
        go_wp2_with (go_at_call 45; refine (hst _).mono ?_; rintro e w3 ⟨rfl, rfl⟩)
        go_ret
        exact ⟨retIn HR.out, rfl⟩
      · have hq := HNE.out _ hs
        have hn : ∀ j : Nat, j < k + 1 → s ≠ stW ((j : Int) + 1) := fun j hj => by
          rcases Nat.lt_or_ge j k with h | h
          · exact HNO.out j h
          · obtain rfl : j = k := by omega
            exact hs
        have HN := Lib.hid hn
        clear hn hs
        generalize stW ((k : Int) + 1) = S at *
        go_wp2_with (go_at_call 45; refine (hst _).mono ?_; rintro e w3 ⟨rfl, rfl⟩)
        go_roundg (gk - 1)
        case measure => omega
        case rel => exact ⟨k + 1, by go_num, by omega, HN.out, rfl⟩
    · have hg : (6 : Int) < (k : Int) + 1 := by omega
      have hr : stN s = 0 := by
        obtain rfl : k = 6 := by omega
        have h := HNO.out
        unfold stN
        rw [if_neg (show s ≠ stW 1 from h 0 (by omega)), if_neg (show s ≠ stW 2 from h 1 (by omega)), if_neg (show s ≠ stW 3 from h 2 (by omega)), if_neg (show s ≠ stW 4 from h 3 (by omega)), if_neg (show s ≠ stW 5 from h 4 (by omega)), if_neg (show s ≠ stW 6 from h 5 (by omega))]
      have HR := Lib.hid hr
      clear hr hst
      go_wp2
      go_ret
      exact ⟨retIn HR.out, rfl⟩
section
variable {w0 w : World} {L : List At} {v : Value}
set_option maxRecDepth 100000 in
set_option maxHeartbeats 1000000 in
theorem numbers_ok (hD : Doors w0) (H : HL w0 w L) {l : List Int} (h : Ints w0 L v l) (hf : Fits l) (hl : l.length ≤ 4294967296) :
    Calls Tryd.prog 44 #[v] w fun e w' => e = .returned (.string ⟨(numsT l).toArray⟩) ∧ HL w0 w' L := by
  obtain ⟨A, c, rfl, hc1, hc2⟩ := rd_shape (h w H)
  unfold maxLen at hc2
  have HE := Lib.hid h; have HF := Lib.hid hf
  clear h hf
  go_enter Tryd.func44, Tryd.ntmps44
  go_wp2
  go_loopg [3, 8] l.length (fun g s i wr => ∃ (k : Nat) (t : ByteArray), i = .int .i64 k ∧ s = .string t ∧ k + g = l.length ∧ t.data.toList = numsT (l.take k) ∧ t.size ≤ 22 * k ∧ HL w0 wr L)
  case atStart => exact ⟨0, ⟨#[]⟩, rfl, rfl, by omega, rfl, by decide, H⟩
  case round =>
    obtain ⟨k, t, rfl, rfl, hk, ht, hts, HK⟩ := hrel
    have HT := Lib.hid ht
    clear ht H
    by_cases hlt : k < l.length
    · obtain ⟨x, hx⟩ : ∃ x, l[k]? = some x := ⟨_, List.getElem?_eq_getElem hlt⟩
      obtain ⟨b1, o1, c1, hv, d0⟩ := int_at (HE.out _ HK) hx
      simp only [Value.slice.injEq] at hv
      obtain ⟨rfl, -, rfl⟩ := hv
      obtain ⟨f1, f2⟩ := HF.out x (List.mem_of_getElem? hx)
      have hit := itoa_ok hD HK x f1 f2
      have hsz : (⟨(Lib.itoa x).toArray⟩ : ByteArray).size ≤ 21 := by have := Lib.itoa_length_le x f1 f2; simpa [ByteArray.size] using this
      have hnx : ∀ q : ByteArray, q.data.toList = t.data.toList ++ 32 :: Lib.itoa x → q.data.toList = numsT (l.take (k + 1)) := fun q hq => by
        rw [hq, HT.out, List.take_add_one, hx]; simp only [Option.toList_some]; rw [numsT_snoc]
      have hqq : (t ++ ((⟨#[32]⟩ : ByteArray) ++ (⟨(Lib.itoa x).toArray⟩ : ByteArray))).data.toList = t.data.toList ++ 32 :: Lib.itoa x := by simp
      have HN := Lib.hid (hnx _ hqq)
      have hbl : (⟨#[32]⟩ : ByteArray).size = 1 := rfl
      clear hx hnx hqq f1 f2
      generalize (⟨(Lib.itoa x).toArray⟩ : ByteArray) = D at *
      go_wp2_with (go_at_call 37; refine hit.mono ?_; rintro e w7 ⟨rfl, H7⟩; clear hit HK d0)
      go_roundg (gk - 1)
      case measure => omega
      case rel => exact ⟨k + 1, t ++ (⟨#[32]⟩ ++ D), by go_num, rfl, by omega, HN.out, by simp only [ByteArray.size_append]; omega, H7⟩
    · have hend : (⟨(numsT l).toArray⟩ : ByteArray) = t := by
        have := HT.out
        rw [List.take_of_length_le (by omega)] at this
        rw [← this]
      have HN := Lib.hid hend
      clear hend
      go_wp2
      go_ret
      exact ⟨retVa (congrArg Value.string HN.out), HK⟩
end
end Go.Proofs.YtdekbbffoaphhaaDoor

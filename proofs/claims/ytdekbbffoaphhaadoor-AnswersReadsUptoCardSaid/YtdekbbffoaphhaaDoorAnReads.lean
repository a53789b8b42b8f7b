/- Words read as numbers. -/
import Derived.Test.YtdekbbffoaphhaaDoorAnSmall
set_option linter.unusedVariables false
set_option linter.unusedSimpArgs false
namespace Go.Proofs.An
/-- The number that a word says, and says so. -/
def numW (s : ByteArray) : Option Int := match Lib.atoiAll s.data.toList with | .ok n => if Lib.itoa n = s.data.toList then some n else none | _ => none
def numsW : List ByteArray → Option (List Int)
  | [] => some []
  | s :: r => match numW s with | none => none | some n => match numsW r with | none => none | some l => some (n :: l)
theorem numsW_app : ∀ (l r : List ByteArray), numsW (l ++ r) = match numsW l with | none => none | some a => match numsW r with | none => none | some b => some (a ++ b)
  | [], r => by simp only [List.nil_append, numsW]; cases numsW r <;> rfl
  | s :: l, r => by
    rw [List.cons_append, numsW, numsW, numsW_app l r]
    cases numW s with
    | none => rfl
    | some n =>
      cases numsW l with
      | none => rfl
      | some a => cases numsW r <;> rfl
theorem numsW_len : ∀ (l : List ByteArray) (a : List Int), numsW l = some a → a.length = l.length
  | [], a, h => by simp only [numsW, Option.some.injEq] at h; subst h; rfl
  | s :: l, a, h => by
    simp only [numsW] at h
    cases hn : numW s with
    | none => rw [hn] at h; cases h
    | some n =>
      rw [hn] at h
      cases hl : numsW l with
      | none => rw [hl] at h; cases h
      | some b =>
        rw [hl] at h
        simp only [Option.some.injEq] at h
        subst h
        simp [numsW_len l b hl]
theorem numW_none {s : ByteArray} (h : ∀ n, Lib.atoiAll s.data.toList ≠ .ok n) : numW s = none := by
  unfold numW
  cases hA : Lib.atoiAll s.data.toList with
  | ok n => exact absurd hA (h n)
  | «syntax» => rfl
  | range => rfl
theorem numW_fits {s : ByteArray} {n : Int} (h : numW s = some n) : -9223372036854775808 ≤ n ∧ n ≤ 9223372036854775807 := by
  unfold numW at h
  split at h
  · rename_i m hm
    split at h
    · obtain rfl := Option.some.inj h
      exact Lib.atoiAll_bounds hm
    · cases h
  · cases h
theorem numsW_fits : ∀ (l : List ByteArray) (a : List Int), numsW l = some a → Fits a
  | [], a, h => by simp only [numsW, Option.some.injEq] at h; subst h; exact fun n hn => by simp at hn
  | s :: l, a, h => by
    simp only [numsW] at h
    cases hn : numW s with
    | none => rw [hn] at h; cases h
    | some n =>
      rw [hn] at h
      cases hl : numsW l with
      | none => rw [hl] at h; cases h
      | some b =>
        rw [hl] at h
        simp only [Option.some.injEq] at h
        subst h
        intro m hm
        rcases List.mem_cons.1 hm with rfl | hm
        · exact numW_fits hn
        · exact numsW_fits l b hl m hm
end Go.Proofs.An
namespace Go.Proofs.YtdekbbffoaphhaaDoor
open Go.RowKit Go.Proofs.HL Go.Proofs.An
section
variable {w0 w : World} {L : List At} {v : Value}
def ReadsPost (w0 : World) (L : List At) (ws : List ByteArray) (e : Ending) (w' : World) : Prop :=
  match numsW ws with | some l => ∃ u, e = .returned (.tuple #[u, .bool true]) ∧ HL w0 w' (intsR w0.heap.size u l :: L) | none => e = .returned (.tuple #[.slice none 0 0, .bool false]) ∧ HL w0 w' L
theorem readsPost_some {ws : List ByteArray} {l : List Int} (h : numsW ws = some l) {u : Value} {w' : World} (H : HL w0 w' (intsR w0.heap.size u l :: L)) : ReadsPost w0 L ws (.returned (.tuple #[u, .bool true])) w' := by
  unfold ReadsPost; rw [h]; exact ⟨u, rfl, H⟩
theorem readsPost_none {ws : List ByteArray} (h : numsW ws = none) {w' : World} (H : HL w0 w' L) : ReadsPost w0 L ws (.returned (.tuple #[.slice none 0 0, .bool false])) w' := by
  unfold ReadsPost; rw [h]; exact ⟨rfl, H⟩
theorem numsW_bad {ws : List ByteArray} {k : Nat} {s : ByteArray} (hs : ws[k]? = some s) (h : numW s = none) : numsW ws = none := by
  have hk := (List.getElem?_eq_some_iff.1 hs).1
  have e : ws = ws.take k ++ s :: ws.drop (k + 1) := by
    conv => lhs; rw [← List.take_append_drop k ws]
    rw [List.drop_eq_getElem_cons hk, (List.getElem?_eq_some_iff.1 hs).2]
  rw [e, numsW_app]
  cases numsW (ws.take k) with
  | none => rfl
  | some a => simp [numsW, h]
set_option maxRecDepth 100000 in
set_option maxHeartbeats 2000000 in
theorem reads_any (hD : Doors w0) (H : HL w0 w L) {ws : List ByteArray} (h : Strs w0 L v ws) (hz : ∀ s ∈ ws, s.size ≤ 140737488351232) (hl : ws.length ≤ 4294967296) :
    Calls Tryd.prog 52 #[v] w (ReadsPost w0 L ws) := by
  obtain ⟨A, c, rfl, hc1, hc2⟩ := rd_shape (h w H)
  unfold maxLen at hc2
  have HE := Lib.hid h; have HZ := Lib.hid hz
  have H1 : HL w0 w (intsR w0.heap.size (.slice none 0 0) [] :: L) := H.nilRow _ _ _
  clear h hz H
  go_enter Tryd.func52, Tryd.ntmps52
  go_wp2
  go_loopg [4, 11] ws.length (fun g u i wr => ∃ (k : Nat) (l : List Int), i = .int .i64 k ∧ k + g = ws.length ∧ numsW (ws.take k) = some l ∧ HL w0 wr (intsR w0.heap.size u l :: L))
  case atStart => exact ⟨0, [], rfl, by omega, rfl, H1⟩
  case round =>
    obtain ⟨k, l, rfl, hk, ht, HK⟩ := hrel
    have hlen := numsW_len _ _ ht
    have hlk : l.length ≤ ws.length := by rw [hlen, List.length_take]; omega
    have HT := Lib.hid ht
    clear ht H1 hlen
    obtain ⟨A4, c4, rfl, -, hc3, hc4⟩ := row_shape (show wr.ownsRow w0.heap.size 3 1 u4 l.length (intC l) from HK.head)
    unfold maxLen at hc4
    by_cases hlt : k < ws.length
    · obtain ⟨x, hx⟩ : ∃ x, ws[k]? = some x := ⟨_, List.getElem?_eq_getElem hlt⟩
      obtain ⟨b1, o1, c1, hv, d0⟩ := str_at (HE.out _ HK.tail) hx
      simp only [Value.slice.injEq] at hv
      obtain ⟨rfl, -, rfl⟩ := hv
      have hat := atoi_ok hD HK x (HZ.out x (List.mem_of_getElem? hx))
      have hbad := fun h => numsW_bad hx h
      have hgood : ∀ n, numW x = some n → numsW (ws.take (k + 1)) = some (l ++ [n]) := fun n hn => by
        rw [List.take_add_one, hx, numsW_app, HT.out]; simp [numsW, hn]
      have HB := Lib.hid hbad; have HG := Lib.hid hgood
      have hbeq : ∀ n, decide (Lib.itoa n = x.data.toList) = (Lib.itoa n == x.toList) := fun n => by rw [Go.ByteArray.toList_eq, Bool.eq_iff_iff]; simp
      have HQ := Lib.hid hbeq
      clear hbad hgood hx hbeq
      go_upto_region 6 with (go_at_call 61; refine hat.mono ?_; rintro e w2 (⟨n, hA, rfl, H2⟩ | ⟨hA, n, t, p, rfl, H2⟩))
      · have hb := Lib.atoiAll_bounds hA
        have hit := itoa_ok hD H2 n hb.1 hb.2
        have hnw : numW x = if Lib.itoa n = x.data.toList then some n else none := by unfold numW; rw [hA]
        have HNW := Lib.hid hnw
        clear hnw hA hat HK d0
        by_cases hi : Lib.itoa n = x.data.toList
        · have hq : (Lib.itoa n == x.toList) = true := by rw [← HQ.out, hi]; simp
          have hq2 : (!(Lib.itoa n == x.toList)) = false := by rw [hq]; rfl
          have HN := Lib.hid (HG.out n (by rw [HNW.out, if_pos hi]))
          clear hi
          go_wp2_with (first
            | (go_at_call 37; refine hit.mono ?_; rintro e w7 ⟨rfl, H7⟩; clear hit H2; have HA := H7.alloc' (.cells #[.int .i64 n] 3); have hr4 := rd_int (w := w7) (y := n))
            | (at_builtin; refine append_int (v := .slice A4 l.length c4) (xs := l) (y := n) (b := w7.heap.size) rfl _ _ rfl HA rfl rfl hr4 (by omega) ?_; intro z5 w8 H8; clear HA hr4 H7))
          go_roundg (gk - 1)
          case measure => omega
          case rel => exact ⟨k + 1, l ++ [n], by go_num, by omega, HN.out, H8⟩
        · have hq : (Lib.itoa n == x.toList) = false := by rw [← HQ.out]; simp [hi]
          have HN := Lib.hid (HB.out (by rw [HNW.out, if_neg hi]))
          clear hi
          go_wp2_with (go_at_call 37; refine hit.mono ?_; rintro e w7 ⟨rfl, H7⟩; clear hit H2)
          go_ret2
          exact readsPost_none HN.out H7.tail
      · have HN := Lib.hid (HB.out (numW_none hA))
        clear hA hat HK d0
        go_wp2
        go_ret2
        exact readsPost_none HN.out H2.tail
    · have hend : numsW ws = some l := by have := HT.out; rwa [List.take_of_length_le (by omega)] at this
      have HN := Lib.hid hend
      clear hend
      go_wp2
      go_ret2
      exact readsPost_some HN.out HK
end
end Go.Proofs.YtdekbbffoaphhaaDoor

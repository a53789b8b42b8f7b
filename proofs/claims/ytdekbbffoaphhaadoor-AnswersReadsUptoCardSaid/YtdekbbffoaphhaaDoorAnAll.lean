/- The reference's all (numbers as words) and words (words parted by blanks). -/
import Derived.Test.YtdekbbffoaphhaaDoorAnTwo
set_option linter.unusedVariables false
set_option linter.unusedSimpArgs false
namespace Go.Proofs.An
def itB (n : Int) : ByteArray := ⟨(Lib.itoa n).toArray⟩
def allW (l : List Int) : List ByteArray := l.map itB
def wordsT : List ByteArray → List UInt8
  | [] => []
  | s :: r => s.data.toList ++ r.flatMap fun t => 32 :: t.data.toList
theorem wordsT_snoc (l : List ByteArray) (x : ByteArray) (h : 0 < l.length) : wordsT (l ++ [x]) = wordsT l ++ 32 :: x.data.toList := by
  cases l with
  | nil => simp at h
  | cons s r => simp [wordsT, List.flatMap_append]
theorem wordsT_nums (s : ByteArray) (l : List Int) : wordsT (s :: allW l) = s.data.toList ++ numsT l := by
  simp [wordsT, allW, numsT, itB, List.flatMap_map]
theorem allW_snoc (l : List Int) (n : Int) : allW (l ++ [n]) = allW l ++ [itB n] := by simp [allW]
theorem allW_len (l : List Int) : (allW l).length = l.length := by simp [allW]
theorem itB_size {n : Int} (h0 : -9223372036854775808 ≤ n) (h1 : n ≤ 9223372036854775807) : (itB n).size ≤ 22 := by
  have := Lib.itoa_length_le n h0 h1
  have e : (itB n).size = (Lib.itoa n).length := by simp [itB, ByteArray.size]
  omega
end Go.Proofs.An
namespace Go.Proofs.YtdekbbffoaphhaaDoor
open Go.RowKit Go.Proofs.HL Go.Proofs.An
section
variable {w0 w : World} {L : List At} {v : Value}
set_option maxRecDepth 100000 in
set_option maxHeartbeats 2000000 in
theorem Ref.all_ok (hD : Doors w0) (H : HL w0 w L) {l : List Int} (h : Ints w0 L v l) (hf : Fits l) (hl : l.length ≤ 4294967200) :
    Calls Tryd.prog 73 #[v] w fun e w' => ∃ u, e = .returned u ∧ HL w0 w' (strs w0.heap.size u (allW l) :: L) := by
  obtain ⟨A, c, rfl, hc1, hc2⟩ := rd_shape (h w H)
  unfold maxLen at hc2
  have HE := Lib.hid h; have HF := Lib.hid hf
  have H1 : HL w0 w (strs w0.heap.size (.slice none 0 0) [] :: L) := H.nilRow _ _ _
  clear h hf H
  go_enter Tryd.func73, Tryd.ntmps73
  go_wp2
  go_loopg [3, 8] l.length (fun g u i wr => ∃ k : Nat, i = .int .i64 k ∧ k + g = l.length ∧ HL w0 wr (strs w0.heap.size u (allW (l.take k)) :: L))
  case atStart => exact ⟨0, rfl, by omega, H1⟩
  case round =>
    obtain ⟨k, rfl, hk, HK⟩ := hrel
    clear H1
    obtain ⟨A3, c3, rfl, -, hc3, hc4⟩ := row_shape (show wr.ownsRow w0.heap.size 9 1 u3 (allW (l.take k)).length (strC (allW (l.take k))) from HK.head)
    unfold maxLen at hc4
    by_cases hlt : k < l.length
    · obtain ⟨x, hx⟩ : ∃ x, l[k]? = some x := ⟨_, List.getElem?_eq_getElem hlt⟩
      obtain ⟨b1, o1, c1, hv, d0⟩ := int_at (HE.out _ HK.tail) hx
      simp only [Value.slice.injEq] at hv
      obtain ⟨rfl, -, rfl⟩ := hv
      obtain ⟨f1, f2⟩ := HF.out x (List.mem_of_getElem? hx)
      have hit := Ref.digits9_ok hD HK x f1 f2
      have hnx : allW (l.take (k + 1)) = allW (l.take k) ++ [itB x] := by
        rw [List.take_add_one, hx]; simp only [Option.toList_some]; rw [allW_snoc]
      have hln : (allW (l.take k)).length ≤ 4294967200 := by rw [allW_len, List.length_take]; omega
      have HN := Lib.hid hnx
      clear hx hnx f1 f2
      generalize allW (l.take k) = X at *
      go_wp2_with (first
        | (go_at_call 72; refine hit.mono ?_; rintro e w7 ⟨rfl, H7⟩; clear hit HK d0; have HA := H7.alloc' (.cells #[.string (itB x)] 9); have hr4 := rd_str (w := w7) (y := itB x))
        | (at_builtin; refine append_str (v := .slice A3 X.length c3) (xs := X) (y := itB x) (b := w7.heap.size) rfl _ _ rfl HA rfl rfl hr4 (by omega) ?_; intro z5 w8 H8; clear HA hr4 H7))
      go_roundg (gk - 1)
      case measure => omega
      case rel => exact ⟨k + 1, by go_num, by omega, by rw [HN.out]; exact H8⟩
    · have HN := Lib.hid (List.take_of_length_le (show l.length ≤ k by omega))
      go_wp2
      go_ret
      exact ⟨_, rfl, by have := HK; rw [HN.out] at this ⊢; exact this⟩
set_option maxRecDepth 100000 in
set_option maxHeartbeats 2000000 in
theorem Ref.words_ok (H : HL w0 w L) {ws : List ByteArray} (h : Strs w0 L v ws) (hz : ∀ s ∈ ws, s.size ≤ 22) (hl : ws.length ≤ 4294967296) :
    Calls Tryd.prog 50 #[v] w fun e w' => e = .returned (.string ⟨(wordsT ws).toArray⟩) ∧ HL w0 w' L := by
  obtain ⟨A, c, rfl, hc1, hc2⟩ := rd_shape (h w H)
  unfold maxLen at hc2
  have HE := Lib.hid h; have HZ := Lib.hid hz
  clear h hz
  go_enter Tryd.func50, Tryd.ntmps50
  go_wp2
  go_loopg [3, 8] ws.length (fun g s i wr => ∃ (k : Nat) (t : ByteArray), i = .int .i64 k ∧ s = .string t ∧ k + g = ws.length ∧ t.data.toList = wordsT (ws.take k) ∧ t.size ≤ 23 * k ∧ HL w0 wr L)
  case atStart => exact ⟨0, ⟨#[]⟩, rfl, rfl, by omega, rfl, by decide, H⟩
  case round =>
    obtain ⟨k, t, rfl, rfl, hk, ht, hts, HK⟩ := hrel
    have HT := Lib.hid ht
    clear ht H
    by_cases hlt : k < ws.length
    · obtain ⟨x, hx⟩ : ∃ x, ws[k]? = some x := ⟨_, List.getElem?_eq_getElem hlt⟩
      obtain ⟨b1, o1, c1, hv, d0⟩ := str_at (HE.out _ HK) hx
      simp only [Value.slice.injEq] at hv
      obtain ⟨rfl, -, rfl⟩ := hv
      have hsz := HZ.out x (List.mem_of_getElem? hx)
      have hbl : (⟨#[32]⟩ : ByteArray).size = 1 := rfl
      by_cases h0 : k = 0
      · subst h0
        have hnx : (t ++ x).data.toList = wordsT (ws.take (0 + 1)) := by
          rw [List.take_add_one, hx]
          have e : t.data.toList = [] := HT.out
          simp [wordsT, e]
        have HN := Lib.hid hnx
        have d1 : wr.cell? ⟨b1, o1, none⟩ = some (.string x) := by simpa using d0
        clear hx hnx
        go_wp2
        go_roundg (gk - 1)
        case measure => omega
        case rel => exact ⟨1, t ++ x, by go_num, rfl, by omega, HN.out, by simp only [ByteArray.size_append]; omega, HK⟩
      · have hnx : (t ++ (⟨#[32]⟩ : ByteArray) ++ x).data.toList = wordsT (ws.take (k + 1)) := by
          rw [List.take_add_one, hx]
          simp only [Option.toList_some]
          rw [wordsT_snoc _ _ (by rw [List.length_take]; omega), ← HT.out]
          simp
        have HN := Lib.hid hnx
        have hk0 : 0 < k := by omega
        have hts2 : (t ++ (⟨#[32]⟩ : ByteArray)).size = t.size + 1 := by simp only [ByteArray.size_append]; rfl
        clear hx hnx
        go_wp2
        go_roundg (gk - 1)
        case measure => omega
        case rel => exact ⟨k + 1, t ++ (⟨#[32]⟩ : ByteArray) ++ x, by go_num, rfl, by omega, HN.out, by simp only [ByteArray.size_append]; omega, HK⟩
    · have hend : (⟨(wordsT ws).toArray⟩ : ByteArray) = t := by
        have := HT.out
        rw [List.take_of_length_le (by omega)] at this
        rw [← this]
      have HN := Lib.hid hend
      clear hend
      go_wp2
      go_ret
      exact ⟨retVa (congrArg Value.string HN.out), HK⟩
end
end Go.Proofs.YtdekbbffoaphhaaDoor

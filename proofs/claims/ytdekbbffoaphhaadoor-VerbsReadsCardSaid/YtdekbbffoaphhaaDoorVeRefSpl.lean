/- The reference's split. -/
import Derived.Test.YtdekbbffoaphhaaDoorVeRefNum
import Derived.Test.YtdekbbffoaphhaaDoorVeWords
import Derived.WalkSpells
set_option linter.unusedVariables false
set_option linter.unusedSimpArgs false
namespace Go.Proofs.Ve
theorem cutL_at {l : List UInt8} {n : Nat} (h : (32 : UInt8) ∉ l.take n) (h2 : l[n]? = some 32) : cutL l = l.take n :: cutL (l.drop (n + 1)) := by
  have hn := (List.getElem?_eq_some_iff.1 h2).1
  have e : l = l.take n ++ 32 :: l.drop (n + 1) := by
    conv => lhs; rw [← List.take_append_drop n l]
    rw [List.drop_eq_getElem_cons hn, (List.getElem?_eq_some_iff.1 h2).2]
  conv => lhs; rw [e]
  exact cut_app _ _ h
/-- The pieces W of l, as far as i, the last cut behind which at f begins what is left. -/
def Cutting (l : List UInt8) (i f : Nat) (W : List ByteArray) : Prop :=
  (i ≤ l.length ∧ f ≤ i ∧ (32 : UInt8) ∉ (l.drop f).take (i - f) ∧ cutL l = W.map (·.data.toList) ++ cutL (l.drop f)) ∨ (i = l.length + 1 ∧ f = i ∧ cutL l = W.map (·.data.toList))
theorem Cutting.start (l : List UInt8) : Cutting l 0 0 [] := .inl ⟨by omega, by omega, by simp, by simp⟩
theorem Cutting.skip {l : List UInt8} {i f : Nat} {W : List ByteArray} (h : Cutting l i f W) {c : UInt8} (hc : l[i]? = some c) (h32 : c ≠ 32) : Cutting l (i + 1) f W := by
  have hi := (List.getElem?_eq_some_iff.1 hc).1
  rcases h with ⟨h1, h2, h3, h4⟩ | ⟨h1, -, -⟩
  · refine .inl ⟨by omega, by omega, ?_, h4⟩
    rw [show i + 1 - f = (i - f) + 1 by omega, List.take_add_one, List.getElem?_drop, show f + (i - f) = i by omega, hc]
    simp only [Option.toList_some, List.mem_append, List.mem_singleton, not_or]
    exact ⟨h3, fun e => h32 e.symm⟩
  · omega
theorem Cutting.cut {l : List UInt8} {i f : Nat} {W : List ByteArray} (h : Cutting l i f W) (hc : l[i]? = some 32) {p : ByteArray} (hp : p.data.toList = (l.drop f).take (i - f)) : Cutting l (i + 1) (i + 1) (W ++ [p]) := by
  have hi := (List.getElem?_eq_some_iff.1 hc).1
  rcases h with ⟨h1, h2, h3, h4⟩ | ⟨h1, -, -⟩
  · refine .inl ⟨by omega, by omega, by simp, ?_⟩
    rw [h4, cutL_at h3 (by rw [List.getElem?_drop, show f + (i - f) = i by omega]; exact hc), List.drop_drop, show f + (i - f + 1) = i + 1 by omega]
    simp [hp]
  · omega
theorem Cutting.last {l : List UInt8} {f : Nat} {W : List ByteArray} (h : Cutting l l.length f W) {p : ByteArray} (hp : p.data.toList = (l.drop f).take (l.length - f)) : Cutting l (l.length + 1) (l.length + 1) (W ++ [p]) := by
  rcases h with ⟨h1, h2, h3, h4⟩ | ⟨h1, -, -⟩
  · refine .inr ⟨rfl, rfl, ?_⟩
    rw [List.take_of_length_le (by rw [List.length_drop]; omega)] at h3 hp
    rw [h4, cut_one _ h3]
    simp [hp]
  · omega
theorem Cutting.done {l : List UInt8} {f : Nat} {W : List ByteArray} (h : Cutting l (l.length + 1) f W) : W.map (·.data.toList) = cutL l := by
  rcases h with ⟨h1, -⟩ | ⟨-, -, h⟩
  · omega
  · exact h.symm
theorem Cutting.le {l : List UInt8} {i f : Nat} {W : List ByteArray} (h : Cutting l i f W) : f ≤ i := by
  rcases h with ⟨-, h, -⟩ | ⟨-, h, -⟩ <;> omega
end Go.Proofs.Ve
namespace Go.Proofs.YtdekbbffoaphhaaDoor
open Go.RowKit Go.Proofs.HL Go.Proofs.Ve
section
variable {w0 w : World} {L : List At}
theorem extract_piece (s : ByteArray) (f i : Nat) : (s.extract f i).data.toList = (s.data.toList.drop f).take (i - f) := by
  rw [Lib.extract_data]
set_option maxRecDepth 100000 in
set_option maxHeartbeats 2000000 in
theorem Ref.split_ok (H : HL w0 w L) (s : ByteArray) (hs : s.size ≤ 256) :
    Calls Tryd.prog 30 #[.string s] w fun e w' => ∃ v W, e = .returned v ∧ W.map (·.data.toList) = cutL s.data.toList ∧ HL w0 w' (strs w0.heap.size v W :: L) := by
  have hlen : s.data.toList.length = s.size := rfl
  have H2 : HL w0 (w.alloc (.cells #[] 9)) (strs w0.heap.size (.slice (some ⟨w.heap.size, 0, none⟩) 0 0) [] :: L) := (H.alloc (.cells #[] 9)).rowOf (k := 1) (n := 0) (cs := []) rfl (by decide)
  have HLEN := Lib.hid hlen
  clear hlen
  go_enter Tryd.func30, Tryd.ntmps30
  go_wp2
  go_loopg [3, 4, 5] (s.size + 1) (fun g v f i wr => ∃ (k n : Nat) (W : List ByteArray), i = .int .i64 k ∧ f = .int .i64 n ∧ k + g = s.size + 1 ∧ W.length ≤ k ∧ Cutting s.data.toList k n W ∧ HL w0 wr (strs w0.heap.size v W :: L))
  case atStart => exact ⟨0, 0, [], rfl, rfl, by omega, by simp, Cutting.start _, H2⟩
  case round =>
    obtain ⟨k, n, W, rfl, rfl, hk, hW, hC, HK⟩ := hrel
    clear H2 H
    have hnk := hC.le
    have HC := Lib.hid hC
    clear hC
    obtain ⟨A5, c5, rfl, -, h51, h52⟩ := row_shape (show wr.ownsRow w0.heap.size 9 1 u3 W.length (W.map fun s => .string s) from HK.head)
    unfold maxLen at h52
    by_cases hlt : k < s.size
    · have hd : s.data.toList[k]? = some s[k] := by rw [List.getElem?_eq_getElem (by rw [HLEN.out]; exact hlt)]; rfl
      by_cases c1 : (s[k].toNat : Int) = 32
      · have e1 : ((k : Int) == (s.size : Int)) = false := by simp; omega
        have hn := HC.out.cut (by rw [hd]; exact congrArg some (UInt8.toNat_inj.1 (by have : (32 : UInt8).toNat = 32 := rfl; omega))) (extract_piece s n k)
        have HN := Lib.hid hn
        clear hn hd
        have HX2 := HK.alloc' (.cells #[.string (s.extract n k)] 9)
        have hr4 := rd_str (w := wr) (y := s.extract n k)
        go_wp2_with (at_builtin; refine append_str (v := .slice A5 W.length c5) (xs := W) (y := s.extract n k) (b := wr.heap.size) rfl _ _ rfl HX2 rfl rfl hr4 (by omega) ?_; intro z5 w5 H5; clear HX2 HK)
        go_roundg (gk - 1)
        case measure => omega
        case rel => exact ⟨k + 1, k + 1, W ++ [s.extract n k], by go_num, by go_num, by omega, by simp; omega, HN.out, H5⟩
      · have e1 : ((k : Int) == (s.size : Int)) = false := by simp; omega
        have e2 : ((s[k].toNat : Int) == 32) = false := by simp; omega
        have hn := HC.out.skip hd (fun e => c1 (by rw [e]; rfl))
        have HN := Lib.hid hn
        clear hn hd
        go_wp2
        go_roundg (gk - 1)
        case measure => omega
        case rel => exact ⟨k + 1, n, W, by go_num, rfl, by omega, by omega, HN.out, HK⟩
    · rcases Nat.lt_or_ge s.size k with hgt | hle
      · have hkk : k = s.size + 1 := by omega
        have hdone : W.map (·.data.toList) = cutL s.data.toList := by
          have := HC.out
          rw [hkk, ← HLEN.out] at this
          exact this.done
        have HDN := Lib.hid hdone
        clear hdone hkk
        go_wp2
        go_ret
        exact ⟨_, _, rfl, HDN.out, HK⟩
      · obtain rfl : k = s.size := by omega
        have e1 : (((s.size : Nat) : Int) == (s.size : Int)) = true := by simp
        have hn : Cutting s.data.toList (s.size + 1) (s.size + 1) (W ++ [s.extract n s.size]) := by
          have := HC.out
          rw [← HLEN.out] at this ⊢
          exact this.last (by rw [extract_piece, HLEN.out])
        have HN := Lib.hid hn
        clear hn
        have HX2 := HK.alloc' (.cells #[.string (s.extract n s.size)] 9)
        have hr4 := rd_str (w := wr) (y := s.extract n s.size)
        go_wp2_with (at_builtin; refine append_str (v := .slice A5 W.length c5) (xs := W) (y := s.extract n s.size) (b := wr.heap.size) rfl _ _ rfl HX2 rfl rfl hr4 (by omega) ?_; intro z5 w5 H5; clear HX2 HK)
        go_roundg (gk - 1)
        case measure => omega
        case rel => exact ⟨s.size + 1, s.size + 1, W ++ [s.extract n s.size], by go_num, by go_num, by omega, by simp; omega, HN.out, H5⟩
end
end Go.Proofs.YtdekbbffoaphhaaDoor

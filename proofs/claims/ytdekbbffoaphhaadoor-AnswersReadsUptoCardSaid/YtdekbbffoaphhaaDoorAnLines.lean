/- A text's lines (answers.lines). -/
import Derived.Test.YtdekbbffoaphhaaDoorAnCutP
import Derived.Test.YtdekbbffoaphhaaDoorAnBase
import Derived.Lib.OthersKept
import Derived.WalkSpells
set_option linter.unusedVariables false
set_option linter.unusedSimpArgs false
namespace Go.Proofs.An
/-- The pieces behind each of which stands the end of a line. -/
def linesW (t : ByteArray) : List ByteArray := (wordsC 10 t).dropLast
/-- The last line is ended, and there is one. -/
def linesB (t : ByteArray) : Bool := decide ((wordsC 10 t).getLastD ⟨#[]⟩ = ⟨#[]⟩) && decide (0 < (linesW t).length)
theorem lines_of {t : ByteArray} {f : Nat} {W : List ByteArray} (h : Cutting 10 t.data.toList t.size f W) : linesW t = W ∧ linesB t = (((f : Int) == (t.size : Int)) && decide (0 < (W.length : Int))) := by
  have hw := h.words (Nat.le_refl _)
  have h1 : linesW t = W := by unfold linesW; rw [hw]; simp
  refine ⟨h1, ?_⟩
  unfold linesB
  rw [h1, hw]
  have e : ((W ++ [t.extract f t.size]).getLastD ⟨#[]⟩ = ⟨#[]⟩) ↔ f = t.size := by
    have hle := h.from_le
    rw [List.getLastD_eq_getLast?, List.getLast?_concat, Option.getD_some]
    constructor
    · intro e
      have := congrArg ByteArray.size e
      rw [ByteArray.size_extract] at this
      have z : (⟨#[]⟩ : ByteArray).size = 0 := rfl
      omega
    · intro e
      apply bytes_ext
      rw [extract_piece, e]
      simp
  rw [Bool.eq_iff_iff]
  simp only [Bool.and_eq_true, decide_eq_true_eq, beq_iff_eq]
  rw [e]
  omega
end Go.Proofs.An
namespace Go.Proofs.HL
theorem HL.iterAt {w0 w : World} {L : List At} {b : Nat} {s : ByteArray} {p : Nat} (h : HL w0 w (blk b (.stringIter s p) :: L)) (q : Nat) : HL w0 (w.iterAt b s q) (blk b (.stringIter s q) :: L) := by
  have hh : w.heap[b]? = some (.stringIter s p) := h.head
  refine h.step ⟨rfl, rfl, rfl, by rw [Lib.iterAt_size]; exact Nat.le_refl _, fun k hk hne => Lib.iterAt_other w b k s q (fun e => hne (by rw [e]; rfl))⟩ (Lib.iterAt_heap w b s p q hh) (fun b' e => .inl e)
end Go.Proofs.HL
namespace Go.Proofs.YtdekbbffoaphhaaDoor
open Go.RowKit Go.Proofs.HL Go.Proofs.An
section
variable {w0 w : World} {L : List At}
theorem retLn {a b : Value} {p q : Bool} (h : a = b) (h2 : p = q) : Ending.returned (.tuple #[b, .bool q]) = .returned (.tuple #[a, .bool p]) := by rw [h, h2]
set_option maxRecDepth 100000 in
set_option maxHeartbeats 2000000 in
theorem lines_ok (H : HL w0 w L) (t : ByteArray) (ht : t.size ≤ 1000000000) :
    Calls Tryd.prog 64 #[.string t] w fun e w' => ∃ v, e = .returned (.tuple #[v, .bool (linesB t)]) ∧ HL w0 w' (strs w0.heap.size v (linesW t) :: L) := by
  have H1 : HL w0 w (strs w0.heap.size (.slice none 0 0) [] :: L) := H.nilRow _ _ _
  have H2 : HL w0 (w.iter t 0) (blk w.heap.size (.stringIter t 0) :: strs w0.heap.size (.slice none 0 0) [] :: L) := H1.alloc (.stringIter t 0)
  clear H H1
  go_enter Tryd.func64, Tryd.ntmps64
  generalize hW0 : w.iter t 0 = wI at *
  generalize hb : w.heap.size = b at *
  go_wp2
  clear hW0 hb
  go_loopg [4, 5] t.size (fun g v f wr => ∃ (pos n : Nat) (W : List ByteArray), f = .int .i64 n ∧ pos + g = t.size ∧ W.length ≤ pos ∧ Cutting 10 t.data.toList pos n W ∧ HL w0 wr (blk b (.stringIter t pos) :: strs w0.heap.size v W :: L))
  case atStart => exact ⟨0, 0, [], rfl, by omega, by simp, Cutting.start _ _, H2⟩
  case round =>
    obtain ⟨pos, n, W, rfl, hk, hW, hC, HK⟩ := hrel
    clear H2
    have hnk := hC.from_le
    have HC := Lib.hid hC
    clear hC
    obtain ⟨A5, c5, rfl, -, h51, h52⟩ := row_shape (show wr.ownsRow w0.heap.size 9 1 u4 W.length (W.map fun s => .string s) from HK.tail.head)
    unfold maxLen at h52
    have hit : wr.heap[b]? = some (.stringIter t pos) := HK.head
    by_cases hlt : pos < t.size
    · have hnx : ∀ ty, (Instr.next (.pointer (some ⟨b, 0, none⟩)) true ty).run Tryd.prog wr = _ := fun ty => Lib.run_next_any_at wr b t pos ty hit hlt
      obtain ⟨d1, d2, d3⟩ := decode_shape t pos hlt
      obtain ⟨r1, r2⟩ := rune_at t pos hlt 10 (by decide)
      have HK2 := HK.iterAt (pos + (Utf8.decode t pos).2)
      generalize (Utf8.decode t pos).1 = rc at *
      generalize (Utf8.decode t pos).2 = wd at *
      generalize wr.iterAt b t (pos + wd) = W1 at *
      clear hit HK d3
      by_cases c1 : rc = (10 : UInt8).toNat
      · obtain ⟨r3, rfl⟩ := r1 c1
        have e1 : ((rc : Int) == 10) = true := by rw [c1]; rfl
        have HN := Lib.hid (HC.out.cut r3 (extract_piece t n pos))
        clear r1 r2 r3 c1
        have HX2 := HK2.swap.alloc' (.cells #[.string (t.extract n pos)] 9)
        have hr4 := rd_str (w := W1) (y := t.extract n pos)
        go_wp2_with (at_builtin; refine append_str (v := .slice A5 W.length c5) (xs := W) (y := t.extract n pos) (b := W1.heap.size) rfl _ _ rfl HX2 rfl rfl hr4 (by omega) ?_; intro z5 w5 H5; clear HX2 HK2)
        go_roundg (gk - 1)
        case measure => omega
        case rel => exact ⟨pos + 1, pos + 1, W ++ [t.extract n pos], by go_num, by omega, by simp; omega, HN.out, H5.swap⟩
      · have e1 : ((rc : Int) == 10) = false := by
          have e10 : (10 : UInt8).toNat = 10 := rfl
          simp; omega
        have HN := Lib.hid (HC.out.skips wd (by rw [Array.length_toList]; exact d2) (r2 c1))
        clear r1 r2 c1
        go_wp2
        go_roundg (gk - wd)
        case measure => omega
        case rel => exact ⟨pos + wd, n, W, rfl, by omega, by omega, HN.out, HK2⟩
    · have hnx : ∀ ty, (Instr.next (.pointer (some ⟨b, 0, none⟩)) true ty).run Tryd.prog wr = _ := fun ty => Lib.run_next_end_at wr b t pos ty hit hlt
      obtain rfl : pos = t.size := by omega
      obtain ⟨g1, g2⟩ := lines_of HC.out
      have HH := HK.tail
      have G1 := Lib.hid g1; have G2 := Lib.hid g2
      clear g1 g2 HK hit
      cases q1 : ((n : Int) == (t.size : Int))
      · rw [q1] at G2
        go_wp2
        go_ret2
        exact ⟨_, retLn rfl (by rw [G2.out]; simp), by rw [G1.out]; exact HH⟩
      · rw [q1] at G2
        go_wp2
        go_ret2
        exact ⟨_, retLn rfl (by rw [G2.out]; simp), by rw [G1.out]; exact HH⟩
end
end Go.Proofs.YtdekbbffoaphhaaDoor

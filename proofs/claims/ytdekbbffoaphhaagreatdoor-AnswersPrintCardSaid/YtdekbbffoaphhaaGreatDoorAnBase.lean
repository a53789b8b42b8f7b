/- Numerals, lists of words and of numbers: the library's contracts in the words of what a call owns. -/
import Derived.Test.YtdekbbffoaphhaaGreatDoorAnCore
import Derived.Test.YtdekbbffoaphhaaGreatDoorDoor
import Derived.Test.YtdekbbffoaphhaaGreatDoorRead
import Derived.Test.YtdekbbffoaphhaaGreatDoorOwn
import Derived.Test.YtdekbbffoaphhaaGreatDoorSteps
import Derived.Test.YtdekbbffoaphhaaGreatDoorRegion
import Derived.Lib.AtoiAllCases
import Derived.Lib.AtoiErrMem
import Derived.WalkKit
import Derived.LoopTactic
import Derived.Deep.LoopGhost
import Derived.Deep.QuietTactic
import Derived.BigQuiet
set_option linter.unusedVariables false
set_option linter.unusedSimpArgs false
namespace Go.Proofs.YtdekbbffoaphhaaGreatDoor
open Go.RowKit Go.Proofs.HL Go.Proofs.An
open Go.Sort (grow)
theorem rd_shape {w : World} {k n : Nat} {v : Value} {cs : List Value} (h : Rd k v n cs w) : ∃ A c, v = .slice A n c ∧ n ≤ c ∧ c ≤ maxLen := by
 obtain ⟨-, -, A, c, h1, h2, h3, -, -⟩ := h
 exact ⟨A, c, h1, h2, h3⟩
abbrev intC (l : List Int) : List Value := l.map fun n => .int .i64 n
abbrev strC (l : List ByteArray) : List Value := l.map fun s => .string s
abbrev Ints (w0 : World) (L : List At) (v : Value) (l : List Int) : Prop := Ent w0 L (Rd 1 v l.length (intC l))
abbrev Strs (w0 : World) (L : List At) (v : Value) (l : List ByteArray) : Prop := Ent w0 L (Rd 1 v l.length (strC l))
theorem map_one {α : Type} (f : α → Value) (S : List α) : (S.map f) = S.flatMap fun j => [f j] := by
 induction S with
 | nil => rfl
 | cons x S ih => rw [List.map_cons, List.flatMap_cons, ih]; rfl
theorem one_at {α : Type} (f : α → Value) {w : World} {v : Value} {l : List α} (h : Rd 1 v l.length (l.map f) w) {k : Nat} {x : α} (hx : l[k]? = some x) :
  ∃ b o c, v = .slice (some ⟨b, o, none⟩) l.length c ∧ w.cell? ⟨b, o + k, none⟩ = some (f x) := by
 rw [map_one] at h
 obtain ⟨b, o, c, h1, -, -, h2⟩ := rd_elem (fun j => [f j]) 1 (fun _ => rfl) (by decide) h hx
 have := h2 0 _ rfl
 rw [Nat.mul_one, Nat.add_zero] at this
 exact ⟨b, o, c, h1, this⟩
theorem int_at {w : World} {v : Value} {l : List Int} (h : Rd 1 v l.length (intC l) w) {k : Nat} {x : Int} (hx : l[k]? = some x) :
  ∃ b o c, v = .slice (some ⟨b, o, none⟩) l.length c ∧ w.cell? ⟨b, o + k, none⟩ = some (.int .i64 x) := one_at (fun n : Int => .int .i64 n) h hx
theorem str_at {w : World} {v : Value} {l : List ByteArray} (h : Rd 1 v l.length (strC l) w) {k : Nat} {x : ByteArray} (hx : l[k]? = some x) :
  ∃ b o c, v = .slice (some ⟨b, o, none⟩) l.length c ∧ w.cell? ⟨b, o + k, none⟩ = some (.string x) := one_at (fun s : ByteArray => .string s) h hx
theorem retBo {a b : Bool} (h : a = b) : Ending.returned (.bool b) = .returned (.bool a) := by rw [h]
theorem retIn {a b : Int} (h : a = b) : Ending.returned (.int .i64 b) = .returned (.int .i64 a) := by rw [h]
theorem retVa {a b : Value} (h : a = b) : Ending.returned b = .returned a := by rw [h]
theorem bytesSame {a b : ByteArray} (h : a.toList = b.toList) : a = b := by
 rw [Go.ByteArray.toList_eq, Go.ByteArray.toList_eq] at h
 cases a
 cases b
 congr 1
 exact Array.toList_inj.1 h
section
variable {w0 w : World} {L : List At}
theorem HL.ofBelow {w' : World} (h : HL w0 w L) (hb : Below w.heap.size w w') : HL w0 w' L := h.same ⟨hb.os, hb.tape, hb.output, hb.size, fun k hk _ => hb.block k hk⟩
theorem HL.grow (h : HL w0 w L) (os : Array Obj) : HL w0 (grow w os) L :=
 h.same ⟨rfl, rfl, rfl, by show w.heap.size ≤ (w.heap ++ os).size; rw [Array.size_append]; omega, fun k hk _ => by show (w.heap ++ os)[k]? = _; rw [Array.getElem?_append_left hk]⟩
theorem itoa_ok (hD : Doors w0) (H : HL w0 w L) (n : Int) (h0 : -9223372036854775808 ≤ n) (h1 : n ≤ 9223372036854775807) :
  Calls Tryz.prog 50 #[.int .i64 n] w fun e w' => e = .returned (.string ⟨(Lib.itoa n).toArray⟩) ∧ HL w0 w' L := by
 refine (Tryz.strconv_Itoa n h0 h1 w (hD.keep H).pow).mono ?_
 rintro e w' ⟨rfl, k, os, rfl⟩
 exact ⟨rfl, HL.grow (H.drewN k) os⟩
theorem atoi_ok (hD : Doors w0) (H : HL w0 w L) (s : ByteArray) (hs : s.size ≤ 140737488351232) :
  Calls Tryz.prog 62 #[.string s] w fun e w' => (∃ n, Lib.atoiAll s.data.toList = .ok n ∧ e = .returned (.tuple #[.int .i64 n, .nilIface]) ∧ HL w0 w' L) ∨
   ((∀ n, Lib.atoiAll s.data.toList ≠ .ok n) ∧ ∃ n t p, e = .returned (.tuple #[.int .i64 n, .iface t (.pointer (some p))]) ∧ HL w0 w' L) := by
 obtain ⟨-, -, ⟨t1, p1, h1⟩, ⟨t2, p2, h2⟩, -⟩ := hD.keep H
 cases hA : Lib.atoiAll s.data.toList with
 | ok n =>
  refine (Tryz.strconv_Atoi_ok s (by omega) n hA w).mono ?_
  rintro e w' ⟨rfl, rfl | ⟨t, rfl⟩⟩
  ·exact .inl ⟨n, rfl, rfl, H⟩
  ·exact .inl ⟨n, rfl, rfl, HL.ofBelow H (Lib.bytesWorld_below w _ t)⟩
 | «syntax» =>
  refine (Tryz.strconv_Atoi_syntax_var s (by omega) hA t1 p1 w h1).mono ?_
  rintro e w' ⟨N, rfl, -, -, hb⟩
  exact .inr ⟨(fun n h => by cases h), 0, _, _, rfl, HL.ofBelow H hb⟩
 | range =>
  refine (Tryz.strconv_Atoi_range_var s (by omega) hA t2 p2 w h2).mono ?_
  rintro e w' ⟨N, rfl, -, -, hb⟩
  exact .inr ⟨(fun n h => by cases h), _, _, _, rfl, HL.ofBelow H hb⟩
def strs (base : Nat) (v : Value) (xs : List ByteArray) : At := row base 9 1 v xs.length (strC xs)
def intsR (base : Nat) (v : Value) (xs : List Int) : At := row base 3 1 v xs.length (intC xs)
theorem sliceS : SliceOf Tryz.prog 64 9 1 16 := sliceOf (z := .string ⟨#[]⟩) Tryz.underlying64 (by kernel_rfl) rfl (by decide)
theorem sliceI : SliceOf Tryz.prog 24 3 1 8 := sliceOf (z := .int .i64 0) Tryz.underlying24 (by kernel_rfl) rfl (by decide)
theorem append_str {ops : Array Oper} {rest : List Oper} {o : Oper} {a : Act} {Q : Exit → Act → World → Prop} {xs : List ByteArray} {y : ByteArray} {v : Value} {b : Nat} (hgd : o.guard = none) (s x : Operand) (ho : o.op = .call { callee := .builtin .append, args := #[s, x], argTypes := #[64, 64] })
  (H : HL w0 w (strs w0.heap.size v xs :: L)) (hs : a.eval s = v) (hx : a.eval x = .slice (some ⟨b, 0, none⟩) 1 1) (hr : Rd 1 (.slice (some ⟨b, 0, none⟩) 1 1) 1 [.string y] w) (hb : xs.length ≤ 4294967296)
  (h : ∀ v' w', HL w0 w' (strs w0.heap.size v' (xs ++ [y]) :: L) → wpList Tryz.prog ops Q rest (a.put o.dst v') w') : wpList Tryz.prog ops Q (o :: rest) a w :=
 wpList_append_hl sliceS hgd s x ho (n := xs.length) (m := 1) (xs := strC xs) (news := [.string y]) H hs hx hr (by simp [Value.oneCell']) (by unfold maxLen; omega) (by omega) (fun v' w' H' _ => h v' w' (by
  unfold strs; rw [List.length_append, strC, List.map_append]; exact H'))
theorem append_int {ops : Array Oper} {rest : List Oper} {o : Oper} {a : Act} {Q : Exit → Act → World → Prop} {xs : List Int} {y : Int} {v : Value} {b : Nat} (hgd : o.guard = none) (s x : Operand) (ho : o.op = .call { callee := .builtin .append, args := #[s, x], argTypes := #[24, 24] })
  (H : HL w0 w (intsR w0.heap.size v xs :: L)) (hs : a.eval s = v) (hx : a.eval x = .slice (some ⟨b, 0, none⟩) 1 1) (hr : Rd 1 (.slice (some ⟨b, 0, none⟩) 1 1) 1 [.int .i64 y] w) (hb : xs.length ≤ 4294967296)
  (h : ∀ v' w', HL w0 w' (intsR w0.heap.size v' (xs ++ [y]) :: L) → wpList Tryz.prog ops Q rest (a.put o.dst v') w') : wpList Tryz.prog ops Q (o :: rest) a w :=
 wpList_append_hl sliceI hgd s x ho (n := xs.length) (m := 1) (xs := intC xs) (news := [.int .i64 y]) H hs hx hr (by simp [Value.oneCell']) (by unfold maxLen; omega) (by omega) (fun v' w' H' _ => h v' w' (by
  unfold intsR; rw [List.length_append, intC, List.map_append]; exact H'))
theorem rd_str {y : ByteArray} : Rd 1 (.slice (some ⟨w.heap.size, 0, none⟩) 1 1) 1 [.string y] (w.alloc (.cells #[.string y] 9)) := rd_one rfl
theorem rd_int {y : Int} : Rd 1 (.slice (some ⟨w.heap.size, 0, none⟩) 1 1) 1 [.int .i64 y] (w.alloc (.cells #[.int .i64 y] 3)) := rd_one rfl
/-- A list that lies in a block of the call's own. -/
theorem entBlk {b k n : Nat} {E : TypeId} {cs : List Value} (hl : cs.length = n * k) (hn : n ≤ maxLen) : Ent w0 (blk b (.cells cs.toArray E) :: L) (Rd k (.slice (some ⟨b, 0, none⟩) n n) n cs) := fun W HW => by
 refine ⟨hl, hn, _, n, rfl, Nat.le_refl _, hn, (fun h => nomatch h), fun ad hd j u hu => ?_⟩
 cases hd
 rw [add_zero_block, HW.cell j]
 simpa using hu
theorem entRow {base k n : Nat} {E : TypeId} {v : Value} {cs : List Value} : Ent w0 (row base E k v n cs :: L) (Rd k v n cs) := fun W HW => rd_row HW.head
end
end Go.Proofs.YtdekbbffoaphhaaGreatDoor

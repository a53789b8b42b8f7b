/- Numerals, lists of words, and a line of them. -/
import Derived.Test.YtdekbbffoaphhaaDoorVeCheck
set_option linter.unusedVariables false
set_option linter.unusedSimpArgs false
namespace Go.Proofs.YtdekbbffoaphhaaDoor
open Go.RowKit Go.Proofs.HL Go.Proofs.Ve
open Go.Sort (grow)
section
variable {w0 w : World} {L : List At}
theorem HL.ofBelow {w' : World} (h : HL w0 w L) (hb : Below w.heap.size w w') : HL w0 w' L := h.same ⟨hb.os, hb.tape, hb.output, hb.size, fun k hk _ => hb.block k hk⟩
theorem HL.grow (h : HL w0 w L) (os : Array Obj) : HL w0 (grow w os) L :=
  h.same ⟨rfl, rfl, rfl, by show w.heap.size ≤ (w.heap ++ os).size; rw [Array.size_append]; omega, fun k hk _ => by show (w.heap ++ os)[k]? = _; rw [Array.getElem?_append_left hk]⟩
theorem itoa_ok (hD : Doors w0) (H : HL w0 w L) (n : Int) (h0 : -9223372036854775808 ≤ n) (h1 : n ≤ 9223372036854775807) :
    Calls Tryd.prog 37 #[.int .i64 n] w fun e w' => e = .returned (.string ⟨(Lib.itoa n).toArray⟩) ∧ HL w0 w' L := by
  refine (Tryd.strconv_Itoa n h0 h1 w (hD.keep H).pow).mono ?_
  rintro e w' ⟨rfl, k, os, rfl⟩
  exact ⟨rfl, HL.grow (H.drewN k) os⟩
def strs (base : Nat) (v : Value) (xs : List ByteArray) : At := row base 9 1 v xs.length (xs.map fun s => .string s)
theorem sliceS : SliceOf Tryd.prog 55 9 1 16 := sliceOf (z := .string ⟨#[]⟩) Tryd.underlying55 (by kernel_rfl) rfl (by decide)
theorem append_str {ops : Array Oper} {rest : List Oper} {o : Oper} {a : Act} {Q : Exit → Act → World → Prop} {xs : List ByteArray} {y : ByteArray} {v : Value} {b : Nat} (hgd : o.guard = none) (s x : Operand) (ho : o.op = .call { callee := .builtin .append, args := #[s, x], argTypes := #[55, 55] })
    (H : HL w0 w (strs w0.heap.size v xs :: L)) (hs : a.eval s = v) (hx : a.eval x = .slice (some ⟨b, 0, none⟩) 1 1) (hr : Rd 1 (.slice (some ⟨b, 0, none⟩) 1 1) 1 [.string y] w) (hb : xs.length ≤ 1000)
    (h : ∀ v' w', HL w0 w' (strs w0.heap.size v' (xs ++ [y]) :: L) → wpList Tryd.prog ops Q rest (a.put o.dst v') w') : wpList Tryd.prog ops Q (o :: rest) a w :=
  wpList_append_hl sliceS hgd s x ho (n := xs.length) (m := 1) (xs := xs.map fun s => .string s) (news := [.string y]) H hs hx hr (by simp [Value.oneCell']) (by unfold maxLen; omega) (by omega) (fun v' w' H' _ => h v' w' (by
    unfold strs; rw [List.length_append, List.map_append]; exact H'))
theorem rd_str {y : ByteArray} : Rd 1 (.slice (some ⟨w.heap.size, 0, none⟩) 1 1) 1 [.string y] (w.alloc (.cells #[.string y] 9)) := rd_one rfl
theorem join_len (M : Nat) : ∀ (xs : List (List UInt8)), (∀ x ∈ xs, x.length ≤ M) → (Lib.join xs [32]).length ≤ xs.length * (M + 1)
  | [], _ => by simp [Lib.join]
  | [x], h => by
    have := h x (by simp)
    simp [Lib.join_one]
    omega
  | x :: y :: r, h => by
    have h1 := h x (by simp)
    have h2 := join_len M (y :: r) (fun z hz => h z (List.mem_cons_of_mem _ hz))
    have e : Lib.join (x :: y :: r) [32] = x ++ [32] ++ Lib.join (y :: r) [32] := by simp [Lib.join, List.intercalate, List.intersperse]
    rw [e]
    simp only [List.length_append, List.length_cons, List.length_nil] at h2 ⊢
    rw [Nat.add_mul (r.length + 1) 1]
    omega
theorem line_ok {v : Value} {xs : List ByteArray} (H : HL w0 w (strs w0.heap.size v xs :: L)) {M : Nat} (hx : ∀ x ∈ xs, x.size ≤ M) (hne : xs ≠ []) (hl : xs.length ≤ 1000) (hM : M ≤ 100000000) :
    Calls Tryd.prog 39 #[v] w fun e w' => e = .returned (.string ⟨(Lib.join (xs.map (·.data.toList)) [32]).toArray⟩) ∧ HL w0 w' L := by
  obtain ⟨A, c, rfl, hA, hc1, hc2⟩ := row_shape (show w.ownsRow w0.heap.size 9 1 v xs.length (xs.map fun s => .string s) from H.head)
  have hpos : 0 < xs.length := by cases xs with
    | nil => exact absurd rfl hne
    | cons _ _ => simp
  obtain ⟨g, rfl⟩ := hA.resolve_left (by omega)
  have hcell : ∀ (j : Nat) x, xs[j]? = some x → w.cell? ⟨g, 0 + j, none⟩ = some (.string x) := fun j x hx => by
    rw [Nat.zero_add]
    exact H.rowCell (List.mem_cons_self ..) j _ (by rw [List.getElem?_map, hx]; rfl)
  have hg : g < w.heap.size := by
    have h0 := hcell 0 _ (List.getElem?_eq_getElem hpos)
    rcases Nat.lt_or_ge g w.heap.size with h | h
    · exact h
    · unfold World.cell? at h0
      rw [Array.getElem?_eq_none h] at h0
      cases h0
  have hlen : (Lib.join (xs.map (·.data.toList)) (⟨#[32]⟩ : ByteArray).data.toList).length ≤ 140737488355328 := by
    have h1 := join_len M (xs.map (·.data.toList)) (fun y hy => by
      obtain ⟨z, hz, rfl⟩ := List.mem_map.1 hy
      have := hx z hz
      simpa using this)
    rw [List.length_map] at h1
    have h2 : xs.length * (M + 1) ≤ 1000 * 100000001 := Nat.mul_le_mul hl (by omega)
    show (Lib.join (xs.map (·.data.toList)) [32]).length ≤ _
    omega
  have hj := fun W (hW : ∀ (j : Nat) x, xs[j]? = some x → W.cell? ⟨g, 0 + j, none⟩ = some (.string x)) (hgW : g < W.heap.size) => Tryd.strings_Join g 0 c xs ⟨#[32]⟩ W hW hgW (by omega) hc1 hlen
  have HJ := Lib.hid (hj w hcell hg)
  have HT := H.tail
  clear hj hcell hlen hx hne H hA
  go_enter Tryd.func39, Tryd.ntmps39
  go_wp2_with (go_at_call 63; refine HJ.out.mono ?_; rintro e w2 ⟨rfl, hb⟩)
  go_ret
  exact ⟨rfl, HL.ofBelow HT hb⟩
end
end Go.Proofs.YtdekbbffoaphhaaDoor

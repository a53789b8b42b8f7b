/- A strings.Builder of the call's own. -/
import Derived.Test.YtdekbbffoaphhaaDoorAnBase
import Derived.Test.YtdekbbffoaphhaaDoorShelfB
import Derived.Lib.Builder
import Derived.Lib.AppendStr
import Derived.Lib.UnsafeStr
import Derived.Laws.Externs
set_option linter.unusedVariables false
set_option linter.unusedSimpArgs false
namespace Go.Proofs.YtdekbbffoaphhaaDoor
open Go.RowKit Go.Proofs.HL Go.Proofs.An
section
variable {Wb w : World} {K : List At} {b : Nat} {p u : Value} {bs : List Value}
/-- The builder in block b: what its first field holds, its bytes. -/
def bldL (b : Nat) (p u : Value) (bs : List Value) : List At := [blk b (.cells #[p, u] 92), row b 5 1 u bs.length bs]
theorem bld_at (H : HL Wb w (bldL b p u bs ++ K)) : Lib.BuilderAt 92 5 b b p bs w := by
  have h1 := H.head
  have h2 := H.tail.head
  have hs := (List.pairwise_cons.1 H.sep).1 (row b 5 1 u bs.length bs) (List.mem_cons_self ..)
  refine ⟨Nat.le_refl _, u, h1, h2, fun e => ?_⟩
  rcases hs with h | h
  · cases h
  · exact h e.symm
theorem bld_is (h : Lib.BuilderAt 92 5 b b p bs w) (hp : p = .pointer none ∨ p = .pointer (some ⟨b, 0, none⟩)) : Lib.IsBuilder 92 5 b b bs w := by
  rcases hp with rfl | rfl
  · exact .inl h
  · exact .inr h
theorem bld_of (hb : Wb.heap.size = b) (H : HL Wb w (bldL b p u bs ++ K)) {q : Value} {cs : List Value} {w' : World} (h : Lib.BuilderAt 92 5 b b q cs w') (hbel : Below b w w') : ∃ u', HL Wb w' (bldL b q u' cs ++ []) := by
  obtain ⟨-, v, h1, h2, h3⟩ := h
  subst hb
  refine ⟨v, H.below.trans hbel, fun A hA => ?_, ?_⟩
  · simp only [bldL, List.append_nil, List.mem_cons, List.not_mem_nil, or_false] at hA
    rcases hA with rfl | rfl
    · exact ⟨h1, fun k e => by cases e; exact Nat.le_refl _⟩
    · exact ⟨h2, fun k e => (h2.lt k e).1⟩
  · simp only [bldL, List.append_nil, List.pairwise_cons, List.mem_cons, List.not_mem_nil, or_false, forall_eq, false_implies, implies_true, List.Pairwise.nil, and_true]
    exact .inr (fun e => h3 e.symm)
set_option maxRecDepth 100000 in
set_option maxHeartbeats 1000000 in
theorem copy_ok (h : Lib.IsBuilder 92 5 b b bs w) :
    Calls Tryd.prog 76 #[.pointer (some ⟨b, 0, none⟩)] w fun e w' => e = .returned (.tuple #[]) ∧ Lib.BuilderAt 92 5 b b (.pointer (some ⟨b, 0, none⟩)) bs w' ∧ Below b w w' := by
  have hsz : (Tryd.prog.info? 92).map (·.size) = some 2 := by kernel_rfl
  obtain ⟨j, hj, hjs⟩ := Option.map_eq_some_iff.1 hsz
  have hlies : liesAt Tryd.prog Tryd.prog.depth 92 (2 / Tryd.prog.cellsOf 92) 0 92 1 = true := by kernel_rfl
  rcases h with h | h
  · have h0 := h.cell0
    have hf := h.frozen0
    have hsh := h.shape
    have c1 := Lib.run_to_unsafe w ⟨b, 0, none⟩ Tryd.underlying90 Tryd.underlying125 hj (by rw [hjs]; decide) hsh (Nat.zero_lt_succ 1)
    have c3 := Lib.run_from_unsafe w ⟨b, 0, none⟩ Tryd.underlying125 Tryd.underlying90 hj hsh hlies
    have HJ := Lib.hid hj; have HJS := Lib.hid hjs
    clear hj hjs hsz hlies
    go_enter Tryd.func76, Tryd.ntmps76
    go_wp2
    rw [run_callFunc_extern Tryd.func91 (by kernel_rfl) (by kernel_rfl) (by kernel_rfl) (e := Extern.AbiNoEscape.same) (by kernel_rfl)]
    rw [Lib.run_noEscape]
    simp only [Result.andThen]
    rw [Oper.upon_value]
    go_wp2
    go_end0
    exact ⟨rfl, h.used _, (Below.refl b w).setCell (p := ⟨b, 0, none⟩) (Nat.le_refl _) _⟩
  · have h0 := h.cell0
    have c2 := Lib.run_neq_ptr_same w (⟨b, 0, none⟩ : Addr) Tryd.underlying90 hj
    have HJ := Lib.hid hj; have HJS := Lib.hid hjs
    clear hj hjs hsz hlies
    go_enter Tryd.func76, Tryd.ntmps76
    go_wp2
    go_end0
    exact ⟨rfl, h, Below.refl b _⟩
set_option maxRecDepth 100000 in
set_option maxHeartbeats 2000000 in
theorem write_ok (hb : Wb.heap.size = b) (H : HL Wb w (bldL b p u bs ++ K)) (hp : p = .pointer none ∨ p = .pointer (some ⟨b, 0, none⟩)) (s : ByteArray) (hlen : bs.length + s.size ≤ 140737488355328) :
    Calls Tryd.prog 57 #[.pointer (some ⟨b, 0, none⟩), .string s] w fun e w' => e = .returned (.tuple #[.int .i64 s.size, .nilIface]) ∧ ∃ u', HL Wb w' (bldL b (.pointer (some ⟨b, 0, none⟩)) u' (bs ++ Lib.strCells s) ++ []) := by
  have hat := bld_at H
  have hbw : b ≤ w.heap.size := by have := H.size; omega
  have hc := copy_ok (bs := bs) (w := w) (b := b) (bld_is hat hp)
  obtain ⟨i0, hi, hi2⟩ : ∃ i, Tryd.prog.info? 5 = some i ∧ (i.zero, i.size, i.bytes) = (some (.int .u8 0), 1, 1) := Option.map_eq_some_iff.1 (show (Tryd.prog.info? 5).map (fun i => (i.zero, i.size, i.bytes)) = some (some (.int .u8 0), 1, 1) by kernel_rfl)
  simp only [Prod.mk.injEq] at hi2
  obtain ⟨hz0, hz1, hz2⟩ := hi2
  have HH := Lib.hid H; have HB := Lib.hid hb
  clear H hb hat hp
  go_enter Tryd.func57, Tryd.ntmps57
  go_upto_region 2 with (go_at_call 76; refine hc.mono ?_; rintro e w1 ⟨rfl, h1, hb1⟩; clear hc)
  obtain ⟨hB, v, hbk, hown, hne⟩ := h1
  have c0 : w1.cell? ⟨b, 0, none⟩ = some (.pointer (some ⟨b, 0, none⟩)) := by rw [Lib.cell_of_heap hbk]; rfl
  have c1 : w1.cell? ⟨b, 1, none⟩ = some v := by rw [Lib.cell_of_heap hbk]; rfl
  have hw1 := hb1.size
  have HI := Lib.hid hi; have HZ0 := Lib.hid hz0; have HZ1 := Lib.hid hz1; have HZ2 := Lib.hid hz2
  clear hi hz0 hz1 hz2
  go_wp2_with (at_builtin; refine Lib.wpList_append_own_string _ rfl _ _ 53 9 rfl b 5 i0 Tryd.underlying53 Tryd.underlying9 HI.out HZ0.out HZ1.out HZ2.out _ _ _ rfl hown s rfl ?c3 ?c4 ?c5 ?_)
  case c3 => unfold maxLen; omega
  case c4 => omega
  case c5 => omega
  intro v' w2 hown' hgrow _
  have hlt : b < w1.heap.size := by
    rcases Nat.lt_or_ge b w1.heap.size with h' | h'
    · exact h'
    · simp [Array.getElem?_eq_none h'] at hbk
  have hb2 : w2.heap[b]? = some (.cells #[.pointer (some ⟨b, 0, none⟩), v] 92 (0, 0)) := by
    rw [hgrow.block b hlt (fun e => hne e.symm)]
    exact hbk
  have d0 : w2.cell? ⟨b, 0, none⟩ = some (.pointer (some ⟨b, 0, none⟩)) := by rw [Lib.cell_of_heap hb2]; rfl
  have d1 : w2.cell? ⟨b, 1, none⟩ = some v := by rw [Lib.cell_of_heap hb2]; rfl
  have f1 : w2.frozen? ⟨b, 1, none⟩ = false := Lib.frozen_of_heap hb2 1
  obtain ⟨ao, n', cap, rfl⟩ : ∃ ao n' cap, v' = .slice ao n' cap := by
    rcases hown'.2 with ⟨hv, _⟩ | ⟨g, cap, cur, hv, _⟩
    · exact ⟨_, _, _, hv⟩
    · exact ⟨_, _, _, hv⟩
  have hput := Lib.BuilderAt.put (T := 92) (e := 5) hB hb2 (bs' := bs ++ Lib.strCells s) (by simpa [Lib.strCells_length] using hown') (by decide)
  have hbel : Below b w (w2.setCell ⟨b, 1, none⟩ (.slice ao n' cap)) := (hb1.grown hgrow (by omega) (fun k hk => (hown.lt k hk).1)).setCell (p := ⟨b, 1, none⟩) hB _
  have HF := Lib.hid (bld_of HB.out HH.out hput hbel)
  clear hput hbel hown' hgrow hb2 hown hbk hb1
  go_wp2
  go_ret2
  exact ⟨rfl, HF.out⟩
set_option maxHeartbeats 1000000 in
theorem string_ok (hb : Wb.heap.size = b) {l : List UInt8} (H : HL Wb w (bldL b p u (Lib.byteCells l) ++ K)) (hp : p = .pointer none ∨ p = .pointer (some ⟨b, 0, none⟩)) :
    Calls Tryd.prog 59 #[.pointer (some ⟨b, 0, none⟩)] w fun e w' => e = .returned (.string ⟨l.toArray⟩) ∧ Below b w w' :=
  Tryd.Builder_String_any b b l w (bld_is (bld_at H) hp) (by have := H.size; omega)
end
end Go.Proofs.YtdekbbffoaphhaaDoor

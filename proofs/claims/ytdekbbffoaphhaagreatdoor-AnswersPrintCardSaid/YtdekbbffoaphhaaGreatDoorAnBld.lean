/- A strings.Builder of the call's own. -/
import Derived.Test.YtdekbbffoaphhaaGreatDoorAnBase
import Derived.Test.YtdekbbffoaphhaaGreatDoorShelfB
import Derived.Lib.Builder
import Derived.Lib.AppendStr
import Derived.Lib.UnsafeStr
import Derived.Laws.Externs
set_option linter.unusedVariables false
set_option linter.unusedSimpArgs false
set_option maxRecDepth 100000
set_option maxHeartbeats 2000000
namespace Go.Proofs.YtdekbbffoaphhaaGreatDoor
open Go.RowKit Go.Proofs.HL Go.Proofs.An
section
variable {Wb w : World} {K : List At} {b : Nat} {p u : Value} {bs : List Value}
/-- The builder in block b: what its first field holds, its bytes. -/
def bldL (b : Nat) (p u : Value) (bs : List Value) : List At := [blk b (.cells #[p, u] 55), row b 5 1 u bs.length bs]
theorem bld_at (H : HL Wb w (bldL b p u bs ++ K)) : Lib.BuilderAt 55 5 b b p bs w := by
 have h1 := H.head
 have h2 := H.tail.head
 have hs := (List.pairwise_cons.1 H.sep).1 (row b 5 1 u bs.length bs) (List.mem_cons_self ..)
 refine ⟨Nat.le_refl _, u, h1, h2, fun e => ?_⟩
 rcases hs with h | h
 ·cases h
 ·exact h e.symm
theorem bld_is (h : Lib.BuilderAt 55 5 b b p bs w) (hp : p = .pointer none ∨ p = .pointer (some ⟨b, 0, none⟩)) : Lib.IsBuilder 55 5 b b bs w := by
 rcases hp with rfl | rfl
 ·exact .inl h
 ·exact .inr h
theorem bld_of (hb : Wb.heap.size = b) (H : HL Wb w (bldL b p u bs ++ K)) {q : Value} {cs : List Value} {w' : World} (h : Lib.BuilderAt 55 5 b b q cs w') (hbel : Below b w w') : ∃ u', HL Wb w' (bldL b q u' cs ++ []) := by
 obtain ⟨-, v, h1, h2, h3⟩ := h
 subst hb
 refine ⟨v, H.below.trans hbel, fun A hA => ?_, ?_⟩
 ·simp only [bldL, List.append_nil, List.mem_cons, List.not_mem_nil, or_false] at hA
  rcases hA with rfl | rfl
  ·exact ⟨h1, fun k e => by cases e; exact Nat.le_refl _⟩
  ·exact ⟨h2, fun k e => (h2.lt k e).1⟩
 ·simp only [bldL, List.append_nil, List.pairwise_cons, List.mem_cons, List.not_mem_nil, or_false, forall_eq, false_implies, implies_true, List.Pairwise.nil, and_true]
  exact .inr (fun e => h3 e.symm)
theorem copy_ok (h : Lib.IsBuilder 55 5 b b bs w) :
  Calls Tryz.prog 51 #[.pointer (some ⟨b, 0, none⟩)] w fun e w' => e = .returned (.tuple #[]) ∧ Lib.BuilderAt 55 5 b b (.pointer (some ⟨b, 0, none⟩)) bs w' ∧ Below b w w' := by
 have hsz : (Tryz.prog.info? 55).map (·.size) = some 2 := by kernel_rfl
 obtain ⟨j, hj, hjs⟩ := Option.map_eq_some_iff.1 hsz
 have hlies : liesAt Tryz.prog Tryz.prog.depth 55 (2 / Tryz.prog.cellsOf 55) 0 55 1 = true := by kernel_rfl
 rcases h with h | h
 ·have h0 := h.cell0
  have hf := h.frozen0
  have hsh := h.shape
  have c1 := Lib.run_to_unsafe w ⟨b, 0, none⟩ Tryz.underlying52 Tryz.underlying101 hj (by rw [hjs]; decide) hsh (Nat.zero_lt_succ 1)
  have c3 := Lib.run_from_unsafe w ⟨b, 0, none⟩ Tryz.underlying101 Tryz.underlying52 hj hsh hlies
  have HJ := Lib.hid hj; have HJS := Lib.hid hjs
  clear hj hjs hsz hlies
  go_enter Tryz.func51, Tryz.ntmps51
  go_wp2
  rw [run_callFunc_extern Tryz.func69 (by kernel_rfl) (by kernel_rfl) (by kernel_rfl) (e := Extern.AbiNoEscape.same) (by kernel_rfl)]
  rw [Lib.run_noEscape]
  simp only [Result.andThen]
  rw [Oper.upon_value]
  go_wp2
  go_end0
  exact ⟨rfl, h.used _, (Below.refl b w).setCell (p := ⟨b, 0, none⟩) (Nat.le_refl _) _⟩
 ·have h0 := h.cell0
  have c2 := Lib.run_neq_ptr_same w (⟨b, 0, none⟩ : Addr) Tryz.underlying52 hj
  have HJ := Lib.hid hj; have HJS := Lib.hid hjs
  clear hj hjs hsz hlies
  go_enter Tryz.func51, Tryz.ntmps51
  go_wp2
  go_end0
  exact ⟨rfl, h, Below.refl b _⟩
theorem write_ok (hb : Wb.heap.size = b) (H : HL Wb w (bldL b p u bs ++ K)) (hp : p = .pointer none ∨ p = .pointer (some ⟨b, 0, none⟩)) (s : ByteArray) (hlen : bs.length + s.size ≤ 140737488355328) :
  Calls Tryz.prog 20 #[.pointer (some ⟨b, 0, none⟩), .string s] w fun e w' => e = .returned (.tuple #[.int .i64 s.size, .nilIface]) ∧ ∃ u', HL Wb w' (bldL b (.pointer (some ⟨b, 0, none⟩)) u' (bs ++ Lib.strCells s) ++ []) := by
 have hat := bld_at H
 have hbw : b ≤ w.heap.size := by have := H.size; omega
 have hc := copy_ok (bs := bs) (w := w) (b := b) (bld_is hat hp)
 obtain ⟨i0, hi, hi2⟩ : ∃ i, Tryz.prog.info? 5 = some i ∧ (i.zero, i.size, i.bytes) = (some (.int .u8 0), 1, 1) := Option.map_eq_some_iff.1 (show (Tryz.prog.info? 5).map (fun i => (i.zero, i.size, i.bytes)) = some (some (.int .u8 0), 1, 1) by kernel_rfl)
 simp only [Prod.mk.injEq] at hi2
 obtain ⟨hz0, hz1, hz2⟩ := hi2
 have HH := Lib.hid H; have HB := Lib.hid hb
 clear H hb hat hp
 go_enter Tryz.func20, Tryz.ntmps20
 go_upto_region 2 with (go_at_call 51; refine hc.mono ?_; rintro e w1 ⟨rfl, h1, hb1⟩; clear hc)
 obtain ⟨hB, v, hbk, hown, hne⟩ := h1
 have c0 : w1.cell? ⟨b, 0, none⟩ = some (.pointer (some ⟨b, 0, none⟩)) := by rw [Lib.cell_of_heap hbk]; rfl
 have c1 : w1.cell? ⟨b, 1, none⟩ = some v := by rw [Lib.cell_of_heap hbk]; rfl
 have hw1 := hb1.size
 have HI := Lib.hid hi; have HZ0 := Lib.hid hz0; have HZ1 := Lib.hid hz1; have HZ2 := Lib.hid hz2
 clear hi hz0 hz1 hz2
 go_wp2_with (at_builtin; refine Lib.wpList_append_own_string _ rfl _ _ 53 9 rfl b 5 i0 Tryz.underlying53 Tryz.underlying9 HI.out HZ0.out HZ1.out HZ2.out _ _ _ rfl hown s rfl ?c3 ?c4 ?c5 ?_)
 case c3 => unfold maxLen; omega
 case c4 => omega
 case c5 => omega
 intro v' w2 hown' hgrow _
 have hlt : b < w1.heap.size := by
  rcases Nat.lt_or_ge b w1.heap.size with h' | h'
  ·exact h'
  ·simp [Array.getElem?_eq_none h'] at hbk
 have hb2 : w2.heap[b]? = some (.cells #[.pointer (some ⟨b, 0, none⟩), v] 55 (0, 0)) := by
  rw [hgrow.block b hlt (fun e => hne e.symm)]
  exact hbk
 have d0 : w2.cell? ⟨b, 0, none⟩ = some (.pointer (some ⟨b, 0, none⟩)) := by rw [Lib.cell_of_heap hb2]; rfl
 have d1 : w2.cell? ⟨b, 1, none⟩ = some v := by rw [Lib.cell_of_heap hb2]; rfl
 have f1 : w2.frozen? ⟨b, 1, none⟩ = false := Lib.frozen_of_heap hb2 1
 obtain ⟨ao, n', cap, rfl⟩ : ∃ ao n' cap, v' = .slice ao n' cap := by
  rcases hown'.2 with ⟨hv, _⟩ | ⟨g, cap, cur, hv, _⟩
  ·exact ⟨_, _, _, hv⟩
  ·exact ⟨_, _, _, hv⟩
 have hput := Lib.BuilderAt.put (T := 55) (e := 5) hB hb2 (bs' := bs ++ Lib.strCells s) (by simpa [Lib.strCells_length] using hown') (by decide)
 have hbel : Below b w (w2.setCell ⟨b, 1, none⟩ (.slice ao n' cap)) := (hb1.grown hgrow (by omega) (fun k hk => (hown.lt k hk).1)).setCell (p := ⟨b, 1, none⟩) hB _
 have HF := Lib.hid (bld_of HB.out HH.out hput hbel)
 clear hput hbel hown' hgrow hb2 hown hbk hb1
 go_wp2
 go_ret2
 exact ⟨rfl, HF.out⟩
theorem string_ok (hb : Wb.heap.size = b) {l : List UInt8} (H : HL Wb w (bldL b p u (Lib.byteCells l) ++ K)) (hp : p = .pointer none ∨ p = .pointer (some ⟨b, 0, none⟩)) :
  Calls Tryz.prog 22 #[.pointer (some ⟨b, 0, none⟩)] w fun e w' => e = .returned (.string ⟨l.toArray⟩) ∧ Below b w w' :=
 Tryz.Builder_String_any b b l w (bld_is (bld_at H) hp) (by have := H.size; omega)
end
end Go.Proofs.YtdekbbffoaphhaaGreatDoor

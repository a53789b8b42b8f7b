/- The methods of agendas of []ints: what each does to what the call owns. -/
import Derived.Test.YthibbjllfmhdmaaProg
import Derived.Test.YthibbjllfmhdmaaAgCore
import Derived.Test.YthibbjllfmhdmaaAgSort
import Derived.Deep.QuietTactic
import Derived.BigQuiet
import Derived.Outline
import Derived.IntWalk
import Derived.OwnWalk
import Derived.Maps.OwnSet
import Derived.Maps.RangeWalk
import Derived.KernelRfl
set_option linter.unusedVariables false
set_option linter.unusedSimpArgs false
namespace Go.Proofs.Ythibbjllfmhdmaa.AgLst
open Go.RowKit Go.Proofs.HL

def enc (x : Option Addr × Nat × Nat) : Value := .slice x.1 x.2.1 x.2.2
/-- The two blocks of an agenda. -/
def obj (mb : Nat) : Obj := .cells #[.map (some mb)] 82
theorem zeroE (w : World) : (zeroValue 84).run Try.prog w = .ok (.agg #[.int .i64 0, .slice none 0 0]) w := by kernel_rfl

section
variable {w0 w : World} {L : List At} {bp mb : Nat} {M : List (AgE (Option Addr × Nat × Nat))}
theorem cell (H : HL w0 w (blk bp (obj mb) :: L)) : w.cell? ⟨bp, 0, none⟩ = some (.map (some mb)) := by
  rw [H.cell 0]; rfl
theorem cellA (H : HL w0 w (blk bp (obj mb) :: L)) (o : Obj) : (w.alloc o).cell? ⟨bp, 0, none⟩ = some (.map (some mb)) :=
  (World.cell?_alloc_lt w o _ (World.block_lt_of_cell? w _ (cell H))).trans (cell H)

set_option maxRecDepth 100000 in
set_option maxHeartbeats 400000 in
theorem new_ok (H : HL w0 w L) :
    Calls Try.prog 26 #[] w fun e w' => ∃ bp mb, e = .returned (.pointer (some ⟨bp, 0, none⟩)) ∧ HL w0 w' (blk bp (obj mb) :: mp mb (kv enc []) :: L) := by
  have hmm := @run_makeMap Try.prog
  go_enter Try.func26, Try.ntmps26
  go_wp2
  go_ret
  refine ⟨w.heap.size + 1, w.heap.size, rfl, ?_⟩
  have h := (H.alloc (.map #[] 0)).alloc (obj w.heap.size)
  rw [World.size_alloc] at h
  exact (h.swap.shutMap IntMap.empty).swap

set_option maxRecDepth 100000 in
set_option maxHeartbeats 400000 in
theorem len_ok (H : HL w0 w (blk bp (obj mb) :: mp mb (kv enc M) :: L)) :
    Calls Try.prog 31 #[.pointer (some ⟨bp, 0, none⟩)] w fun e w' => e = .returned (.int .i64 M.length) ∧ w = w' := by
  have c1 := cell H
  have c2 := cellA H
  have hl := H.tail.lenMap Try.underlying80 3
  rw [kv_length] at hl
  go_enter Try.func31, Try.ntmps31
  go_wp2
  go_ret
  exact ⟨rfl, rfl⟩

set_option maxRecDepth 100000 in
set_option maxHeartbeats 400000 in
theorem add_ok (H : HL w0 w (blk bp (obj mb) :: mp mb (kv enc M) :: L)) (id at_ : Int) (x : Option Addr × Nat × Nat) :
    Calls Try.prog 27 #[.pointer (some ⟨bp, 0, none⟩), .int .i64 id, .int .i64 at_, .slice x.1 x.2.1 x.2.2] w fun e w' =>
      e = .returned (.int .i64 (if (findE M id).isSome then 30 else 0)) ∧ HL w0 w' (blk bp (obj mb) :: mp mb (kv enc (if (findE M id).isSome then M else M ++ [⟨id, at_, x⟩])) :: L) := by
  have c1 := cell H
  have c2 := cellA H
  have hl := H.tail.lookup Try.underlying80 Try.underlying3 zeroE id true
  rw [kv_lookup] at hl
  cases hf : findE M id with
  | some e =>
    rw [hf] at hl
    simp only [Option.map_some, Option.getD_some, Option.isSome_some, if_true, enc] at hl ⊢
    clear hf
    go_enter Try.func27, Try.ntmps27
    go_wp2
    go_ret
    exact ⟨rfl, H.alloc' _⟩
  | none =>
    rw [hf] at hl
    simp only [Option.map_none, Option.getD_none, Option.isSome_none, if_true, if_false, Bool.false_eq_true] at hl ⊢
    have hp := kv_put_new enc M id at_ x hf
    simp only [enc] at hp
    have Hf := Lib.hid hf; clear hf
    have Hp := Lib.hid hp; clear hp
    go_enter Try.func27, Try.ntmps27
    go_wp2_with (at_mapUpdate; refine wpList_mapUpdate_hl (k := id) (val := .agg #[.int .i64 at_, .slice x.1 x.2.1 x.2.2]) Try.underlying80 Try.underlying3 rfl _ _ _ rfl (H.swap.alloc' _) rfl rfl rfl ?_; intro w' H')
    go_ret
    refine ⟨rfl, ?_⟩
    rw [Hp.out] at H'
    exact H'.swap

set_option maxRecDepth 100000 in
set_option maxHeartbeats 400000 in
theorem get_ok (H : HL w0 w (blk bp (obj mb) :: mp mb (kv enc M) :: L)) (id : Int) :
    Calls Try.prog 29 #[.pointer (some ⟨bp, 0, none⟩), .int .i64 id] w fun e w' =>
      e = .returned (match findE M id with | some e => .tuple #[.int .i64 e.at_, enc e.x, .bool true] | none => .tuple #[.int .i64 0, .slice none 0 0, .bool false]) ∧ HL w0 w' (blk bp (obj mb) :: mp mb (kv enc M) :: L) := by
  have c1 := cell H
  have c2 := cellA H
  have hl := H.tail.lookup Try.underlying80 Try.underlying3 zeroE id true
  rw [kv_lookup] at hl
  cases hf : findE M id with
  | some e =>
    rw [hf] at hl
    simp only [Option.map_some, Option.getD_some, Option.isSome_some, if_true, enc] at hl ⊢
    clear hf
    go_enter Try.func29, Try.ntmps29
    go_wp2
    go_quiet (fail)
    go_wp2
    go_ret3
    exact ⟨rfl, (H.alloc' _).drewN _⟩
  | none =>
    rw [hf] at hl
    simp only [Option.map_none, Option.getD_none, Option.isSome_none, if_true, if_false, Bool.false_eq_true] at hl ⊢
    clear hf
    go_enter Try.func29, Try.ntmps29
    go_wp2
    go_quiet (fail)
    go_wp2
    go_ret3
    exact ⟨rfl, (H.alloc' _).drewN _⟩

set_option maxRecDepth 100000 in
set_option maxHeartbeats 400000 in
theorem drop_ok (H : HL w0 w (blk bp (obj mb) :: mp mb (kv enc M) :: L)) (id : Int) :
    Calls Try.prog 30 #[.pointer (some ⟨bp, 0, none⟩), .int .i64 id] w fun e w' =>
      e = .returned (.bool (findE M id).isSome) ∧ HL w0 w' (blk bp (obj mb) :: mp mb (kv enc (dropE M id)) :: L) := by
  have c1 := cell H
  have c2 := cellA H
  have hl := H.tail.lookup Try.underlying80 Try.underlying3 zeroE id true
  rw [kv_lookup] at hl
  have Hd := Lib.hid (kv_del enc M id)
  cases hf : findE M id with
  | some e =>
    rw [hf] at hl
    simp only [Option.map_some, Option.getD_some, Option.isSome_some, if_true, enc] at hl ⊢
    clear hf
    go_enter Try.func30, Try.ntmps30
    go_wp2_with (at_delete; refine wpList_delete_hl (k := id) Try.underlying80 Try.underlying3 rfl _ _ rfl (H.swap.alloc' _) rfl rfl ?_; intro w' H')
    go_ret
    rw [Hd.out] at H'
    exact ⟨rfl, H'.swap⟩
  | none =>
    rw [hf] at hl
    simp only [Option.map_none, Option.getD_none, Option.isSome_none, if_true, if_false, Bool.false_eq_true] at hl ⊢
    clear hf
    go_enter Try.func30, Try.ntmps30
    go_wp2_with (at_delete; refine wpList_delete_hl (k := id) Try.underlying80 Try.underlying3 rfl _ _ rfl (H.swap.alloc' _) rfl rfl ?_; intro w' H')
    go_ret
    rw [Hd.out] at H'
    exact ⟨rfl, H'.swap⟩


end
end Go.Proofs.Ythibbjllfmhdmaa.AgLst

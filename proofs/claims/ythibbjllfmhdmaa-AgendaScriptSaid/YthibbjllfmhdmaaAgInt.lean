/- The methods of agendas of ints: what each does to what the call owns. -/
import Derived.Test.YthibbjllfmhdmaaProg
import Derived.Test.YthibbjllfmhdmaaAgCore
import Derived.Test.YthibbjllfmhdmaaAgSort
import Derived.Deep.QuietTactic
import Derived.BigQuiet
import Derived.Outline
import Derived.IntWalk
import Derived.OwnWalk
import Derived.Maps.OwnSet
import Derived.Maps.RangeWalk
import Derived.KernelRfl
set_option linter.unusedVariables false
set_option linter.unusedSimpArgs false
namespace Go.Proofs.Ythibbjllfmhdmaa.AgInt
open Go.RowKit Go.Proofs.HL

def enc (x : Int) : Value := .int .i64 x
/-- The two blocks of an agenda. -/
def obj (mb : Nat) : Obj := .cells #[.map (some mb)] 67
theorem zeroE (w : World) : (zeroValue 73).run Try.prog w = .ok (.agg #[.int .i64 0, .int .i64 0]) w := by kernel_rfl

section
variable {w0 w : World} {L : List At} {bp mb : Nat} {M : List (AgE (Int))}
theorem cell (H : HL w0 w (blk bp (obj mb) :: L)) : w.cell? ⟨bp, 0, none⟩ = some (.map (some mb)) := by
  rw [H.cell 0]; rfl
theorem cellA (H : HL w0 w (blk bp (obj mb) :: L)) (o : Obj) : (w.alloc o).cell? ⟨bp, 0, none⟩ = some (.map (some mb)) :=
  (World.cell?_alloc_lt w o _ (World.block_lt_of_cell? w _ (cell H))).trans (cell H)

set_option maxRecDepth 100000 in
set_option maxHeartbeats 400000 in
theorem new_ok (H : HL w0 w L) :
    Calls Try.prog 15 #[] w fun e w' => ∃ bp mb, e = .returned (.pointer (some ⟨bp, 0, none⟩)) ∧ HL w0 w' (blk bp (obj mb) :: mp mb (kv enc []) :: L) := by
  have hmm := @run_makeMap Try.prog
  go_enter Try.func15, Try.ntmps15
  go_wp2
  go_ret
  refine ⟨w.heap.size + 1, w.heap.size, rfl, ?_⟩
  have h := (H.alloc (.map #[] 0)).alloc (obj w.heap.size)
  rw [World.size_alloc] at h
  exact (h.swap.shutMap IntMap.empty).swap

set_option maxRecDepth 100000 in
set_option maxHeartbeats 400000 in
theorem len_ok (H : HL w0 w (blk bp (obj mb) :: mp mb (kv enc M) :: L)) :
    Calls Try.prog 10 #[.pointer (some ⟨bp, 0, none⟩)] w fun e w' => e = .returned (.int .i64 M.length) ∧ w = w' := by
  have c1 := cell H
  have c2 := cellA H
  have hl := H.tail.lenMap Try.underlying65 3
  rw [kv_length] at hl
  go_enter Try.func10, Try.ntmps10
  go_wp2
  go_ret
  exact ⟨rfl, rfl⟩

set_option maxRecDepth 100000 in
set_option maxHeartbeats 400000 in
theorem add_ok (H : HL w0 w (blk bp (obj mb) :: mp mb (kv enc M) :: L)) (id at_ : Int) (x : Int) :
    Calls Try.prog 17 #[.pointer (some ⟨bp, 0, none⟩), .int .i64 id, .int .i64 at_, .int .i64 x] w fun e w' =>
      e = .returned (.int .i64 (if (findE M id).isSome then 30 else 0)) ∧ HL w0 w' (blk bp (obj mb) :: mp mb (kv enc (if (findE M id).isSome then M else M ++ [⟨id, at_, x⟩])) :: L) := by
  have c1 := cell H
  have c2 := cellA H
  have hl := H.tail.lookup Try.underlying65 Try.underlying3 zeroE id true
  rw [kv_lookup] at hl
  cases hf : findE M id with
  | some e =>
    rw [hf] at hl
    simp only [Option.map_some, Option.getD_some, Option.isSome_some, if_true, enc] at hl ⊢
    clear hf
    go_enter Try.func17, Try.ntmps17
    go_wp2
    go_ret
    exact ⟨rfl, H.alloc' _⟩
  | none =>
    rw [hf] at hl
    simp only [Option.map_none, Option.getD_none, Option.isSome_none, if_true, if_false, Bool.false_eq_true] at hl ⊢
    have hp := kv_put_new enc M id at_ x hf
    simp only [enc] at hp
    have Hf := Lib.hid hf; clear hf
    have Hp := Lib.hid hp; clear hp
    go_enter Try.func17, Try.ntmps17
    go_wp2_with (at_mapUpdate; refine wpList_mapUpdate_hl (k := id) (val := .agg #[.int .i64 at_, .int .i64 x]) Try.underlying65 Try.underlying3 rfl _ _ _ rfl (H.swap.alloc' _) rfl rfl rfl ?_; intro w' H')
    go_ret
    refine ⟨rfl, ?_⟩
    rw [Hp.out] at H'
    exact H'.swap

set_option maxRecDepth 100000 in
set_option maxHeartbeats 400000 in
theorem get_ok (H : HL w0 w (blk bp (obj mb) :: mp mb (kv enc M) :: L)) (id : Int) :
    Calls Try.prog 16 #[.pointer (some ⟨bp, 0, none⟩), .int .i64 id] w fun e w' =>
      e = .returned (match findE M id with | some e => .tuple #[.int .i64 e.at_, enc e.x, .bool true] | none => .tuple #[.int .i64 0, .int .i64 0, .bool false]) ∧ HL w0 w' (blk bp (obj mb) :: mp mb (kv enc M) :: L) := by
  have c1 := cell H
  have c2 := cellA H
  have hl := H.tail.lookup Try.underlying65 Try.underlying3 zeroE id true
  rw [kv_lookup] at hl
  cases hf : findE M id with
  | some e =>
    rw [hf] at hl
    simp only [Option.map_some, Option.getD_some, Option.isSome_some, if_true, enc] at hl ⊢
    clear hf
    go_enter Try.func16, Try.ntmps16
    go_wp2
    go_quiet (fail)
    go_wp2
    go_ret3
    exact ⟨rfl, (H.alloc' _).drewN _⟩
  | none =>
    rw [hf] at hl
    simp only [Option.map_none, Option.getD_none, Option.isSome_none, if_true, if_false, Bool.false_eq_true] at hl ⊢
    clear hf
    go_enter Try.func16, Try.ntmps16
    go_wp2
    go_quiet (fail)
    go_wp2
    go_ret3
    exact ⟨rfl, (H.alloc' _).drewN _⟩

set_option maxRecDepth 100000 in
set_option maxHeartbeats 400000 in
theorem drop_ok (H : HL w0 w (blk bp (obj mb) :: mp mb (kv enc M) :: L)) (id : Int) :
    Calls Try.prog 25 #[.pointer (some ⟨bp, 0, none⟩), .int .i64 id] w fun e w' =>
      e = .returned (.bool (findE M id).isSome) ∧ HL w0 w' (blk bp (obj mb) :: mp mb (kv enc (dropE M id)) :: L) := by
  have c1 := cell H
  have c2 := cellA H
  have hl := H.tail.lookup Try.underlying65 Try.underlying3 zeroE id true
  rw [kv_lookup] at hl
  have Hd := Lib.hid (kv_del enc M id)
  cases hf : findE M id with
  | some e =>
    rw [hf] at hl
    simp only [Option.map_some, Option.getD_some, Option.isSome_some, if_true, enc] at hl ⊢
    clear hf
    go_enter Try.func25, Try.ntmps25
    go_wp2_with (at_delete; refine wpList_delete_hl (k := id) Try.underlying65 Try.underlying3 rfl _ _ rfl (H.swap.alloc' _) rfl rfl ?_; intro w' H')
    go_ret
    rw [Hd.out] at H'
    exact ⟨rfl, H'.swap⟩
  | none =>
    rw [hf] at hl
    simp only [Option.map_none, Option.getD_none, Option.isSome_none, if_true, if_false, Bool.false_eq_true] at hl ⊢
    clear hf
    go_enter Try.func25, Try.ntmps25
    go_wp2_with (at_delete; refine wpList_delete_hl (k := id) Try.underlying65 Try.underlying3 rfl _ _ rfl (H.swap.alloc' _) rfl rfl ?_; intro w' H')
    go_ret
    rw [Hd.out] at H'
    exact ⟨rfl, H'.swap⟩


/-! ### The spots, the first one first -/
theorem sliceSp : SliceOf Try.prog 68 71 2 16 :=
  sliceOf (z := .agg #[.int .i64 0, .int .i64 0]) Try.underlying68 (by kernel_rfl) rfl (by decide)
def spotE (e : MapEntry) : Int × Int := (atOf e.val, RowKit.intOf e.key)

theorem entry_of {es : Array MapEntry} {clock : Nat} (MM : IntMap es clock (kv enc M)) {e : MapEntry} (he : e ∈ es.toList) : ∃ a ∈ M, e.key = .int .i64 a.id ∧ e.val = .agg #[.int .i64 a.at_, enc a.x] := by
  have h1 := MM.keys e he
  have h2 : (RowKit.intOf e.key, e.val) ∈ kv enc M := by
    rw [← MM.kv]
    exact List.mem_map.2 ⟨e, he, rfl⟩
  obtain ⟨a, ha, h3⟩ := List.mem_map.1 h2
  simp only [Prod.mk.injEq] at h3
  exact ⟨a, ha, by rw [h1, h3.1], h3.2.symm⟩

theorem spots_perm {es : Array MapEntry} {clock : Nat} {ps : List MapEntry} (MM : IntMap es clock (kv enc M)) (h : ps.Perm es.toList) : (ps.map spotE).Perm (M.map fun a => (a.at_, a.id)) := by
  refine (h.map spotE).trans ?_
  have h1 : es.toList.map spotE = (es.toList.map (fun e => (RowKit.intOf e.key, e.val))).map (fun p => (atOf p.2, p.1)) := by
    rw [List.map_map]
    rfl
  rw [h1, MM.kv]
  unfold kv
  rw [List.map_map]
  exact List.Perm.refl _

set_option maxRecDepth 100000 in
set_option maxHeartbeats 800000 in
theorem spots_ok (H : HL w0 w (blk bp (obj mb) :: mp mb (kv enc M) :: L)) (hM : M.length ≤ 8796093022208) :
    Calls Try.prog 40 #[.pointer (some ⟨bp, 0, none⟩)] w fun e w' =>
      ∃ v, e = .returned v ∧ HL w0 w' (row w0.heap.size 71 2 v M.length ((AgSort.sortSp (M.map fun a => (a.at_, a.id))).flatMap AgSort.encSp) :: blk bp (obj mb) :: mp mb (kv enc M) :: L) := by
  have c1 := cell H
  obtain ⟨es, clock, HO, MM⟩ := H.swap.openMap
  have hes : es.size ≤ 8796093022208 := by rw [MM.size, kv_length]; exact hM
  go_enter Try.func40, Try.ntmps40
  go_wp2_with (at_range; refine wpList_range_hl Try.underlying65 rfl _ rfl HO rfl ?_; intro it w1 H1; go_frame)
  go_loopg [3] es.size (fun k v wr => ∃ ps : List MapEntry, Gone es ps ∧ k + ps.length = es.size ∧
    HL w0 wr (row w0.heap.size 71 2 v ps.length ((ps.map spotE).flatMap AgSort.encSp) :: blk it (.mapIter (some mb) clock (ps.map (·.born)).toArray clock) :: blk mb (.map es clock) :: blk bp (obj mb) :: L))
  case atStart => exact ⟨[], Gone.nil es, by simp, H1.nilRow _ _ _⟩
  case round =>
    obtain ⟨ps, hps, hk, HK⟩ := hrel
    go_wp2_with (at_next; refine wpList_next_hl rfl _ rfl MM hps HK.rotl3 rfl ?done ?more)
    case done =>
      intro hperm
      have hp := spots_perm MM hperm
      have hl : ps.length = M.length := by
        have := hp.length_eq
        simpa using this
      have hsz : (ps.map spotE).length < 4611686018427387904 := by rw [List.length_map]; omega
      have Hs := Lib.hid (AgSort.sortSp_perm hp)
      have Hl := Lib.hid hl
      clear hl hp
      go_wp2_with (go_at_call 51; refine (AgSort.sort_ok (ps.map spotE) hsz HK).mono ?_; rintro e w' ⟨rfl, H'⟩)
      go_ret
      rw [Hs.out, Hl.out] at H'
      exact ⟨_, rfl, ((H'.swap.tail.rotl3).shutMap MM).rotl3.swap⟩
    case more =>
      intro e w' he hg H' hen
      obtain ⟨a, ha, hk1, hv1⟩ := entry_of MM (Array.mem_toList_iff.2 he)
      have hlen := hg.length MM.born
      rw [List.length_append] at hlen
      obtain ⟨key, val, born⟩ := e
      simp only at hk1 hv1 hen
      subst hk1
      subst hv1
      simp only [enc] at hen H' hg he ⊢
      have HR := H'.rot3
      go_wp2_with (at_builtin; refine wpList_append_hl (m := 1) (news := [.int .i64 a.at_, .int .i64 a.id]) sliceSp rfl _ _ rfl ((HR.alloc' _).alloc' _) rfl rfl ?r ?o ?m ?b ?k)
      case r => exact rd_new (by simp) rfl (by decide)
      case o => simp [Value.oneCell']
      case m => unfold maxLen; simp at hlen; omega
      case b => simp at hlen; omega
      case k =>
        intro v' w3 H3 _
        go_wp2
        go_roundg (gk - 1)
        case measure => simp at hlen; omega
        case rel =>
          refine ⟨_, hg, by simp at hlen ⊢; omega, ?_⟩
          rw [List.map_append, List.flatMap_append, List.length_append, List.map_append]
          exact H3
end
end Go.Proofs.Ythibbjllfmhdmaa.AgInt

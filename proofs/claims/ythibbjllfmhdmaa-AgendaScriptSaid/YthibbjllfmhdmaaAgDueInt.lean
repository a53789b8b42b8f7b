/- Agendas of ints: Due, Clone. -/
import Derived.Test.YthibbjllfmhdmaaAgItInt
import Derived.Test.YthibbjllfmhdmaaRegion
import Derived.Deep.RegionWith
set_option linter.unusedVariables false
set_option linter.unusedSimpArgs false
namespace Go.Proofs.Ythibbjllfmhdmaa.AgInt
open Go.RowKit Go.Proofs.HL

section
variable {w0 w : World} {L : List At} {bp mb : Nat} {M : List (AgE (Int))}
/-- The numbers of those that are due. -/
def dueL (now : Int) (ss : List (Int × Int)) : List Int := (ss.filter fun s => decide (s.1 ≤ now)).map (·.2)
/-- What is left when they are taken out. -/
def dropL (now : Int) (M : List (AgE (Int))) (ss : List (Int × Int)) : List (AgE (Int)) := ss.foldl (fun M s => if s.1 ≤ now then dropE M s.2 else M) M
theorem dueL_snoc (now : Int) (ss : List (Int × Int)) (x : Int × Int) : dueL now (ss ++ [x]) = dueL now ss ++ if x.1 ≤ now then [x.2] else [] := by
  unfold dueL
  rw [List.filter_append, List.map_append]
  by_cases h : x.1 ≤ now <;> simp [h]
theorem dropL_snoc (now : Int) (M : List (AgE (Int))) (ss : List (Int × Int)) (x : Int × Int) : dropL now M (ss ++ [x]) = if x.1 ≤ now then dropE (dropL now M ss) x.2 else dropL now M ss := by
  unfold dropL
  rw [List.foldl_append]
  rfl
theorem dueL_length (now : Int) (ss : List (Int × Int)) : (dueL now ss).length ≤ ss.length := by
  unfold dueL
  rw [List.length_map]
  exact List.length_filter_le _ _
def encI (i : Int) : Value := .int .i64 i

def thingOf : Value → Int | .agg #[_, .int _ x] => x | _ => 0
theorem sliceI : SliceOf Try.prog 27 3 1 8 :=
  sliceOf (z := .int .i64 0) Try.underlying27 (by kernel_rfl) rfl (by decide)

set_option maxRecDepth 100000 in
set_option maxHeartbeats 1000000 in
theorem due_ok (H : HL w0 w (blk bp (obj mb) :: mp mb (kv enc M) :: L)) (hM : M.length ≤ 8796093022208) (now : Int) :
    Calls Try.prog 12 #[.pointer (some ⟨bp, 0, none⟩), .int .i64 now] w fun e w' => ∃ v, e = .returned v ∧
      HL w0 w' (row w0.heap.size 3 1 v (dueL now (spotsOf M)).length ((dueL now (spotsOf M)).map encI) :: blk bp (obj mb) :: mp mb (kv enc (dropL now M (spotsOf M))) :: L) := by
  have hsp := spots_ok H hM
  have hn : (spotsOf M).length = M.length := spotsOf_length
  go_enter Try.func12, Try.ntmps12
  go_wp2_with (go_at_call 40; refine hsp.mono ?_; rintro e w1 ⟨v, rfl, H1⟩; obtain ⟨A, cp, rfl, hA, -, -⟩ := row_shape H1.head)
  have H2 := (H1.rotl3).nilRow w0.heap.size 3 1
  clear hsp H1 H
  go_loopg [5, 11] M.length (fun g v i wr => ∃ k : Nat, i = .int .i64 k ∧ k + g = M.length ∧
    HL w0 wr (row w0.heap.size 3 1 v (dueL now ((spotsOf M).take k)).length ((dueL now ((spotsOf M).take k)).map encI) :: blk bp (obj mb) :: mp mb (kv enc (dropL now M ((spotsOf M).take k))) ::
      row w0.heap.size 71 2 (.slice A M.length cp) M.length ((spotsOf M).flatMap AgSort.encSp) :: L))
  case atStart => exact ⟨0, rfl, by omega, H2⟩
  case round =>
    obtain ⟨k, rfl, hk, HK⟩ := hrel
    by_cases hlt : k < M.length
    · obtain ⟨g, rfl⟩ : ∃ g, A = some ⟨g, 0, none⟩ := hA.resolve_left (by omega)
      obtain ⟨x, hx⟩ : ∃ x, (spotsOf M)[k]? = some x := ⟨_, List.getElem?_eq_getElem (by rw [hn]; exact hlt)⟩
      obtain ⟨s1, s2⟩ := spot_cells HK.rot4 k x hx
      have htk : (spotsOf M).take (k + 1) = (spotsOf M).take k ++ [x] := by rw [List.take_add_one, hx]; rfl
      have hdl := dueL_length now ((spotsOf M).take k)
      have htl := List.length_take_le k (spotsOf M)
      have h1 := Lib.hid (dueL_snoc now ((spotsOf M).take k) x)
      have h2 := Lib.hid (dropL_snoc now M ((spotsOf M).take k) x)
      rw [← htk] at h1 h2
      clear hx htk
      by_cases hle : x.1 ≤ now
      · have HA := (HK.alloc (.cells #[.int .i64 x.1, .int .i64 x.2] 71)).swap
        clear HK
        go_wp2_with (at_builtin; refine wpList_append_hl (m := 1) (news := [.int .i64 x.2]) sliceI rfl _ _ rfl (HA.alloc' _) rfl rfl ?r ?o ?m ?b ?k)
        case r => exact rd_one (by simp)
        case o => simp [Value.oneCell']
        case m => unfold maxLen; omega
        case b => omega
        case k =>
          intro v' w3 H3 _
          go_wp2
          have d0 : w3.cell? ⟨bp, 0, none⟩ = some (.map (some mb)) := by rw [H3.tail.tail.cell 0]; rfl
          have d7 : w3.cell? ⟨wr.heap.size, 1, none⟩ = some (.int .i64 x.2) := by rw [H3.tail.cell 1]; rfl
          have HM := H3.rot4
          refine wp_region_cut 6 (by kernel_rfl) (by kernel_rfl) ?_
          simp only [List.take_succ_cons, List.take_zero, List.drop_succ_cons, List.drop_zero]
          repeat (go_big_quiet_step ((fail)))
          refine wpQuiet_nil ?_
          intro nq
          go_wp2_with (at_delete; refine wpList_delete_hl (k := x.2) Try.underlying65 Try.underlying3 rfl _ _ rfl (HM.drewN nq) rfl rfl ?_; intro w4 H4)
          go_roundg (gk - 1)
          case measure => omega
          case rel =>
            refine ⟨k + 1, by go_num, by omega, ?_⟩
            rw [h1.out, h2.out, if_pos hle, if_pos hle, List.length_append, List.map_append, ← kv_del]
            exact H4.rotl4.swap.tail
      · have HA := HK.alloc' (.cells #[.int .i64 x.1, .int .i64 x.2] 71)
        clear HK
        go_wp2
        go_roundg (gk - 1)
        case measure => omega
        case rel =>
          refine ⟨k + 1, by go_num, by omega, ?_⟩
          rw [h1.out, h2.out, if_neg (by omega), if_neg (by omega), List.append_nil]
          exact HA
    · have hkn : (spotsOf M).take k = spotsOf M := List.take_of_length_le (by omega)
      have Hk := Lib.hid hkn
      go_wp2
      go_ret
      rw [Hk.out] at HK
      exact ⟨_, rfl, HK.rot4.tail⟩

def entE (e : MapEntry) : AgE (Int) := ⟨RowKit.intOf e.key, atOf e.val, thingOf e.val⟩
theorem inj_of_nodup {α β : Type} (f : α → β) {l : List α} (hb : (l.map f).Nodup) {x y : α} (hx : x ∈ l) (hy : y ∈ l) (e : f x = f y) : x = y := by
  induction l with
  | nil => cases hx
  | cons z l ih =>
    simp only [List.map_cons, List.nodup_cons] at hb
    rcases List.mem_cons.1 hx with rfl | hx
    · rcases List.mem_cons.1 hy with rfl | hy
      · rfl
      · exact absurd (List.mem_map.2 ⟨y, hy, e.symm⟩) hb.1
    · rcases List.mem_cons.1 hy with e2 | hy
      · rw [← e2] at hb
        exact absurd (List.mem_map.2 ⟨x, hx, e⟩) hb.1
      · exact ih hb.2 hx hy
theorem key_new {es : Array MapEntry} {clock : Nat} (MM : IntMap es clock (kv enc M)) {ps : List MapEntry} {e : MapEntry} (hg : Gone es (ps ++ [e])) : findE (ps.map entE) (RowKit.intOf e.key) = none := by
  unfold findE
  rw [List.find?_eq_none]
  intro a ha hk
  obtain ⟨p, hp, rfl⟩ := List.mem_map.1 ha
  have h1 : RowKit.intOf p.key = RowKit.intOf e.key := by simpa [entE] using hk
  have hk : (es.toList.map fun e => RowKit.intOf e.key).Nodup := by
    have := MM.nodup
    rw [← MM.kv, List.map_map] at this
    exact this
  have := inj_of_nodup _ hk (hg.mem p (by simp [hp])) (hg.mem e (by simp)) h1
  subst this
  have h2 := hg.nodup
  rw [List.map_append, List.nodup_append] at h2
  exact h2.2.2 p.born (List.mem_map.2 ⟨p, hp, rfl⟩) p.born (by simp) rfl
theorem ent_perm {es : Array MapEntry} {clock : Nat} {ps : List MapEntry} (MM : IntMap es clock (kv enc M)) (h : ps.Perm es.toList) : (ps.map entE).Perm M := by
  refine (h.map entE).trans ?_
  have h1 : es.toList.map entE = (es.toList.map (fun e => (RowKit.intOf e.key, e.val))).map (fun p => (⟨p.1, atOf p.2, thingOf p.2⟩ : AgE (Int))) := by
    rw [List.map_map]
    rfl
  rw [h1, MM.kv]
  unfold kv
  rw [List.map_map]
  rw [show ((fun p : Int × Value => (⟨p.1, atOf p.2, thingOf p.2⟩ : AgE (Int))) ∘ fun e : AgE (Int) => (e.id, Value.agg #[.int .i64 e.at_, enc e.x])) = id from rfl, List.map_id]

set_option maxRecDepth 100000 in
set_option maxHeartbeats 800000 in
theorem clone_ok (H : HL w0 w (blk bp (obj mb) :: mp mb (kv enc M) :: L)) :
    Calls Try.prog 20 #[.pointer (some ⟨bp, 0, none⟩)] w fun e w' =>
      ∃ cp mc M', e = .returned (.pointer (some ⟨cp, 0, none⟩)) ∧ M'.Perm M ∧ HL w0 w' (blk cp (obj mc) :: mp mc (kv enc M') :: blk bp (obj mb) :: mp mb (kv enc M) :: L) := by
  have hne := new_ok H
  go_enter Try.func20, Try.ntmps20
  go_wp2_with (first | (go_at_call 15; refine hne.mono ?_; rintro e w1 ⟨cp, mc, rfl, H1⟩; obtain ⟨es, clock, HO, MM⟩ := H1.rot4.openMap; have c1 : w1.cell? ⟨bp, 0, none⟩ = some (.map (some mb)) := (by rw [H1.tail.tail.cell 0]; rfl)) | (at_range; refine wpList_range_hl Try.underlying65 rfl _ rfl (by assumption) rfl ?_; intro it w2 H2; go_frame))
  have hes : es.size = M.length := by rw [MM.size, kv_length]
  clear hne H HO H1
  go_loopg [] es.size (fun k wr => ∃ ps : List MapEntry, Gone es ps ∧ k + ps.length = es.size ∧
    HL w0 wr (mp mc (kv enc (ps.map entE)) :: blk it (.mapIter (some mb) clock (ps.map (·.born)).toArray clock) :: blk mb (.map es clock) :: blk cp (obj mc) :: blk bp (obj mb) :: L))
  case atStart => exact ⟨[], Gone.nil es, by simp, H2.rot4⟩
  case round =>
    obtain ⟨ps, hps, hk, HK⟩ := hrel
    go_wp2_with (at_next; refine wpList_next_hl rfl _ rfl MM hps HK.rotl3 rfl ?done ?more)
    case done =>
      intro hperm
      have hp := ent_perm MM hperm
      have Hs := Lib.hid hp
      clear hp hperm
      go_wp2
      go_ret
      exact ⟨_, mc, _, rfl, Hs.out, ((HK.rotl3.rotl4.shutMap MM).sel 5 [2, 1, 4, 0])⟩
    case more =>
      intro e w' he hg H' hen
      obtain ⟨a, ha, hk1, hv1⟩ := entry_of MM (Array.mem_toList_iff.2 he)
      have hlen := hg.length MM.born
      rw [List.length_append] at hlen
      obtain ⟨key, val, born⟩ := e
      simp only at hk1 hv1 hen
      subst hk1
      subst hv1
      simp only [enc] at hen H' hg he ⊢
      have hnew := key_new MM hg
      have hput := Lib.hid (kv_put_new enc (ps.map entE) a.id a.at_ a.x hnew)
      clear hnew
      have HR := H'.rot3.alloc (.cells #[.int .i64 a.at_, .int .i64 a.x] 73)
      have d0 : (w'.alloc (.cells #[.int .i64 a.at_, .int .i64 a.x] 73)).cell? ⟨cp, 0, none⟩ = some (.map (some mc)) := by rw [HR.cellOf (b := cp) (vs := #[.map (some mc)]) (E := 67) (fz := (0, 0)) (by simp [obj])]; rfl
      have d5 := HR.cell 0
      have d6 := HR.cell 1
      go_wp2
      refine wp_region_cut 6 (by kernel_rfl) (by kernel_rfl) ?_
      simp only [List.take_succ_cons, List.take_zero, List.drop_succ_cons, List.drop_zero]
      generalize w'.heap.size = t5 at *
      generalize w'.alloc (.cells #[.int .i64 a.at_, .int .i64 a.x] 73) = W at *
      simp only [List.getElem?_toArray, List.getElem?_cons_zero, List.getElem?_cons_succ] at d5 d6
      repeat (go_big_quiet_step ((fail)))
      refine wpQuiet_nil ?_
      intro nq
      go_wp2_with (at_mapUpdate; refine wpList_mapUpdate_hl (k := a.id) (val := .agg #[.int .i64 a.at_, .int .i64 a.x]) Try.underlying65 Try.underlying3 rfl _ _ _ rfl (HR.swap.drewN nq) rfl rfl rfl ?_; intro w4 H4)
      go_roundg (gk - 1)
      case measure => simp at hlen; omega
      case rel =>
        refine ⟨_, hg, by simp at hlen ⊢; omega, ?_⟩
        rw [List.map_append, List.map_append]
        simp only [enc] at hput
        rw [hput.out] at H4
        exact H4.drop2
end
end Go.Proofs.Ythibbjllfmhdmaa.AgInt

/- Agendas of []ints: Due, Clone. -/
import Derived.Test.YthibbjllfmhdmaaAgLst
import Derived.Test.YthibbjllfmhdmaaRegion
import Derived.Deep.RegionWith
set_option linter.unusedVariables false
set_option linter.unusedSimpArgs false
namespace Go.Proofs.Ythibbjllfmhdmaa.AgLst
open Go.RowKit Go.Proofs.HL

section
variable {w0 w : World} {L : List At} {bp mb : Nat} {M : List (AgE (Option Addr × Nat × Nat))}
def thingOf : Value → Option Addr × Nat × Nat | .agg #[_, .slice a n c] => (a, n, c) | _ => (none, 0, 0)
theorem entry_of {es : Array MapEntry} {clock : Nat} (MM : IntMap es clock (kv enc M)) {e : MapEntry} (he : e ∈ es.toList) : ∃ a ∈ M, e.key = .int .i64 a.id ∧ e.val = .agg #[.int .i64 a.at_, enc a.x] := by
  have h1 := MM.keys e he
  have h2 : (RowKit.intOf e.key, e.val) ∈ kv enc M := by
    rw [← MM.kv]
    exact List.mem_map.2 ⟨e, he, rfl⟩
  obtain ⟨a, ha, h3⟩ := List.mem_map.1 h2
  simp only [Prod.mk.injEq] at h3
  exact ⟨a, ha, by rw [h1, h3.1], h3.2.symm⟩

def entE (e : MapEntry) : AgE (Option Addr × Nat × Nat) := ⟨RowKit.intOf e.key, atOf e.val, thingOf e.val⟩
theorem inj_of_nodup {α β : Type} (f : α → β) {l : List α} (hb : (l.map f).Nodup) {x y : α} (hx : x ∈ l) (hy : y ∈ l) (e : f x = f y) : x = y := by
  induction l with
  | nil => cases hx
  | cons z l ih =>
    simp only [List.map_cons, List.nodup_cons] at hb
    rcases List.mem_cons.1 hx with rfl | hx
    · rcases List.mem_cons.1 hy with rfl | hy
      · rfl
      · exact absurd (List.mem_map.2 ⟨y, hy, e.symm⟩) hb.1
    · rcases List.mem_cons.1 hy with e2 | hy
      · rw [← e2] at hb
        exact absurd (List.mem_map.2 ⟨x, hx, e⟩) hb.1
      · exact ih hb.2 hx hy
theorem key_new {es : Array MapEntry} {clock : Nat} (MM : IntMap es clock (kv enc M)) {ps : List MapEntry} {e : MapEntry} (hg : Gone es (ps ++ [e])) : findE (ps.map entE) (RowKit.intOf e.key) = none := by
  unfold findE
  rw [List.find?_eq_none]
  intro a ha hk
  obtain ⟨p, hp, rfl⟩ := List.mem_map.1 ha
  have h1 : RowKit.intOf p.key = RowKit.intOf e.key := by simpa [entE] using hk
  have hk : (es.toList.map fun e => RowKit.intOf e.key).Nodup := by
    have := MM.nodup
    rw [← MM.kv, List.map_map] at this
    exact this
  have := inj_of_nodup _ hk (hg.mem p (by simp [hp])) (hg.mem e (by simp)) h1
  subst this
  have h2 := hg.nodup
  rw [List.map_append, List.nodup_append] at h2
  exact h2.2.2 p.born (List.mem_map.2 ⟨p, hp, rfl⟩) p.born (by simp) rfl
theorem ent_perm {es : Array MapEntry} {clock : Nat} {ps : List MapEntry} (MM : IntMap es clock (kv enc M)) (h : ps.Perm es.toList) : (ps.map entE).Perm M := by
  refine (h.map entE).trans ?_
  have h1 : es.toList.map entE = (es.toList.map (fun e => (RowKit.intOf e.key, e.val))).map (fun p => (⟨p.1, atOf p.2, thingOf p.2⟩ : AgE (Option Addr × Nat × Nat))) := by
    rw [List.map_map]
    rfl
  rw [h1, MM.kv]
  unfold kv
  rw [List.map_map]
  rw [show ((fun p : Int × Value => (⟨p.1, atOf p.2, thingOf p.2⟩ : AgE (Option Addr × Nat × Nat))) ∘ fun e : AgE (Option Addr × Nat × Nat) => (e.id, Value.agg #[.int .i64 e.at_, enc e.x])) = id from rfl, List.map_id]

set_option maxRecDepth 100000 in
set_option maxHeartbeats 800000 in
theorem clone_ok (H : HL w0 w (blk bp (obj mb) :: mp mb (kv enc M) :: L)) :
    Calls Try.prog 28 #[.pointer (some ⟨bp, 0, none⟩)] w fun e w' =>
      ∃ cp mc M', e = .returned (.pointer (some ⟨cp, 0, none⟩)) ∧ M'.Perm M ∧ HL w0 w' (blk cp (obj mc) :: mp mc (kv enc M') :: blk bp (obj mb) :: mp mb (kv enc M) :: L) := by
  have hne := new_ok H
  go_enter Try.func28, Try.ntmps28
  go_wp2_with (first | (go_at_call 26; refine hne.mono ?_; rintro e w1 ⟨cp, mc, rfl, H1⟩; obtain ⟨es, clock, HO, MM⟩ := H1.rot4.openMap; have c1 : w1.cell? ⟨bp, 0, none⟩ = some (.map (some mb)) := (by rw [H1.tail.tail.cell 0]; rfl)) | (at_range; refine wpList_range_hl Try.underlying80 rfl _ rfl (by assumption) rfl ?_; intro it w2 H2; go_frame))
  have hes : es.size = M.length := by rw [MM.size, kv_length]
  clear hne H HO H1
  go_loopg [] es.size (fun k wr => ∃ ps : List MapEntry, Gone es ps ∧ k + ps.length = es.size ∧
    HL w0 wr (mp mc (kv enc (ps.map entE)) :: blk it (.mapIter (some mb) clock (ps.map (·.born)).toArray clock) :: blk mb (.map es clock) :: blk cp (obj mc) :: blk bp (obj mb) :: L))
  case atStart => exact ⟨[], Gone.nil es, by simp, H2.rot4⟩
  case round =>
    obtain ⟨ps, hps, hk, HK⟩ := hrel
    go_wp2_with (at_next; refine wpList_next_hl rfl _ rfl MM hps HK.rotl3 rfl ?done ?more)
    case done =>
      intro hperm
      have hp := ent_perm MM hperm
      have Hs := Lib.hid hp
      clear hp hperm
      go_wp2
      go_ret
      exact ⟨_, mc, _, rfl, Hs.out, ((HK.rotl3.rotl4.shutMap MM).sel 5 [2, 1, 4, 0])⟩
    case more =>
      intro e w' he hg H' hen
      obtain ⟨a, ha, hk1, hv1⟩ := entry_of MM (Array.mem_toList_iff.2 he)
      have hlen := hg.length MM.born
      rw [List.length_append] at hlen
      obtain ⟨key, val, born⟩ := e
      simp only at hk1 hv1 hen
      subst hk1
      subst hv1
      simp only [enc] at hen H' hg he ⊢
      have hnew := key_new MM hg
      have hput := Lib.hid (kv_put_new enc (ps.map entE) a.id a.at_ a.x hnew)
      clear hnew
      have HR := H'.rot3.alloc (.cells #[.int .i64 a.at_, .slice a.x.1 a.x.2.1 a.x.2.2] 84)
      have d0 : (w'.alloc (.cells #[.int .i64 a.at_, .slice a.x.1 a.x.2.1 a.x.2.2] 84)).cell? ⟨cp, 0, none⟩ = some (.map (some mc)) := by rw [HR.cellOf (b := cp) (vs := #[.map (some mc)]) (E := 82) (fz := (0, 0)) (by simp [obj])]; rfl
      have d5 := HR.cell 0
      have d6 := HR.cell 1
      go_wp2
      refine wp_region_cut 6 (by kernel_rfl) (by kernel_rfl) ?_
      simp only [List.take_succ_cons, List.take_zero, List.drop_succ_cons, List.drop_zero]
      generalize w'.heap.size = t5 at *
      generalize w'.alloc (.cells #[.int .i64 a.at_, .slice a.x.1 a.x.2.1 a.x.2.2] 84) = W at *
      simp only [List.getElem?_toArray, List.getElem?_cons_zero, List.getElem?_cons_succ] at d5 d6
      repeat (go_big_quiet_step ((fail)))
      refine wpQuiet_nil ?_
      intro nq
      go_wp2_with (at_mapUpdate; refine wpList_mapUpdate_hl (k := a.id) (val := .agg #[.int .i64 a.at_, .slice a.x.1 a.x.2.1 a.x.2.2]) Try.underlying80 Try.underlying3 rfl _ _ _ rfl (HR.swap.drewN nq) rfl rfl rfl ?_; intro w4 H4)
      go_roundg (gk - 1)
      case measure => simp at hlen; omega
      case rel =>
        refine ⟨_, hg, by simp at hlen ⊢; omega, ?_⟩
        rw [List.map_append, List.map_append]
        simp only [enc] at hput
        rw [hput.out] at H4
        exact H4.drop2
end
end Go.Proofs.Ythibbjllfmhdmaa.AgLst

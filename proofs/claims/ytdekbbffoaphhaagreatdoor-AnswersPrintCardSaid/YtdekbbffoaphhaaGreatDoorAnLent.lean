/- An answer in memory of its own (the law's lent). -/
import Derived.Test.YtdekbbffoaphhaaGreatDoorAnParse
set_option linter.unusedVariables false
set_option linter.unusedSimpArgs false
namespace Go.Proofs.YtdekbbffoaphhaaGreatDoor
open Go.RowKit Go.Proofs.HL Go.Proofs.An
section
variable {w0 w : World} {L : List At}
def LentPost (w0 : World) (L : List At) (a : Ans) (e : Ending) (w' : World) : Prop := ∃ (K : List At) (Ae As Ar : Option Addr) (ce cs cr : Nat) (ps : List (Ev × Value)),
  e = .returned (ansV a (.slice Ae a.events.length ce) (.slice As a.job.set.length cs) (.slice Ar a.ranks.length cr)) ∧ a.events = ps.map (·.1) ∧ Evs w0 K (.slice Ae a.events.length ce) ps ∧ Ints w0 K (.slice As a.job.set.length cs) a.job.set ∧ Rks w0 K (.slice Ar a.ranks.length cr) a.ranks ∧ HL w0 w' (K ++ L)
set_option maxRecDepth 100000 in
set_option maxHeartbeats 8000000 in
theorem lent_ok (H : HL w0 w L) (a : Ans) (Ae As Ar : Option Addr) (ce cs cr : Nat) {ps : List (Ev × Value)} (hps : a.events = ps.map (·.1)) (hE : Evs w0 L (.slice Ae a.events.length ce) ps) (hI : Ints w0 L (.slice As a.job.set.length cs) a.job.set) (hR : Rks w0 L (.slice Ar a.ranks.length cr) a.ranks)
    (hle : a.events.length ≤ 4194304) (hls : a.job.set.length ≤ 4194304) (hlr : a.ranks.length ≤ 4194304) (hll : ∀ e ∈ a.events, e.list.length ≤ 4294967296) :
    Calls Tryz.prog 7 #[ansV a (.slice Ae a.events.length ce) (.slice As a.job.set.length cs) (.slice Ar a.ranks.length cr)] w (LentPost w0 L a) := by
  have H1 := HL.allocA H a (.slice Ae a.events.length ce) (.slice As a.job.set.length cs) (.slice Ar a.ranks.length cr)
  have H2 : HL w0 _ (boxA (World.alloc w _).heap.size zA (.slice none 0 0) (.slice none 0 0) (.slice none 0 0) :: _) := H1.alloc (.cells #[.int .i64 0, .int .i64 0, .slice none 0 0, .int .i64 0, .int .i64 0, .int .i64 0, .int .i64 0, .int .i64 0, .int .i64 0, .int .i64 0, .slice none 0 0, .slice none 0 0, .int .i64 0, .int .u64 0, .int .u64 0, .int .i64 0, .int .i64 0, .int .i64 0, .int .i64 0, .int .i64 0, .int .i64 0, .int .i64 0, .int .i64 0, .int .i64 0, .int .i64 0, .int .i64 0, .int .i64 0] 32)
  rw [World.size_alloc] at H2
  unfold ansV
  generalize hb1 : w.heap.size = b1 at *
  have HPS := Lib.hid hps; have HE := Lib.hid hE; have HR := Lib.hid hR; have HLL := Lib.hid hll
  clear H H1 hps hE hR hll
  go_enter Tryz.func7, Tryz.ntmps7
  go_upto_region 1 with (fail)
  have HB1 := Lib.hid hb1
  clear hb1
  generalize World.alloc (World.alloc _ _) _ = W at *
  have c10 : W.cell? ⟨b1, 10, none⟩ = some (.slice As a.job.set.length cs) := HL.cell H2.tail 10
  have hrI := ((hI.cons (boxA b1 a (.slice Ae a.events.length ce) (.slice As a.job.set.length cs) (.slice Ar a.ranks.length cr))).cons (boxA (b1 + 1) zA (.slice none 0 0) (.slice none 0 0) (.slice none 0 0))) W H2
  have HN := H2.nilRow w0.heap.size 3 1
  go_upto_region 2 with (at_builtin; refine wpList_append_hl sliceI rfl _ _ rfl (n := 0) (m := a.job.set.length) (xs := []) (news := intC a.job.set) (v := .slice none 0 0) HN rfl rfl hrI (by simp [Value.oneCell']) (by unfold maxLen; omega) (by omega) ?_; intro z3 w3 H3 hnil; clear hrI HN hnil c10; rw [Nat.zero_add, List.nil_append] at H3; obtain ⟨A3, c3, rfl, -⟩ := row_shape (show w3.ownsRow w0.heap.size 3 1 z3 a.job.set.length (intC a.job.set) from H3.head); have H3s := H3.sel 3 [2, 0, 1]; have k10 := HL.cell H3s 10; have y10 := HL.frozen H3s 10)
  have H4 := HL.setCell H3s 10 (.slice A3 a.job.set.length c3)
  have H4 : HL w0 _ (boxA b1 a (.slice Ae a.events.length ce) (.slice A3 a.job.set.length c3) (.slice Ar a.ranks.length cr) :: intsR w0.heap.size (.slice A3 a.job.set.length c3) a.job.set :: boxA (b1 + 1) zA (.slice none 0 0) (.slice none 0 0) (.slice none 0 0) :: L) := H4
  clear H3 H3s y10 k10 H2 hI
  generalize World.setCell _ _ _ = W4 at *
  have c11 : W4.cell? ⟨b1, 11, none⟩ = some (.slice Ar a.ranks.length cr) := HL.cell H4 11
  have hrR := (((HR.out.cons (boxA (b1 + 1) zA (.slice none 0 0) (.slice none 0 0) (.slice none 0 0))).cons (intsR w0.heap.size (.slice A3 a.job.set.length c3) a.job.set)).cons (boxA b1 a (.slice Ae a.events.length ce) (.slice A3 a.job.set.length c3) (.slice Ar a.ranks.length cr))) W4 H4
  have HN := H4.nilRow w0.heap.size 62 2
  go_upto_region 3 with (at_builtin; refine wpList_append_hl sliceR rfl _ _ rfl (n := 0) (m := a.ranks.length) (xs := []) (news := a.ranks.flatMap rkC) (v := .slice none 0 0) HN rfl rfl hrR (by intro u hu; obtain ⟨x, -, hx⟩ := List.mem_flatMap.1 hu; simp only [rkC, List.mem_cons, List.not_mem_nil, or_false] at hx; rcases hx with rfl | rfl <;> rfl) (by unfold maxLen; omega) (by omega) ?_; intro z5 w5 H5 hnil; clear hrR HN hnil c11; rw [Nat.zero_add, List.nil_append] at H5; obtain ⟨A5, c5, rfl, -⟩ := row_shape (show w5.ownsRow w0.heap.size 62 2 z5 a.ranks.length (a.ranks.flatMap rkC) from H5.head); have H5s := H5.sel 4 [1, 2, 0, 3]; have k11 := HL.cell H5s 11; have y11 := HL.frozen H5s 11)
  have H6 := HL.setCell H5s 11 (.slice A5 a.ranks.length c5)
  have H6 : HL w0 _ (boxA b1 a (.slice Ae a.events.length ce) (.slice A3 a.job.set.length c3) (.slice A5 a.ranks.length c5) :: intsR w0.heap.size (.slice A3 a.job.set.length c3) a.job.set :: rkRow w0.heap.size (.slice A5 a.ranks.length c5) a.ranks :: boxA (b1 + 1) zA (.slice none 0 0) (.slice none 0 0) (.slice none 0 0) :: L) := H6
  clear H5 H5s y11 k11 H4
  generalize World.setCell _ _ _ = W6 at *
  have c2 : W6.cell? ⟨b1, 2, none⟩ = some (.slice Ae a.events.length ce) := HL.cell H6 2
  have hEr := fun W' X Y Z U V K (HH : HL w0 W' (X :: Y :: Z :: U :: V :: (K ++ L))) => (((((Ent.right (K := K) HE.out.rd).cons V).cons U).cons Z).cons Y).cons X W' HH
  have hEo := fun p hp X Y Z U V T K => ((((((Ent.right (K := K) (HE.out.own p hp)).cons V).cons U).cons Z).cons Y).cons X).cons T
  have HER := Lib.hid hEr; have HEO := Lib.hid hEo
  have H7 := (H6.nilRow w0.heap.size 46 6)
  obtain ⟨-, -, aE, cE, hvE, hE1, hE2, -, -⟩ := hEr _ _ _ _ _ _ [] H7
  simp only [Value.slice.injEq] at hvE
  obtain ⟨rfl, hlE, rfl⟩ := hvE
  unfold maxLen at hE2
  rw [← hlE] at hE1
  have HLE := Lib.hid hlE
  clear hEr hEo hlE
  go_wp2
  clear c2
  go_loopg [3, 19] a.events.length (fun g t3 i wr => ∃ (n : Nat) (qs : List (Ev × Value)) (v : Value) (K : List At), i = .int .i64 n ∧ n + g = a.events.length ∧ t3 = v ∧ a.events.take n = qs.map (·.1) ∧ qs.length = n ∧ (∀ p ∈ qs, Ints w0 K p.2 p.1.list) ∧ HL w0 wr (evRow w0.heap.size v qs :: boxA b1 a (.slice Ae a.events.length ce) (.slice A3 a.job.set.length c3) (.slice A5 a.ranks.length c5) :: intsR w0.heap.size (.slice A3 a.job.set.length c3) a.job.set :: rkRow w0.heap.size (.slice A5 a.ranks.length c5) a.ranks :: boxA (b1 + 1) zA (.slice none 0 0) (.slice none 0 0) (.slice none 0 0) :: (K ++ L)))
  case atStart => exact ⟨0, [], _, [], rfl, by omega, rfl, rfl, rfl, fun p hp => by simp at hp, H7⟩
  case round =>
    obtain ⟨n, qs, v, K, rfl, hn, rfl, hqs, hql, hown, HK⟩ := hrel
    clear H7 H6
    have HQS := Lib.hid hqs; have HQL := Lib.hid hql; have HOWN := Lib.hid hown
    have hqn : qs.length ≤ 4194304 := by omega
    clear hqs hql hown
    obtain ⟨Aq, cq, rfl, hcq1, hcq2⟩ := row_shape (show wr.ownsRow w0.heap.size 46 6 _ qs.length (qs.flatMap evC2) from HK.head)
    unfold maxLen at hcq2
    by_cases hlt : n < a.events.length
    · obtain ⟨⟨e, u⟩, hp⟩ : ∃ p, ps[n]? = some p := ⟨_, List.getElem?_eq_getElem (by rw [← HLE.out]; exact hlt)⟩
      have hev : a.events[n]? = some e := by rw [HPS.out, List.getElem?_map, hp]; rfl
      have hem := List.mem_of_getElem? hev
      have hll := HLL.out e hem
      obtain ⟨b', o', c', hv, d0, d1, d2, d3, d4, d5⟩ := ev_at (HER.out _ _ _ _ _ _ K HK) hp
      simp only [Value.slice.injEq] at hv
      obtain ⟨rfl, -, rfl⟩ := hv
      dsimp only at d0 d1 d2 d3 d4 d5
      have HA := HL.allocE HK e u
      have ho := HEO.out (e, u) (List.mem_of_getElem? hp) _ _ _ _ _ (boxE wr.heap.size e u) K _ HA
      dsimp only at ho
      obtain ⟨Au, cu, rfl, -, -⟩ := rd_shape ho
      have hst : a.events.take (n + 1) = qs.map (·.1) ++ [e] := by rw [List.take_add_one, hev, HQS.out]; rfl
      have HST := Lib.hid hst
      clear hp hev hem hst
      go_upto_region 7 with (fail)
      clear d0 d1 d2 d3 d4 d5 HK
      generalize World.alloc wr _ = W8 at *
      generalize wr.heap.size = b8 at *
      obtain ⟨m0, m1, m2, m3, m4, m5⟩ := boxE_cells HA
      have HN := HA.nilRow w0.heap.size 3 1
      go_upto_region 8 with (at_builtin; refine wpList_append_hl sliceI rfl _ _ rfl (n := 0) (m := e.list.length) (xs := []) (news := intC e.list) (v := .slice none 0 0) HN rfl rfl ho (by simp [Value.oneCell']) (by unfold maxLen; omega) (by omega) ?_; intro z9 w9 H9 hnil; clear ho HN hnil m0 m1 m2 m3 m4 m5 HA; rw [Nat.zero_add, List.nil_append] at H9; obtain ⟨A9, c9, rfl, -⟩ := row_shape (show w9.ownsRow w0.heap.size 3 1 z9 e.list.length (intC e.list) from H9.head); have H9s := H9.swap; obtain ⟨m0, m1, m2, m3, m4, m5⟩ := boxE_cells H9s; have y5 := HL.frozen H9s 5)
      have H10 := HL.setCell H9s 5 (.slice A9 e.list.length c9)
      have H10 : HL w0 _ (boxE b8 e (.slice A9 e.list.length c9) :: intsR w0.heap.size (.slice A9 e.list.length c9) e.list :: evRow w0.heap.size (.slice Aq qs.length cq) qs :: _) := H10
      clear H9 H9s y5 m0 m1 m2 m3 m4 m5
      generalize World.setCell _ _ _ = W10 at *
      obtain ⟨m0, m1, m2, m3, m4, m5⟩ := boxE_cells H10
      have HBk := H10.alloc (.cells (evC2 (e, .slice A9 e.list.length c9)).toArray 46)
      have hr := entBlk (k := 6) (n := 1) (cs := evC2 (e, .slice A9 e.list.length c9)) rfl (by unfold maxLen; simp) _ HBk
      have HR2 := HBk.sel 4 [3, 0, 1, 2]
      clear HBk
      go_wp2_with (at_builtin; refine wpList_append_hl sliceE rfl _ _ rfl (n := qs.length) (m := 1) (xs := qs.flatMap evC2) (news := evC2 (e, .slice A9 e.list.length c9)) (v := .slice Aq qs.length cq) HR2 rfl rfl hr (by simp [evC2, Value.oneCell']) (by unfold maxLen; omega) (by omega) ?_; intro z11 w11 H11 hnil; clear hr HR2 hnil m0 m1 m2 m3 m4 m5)
      go_roundg (gk - 1)
      case measure => omega
      case rel =>
        refine ⟨n + 1, qs ++ [(e, .slice A9 e.list.length c9)], _, intsR w0.heap.size (.slice A9 e.list.length c9) e.list :: K, by go_num, by omega, rfl, by rw [HST.out, List.map_append]; rfl, by rw [List.length_append, HQL.out]; rfl, fun p hp => ?_, ?_⟩
        · rcases List.mem_append.1 hp with h | h
          · exact (HOWN.out p h).cons _
          · rw [List.mem_singleton.1 h]; exact entRow
        · have e1 : [(e, Value.slice A9 e.list.length c9)].flatMap evC2 = evC2 (e, .slice A9 e.list.length c9) := by simp
          unfold evRow
          rw [List.length_append, List.flatMap_append, e1]
          exact H11.sel 8 [0, 4, 5, 6, 7, 3]
    · have hnn : qs.length = a.events.length := by rw [HQL.out]; omega
      have hal : a.events = qs.map (·.1) := by
        have h := HQS.out
        rwa [List.take_of_length_le (by omega)] at h
      have HAL := Lib.hid hal
      rw [hnn] at HK ⊢
      have l2 : decide ((n : Int) < (a.events.length : Int)) = false := decide_eq_false (by omega)
      have HNN := Lib.hid hnn
      clear hnn hal
      have HKs := HK.swap
      have k2 := HL.cell HKs 2
      have y2 := HL.frozen HKs 2
      have H8 : HL w0 _ (boxA b1 a (.slice Aq a.events.length cq) (.slice A3 a.job.set.length c3) (.slice A5 a.ranks.length c5) :: _) := HL.setCell HKs 2 (.slice Aq a.events.length cq)
      clear HK HLE HER HEO
      go_upto_region 11 with (fail)
      clear y2 k2 HKs
      generalize World.setCell _ _ _ = W8 at *
      have G1 : _ = some (Obj.cells (ansA a (.slice Aq a.events.length cq) (.slice A3 a.job.set.length c3) (.slice A5 a.ranks.length c5)) 32 (0, 0)) := H8.head
      have G3 : _ = some (Obj.cells _ 32 (0, 0)) := H8.tail.tail.tail.tail.head
      have HS := HL.setWhole (cells := ansA a (.slice Aq a.events.length cq) (.slice A3 a.job.set.length c3) (.slice A5 a.ranks.length c5)) (H8.sel 5 [4, 1, 2, 3])
      go_wp2_with (first
        | (refine wpList_load_row rfl 32 _ rfl b1 rfl 32 _ (0, 0) _ G1 Tryz.underlying32 rfl (ansA_size _ _ _ _) ?_)
        | (refine wpList_store_row rfl 32 _ _ rfl (b1 + 1) (ansA a (.slice Aq a.events.length cq) (.slice A3 a.job.set.length c3) (.slice A5 a.ranks.length c5)) rfl rfl 32 _ G3 (ansA_size _ _ _ _) rfl (ansA_one _ _ _ _ _ _ _ _ _ _) ?_))
      have G5 := HS.head
      refine bodyPost_ret (results_cell_row (by rfl) _ _ (b1 + 1) 32 _ (0, 0) _ (by rfl) G5 Tryz.underlying32 rfl (ansA_size _ _ _ _)) rfl ?_
      exact ⟨evRow w0.heap.size (.slice Aq a.events.length cq) qs :: intsR w0.heap.size (.slice A3 a.job.set.length c3) a.job.set :: rkRow w0.heap.size (.slice A5 a.ranks.length c5) a.ranks :: K, Aq, A3, A5, cq, c3, c5, qs, rfl, HAL.out, ⟨entRow, fun p hp => (((HOWN.out p hp).cons _).cons _).cons _⟩, Ent.cons entRow _, Ent.cons (Ent.cons entRow _) _, HS.tail⟩
end
end Go.Proofs.YtdekbbffoaphhaaGreatDoor

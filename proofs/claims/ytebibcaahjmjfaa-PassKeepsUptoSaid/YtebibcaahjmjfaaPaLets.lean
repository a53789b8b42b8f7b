/- The two other rules: it ends by the shadow; it takes extra nodes. -/
import Derived.Test.YtebibcaahjmjfaaPaRound
set_option linter.unusedVariables false
set_option linter.unusedSimpArgs false
namespace Go.Proofs.Ytebibcaahjmjfaa
open Go.RowKit Go.Proofs.HL Go.Proofs.HL.Pr Go.Proofs.HL.Pa
section
variable {w0 w : World} {L : List At} {p mb : Nat} {s : RS} {ur us : Value}
set_option maxRecDepth 100000 in
set_option maxHeartbeats 800000 in
theorem ends_ok (H : HL w0 w L) (hm : rnd p mb s ur us ∈ L) (x : Wn) (hn : -9007199254740992 ≤ s.now + x.limit ∧ s.now + x.limit ≤ 9007199254740992) :
    Calls Try.prog 92 #[.agg #[], .pointer (some ⟨p, 0, none⟩), wnV x] w fun e w' => e = .returned (.bool (decide (s.now + x.limit ≤ s.shadow))) ∧ HL w0 w' L := by
  have H1 := (H.alloc' (.cells #[] 106)).alloc (.cells #[.int .i64 x.job, .int .i64 x.nodes, .int .i64 x.limit] 60)
  have c1 : ((w.alloc (.cells #[] 106)).alloc (.cells #[.int .i64 x.job, .int .i64 x.nodes, .int .i64 x.limit] 60)).cell? ⟨p, 0, none⟩ = some (.int .i64 s.now) := rnd_cell H1 (List.mem_cons_of_mem _ hm) 0
  have c2 : ((w.alloc (.cells #[] 106)).alloc (.cells #[.int .i64 x.job, .int .i64 x.nodes, .int .i64 x.limit] 60)).cell? ⟨p, 6, none⟩ = some (.int .i64 s.shadow) := rnd_cell H1 (List.mem_cons_of_mem _ hm) 6
  have hw : IntKind.i64.wrap (s.now + x.limit) = s.now + x.limit := IntWalk.i64_in _ (by omega)
  unfold wnV
  go_enter Try.func92, Try.ntmps92
  go_wp2
  have d1 : ((w.alloc (.cells #[] 106)).alloc (.cells #[.int .i64 x.job, .int .i64 x.nodes, .int .i64 x.limit] 60)).cell? ⟨w.heap.size + 1, 2, none⟩ = some (.int .i64 x.limit) := by
    have := H1.cell 2
    rwa [World.size_alloc] at this
  have H2 := H1.tail
  generalize World.alloc (World.alloc _ _) _ = W at *
  refine wp_region_cut 12 (by kernel_rfl) (by kernel_rfl) ?_
  simp only [List.take_succ_cons, List.take_zero, List.drop_succ_cons, List.drop_zero]
  repeat (go_big_quiet_step ((fail)))
  refine wpQuiet_nil ?_
  intro nq
  have H3 := H2.drewN nq
  go_wp2
  go_ret
  exact ⟨rfl, H3⟩
set_option maxRecDepth 100000 in
set_option maxHeartbeats 800000 in
theorem takes_ok (H : HL w0 w (rnd p mb s ur us :: L)) (x : Wn) (he : -9007199254740992 ≤ s.extra - x.nodes ∧ s.extra - x.nodes ≤ 9007199254740992) :
    Calls Try.prog 93 #[.agg #[], .pointer (some ⟨p, 0, none⟩), wnV x] w fun e w' => e = .returned (.bool (decide (x.nodes ≤ s.extra))) ∧ HL w0 w' (rnd p mb (if x.nodes ≤ s.extra then { s with extra := s.extra - x.nodes } else s) ur us :: L) := by
  have H1 := (H.alloc' (.cells #[] 107)).alloc (.cells #[.int .i64 x.job, .int .i64 x.nodes, .int .i64 x.limit] 60)
  have c1 : ((w.alloc (.cells #[] 107)).alloc (.cells #[.int .i64 x.job, .int .i64 x.nodes, .int .i64 x.limit] 60)).cell? ⟨p, 7, none⟩ = some (.int .i64 s.extra) := rnd_cell H1 (List.mem_cons_of_mem _ (List.mem_cons_self ..)) 7
  have d1 : ((w.alloc (.cells #[] 107)).alloc (.cells #[.int .i64 x.job, .int .i64 x.nodes, .int .i64 x.limit] 60)).cell? ⟨w.heap.size + 1, 1, none⟩ = some (.int .i64 x.nodes) := by
    have := H1.cell 1
    rwa [World.size_alloc] at this
  have hw : IntKind.i64.wrap (s.extra - x.nodes) = s.extra - x.nodes := IntWalk.i64_in _ (by omega)
  unfold wnV
  have H2 := H1.tail
  by_cases hx : x.nodes ≤ s.extra
  · have hd : decide (s.extra < x.nodes) = false := decide_eq_false (by omega)
    rw [if_pos hx, decide_eq_true hx]
    go_enter Try.func93, Try.ntmps93
    go_wp2
    generalize World.alloc (World.alloc _ _) _ = W at *
    refine wp_region_cut 7 (by kernel_rfl) (by kernel_rfl) ?_
    simp only [List.take_succ_cons, List.take_zero, List.drop_succ_cons, List.drop_zero]
    repeat (go_big_quiet_step ((fail)))
    refine wpQuiet_nil ?_
    intro nq
    have H3 := H2.drewN nq
    have c3 : (W.drewN nq).cell? ⟨p, 7, none⟩ = some (.int .i64 s.extra) := rnd_cell H3 (List.mem_cons_self ..) 7
    have d3 : (W.drewN nq).cell? ⟨w.heap.size + 1, 1, none⟩ = some (.int .i64 x.nodes) := d1
    clear c1 d1 H2
    generalize W.drewN nq = W2 at *
    go_wp2
    refine wp_region_cut 7 (by kernel_rfl) (by kernel_rfl) ?_
    simp only [List.take_succ_cons, List.take_zero, List.drop_succ_cons, List.drop_zero]
    repeat (go_big_quiet_step ((fail)))
    refine wpQuiet_nil ?_
    intro nr
    have H4 := H3.drewN nr
    have k2 : (W2.drewN nr).cell? ⟨p, 7, none⟩ = some (.int .i64 s.extra) := rnd_cell H4 (List.mem_cons_self ..) 7
    have k3 : (W2.drewN nr).frozen? ⟨p, 7, none⟩ = false := rnd_frozen H4 (List.mem_cons_self ..) 7
    have H5 := HL.setCell H4 7 (.int .i64 (s.extra - x.nodes))
    go_wp2
    go_ret
    exact ⟨rfl, H5⟩
  · have hd : decide (s.extra < x.nodes) = true := decide_eq_true (by omega)
    rw [if_neg hx, decide_eq_false hx]
    go_enter Try.func93, Try.ntmps93
    go_wp2
    generalize World.alloc (World.alloc _ _) _ = W at *
    refine wp_region_cut 7 (by kernel_rfl) (by kernel_rfl) ?_
    simp only [List.take_succ_cons, List.take_zero, List.drop_succ_cons, List.drop_zero]
    repeat (go_big_quiet_step ((fail)))
    refine wpQuiet_nil ?_
    intro nq
    have H3 := H2.drewN nq
    go_wp2
    go_ret
    exact ⟨rfl, H3⟩
end
end Go.Proofs.Ytebibcaahjmjfaa

/- A want is started. -/
import Derived.Test.YtebibcaahjmjfaaPaRound
set_option linter.unusedVariables false
set_option linter.unusedSimpArgs false
namespace Go.Proofs.Ytebibcaahjmjfaa
open Go.RowKit Go.Proofs.HL Go.Proofs.HL.Pr Go.Proofs.HL.Pa
section
variable {w0 w : World} {L : List At} {p mb : Nat} {s : RS} {ur us : Value}
set_option maxRecDepth 100000 in
set_option maxHeartbeats 2000000 in
theorem start_ok (H : HL w0 w (rnd p mb s ur us :: intsR w0.heap.size us s.starts :: mp mb (kvS s.starts) :: runsAt w0.heap.size ur s.runs :: L)) (x : Wn) (hno : x.job ∉ s.starts)
    (hS : s.starts.length ≤ 8796093022000) (hr : s.runs.length < 8796093022208) (hf : -9007199254740992 ≤ s.free - x.nodes ∧ s.free - x.nodes ≤ 9007199254740992) (hn : -9007199254740992 ≤ s.now + x.limit ∧ s.now + x.limit ≤ 9007199254740992) :
    Calls Try.prog 54 #[.pointer (some ⟨p, 0, none⟩), wnV x] w fun e w' => ∃ ur' us', e = .returned (.tuple #[]) ∧
      HL w0 w' (rnd p mb (startP s x) ur' us' :: intsR w0.heap.size us' (startP s x).starts :: mp mb (kvS (startP s x).starts) :: runsAt w0.heap.size ur' (startP s x).runs :: L) := by
  obtain ⟨A, c, rfl, -, hc1, hc2⟩ := row_shape (show w.ownsRow w0.heap.size 3 1 us s.starts.length (s.starts.map fun j => .int .i64 j) from H.tail.head)
  obtain ⟨B, d, rfl, -, hd1, hd2⟩ := row_shape (show w.ownsRow w0.heap.size 42 2 ur s.runs.length (s.runs.flatMap encR) from H.tail.tail.tail.head)
  unfold maxLen at hc2 hd2
  have H1 := H.alloc (.cells #[.int .i64 x.job, .int .i64 x.nodes, .int .i64 x.limit] 60)
  unfold wnV
  go_enter Try.func54, Try.ntmps54
  go_wp2
  generalize hb3 : w.heap.size = b3 at H1 ⊢
  generalize w.alloc _ = W at *
  have HD := H1.drew
  have H2 : HL w0 W.drew (intsR w0.heap.size (.slice A s.starts.length c) s.starts :: rnd p mb s (.slice B s.runs.length d) (.slice A s.starts.length c) :: blk b3 (.cells #[.int .i64 x.job, .int .i64 x.nodes, .int .i64 x.limit] 60) :: mp mb (kvS s.starts) :: runsAt w0.heap.size (.slice B s.runs.length d) s.runs :: L) := HD.sel 3 [2, 1, 0]
  have k0 : W.drew.cell? ⟨p, 4, none⟩ = some (.slice A s.starts.length c) := rnd_cell (mb := mb) (s := s) (ur := .slice B s.runs.length d) (us := .slice A s.starts.length c) H2 (by simp) 4
  have k1 : W.drew.cell? ⟨b3, 0, none⟩ = some (.int .i64 x.job) := H2.cellOf (b := b3) (vs := #[.int .i64 x.job, .int .i64 x.nodes, .int .i64 x.limit]) (E := 60) (fz := (0, 0)) (by simp) 0
  have H3 := H2.alloc' (.cells #[.int .i64 x.job] 3)
  have HB := H1.alloc' (.cells #[.int .i64 x.job] 3)
  have j0 : (W.alloc (.cells #[.int .i64 x.job] 3)).cell? ⟨p, 4, none⟩ = some (.slice A s.starts.length c) := rnd_cell (mb := mb) (s := s) (ur := .slice B s.runs.length d) (us := .slice A s.starts.length c) HB (by simp) 4
  have j1 : (W.alloc (.cells #[.int .i64 x.job] 3)).cell? ⟨b3, 0, none⟩ = some (.int .i64 x.job) := HB.cellOf (b := b3) (vs := #[.int .i64 x.job, .int .i64 x.nodes, .int .i64 x.limit]) (E := 60) (fz := (0, 0)) (by simp) 0
  go_cut [12] (fun s12 wc => ∃ (A4 : Option Addr) (c4 : Nat), HL w0 wc (rnd p mb s (.slice B s.runs.length d) (.slice A4 (s.starts.length + 1) c4) :: intsR w0.heap.size (.slice A4 (s.starts.length + 1) c4) (s.starts ++ [x.job]) :: blk b3 (.cells #[.int .i64 x.job, .int .i64 x.nodes, .int .i64 x.limit] 60) :: mp mb (kvS s.starts) :: runsAt w0.heap.size (.slice B s.runs.length d) s.runs :: L))
  case first =>
   go_region_law
    ((refine step_append_hl (ys := #[]) sliceI rfl _ _ rfl (v := .slice A s.starts.length c) (xv := .slice (some ⟨W.heap.size, 0, none⟩) 1 1) (n := s.starts.length) (m := 1) (xs := s.starts.map fun j => .int .i64 j) (news := [.int .i64 x.job]) H3 rfl rfl (rd_one rfl) (by simp [Value.oneCell']) (by unfold maxLen; omega) (by omega) ?_; intro v4 w4 H4; obtain ⟨A4, c4, rfl, -, -, -⟩ := row_shape H4.head;
      have k6 : w4.cell? ⟨p, 4, none⟩ = some (.slice A s.starts.length c) := rnd_cell (mb := mb) (s := s) (ur := .slice B s.runs.length d) (us := .slice A s.starts.length c) H4 (by simp) 4;
      have k3 : w4.frozen? ⟨p, 4, none⟩ = false := rnd_frozen (mb := mb) (s := s) (ur := .slice B s.runs.length d) (us := .slice A s.starts.length c) H4 (by simp) 4))
   all_goals
    go_wp2
    go_meet
    case rel =>
     have HS := HL.setAt [_] (h := H4) 4 (.slice A4 (s.starts.length + 1) c4)
     have HX := HS.sel 2 [1, 0]
     refine ⟨A4, c4, ?_⟩
     unfold intsR
     rw [List.length_append, List.map_append]
     exact HX
  case rest =>
    obtain ⟨A4, c4, H4⟩ := hcut
    clear H H1 HD H2 H3 HB k0 k1 j0 j1
    have H5 := H4.sel 5 [3, 0, 1, 2, 4]
    have k0 : wc.cell? ⟨p, 3, none⟩ = some (.map (some mb)) := rnd_cell (mb := mb) (s := s) (ur := .slice B s.runs.length d) H4 (List.mem_cons_self ..) 3
    have k1 : wc.cell? ⟨b3, 0, none⟩ = some (.int .i64 x.job) := H4.cellOf (b := b3) (vs := #[.int .i64 x.job, .int .i64 x.nodes, .int .i64 x.limit]) (E := 60) (fz := (0, 0)) (by simp) 0
    go_wp2
    refine wp_region_cut 6 (by kernel_rfl) (by kernel_rfl) ?_
    simp only [List.take_succ_cons, List.take_zero, List.drop_succ_cons, List.drop_zero]
    repeat (go_big_quiet_step ((fail)))
    refine wpQuiet_nil ?_
    intro nq
    go_wp2_with (at_mapUpdate; refine wpList_mapUpdate_hl (k := x.job) (val := .int .i64 1) Try.underlying93 Try.underlying3 rfl _ _ _ rfl (H5.drewN nq) rfl rfl rfl ?_; intro w4 H6)
    simp only [Act.put]
    clear k0 k1 H4 H5
    have H7 := H6.sel 5 [1, 2, 0, 4, 3]
    rw [kvS_put hno] at H7
    clear H6
    have k0 : w4.cell? ⟨p, 1, none⟩ = some (.int .i64 s.free) := rnd_cell (mb := mb) (s := s) (ur := .slice B s.runs.length d) H7 (List.mem_cons_self ..) 1
    have k1 : w4.cell? ⟨b3, 1, none⟩ = some (.int .i64 x.nodes) := H7.cellOf (b := b3) (vs := #[.int .i64 x.job, .int .i64 x.nodes, .int .i64 x.limit]) (E := 60) (fz := (0, 0)) (by simp) 1
    refine wp_region_cut 7 (by kernel_rfl) (by kernel_rfl) ?_
    simp only [List.take_succ_cons, List.take_zero, List.drop_succ_cons, List.drop_zero]
    repeat (go_big_quiet_step ((fail)))
    refine wpQuiet_nil ?_
    intro nr
    have H8 := H7.drewN nr
    have k2 : (w4.drewN nr).cell? ⟨p, 1, none⟩ = some (.int .i64 s.free) := rnd_cell (mb := mb) (s := s) (ur := .slice B s.runs.length d) H8 (List.mem_cons_self ..) 1
    have k3 : (w4.drewN nr).frozen? ⟨p, 1, none⟩ = false := rnd_frozen (mb := mb) (s := s) (ur := .slice B s.runs.length d) H8 (List.mem_cons_self ..) 1
    have H9 := HL.setCell H8 1 (.int .i64 (s.free - x.nodes))
    clear H7 k0 k1
    go_wp2
    have H10 : HL w0 ((w4.drewN nr).setCell ⟨p, 1, none⟩ (.int .i64 (s.free - x.nodes))) (runsAt w0.heap.size (.slice B s.runs.length d) s.runs :: rnd p mb { s with free := s.free - x.nodes, starts := s.starts ++ [x.job] } (.slice B s.runs.length d) (.slice A4 (s.starts.length + 1) c4) :: blk b3 (.cells #[.int .i64 x.job, .int .i64 x.nodes, .int .i64 x.limit] 60) :: intsR w0.heap.size (.slice A4 (s.starts.length + 1) c4) (s.starts ++ [x.job]) :: mp mb (kvS (s.starts ++ [x.job])) :: L) := H9.sel 5 [3, 0, 4, 1, 2]
    clear H8 H9 k2 k3
    generalize World.setCell _ _ _ = W5 at *
    generalize hus : Value.slice A4 (s.starts.length + 1) c4 = us4 at *
    clear hus
    have hw : IntKind.i64.wrap (s.now + x.limit) = s.now + x.limit := IntWalk.i64_in _ (by omega)
    have HP := H10.drew
    have k0 : W5.drew.cell? ⟨p, 2, none⟩ = some (.slice B s.runs.length d) := rnd_cell HP (List.mem_cons_of_mem _ (List.mem_cons_self ..)) 2
    have k1 : W5.drew.cell? ⟨p, 0, none⟩ = some (.int .i64 s.now) := rnd_cell HP (List.mem_cons_of_mem _ (List.mem_cons_self ..)) 0
    have k2 : W5.drew.cell? ⟨b3, 1, none⟩ = some (.int .i64 x.nodes) := HP.cellOf (b := b3) (vs := #[.int .i64 x.job, .int .i64 x.nodes, .int .i64 x.limit]) (E := 60) (fz := (0, 0)) (by simp) 1
    have k3 : W5.drew.cell? ⟨b3, 2, none⟩ = some (.int .i64 x.limit) := HP.cellOf (b := b3) (vs := #[.int .i64 x.job, .int .i64 x.nodes, .int .i64 x.limit]) (E := 60) (fz := (0, 0)) (by simp) 2
    have H11 := HP.alloc' (.cells #[.int .i64 x.nodes, .int .i64 (s.now + x.limit)] 42)
    have HB := H10.alloc' (.cells #[.int .i64 x.nodes, .int .i64 (s.now + x.limit)] 42)
    have j0 : (W5.alloc (.cells #[.int .i64 x.nodes, .int .i64 (s.now + x.limit)] 42)).cell? ⟨p, 2, none⟩ = some (.slice B s.runs.length d) := rnd_cell HB (List.mem_cons_of_mem _ (List.mem_cons_self ..)) 2
    go_region_law
     ((refine step_append_hl (ys := #[]) sliceRun rfl _ _ rfl (v := .slice B s.runs.length d) (xv := .slice (some ⟨W5.heap.size, 0, none⟩) 1 1) (n := s.runs.length) (m := 1) (xs := s.runs.flatMap encR) (news := [(⟨x.nodes, s.now + x.limit⟩ : Rn)].flatMap encR) H11 rfl rfl (rd_new (cs := [.int .i64 x.nodes, .int .i64 (s.now + x.limit)]) rfl rfl (by decide)) (one_encR _) (by unfold maxLen; omega) (by omega) ?_; intro v4 w6 H12; obtain ⟨A6, c6, rfl, -, -, -⟩ := row_shape H12.head;
        have k6 : w6.frozen? ⟨p, 2, none⟩ = false := rnd_frozen H12 (List.mem_cons_of_mem _ (List.mem_cons_self ..)) 2;
        have k7 : w6.cell? ⟨p, 2, none⟩ = some (.slice B s.runs.length d) := rnd_cell H12 (List.mem_cons_of_mem _ (List.mem_cons_self ..)) 2))
    all_goals
     have HS := HL.setAt [_] (h := H12) 2 (.slice A6 (s.runs.length + 1) c6)
     have HF := HS.sel 5 [1, 3, 4, 0]
     clear HS H12
     go_end0
     refine ⟨.slice A6 (s.runs.length + 1) c6, us4, rfl, ?_⟩
     show HL w0 _ (_ :: _ :: _ :: runsAt w0.heap.size _ (s.runs ++ [⟨x.nodes, s.now + x.limit⟩]) :: L)
     unfold runsAt
     rw [List.length_append, List.flatMap_append]
     exact HF
end
end Go.Proofs.Ytebibcaahjmjfaa

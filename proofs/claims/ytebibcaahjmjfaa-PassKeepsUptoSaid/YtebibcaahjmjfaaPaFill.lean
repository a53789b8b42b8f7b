/- Those that can't delay the holder. -/
import Derived.Test.YtebibcaahjmjfaaPaRank
import Derived.Handy
set_option linter.unusedVariables false
set_option linter.unusedSimpArgs false
namespace Go.Proofs.Ytebibcaahjmjfaa
open Go.RowKit Go.Proofs.HL Go.Proofs.HL.Pr Go.Proofs.HL.Pa
section
variable {w0 w : World} {L : List At} {p mb : Nat} {s : RS} {ur us v : Value} {N : Nat} {ws : List Wn} {S : List Int}
theorem foldl_take_succ {α β : Type} (f : β → α → β) (s : β) (l : List α) {k : Nat} {x : α} (hx : l[k]? = some x) : (l.take (k + 1)).foldl f s = f ((l.take k).foldl f s) x := by
  obtain ⟨hk, rfl⟩ := List.getElem?_eq_some_iff.1 hx
  rw [List.take_succ_eq_append_getElem hk, List.foldl_append]
  rfl
set_option maxRecDepth 100000 in
set_option maxHeartbeats 4000000 in
theorem fill_ok (G : Good N s) (hN : N ≤ 8796093021952) (H : HL w0 w (rndL w0 p mb s ur us L)) (hW : Wants w0 L v ws) (hws : ∀ x ∈ ws, okW x) :
    Calls Try.prog 56 #[.pointer (some ⟨p, 0, none⟩), v] w fun e w' => ∃ ur' us', e = .returned (.tuple #[]) ∧ Good N (ws.foldl fillStep s) ∧ HL w0 w' (rndL w0 p mb (ws.foldl fillStep s) ur' us' L) := by
  obtain ⟨A, c, rfl, hc1, hc2⟩ := rd_shape (hW w H.tail.tail.tail.tail)
  unfold maxLen at hc2
  go_enter Try.func56, Try.ntmps56
  go_wp2
  go_loopg [10] ws.length (fun g i wr => ∃ (k : Nat) (s' : RS) (ur' us' : Value), i = .int .i64 k ∧ k + g = ws.length ∧ Good N s' ∧ (ws.take k).foldl fillStep s = s' ∧ HL w0 wr (rndL w0 p mb s' ur' us' L))
  case atStart => exact ⟨0, s, ur, us, rfl, by omega, G, rfl, H⟩
  case round =>
    obtain ⟨k, s', ur', us', rfl, hk, G', hR, HK⟩ := hrel
    clear H G
    by_cases hlt : k < ws.length
    · obtain ⟨x, hx⟩ : ∃ x, ws[k]? = some x := ⟨_, List.getElem?_eq_getElem hlt⟩
      obtain ⟨b, o, c', hv, d0, d1, d2⟩ := wn_at (hW wr HK.tail.tail.tail.tail) hx
      simp only [Value.slice.injEq] at hv
      obtain ⟨rfl, -, rfl⟩ := hv
      have hst := foldl_take_succ fillStep s ws hx
      rw [hR] at hst
      have Hst := Lib.hid hst
      have okx := Lib.hid (hws x (List.mem_of_getElem? hx))
      clear hx hst hR
      have HB := HK.alloc (.cells #[.int .i64 x.job, .int .i64 x.nodes, .int .i64 x.limit] 60)
      have HS := HB.sel 5 [1, 2, 3, 4, 0]
      clear HK HB
      generalize hW5 : wr.alloc (.cells #[.int .i64 x.job, .int .i64 x.nodes, .int .i64 x.limit] 60) = W at *
      generalize hb5 : wr.heap.size = b5 at *
      replace HS : HL w0 W (rndL w0 p mb s' ur' us' (blk b5 (.cells #[.int .i64 x.job, .int .i64 x.nodes, .int .i64 x.limit] 60) :: L)) := HS
      have c3 : W.cell? ⟨p, 3, none⟩ = some (.map (some mb)) := rnd_cell HS (List.mem_cons_self ..) 3
      have c5 : W.cell? ⟨p, 5, none⟩ = some (.int .i64 s'.holder) := rnd_cell HS (List.mem_cons_self ..) 5
      have e0 : W.cell? ⟨b5, 0, none⟩ = some (.int .i64 x.job) := HS.cellOf (b := b5) (vs := #[.int .i64 x.job, .int .i64 x.nodes, .int .i64 x.limit]) (E := 60) (fz := (0, 0)) (by simp [rndL]) 0
      have e1 : W.cell? ⟨b5, 1, none⟩ = some (.int .i64 x.nodes) := HS.cellOf (b := b5) (vs := #[.int .i64 x.job, .int .i64 x.nodes, .int .i64 x.limit]) (E := 60) (fz := (0, 0)) (by simp [rndL]) 1
      have e2 : W.cell? ⟨b5, 2, none⟩ = some (.int .i64 x.limit) := HS.cellOf (b := b5) (vs := #[.int .i64 x.job, .int .i64 x.nodes, .int .i64 x.limit]) (E := 60) (fz := (0, 0)) (by simp [rndL]) 2
      have hl := fun n => started_run ((HS.sel 3 [2, 0, 1]).drewN n) x.job
      subst hb5
      subst hW5
      by_cases hin : x.job ∈ s'.starts
      · have hnx : fillStep s' x = s' := by rw [fillStep, if_pos (.inl hin)]
        have Hnx := Lib.hid hnx; clear hnx
        simp only [if_pos hin] at hl
        clear hin
        go_wp2
        refine wp_region_cut 21 (by kernel_rfl) (by kernel_rfl) ?_
        simp only [List.take_succ_cons, List.take_zero, List.drop_succ_cons, List.drop_zero]
        repeat (go_big_quiet_step ((fail)))
        refine wpQuiet_nil ?_
        intro nq
        have HQ := HS.drewN nq
        clear HS c3 c5 e0 e1 e2 hl d0 d1 d2
        generalize hW6 : World.drewN _ nq = W6 at *
        generalize wr.heap.size = b5 at *
        go_wp2
        go_roundg (gk - 1)
        case measure => omega
        case rel => exact ⟨k + 1, s', ur', us', by go_num, by omega, G', by rw [Hst.out, Hnx.out], HQ.sel 5 [0, 1, 2, 3]⟩
      simp only [if_neg hin] at hl
      by_cases hho : x.job = s'.holder
      · have hnx : fillStep s' x = s' := by rw [fillStep, if_pos (.inr (.inl hho))]
        have Hnx := Lib.hid hnx; clear hnx
        have hb1 : (x.job == s'.holder) = true := by simp [hho]
        have hb2 : decide (x.job = s'.holder) = true := decide_eq_true hho
        clear hin hho
        go_wp2
        refine wp_region_cut 21 (by kernel_rfl) (by kernel_rfl) ?_
        simp only [List.take_succ_cons, List.take_zero, List.drop_succ_cons, List.drop_zero]
        repeat (go_big_quiet_step ((fail)))
        refine wpQuiet_nil ?_
        intro nq
        have HQ := HS.drewN nq
        clear HS c3 c5 e0 e1 e2 hl d0 d1 d2
        generalize hW6 : World.drewN _ nq = W6 at *
        generalize wr.heap.size = b5 at *
        go_wp2
        go_roundg (gk - 1)
        case measure => omega
        case rel => exact ⟨k + 1, s', ur', us', by go_num, by omega, G', by rw [Hst.out, Hnx.out], HQ.sel 5 [0, 1, 2, 3]⟩
      have hb1 : (x.job == s'.holder) = false := by simp [hho]
      have hb2 : decide (x.job = s'.holder) = false := decide_eq_false hho
      by_cases hf : x.nodes ≤ s'.free
      · have Hin := Lib.hid hin; have Hho := Lib.hid hho; have Hf := Lib.hid hf
        clear hin hho hf
        go_wp2
        refine wp_region_cut 21 (by kernel_rfl) (by kernel_rfl) ?_
        simp only [List.take_succ_cons, List.take_zero, List.drop_succ_cons, List.drop_zero]
        repeat (go_big_quiet_step ((fail)))
        refine wpQuiet_nil ?_
        intro nq
        have HQ := HS.drewN nq
        clear HS c3 c5 e0 e1 e2 hl d0 d1 d2
        generalize hW6 : World.drewN _ nq = W6 at *
        generalize wr.heap.size = b5 at *
        have hlets := lets_ok HQ (List.mem_cons_self ..) x
        rw [decide_eq_true Hf.out] at hlets
        go_wp2_with (go_at_call 53; refine hlets.mono ?_; rintro e w7 ⟨rfl, H7⟩; clear hlets HQ)
        have hF : fillStep s' x = if s'.now + x.limit ≤ s'.shadow then startP s' x else if x.nodes ≤ s'.extra then startP { s' with extra := s'.extra - x.nodes } x else s' := by
          rw [fillStep, if_neg]
          intro h
          rcases h with h | h | h
          · exact Hin.out h
          · exact Hho.out h
          · have := Hf.out; omega
        have HFs := Lib.hid hF; clear hF
        have HR := H7.alloc (.cells #[.iface 106 (.agg #[]), .iface 107 (.agg #[])] 110)
        have HR2 := HR.sel 6 [1, 2, 3, 4, 5, 0]
        clear H7 HR
        generalize World.alloc w7 _ = W8 at *
        generalize w7.heap.size = r5 at *
        obtain ⟨gOut, hgo⟩ : ∃ n : Nat, n = gk := ⟨_, rfl⟩
        go_loopg [44] 2 (fun g i wr => ((i = .int .i64 0 ∧ g = 2) ∨ (i = .int .i64 1 ∧ g = 1 ∧ ¬ s'.now + x.limit ≤ s'.shadow) ∨ (i = .int .i64 2 ∧ g = 0 ∧ ¬ s'.now + x.limit ≤ s'.shadow ∧ ¬ x.nodes ≤ s'.extra)) ∧ HL w0 wr (rndL w0 p mb s' ur' us' (blk b5 (.cells #[.int .i64 x.job, .int .i64 x.nodes, .int .i64 x.limit] 60) :: blk r5 (.cells #[.iface 106 (.agg #[]), .iface 107 (.agg #[])] 110) :: L)))
        case atStart => exact ⟨.inl ⟨rfl, rfl⟩, HR2⟩
        case round =>
          obtain ⟨hcs, HI⟩ := hrel
          clear HR2
          have f0 : wr.cell? ⟨b5, 0, none⟩ = some (.int .i64 x.job) := HI.cellOf (b := b5) (vs := #[.int .i64 x.job, .int .i64 x.nodes, .int .i64 x.limit]) (E := 60) (fz := (0, 0)) (by simp [rndL]) 0
          have f1 : wr.cell? ⟨b5, 1, none⟩ = some (.int .i64 x.nodes) := HI.cellOf (b := b5) (vs := #[.int .i64 x.job, .int .i64 x.nodes, .int .i64 x.limit]) (E := 60) (fz := (0, 0)) (by simp [rndL]) 1
          have f2 : wr.cell? ⟨b5, 2, none⟩ = some (.int .i64 x.limit) := HI.cellOf (b := b5) (vs := #[.int .i64 x.job, .int .i64 x.nodes, .int .i64 x.limit]) (E := 60) (fz := (0, 0)) (by simp [rndL]) 2
          rcases hcs with ⟨rfl, hg⟩ | ⟨rfl, hg, h4⟩ | ⟨rfl, hg, h4, h5⟩
          · have g0 : wr.cell? ⟨r5, 0, none⟩ = some (.iface 106 (.agg #[])) := HI.cellOf (b := r5) (vs := #[.iface 106 (.agg #[]), .iface 107 (.agg #[])]) (E := 110) (fz := (0, 0)) (by simp [rndL]) 0
            have hends := ends_ok HI (List.mem_cons_self ..) x (by have := okx.out; have := G'.now0; have := G'.now1; unfold okW at *; omega)
            by_cases h4 : s'.now + x.limit ≤ s'.shadow
            · rw [decide_eq_true h4] at hends
              have Hnx := Lib.hid (show fillStep s' x = startP s' x by rw [HFs.out, if_pos h4])
              clear h4
              go_wp2_with (first
                | (go_at_call 92; refine hends.mono ?_; rintro e w9 ⟨rfl, H9⟩; clear hends HI f0 f1 f2 g0; have q0 : w9.cell? ⟨b5, 0, none⟩ = some (.int .i64 x.job) := (H9.cellOf (b := b5) (vs := #[.int .i64 x.job, .int .i64 x.nodes, .int .i64 x.limit]) (E := 60) (fz := (0, 0)) (by simp [rndL]) 0); have q1 : w9.cell? ⟨b5, 1, none⟩ = some (.int .i64 x.nodes) := (H9.cellOf (b := b5) (vs := #[.int .i64 x.job, .int .i64 x.nodes, .int .i64 x.limit]) (E := 60) (fz := (0, 0)) (by simp [rndL]) 1); have q2 : w9.cell? ⟨b5, 2, none⟩ = some (.int .i64 x.limit) := (H9.cellOf (b := b5) (vs := #[.int .i64 x.job, .int .i64 x.nodes, .int .i64 x.limit]) (E := 60) (fz := (0, 0)) (by simp [rndL]) 2))
                | (go_at_call 54; refine (start_good G' hN H9 okx.out Hf.out Hin.out).mono ?_; rintro e w10 ⟨ur8, us8, rfl, G8, H10⟩; clear H9 q0 q1 q2))
              go_roundg (gOut - 1)
              case measure => omega
              case rel => exact ⟨k + 1, startP s' x, ur8, us8, by go_num, by omega, G8, by rw [Hst.out, Hnx.out], H10.sel 6 [0, 1, 2, 3]⟩
            · rw [decide_eq_false h4] at hends
              have H4 := Lib.hid h4; clear h4
              go_wp2_with (first
                | (go_at_call 92; refine hends.mono ?_; rintro e w9 ⟨rfl, H9⟩; clear hends HI f0 f1 f2 g0; have q0 : w9.cell? ⟨b5, 0, none⟩ = some (.int .i64 x.job) := (H9.cellOf (b := b5) (vs := #[.int .i64 x.job, .int .i64 x.nodes, .int .i64 x.limit]) (E := 60) (fz := (0, 0)) (by simp [rndL]) 0); have q1 : w9.cell? ⟨b5, 1, none⟩ = some (.int .i64 x.nodes) := (H9.cellOf (b := b5) (vs := #[.int .i64 x.job, .int .i64 x.nodes, .int .i64 x.limit]) (E := 60) (fz := (0, 0)) (by simp [rndL]) 1); have q2 : w9.cell? ⟨b5, 2, none⟩ = some (.int .i64 x.limit) := (H9.cellOf (b := b5) (vs := #[.int .i64 x.job, .int .i64 x.nodes, .int .i64 x.limit]) (E := 60) (fz := (0, 0)) (by simp [rndL]) 2)))
              go_roundg 1
              case measure => omega
              case rel => exact ⟨.inr (.inl ⟨rfl, rfl, H4.out⟩), H9⟩
          · have g0 : wr.cell? ⟨r5, 1, none⟩ = some (.iface 107 (.agg #[])) := HI.cellOf (b := r5) (vs := #[.iface 106 (.agg #[]), .iface 107 (.agg #[])]) (E := 110) (fz := (0, 0)) (by simp [rndL]) 1
            have htakes := takes_ok HI x (by have := okx.out; have := G'.ex0; have := G'.ex1; unfold okW at *; omega)
            by_cases h5 : x.nodes ≤ s'.extra
            · rw [decide_eq_true h5, if_pos h5] at htakes
              have Hnx := Lib.hid (show fillStep s' x = startP { s' with extra := s'.extra - x.nodes } x by rw [HFs.out, if_neg h4, if_pos h5])
              have GE : Good N { s' with extra := s'.extra - x.nodes } := ⟨G'.free0, G'.cap, G'.len, G'.now0, G'.now1, show 0 ≤ s'.extra - x.nodes by omega, by have := okx.out; have := G'.ex1; unfold okW at *; show s'.extra - x.nodes ≤ _; omega⟩
              clear h4 h5
              go_wp2_with (first
                | (go_at_call 93; refine htakes.mono ?_; rintro e w9 ⟨rfl, H9⟩; clear htakes HI f0 f1 f2 g0; replace H9 : HL w0 w9 (rndL w0 p mb { s' with extra := s'.extra - x.nodes } ur' us' (blk b5 (.cells #[.int .i64 x.job, .int .i64 x.nodes, .int .i64 x.limit] 60) :: blk r5 (.cells #[.iface 106 (.agg #[]), .iface 107 (.agg #[])] 110) :: L)) := H9; have q0 : w9.cell? ⟨b5, 0, none⟩ = some (.int .i64 x.job) := (H9.cellOf (b := b5) (vs := #[.int .i64 x.job, .int .i64 x.nodes, .int .i64 x.limit]) (E := 60) (fz := (0, 0)) (by simp [rndL]) 0); have q1 : w9.cell? ⟨b5, 1, none⟩ = some (.int .i64 x.nodes) := (H9.cellOf (b := b5) (vs := #[.int .i64 x.job, .int .i64 x.nodes, .int .i64 x.limit]) (E := 60) (fz := (0, 0)) (by simp [rndL]) 1); have q2 : w9.cell? ⟨b5, 2, none⟩ = some (.int .i64 x.limit) := (H9.cellOf (b := b5) (vs := #[.int .i64 x.job, .int .i64 x.nodes, .int .i64 x.limit]) (E := 60) (fz := (0, 0)) (by simp [rndL]) 2))
                | (go_at_call 54; refine (start_good GE hN H9 okx.out Hf.out Hin.out).mono ?_; rintro e w10 ⟨ur8, us8, rfl, G8, H10⟩; clear H9 q0 q1 q2))
              go_roundg (gOut - 1)
              case measure => omega
              case rel => exact ⟨k + 1, startP { s' with extra := s'.extra - x.nodes } x, ur8, us8, by go_num, by omega, G8, by rw [Hst.out, Hnx.out], H10.sel 6 [0, 1, 2, 3]⟩
            · rw [decide_eq_false h5, if_neg h5] at htakes
              have H4 := Lib.hid h4; have H5 := Lib.hid h5; clear h4 h5
              go_wp2_with (go_at_call 93; refine htakes.mono ?_; rintro e w9 ⟨rfl, H9⟩; clear htakes HI f0 f1 f2 g0)
              go_roundg 0
              case measure => omega
              case rel => exact ⟨.inr (.inr ⟨rfl, rfl, H4.out, H5.out⟩), H9⟩
          · have Hnx := Lib.hid (show fillStep s' x = s' by rw [HFs.out, if_neg h4, if_neg h5])
            clear h4 h5
            go_wp2
            go_roundg (gOut - 1)
            case measure => omega
            case rel => exact ⟨k + 1, s', ur', us', by go_num, by omega, G', by rw [Hst.out, Hnx.out], HI.sel 6 [0, 1, 2, 3]⟩
      · replace hf : ¬ x.nodes ≤ s'.free := hf
        have hnx : fillStep s' x = s' := by rw [fillStep, if_pos (.inr (.inr (by omega)))]
        have Hnx := Lib.hid hnx; clear hnx
        clear hin hho
        go_wp2
        refine wp_region_cut 21 (by kernel_rfl) (by kernel_rfl) ?_
        simp only [List.take_succ_cons, List.take_zero, List.drop_succ_cons, List.drop_zero]
        repeat (go_big_quiet_step ((fail)))
        refine wpQuiet_nil ?_
        intro nq
        have HQ := HS.drewN nq
        clear HS c3 c5 e0 e1 e2 hl d0 d1 d2
        generalize hW6 : World.drewN _ nq = W6 at *
        generalize wr.heap.size = b5 at *
        have hlets := lets_ok HQ (List.mem_cons_self ..) x
        rw [decide_eq_false (show ¬ x.nodes ≤ s'.free by omega)] at hlets
        clear hf
        go_wp2_with (go_at_call 53; refine hlets.mono ?_; rintro e w7 ⟨rfl, H7⟩; clear hlets HQ)
        go_roundg (gk - 1)
        case measure => omega
        case rel => exact ⟨k + 1, s', ur', us', by go_num, by omega, G', by rw [Hst.out, Hnx.out], H7.sel 5 [0, 1, 2, 3]⟩
    · have hst := Lib.hid hR
      clear hR
      go_wp2
      go_end0
      have e : ws.foldl fillStep s = s' := by have := hst.out; rwa [List.take_of_length_le (by omega)] at this
      rw [e]
      exact ⟨ur', us', rfl, G', HK⟩
end
end Go.Proofs.Ytebibcaahjmjfaa

/- A plan is done: what is started runs, the rest waits. -/
import Derived.Test.YtebibcaahjmjfaaPaEnds
set_option linter.unusedVariables false
set_option linter.unusedSimpArgs false
namespace Go.Proofs.Ytebibcaahjmjfaa
open Go.RowKit Go.Proofs.HL Go.Proofs.HL.Pr Go.Proofs.HL.Pa
section
variable {w0 w : World} {L : List At} {b : Nat} {now free held : Int} {vw vr u : Value} {l : List Rn} {ws : List Wn} {S : List Int}
set_option maxRecDepth 100000 in
set_option maxHeartbeats 4000000 in
theorem stTakes_ok (H : HL w0 w (boxS b now free vw held vr :: wantsAt w0.heap.size vw ws :: runsAt w0.heap.size vr l :: intsR w0.heap.size u S :: L)) (hw : ∀ x ∈ ws, 1 ≤ x.nodes ∧ x.nodes ≤ 256 ∧ 1 ≤ x.limit ∧ x.limit ≤ 1048576) (hnow : 0 ≤ now ∧ now ≤ 2199023255552)
    (hs : sumW (tookOf ws S) ≤ free) (hf : free ≤ 256) (hwl : ws.length ≤ 5864062014800) (hl : l.length ≤ 256) (h s e : Int) :
    Calls Try.prog 32 #[.pointer (some ⟨b, 0, none⟩), .agg #[u, .int .i64 h, .int .i64 s, .int .i64 e]] w fun en w' => ∃ vw' vr', en = .returned (.tuple #[]) ∧
      HL w0 w' (boxS b now (free - sumW (tookOf ws S)) vw' h vr' :: wantsAt w0.heap.size vw' (Pa.leftOf ws S) :: runsAt w0.heap.size vr' (l ++ (tookOf ws S).map (runOf now)) :: intsR w0.heap.size u S :: L) := by
  obtain ⟨A, c, rfl, -, hc1, hc2⟩ := row_shape (show w.ownsRow w0.heap.size 60 3 vw ws.length (ws.flatMap encW) from H.tail.head)
  obtain ⟨U, cu, rfl, -, hu1, hu2⟩ := row_shape (show w.ownsRow w0.heap.size 3 1 u S.length (S.map fun j => .int .i64 j) from H.tail.tail.tail.head)
  unfold maxLen at hc2 hu2
  have H1 := HL.allocP H (.slice U S.length cu) h s e
  generalize hb3 : w.heap.size = b3 at H1
  have H2 := (emptyWants H1).sel 6 [2, 4, 0, 3, 5, 1]
  rw [World.size_alloc, hb3] at H2
  have Hw := Lib.hid hw
  clear hw
  go_enter Try.func32, Try.ntmps32
  go_wp2
  go_loopg [4, 5] ws.length (fun g v4 i wr => ∃ (k : Nat) (f : Int) (r : List Wn) (m : List Rn) (vr' : Value), i = .int .i64 k ∧ k + g = ws.length ∧ TookTo now free ws S l k f r m ∧ HL w0 wr (boxS b now f (.slice A ws.length c) held vr' :: runsAt w0.heap.size vr' m :: wantsAt w0.heap.size v4 r :: wantsAt w0.heap.size (.slice A ws.length c) ws :: intsR w0.heap.size (.slice U S.length cu) S :: boxP b3 (.slice U S.length cu) h s e :: L))
  case atStart => exact ⟨0, free, [], l, vr, rfl, by omega, ⟨by simp [tookOf, sumW], rfl, by simp [tookOf]⟩, H2⟩
  case round =>
    obtain ⟨k, f, r, m, vr', rfl, hk, hT, HK⟩ := hrel
    clear H2 H1 H
    obtain ⟨f0, f1, hr1, hm1⟩ := hT.bd (fun x hx => (Hw.out x hx).1) hs hf
    have HT := Lib.hid hT
    clear hT
    obtain ⟨s0, s1, s2, s3, s4⟩ := boxS_cells HK
    by_cases hlt : k < ws.length
    · obtain ⟨x, hx⟩ : ∃ x, ws[k]? = some x := ⟨_, List.getElem?_eq_getElem hlt⟩
      obtain ⟨b2, o, c', hv, d0, d1, d2⟩ := wn_at (rd_row (HK.sel 4 [3]).head) hx
      obtain ⟨n1, n2, n3, n4⟩ := Hw.out x (List.mem_of_getElem? hx)
      simp only [Value.slice.injEq] at hv
      obtain ⟨rfl, -, rfl⟩ := hv
      have Hx := Lib.hid hx; clear hx
      have HB := HL.allocW HK x
      generalize hb6 : wr.heap.size = b6 at HB
      obtain ⟨p0, p1, p2, p3⟩ := boxP_cells ((HB.sel 7 [6]))
      have hhas := has_ok HB (show Ints w0 _ (.slice U S.length cu) S from fun W HH => entInts _ W (HH.sel 6 [5])) x.job
      by_cases hin : x.job ∈ S
      · rw [decide_eq_true hin] at hhas
        have Hin := Lib.hid hin
        clear hin HB
        go_wp2_with (go_at_call 30; refine hhas.mono ?_; rintro e1 w2 ⟨rfl, H3⟩; clear hhas p0 p1 p2 p3 s0 s1 s2 s3 s4 d0 d1 d2 HK; obtain ⟨s0, s1, s2, s3, s4⟩ := boxS_cells (H3.sel 2 [1, 0]); obtain ⟨q0, q1, q2⟩ := boxW_cells H3)
        refine wp_region_cut 7 (by kernel_rfl) (by kernel_rfl) ?_
        simp only [List.take_succ_cons, List.take_zero, List.drop_succ_cons, List.drop_zero]
        repeat (go_big_quiet_step ((fail)))
        refine wpQuiet_nil ?_
        intro nq
        have HN := (H3.drewN nq).sel 2 [1, 0]
        have z1 := boxS_mem HN (List.mem_cons_self ..) 1
        have z2 := boxS_frozen HN (List.mem_cons_self ..) 1
        have HS := set_boxS1 (f := f - x.nodes) HN
        clear s0 s1 s2 s3 s4 q0 q1 q2 H3 HN
        go_wp2
        clear z1 z2
        generalize World.setCell _ _ _ = W5 at *
        have hw : IntKind.i64.wrap (now + x.limit) = now + x.limit := IntWalk.i64_in _ (by omega)
        obtain ⟨B, d, rfl, -, hd1, hd2⟩ := row_shape (show W5.ownsRow w0.heap.size 42 2 vr' m.length (m.flatMap encR) from HS.tail.tail.head)
        unfold maxLen at hd2
        have HP := (HS.drew).sel 3 [2, 0, 1]
        obtain ⟨k0, -, -, -, k4⟩ := boxS_cells (HP.sel 2 [1, 0])
        obtain ⟨k1, k2, k3⟩ := boxW_cells (HP.sel 3 [2, 0, 1])
        have H11 := HP.alloc' (.cells #[.int .i64 x.nodes, .int .i64 (now + x.limit)] 42)
        have HB := HS.alloc' (.cells #[.int .i64 x.nodes, .int .i64 (now + x.limit)] 42)
        obtain ⟨-, -, -, -, j4⟩ := boxS_cells HB
        have Hb6 := Lib.hid hb6; have Hb3 := Lib.hid hb3; clear hb6 hb3
        go_region_law
         ((refine step_append_hl (ys := #[]) sliceRun rfl _ _ rfl (v := .slice B m.length d) (xv := .slice (some ⟨W5.heap.size, 0, none⟩) 1 1) (n := m.length) (m := 1) (xs := m.flatMap encR) (news := [(⟨x.nodes, now + x.limit⟩ : Rn)].flatMap encR) H11 rfl rfl (rd_new (cs := [.int .i64 x.nodes, .int .i64 (now + x.limit)]) rfl rfl (by decide)) (one_encR _) (by unfold maxLen; omega) (by omega) ?_; intro v4 w6 H12; obtain ⟨A6, c6, rfl, -, -, -⟩ := row_shape H12.head;
            have k6 := boxS_frozen H12 (List.mem_cons_of_mem _ (List.mem_cons_self ..)) 4;
            have k7 := boxS_mem H12 (List.mem_cons_of_mem _ (List.mem_cons_self ..)) 4))
        all_goals
          have HS2 := set_boxS4 (u := .slice A6 (m.length + 1) c6) (H12.sel 2 [1, 0])
          go_wp2
          go_roundg (gk - 1)
          case measure => omega
          case rel =>
            refine ⟨k + 1, f - x.nodes, r, m ++ [⟨x.nodes, now + x.limit⟩], .slice A6 (m.length + 1) c6, by go_num, by omega, HT.out.yes Hx.out Hin.out, ?_⟩
            have HF := HS2.sel 3 [0, 1]
            unfold runsAt
            rw [List.length_append, List.flatMap_append]
            exact HF
      · rw [decide_eq_false hin] at hhas
        have Hin := Lib.hid hin
        clear hin HB
        go_wp2_with (first
          | (go_at_call 30; refine hhas.mono ?_; rintro e1 w2 ⟨rfl, H3⟩; clear hhas p0 p1 p2 p3 s0 s1 s2 s3 s4 d0 d1 d2 HK; obtain ⟨q0, q1, q2⟩ := boxW_cells H3; have HA := (H3.alloc' (.cells #[.int .i64 x.job, .int .i64 x.nodes, .int .i64 x.limit] 60)).sel 4 [3, 1, 2]; have hr4 := rd_wn (w := w2) (x := x); have hb : r.length + [x].length ≤ 5864062014805 := by simp only [List.length_cons, List.length_nil]; omega)
          | (at_builtin; refine append_wants (v := u4) (xv := .slice (some ⟨w2.heap.size, 0, none⟩) 1 1) (xs := r) (ys := [x]) rfl _ _ rfl HA rfl rfl hr4 hb ?_; intro z5 w5 H5; clear HA H3 hr4 hb q0 q1 q2))
        go_roundg (gk - 1)
        case measure => omega
        case rel => exact ⟨k + 1, f, r ++ [x], m, vr', by go_num, by omega, HT.out.no Hx.out Hin.out, H5.sel 3 [1, 2, 0]⟩
    · obtain ⟨g1, g2, g3⟩ := HT.out
      rw [List.take_of_length_le (by omega)] at g1 g2 g3
      obtain ⟨A4, c4, rfl, -, -, -⟩ := row_shape (show wr.ownsRow w0.heap.size 60 3 u4 r.length (r.flatMap encW) from (HK.sel 3 [2]).head)
      obtain ⟨p0, p1, p2, p3⟩ := boxP_cells (HK.sel 6 [5])
      have y2 := boxS_frozen HK (List.mem_cons_self ..) 2
      have y3 := boxS_frozen HK (List.mem_cons_self ..) 3
      have HS := set_boxS3 (f := h) (set_boxS2 (u := .slice A4 r.length c4) HK)
      have G1 := Lib.hid g1; have G2 := Lib.hid g2; have G3 := Lib.hid g3
      clear g1 g2 g3
      go_wp2
      go_end0
      refine ⟨.slice A4 r.length c4, vr', rfl, ?_⟩
      rw [← G1.out, ← G2.out, ← G3.out]
      exact HS.sel 6 [0, 2, 1, 4]
end
end Go.Proofs.Ytebibcaahjmjfaa

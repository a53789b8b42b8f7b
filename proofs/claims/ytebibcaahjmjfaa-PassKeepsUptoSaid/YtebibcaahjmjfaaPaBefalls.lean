/- What befalls between two passes. -/
import Derived.Test.YtebibcaahjmjfaaPaEnds
import Derived.Deep.CutBlock
set_option linter.unusedVariables false
set_option linter.unusedSimpArgs false
namespace Go.Proofs.Ytebibcaahjmjfaa
open Go.RowKit Go.Proofs.HL Go.Proofs.HL.Pr Go.Proofs.HL.Pa
def boxT (b : Nat) (ticks : Int) (vE vC vG : Value) (turn : Int) : At := blk b (.cells #[.int .i64 ticks, vE, vC, vG, .int .i64 turn] 73)
def FiltTo (ws : List Wn) (held : Int) (G : List Int) (k : Nat) (r : List Wn) : Prop := r = (ws.take k).filter (spared held G)
theorem FiltTo.yes {ws : List Wn} {held : Int} {G : List Int} {k : Nat} {r : List Wn} (h : FiltTo ws held G k r) {x : Wn} (hx : ws[k]? = some x) (hs : spared held G x = true) : FiltTo ws held G (k + 1) (r ++ [x]) := by
  have e : ws.take (k + 1) = ws.take k ++ [x] := by rw [List.take_add_one, hx]; rfl
  unfold FiltTo at *
  rw [e, List.filter_append, List.filter_cons_of_pos hs, h]; rfl
theorem FiltTo.no {ws : List Wn} {held : Int} {G : List Int} {k : Nat} {r : List Wn} (h : FiltTo ws held G k r) {x : Wn} (hx : ws[k]? = some x) (hs : spared held G x = false) : FiltTo ws held G (k + 1) r := by
  have e : ws.take (k + 1) = ws.take k ++ [x] := by rw [List.take_add_one, hx]; rfl
  unfold FiltTo at *
  rw [e, List.filter_append, List.filter_cons_of_neg (by rw [hs]; exact Bool.false_ne_true), List.filter_nil, List.append_nil, h]
theorem FiltTo.few {ws : List Wn} {held : Int} {G : List Int} {k : Nat} {r : List Wn} (h : FiltTo ws held G k r) : r.length ≤ ws.length := by
  unfold FiltTo at h
  rw [h]
  exact Nat.le_trans (List.length_filter_le _ _) (by rw [List.length_take]; omega)
/-- The first k of a list turned round. -/
structure TurnTo (r : List Wn) (d k : Nat) (m : List Wn) : Prop where
  len : m.length = k
  at_ : ∀ j, j < k → m[j]? = r[(j + d) % r.length]?
theorem TurnTo.more {r : List Wn} {d k : Nat} {m : List Wn} (h : TurnTo r d k m) {x : Wn} (hx : r[(k + d) % r.length]? = some x) : TurnTo r d (k + 1) (m ++ [x]) := by
  refine ⟨by rw [List.length_append, h.len]; rfl, fun j hj => ?_⟩
  rcases Nat.lt_or_ge j k with h1 | h1
  · rw [List.getElem?_append_left (by rw [h.len]; exact h1)]; exact h.at_ j h1
  · obtain rfl : j = k := by omega
    rw [List.getElem?_append_right (by rw [h.len]; omega), h.len, Nat.sub_self, hx]; rfl
theorem set_wn3 (a b c : Int) : ∀ (m : List Wn) (k : Nat), k < m.length → (((m.flatMap encW).set (k * 3) (.int .i64 a)).set (k * 3 + 1) (.int .i64 b)).set (k * 3 + 2) (.int .i64 c) = (m.set k ⟨a, b, c⟩).flatMap encW
  | [], k, h => by simp at h
  | x :: m, 0, h => by simp [encW]
  | x :: m, k + 1, h => by
    have ih := set_wn3 a b c m k (by simpa using h)
    rw [List.set_cons_succ, List.flatMap_cons, List.flatMap_cons, ← ih]
    have e1 : (k + 1) * 3 = k * 3 + 3 := by omega
    rw [e1]
    simp [encW, List.set_append]
section
variable {w0 w : World} {L : List At} {b bT : Nat} {now free held ticks turn all : Int} {vw vr vE vC vG u : Value} {l : List Rn} {ws C : List Wn} {E G : List Int}
theorem boxT_mem (H : HL w0 w L) (hm : boxT bT ticks vE vC vG turn ∈ L) (i : Nat) : w.cell? ⟨bT, i, none⟩ = #[.int .i64 ticks, vE, vC, vG, .int .i64 turn][i]? := H.cellOf hm i
theorem HL.allocT (H : HL w0 w L) (ticks : Int) (vE vC vG : Value) (turn : Int) : HL w0 (w.alloc (.cells #[.int .i64 ticks, vE, vC, vG, .int .i64 turn] 73)) (boxT w.heap.size ticks vE vC vG turn :: L) := H.alloc _
/-- What befalls, and what lies there then. -/
def BefPost (w0 : World) (b : Nat) (now free held all : Int) (ws : List Wn) (l : List Rn) (L : List At) (w' : World) : Prop :=
  ∃ vw' vr' ws' f m, Less free l f m ∧ Befell all held ws ws' ∧ HL w0 w' (boxS b now f vw' held vr' :: wantsAt w0.heap.size vw' ws' :: runsAt w0.heap.size vr' m :: L)
theorem wantsAt_row {base n : Nat} {v : Value} {m : List Wn} (H : HL w0 w (wantsAt base v m :: L)) (hn : m.length = n) : HL w0 w (row base 60 3 v n (m.flatMap encW) :: L) := by subst hn; exact H
theorem row_wantsAt {base n : Nat} {v : Value} {m : List Wn} (H : HL w0 w (row base 60 3 v n (m.flatMap encW) :: L)) (hn : m.length = n) : HL w0 w (wantsAt base v m :: L) := by subst hn; exact H
set_option maxRecDepth 100000 in
set_option maxHeartbeats 8000000 in
theorem stBefalls_ok (H : HL w0 w (boxS b now free vw held vr :: wantsAt w0.heap.size vw ws :: runsAt w0.heap.size vr l :: L)) (hE : ∀ L, Ints w0 L vE E) (hC : ∀ L, Wants w0 L vC C) (hG : ∀ L, Ints w0 L vG G)
    (hn : ∀ r ∈ l, 1 ≤ r.nodes ∧ r.nodes ≤ 256) (h0 : 0 ≤ free) (h1 : free + sumN l ≤ 256) (hwl : ws.length ≤ 5864062014700) (hT1 : -9223372036854775808 ≤ turn ∧ turn ≤ 9223372036854775807) :
    Calls Try.prog 33 #[.pointer (some ⟨b, 0, none⟩), .agg #[.int .i64 ticks, vE, vC, vG, .int .i64 turn], .int .i64 all] w fun en w' => en = .returned (.tuple #[]) ∧ BefPost w0 b now free held all ws l L w' := by
  obtain ⟨A, c, rfl, -, hc1, hc2⟩ := row_shape (show w.ownsRow w0.heap.size 60 3 vw ws.length (ws.flatMap encW) from H.tail.head)
  obtain ⟨AE, cE, rfl, hcE1, hcE2⟩ := rd_shape (hE _ w H)
  obtain ⟨AC, cC, rfl, hcC1, hcC2⟩ := rd_shape (hC _ w H)
  obtain ⟨AG, cG, rfl, hcG1, hcG2⟩ := rd_shape (hG _ w H)
  unfold maxLen at hc2 hcE2 hcC2 hcG2
  have H1 := (HL.allocT H ticks (.slice AE E.length cE) (.slice AC C.length cC) (.slice AG G.length cG) turn).sel 4 [1, 3, 2, 0]
  generalize hbT : w.heap.size = bT at H1
  have Hn := Lib.hid hn; have HE := Lib.hid hE; have HC := Lib.hid hC; have HG := Lib.hid hG
  clear hn hE hC hG H
  go_enter Try.func33, Try.ntmps33
  go_upto_block 0 with (fail)
  go_cut [6] (fun s6 wc => ∃ (f : Int) (m : List Rn) (vr' : Value), Less free l f m ∧ HL w0 wc (boxS b now f (.slice A ws.length c) held vr' :: runsAt w0.heap.size vr' m :: wantsAt w0.heap.size (.slice A ws.length c) ws :: boxT bT ticks (.slice AE E.length cE) (.slice AC C.length cC) (.slice AG G.length cG) turn :: L))
  case first =>
   --<<
   go_wp2
   go_loopg [6] E.length (fun g i wr => ∃ (k : Nat) (f : Int) (m : List Rn) (vr' : Value), i = .int .i64 k ∧ k + g = E.length ∧ Less free l f m ∧ HL w0 wr (boxS b now f (.slice A ws.length c) held vr' :: runsAt w0.heap.size vr' m :: wantsAt w0.heap.size (.slice A ws.length c) ws :: boxT bT ticks (.slice AE E.length cE) (.slice AC C.length cC) (.slice AG G.length cG) turn :: L))
   case atStart => exact ⟨0, free, l, vr, rfl, by omega, Less.refl free l, H1⟩
   case round =>
     obtain ⟨k, f, m, vr', rfl, hk, hL, HK⟩ := hrel
     clear H1
     have hm : ∀ r ∈ m, 1 ≤ r.nodes ∧ r.nodes ≤ 256 := fun r hr => Hn.out r (hL.sub.subset hr)
     have hf : 0 ≤ f ∧ f + sumN m ≤ 256 := by
       have := hL.all
       have := sumN_sub hL.sub Hn.out
       omega
     obtain ⟨hf0, hf1⟩ := hf
     have t1 := boxT_mem (HK.sel 4 [3]) (List.mem_cons_self ..) 1
     by_cases hlt : k < E.length ∧ k < 20
     · obtain ⟨hlt, hlt2⟩ := hlt
       obtain ⟨x, hx⟩ : ∃ x, E[k]? = some x := ⟨_, List.getElem?_eq_getElem hlt⟩
       obtain ⟨b2, o, c', hv, d0⟩ := int_at (HE.out _ wr HK) hx
       simp only [Value.slice.injEq] at hv
       obtain ⟨rfl, -, rfl⟩ := hv
       have hends := stEnds_ok HK x hm hf0 hf1
       have HL1 := Lib.hid hL
       clear hx hm hL
       go_wp2_with (go_at_call 34; refine hends.mono ?_; rintro e1 w2 ⟨vr2, f2, m2, rfl, hE2, H2⟩; clear hends HK t1 d0)
       have HE2 := Lib.hid hE2
       clear hE2
       go_roundg (gk - 1)
       case measure => omega
       case rel => exact ⟨k + 1, f2, m2, vr2, by go_num, by omega, HL1.out.trans HE2.out.less, H2⟩
     · have hstop : (decide (k < E.length) = false) ∨ (k < E.length ∧ (decide ((k : Int) < 20)) = false) := by
         by_cases h : k < E.length
         · exact .inr ⟨h, decide_eq_false (by omega)⟩
         · exact .inl (decide_eq_false h)
       have HL1 := Lib.hid hL
       clear hlt hL hm
       rcases hstop with hs | ⟨hs1, hs⟩
       all_goals
         go_wp2
         go_meet
         case rel => exact ⟨f, m, vr', HL1.out, HK⟩
   -->>
  case rest =>
    obtain ⟨f, m, vr', hL, HK⟩ := hcut
    clear H1
    go_upto_block 2 with (fail)
    obtain ⟨hf0, hf1⟩ : 0 ≤ f ∧ f ≤ 256 := by
      have := hL.all
      have := sumN_sub hL.sub Hn.out
      have := sumN_nn (l := m) (fun r hr => Hn.out r (hL.sub.subset hr))
      omega
    have HB0 := (emptyWants HK).sel 4 [1, 0, 2, 3]
    have HL1 := Lib.hid hL
    clear hL HK
    go_wp2
    go_loopg [7, 8] ws.length (fun g v7 i wr => ∃ (k : Nat) (r : List Wn), i = .int .i64 k ∧ k + g = ws.length ∧ FiltTo ws held G k r ∧ HL w0 wr (boxS b now f (.slice A ws.length c) held vr' :: wantsAt w0.heap.size v7 r :: runsAt w0.heap.size vr' m :: wantsAt w0.heap.size (.slice A ws.length c) ws :: boxT bT ticks (.slice AE E.length cE) (.slice AC C.length cC) (.slice AG G.length cG) turn :: L))
    case atStart => exact ⟨0, [], rfl, by omega, by simp [FiltTo], HB0⟩
    case round =>
      obtain ⟨k, r, rfl, hk, hF, HK⟩ := hrel
      clear HB0
      have hr := hF.few
      have HF := Lib.hid hF
      clear hF
      obtain ⟨s0, s1, s2, s3, s4⟩ := boxS_cells HK
      have t3 := boxT_mem (HK.sel 5 [4]) (List.mem_cons_self ..) 3
      by_cases hlt : k < ws.length
      ·
        --<<
        obtain ⟨x, hx⟩ : ∃ x, ws[k]? = some x := ⟨_, List.getElem?_eq_getElem hlt⟩
        obtain ⟨b2, o, c', hv, d0, d1, d2⟩ := wn_at (rd_row (HK.sel 4 [3]).head) hx
        simp only [Value.slice.injEq] at hv
        obtain ⟨rfl, -, rfl⟩ := hv
        have Hx := Lib.hid hx; clear hx
        have hap : ∀ (W : World), HL w0 W (boxS b now f (.slice (some ⟨b2, o, none⟩) ws.length c) held vr' :: wantsAt w0.heap.size u7 r :: runsAt w0.heap.size vr' m :: wantsAt w0.heap.size (.slice (some ⟨b2, o, none⟩) ws.length c) ws :: boxT bT ticks (.slice AE E.length cE) (.slice AC C.length cC) (.slice AG G.length cG) turn :: L) → W.cell? ⟨b, 2, none⟩ = some (.slice (some ⟨b2, o, none⟩) ws.length c) ∧ W.cell? ⟨b2, o + k * 3, none⟩ = some (.int .i64 x.job) ∧ W.cell? ⟨b2, o + k * 3 + 1, none⟩ = some (.int .i64 x.nodes) ∧ W.cell? ⟨b2, o + k * 3 + 2, none⟩ = some (.int .i64 x.limit) := fun W HH => by
          obtain ⟨b3, o3, c3, hv, e0, e1, e2⟩ := wn_at (rd_row (HH.sel 4 [3]).head) Hx.out
          simp only [Value.slice.injEq, Option.some.injEq, Addr.mk.injEq] at hv
          obtain ⟨⟨rfl, rfl, -⟩, -, rfl⟩ := hv
          exact ⟨(boxS_cells HH).2.2.1, e0, e1, e2⟩
        have Hap := Lib.hid hap
        clear hap
        by_cases hj : x.job = held
        · have hj1 : (x.job == held) = true := by simp [hj]
          have hj2 : decide (x.job = held) = true := decide_eq_true hj
          have Hs := Lib.hid (show spared held G x = true by simp [spared, hj])
          clear hj
          go_wp2
          go_quiet (fail)
          have HK2 := HK.drewN nq
          clear s0 s1 s2 s3 s4 t3 d0 d1 d2 HK
          generalize wr.drewN nq = W2 at *
          obtain ⟨e0, e1, e2, e3⟩ := Hap.out W2 HK2
          have HA := (HK2.alloc' (.cells #[.int .i64 x.job, .int .i64 x.nodes, .int .i64 x.limit] 60)).sel 2 [1, 0]
          have hr4 := rd_wn (w := W2) (x := x)
          have hb : r.length + [x].length ≤ 5864062014805 := by simp only [List.length_cons, List.length_nil]; omega
          go_wp2_with (at_builtin; refine append_wants (v := u7) (xv := .slice (some ⟨W2.heap.size, 0, none⟩) 1 1) (xs := r) (ys := [x]) rfl _ _ rfl HA rfl rfl hr4 hb ?_; intro z5 w5 H5; clear HA HK2 hr4 hb e0 e1 e2 e3)
          go_roundg (gk - 1)
          case measure => omega
          case rel => exact ⟨k + 1, r ++ [x], by go_num, by omega, HF.out.yes Hx.out Hs.out, H5.sel 2 [1, 0]⟩
        · have hj1 : (x.job == held) = false := by simp [hj]
          have hj2 : decide (x.job = held) = false := decide_eq_false hj
          have hhas := fun W (HH : HL w0 W (boxS b now f (.slice (some ⟨b2, o, none⟩) ws.length c) held vr' :: wantsAt w0.heap.size u7 r :: runsAt w0.heap.size vr' m :: wantsAt w0.heap.size (.slice (some ⟨b2, o, none⟩) ws.length c) ws :: boxT bT ticks (.slice AE E.length cE) (.slice AC C.length cC) (.slice AG G.length cG) turn :: L)) => has_ok HH (HG.out _) x.job
          by_cases hin : x.job ∈ G
          · rw [decide_eq_true hin] at hhas
            have Hs := Lib.hid (show spared held G x = false by simp [spared, hj, hin])
            clear hj hin
            go_wp2
            refine wp_region_plan [(24, 1), (1, 1)] (by kernel_rfl) (by kernel_rfl) ⟨fun w' => ∃ k, w' = wr.drewN k, ⟨1, rfl⟩, ?_⟩
            simp only [List.take_succ_cons, List.take_zero, List.drop_succ_cons, List.drop_zero]
            repeat (go_big_quiet_step ((fail)))
            refine wpQuiet_nil ?_
            rintro _ ⟨nq, rfl⟩
            go_wp2_with (go_at_call 30; refine (hhas _ (HK.drewN nq)).mono ?_; rintro e1 w12 ⟨rfl, H12⟩; clear hhas HK s0 s1 s2 s3 s4 t3 d0 d1 d2)
            refine ⟨fun w' => ∃ k, w' = w12.drewN k, ⟨0, rfl⟩, ?_⟩
            simp only [List.take_succ_cons, List.take_zero, List.drop_succ_cons, List.drop_zero]
            repeat (go_big_quiet_step ((fail)))
            refine wpQuiet_nil ?_
            rintro _ ⟨nr, rfl⟩
            have H13 := H12.drewN nr
            clear H12
            generalize World.drewN w12 nr = W14 at *
            go_wp2
            unfold wpPlan
            go_wp2
            go_roundg (gk - 1)
            case measure => omega
            case rel => exact ⟨k + 1, r, by go_num, by omega, HF.out.no Hx.out Hs.out, H13⟩
          · rw [decide_eq_false hin] at hhas
            have Hs := Lib.hid (show spared held G x = true by simp [spared, hin])
            clear hj hin
            go_wp2
            refine wp_region_plan [(24, 1), (1, 1)] (by kernel_rfl) (by kernel_rfl) ⟨fun w' => ∃ k, w' = wr.drewN k, ⟨1, rfl⟩, ?_⟩
            simp only [List.take_succ_cons, List.take_zero, List.drop_succ_cons, List.drop_zero]
            repeat (go_big_quiet_step ((fail)))
            refine wpQuiet_nil ?_
            rintro _ ⟨nq, rfl⟩
            go_wp2_with (go_at_call 30; refine (hhas _ (HK.drewN nq)).mono ?_; rintro e1 w12 ⟨rfl, H12⟩; clear hhas HK s0 s1 s2 s3 s4 t3 d0 d1 d2)
            refine ⟨fun w' => ∃ k, w' = w12.drewN k, ⟨0, rfl⟩, ?_⟩
            simp only [List.take_succ_cons, List.take_zero, List.drop_succ_cons, List.drop_zero]
            repeat (go_big_quiet_step ((fail)))
            refine wpQuiet_nil ?_
            rintro _ ⟨nr, rfl⟩
            have HK2 := H12.drewN nr
            clear H12
            generalize World.drewN w12 nr = W2 at *
            obtain ⟨e0, e1, e2, e3⟩ := Hap.out W2 HK2
            have HA := (HK2.alloc' (.cells #[.int .i64 x.job, .int .i64 x.nodes, .int .i64 x.limit] 60)).sel 2 [1, 0]
            have hr4 := rd_wn (w := W2) (x := x)
            have hb : r.length + [x].length ≤ 5864062014805 := by simp only [List.length_cons, List.length_nil]; omega
            go_wp2
            unfold wpPlan
            go_wp2_with (at_builtin; refine append_wants (v := u7) (xv := .slice (some ⟨W2.heap.size, 0, none⟩) 1 1) (xs := r) (ys := [x]) rfl _ _ rfl HA rfl rfl hr4 hb ?_; intro z5 w5 H5; clear HA HK2 hr4 hb e0 e1 e2 e3)
            go_roundg (gk - 1)
            case measure => omega
            case rel => exact ⟨k + 1, r ++ [x], by go_num, by omega, HF.out.yes Hx.out Hs.out, H5.sel 2 [1, 0]⟩
        -->>
      · have hcm := came_start all held G ws
        have e : r = ws.filter (spared held G) := by have := HF.out; unfold FiltTo at this; rwa [List.take_of_length_le (by omega)] at this
        rw [← e] at hcm
        have HCM := Lib.hid hcm
        clear hcm e s0 s1 s3 s4 t3
        go_upto_block 4 with (fail)
        go_cut [7, 9] (fun s7 s9 wc => ∃ (n20 : Nat) (r2 : List Wn), Came all held ws r2 n20 ∧ n20 ≤ 20 ∧ HL w0 wc (boxS b now f (.slice A ws.length c) held vr' :: wantsAt w0.heap.size s7 r2 :: runsAt w0.heap.size vr' m :: wantsAt w0.heap.size (.slice A ws.length c) ws :: boxT bT ticks (.slice AE E.length cE) (.slice AC C.length cC) (.slice AG G.length cG) turn :: L))
        case first =>
          --<<
          go_wp2
          go_loopg [7, 9] C.length (fun g v7 i wr => ∃ (k : Nat) (r2 : List Wn), i = .int .i64 k ∧ k + g = C.length ∧ Came all held ws r2 k ∧ k ≤ 20 ∧ HL w0 wr (boxS b now f (.slice A ws.length c) held vr' :: wantsAt w0.heap.size v7 r2 :: runsAt w0.heap.size vr' m :: wantsAt w0.heap.size (.slice A ws.length c) ws :: boxT bT ticks (.slice AE E.length cE) (.slice AC C.length cC) (.slice AG G.length cG) turn :: L))
          case atStart => exact ⟨0, r, rfl, by omega, HCM.out, by omega, HK⟩
          case round =>
            clear s2 HK hr HF
            obtain ⟨k2, r2, rfl, hk2, hcm, hk20, HK⟩ := hrel
            have hr2 := hcm.few
            have HCM2 := Lib.hid hcm
            clear hcm
            have t2 := boxT_mem (HK.sel 5 [4]) (List.mem_cons_self ..) 2
            by_cases hlt2 : k2 < C.length ∧ k2 < 20
            · obtain ⟨hlt2, hlt3⟩ := hlt2
              obtain ⟨x, hx⟩ : ∃ x, C[k2]? = some x := ⟨_, List.getElem?_eq_getElem hlt2⟩
              obtain ⟨b2, o, c', hv, d0, d1, d2⟩ := wn_at (HC.out _ wr HK) hx
              simp only [Value.slice.injEq] at hv
              obtain ⟨rfl, -, rfl⟩ := hv
              clear hx
              have HX := HL.allocW HK x
              generalize hb6 : wr.heap.size = b6 at HX
              have hwant := want_ok HX (show Wants w0 _ u7 r2 from fun W HH => rd_row (HH.sel 3 [2]).head) x.job
              unfold wnV at hwant
              cases hq : wantL r2 x.job with
              | some y =>
                rw [hq] at hwant
                simp only [Option.getD_some, Option.isSome_some] at hwant
                go_wp2_with (go_at_call 29; refine hwant.mono ?_; rintro e1 w2 ⟨rfl, H3⟩; clear hwant d0 d1 d2 t2 HK HX; obtain ⟨q0, q1, q2⟩ := boxW_cells H3; have H4 := (HL.allocW H3 y).tail; obtain ⟨q3, q4, q5⟩ := boxW_cells H4)
                go_roundg (gk - 1)
                case measure => omega
                case rel => exact ⟨k2 + 1, r2, by go_num, by omega, HCM2.out.same, by omega, H4.tail⟩
              | none =>
                rw [hq] at hwant
                simp only [Option.getD_none, Option.isSome_none] at hwant
                have hno : x.job ∉ r2.map (·.job) := fun h => by
                  obtain ⟨y, hy, e⟩ := List.mem_map.1 h
                  have := (List.find?_eq_none.1 hq) y hy
                  simp [e] at this
                have Hno := Lib.hid hno
                clear hno
                by_cases hok : okWant all x = true
                · have hok2 := hok
                  simp only [okWant, Bool.and_eq_true, decide_eq_true_eq] at hok2
                  obtain ⟨⟨⟨⟨⟨o1, o2⟩, o3⟩, o4⟩, o5⟩, o6⟩ := hok2
                  have Hok := Lib.hid hok
                  clear hok
                  have hb : r2.length + [x].length ≤ 5864062014805 := by simp only [List.length_cons, List.length_nil]; omega
                  go_wp2_with (first
                    | (go_at_call 29; refine hwant.mono ?_; rintro e1 w2 ⟨rfl, H3⟩; clear hwant d0 d1 d2 t2 HK HX; obtain ⟨q0, q1, q2⟩ := boxW_cells H3; have H4 := (HL.allocW H3 ⟨0, 0, 0⟩).tail; obtain ⟨q3, q4, q5⟩ := boxW_cells H4; have HA := (H4.alloc' (.cells #[.int .i64 x.job, .int .i64 x.nodes, .int .i64 x.limit] 60)).sel 3 [2, 1]; have hr4 := rd_wn (w := w2.alloc (.cells #[.int .i64 0, .int .i64 0, .int .i64 0] 60)) (x := x); rw [World.size_alloc] at hr4)
                    | (at_builtin; refine append_wants (v := u7) (xv := .slice (some ⟨w2.heap.size + 1, 0, none⟩) 1 1) (xs := r2) (ys := [x]) rfl _ _ rfl HA rfl rfl hr4 hb ?_; intro z5 w5 H5; clear HA H3 H4 hr4 hb q0 q1 q2 q3 q4 q5))
                  go_roundg (gk - 1)
                  case measure => omega
                  case rel => exact ⟨k2 + 1, r2 ++ [x], by go_num, by omega, HCM2.out.more Hno.out Hok.out, by omega, H5.sel 2 [1, 0]⟩
                · have hcase : x.job < 0 ∨ (0 ≤ x.job ∧ x.nodes < 1) ∨ (0 ≤ x.job ∧ 1 ≤ x.nodes ∧ all < x.nodes) ∨ (0 ≤ x.job ∧ 1 ≤ x.nodes ∧ x.nodes ≤ all ∧ 256 < x.nodes) ∨ (0 ≤ x.job ∧ 1 ≤ x.nodes ∧ x.nodes ≤ all ∧ x.nodes ≤ 256 ∧ x.limit < 1) ∨ (0 ≤ x.job ∧ 1 ≤ x.nodes ∧ x.nodes ≤ all ∧ x.nodes ≤ 256 ∧ 1 ≤ x.limit ∧ 1048576 < x.limit) := by
                    simp only [okWant, Bool.and_eq_true, decide_eq_true_eq] at hok
                    omega
                  clear hok
                  rcases hcase with o1 | ⟨o1, o2⟩ | ⟨o1, o2, o3⟩ | ⟨o1, o2, o3, o4⟩ | ⟨o1, o2, o3, o4, o5⟩ | ⟨o1, o2, o3, o4, o5, o6⟩
                  all_goals
                    go_wp2_with (go_at_call 29; refine hwant.mono ?_; rintro e1 w2 ⟨rfl, H3⟩; clear hwant d0 d1 d2 t2 HK HX; obtain ⟨q0, q1, q2⟩ := boxW_cells H3; have H4 := (HL.allocW H3 ⟨0, 0, 0⟩).tail; obtain ⟨q3, q4, q5⟩ := boxW_cells H4)
                    go_roundg (gk - 1)
                    case measure => omega
                    case rel => exact ⟨k2 + 1, r2, by go_num, by omega, HCM2.out.same, by omega, H4.tail⟩
            · have hstop : (decide (k2 < C.length) = false) ∨ (k2 < C.length ∧ (decide ((k2 : Int) < 20)) = false) := by
                by_cases h : k2 < C.length
                · exact .inr ⟨h, decide_eq_false (by omega)⟩
                · exact .inl (decide_eq_false h)
              clear hlt2
              rcases hstop with hs | ⟨hs1, hs⟩
              all_goals
                go_wp2
                go_meet
                case rel => exact ⟨k2, r2, HCM2.out, hk20, HK⟩
          -->>
        case rest =>
          clear s2 HK HCM HF
          obtain ⟨n20, r2, hcm, hn20, HK⟩ := hcut
          obtain ⟨A7, c7, rfl, -, h71, h72⟩ := row_shape (show wc.ownsRow w0.heap.size 60 3 u7 r2.length (r2.flatMap encW) from (HK.sel 2 [1]).head)
          unfold maxLen at h72
          have hr2 := hcm.few
          have HCM := Lib.hid hcm
          clear hcm
          have HE0 := (emptyWants HK).sel 6 [1, 0, 2, 3, 5]
          have y2 := boxS_frozen HE0 (List.mem_cons_self ..) 2
          obtain ⟨s0, s1, s2, s3, s4⟩ := boxS_cells HE0
          have HS : HL w0 ((wc.alloc (.cells #[] 60)).setCell ⟨b, 2, none⟩ (.slice (some ⟨wc.heap.size, 0, none⟩) 0 0)) (boxS b now f (.slice (some ⟨wc.heap.size, 0, none⟩) 0 0) held vr' :: wantsAt w0.heap.size (.slice (some ⟨wc.heap.size, 0, none⟩) 0 0) [] :: wantsAt w0.heap.size (.slice A7 r2.length c7) r2 :: runsAt w0.heap.size vr' m :: boxT bT ticks (.slice AE E.length cE) (.slice AC C.length cC) (.slice AG G.length cG) turn :: L) := set_boxS2 (u := .slice (some ⟨wc.heap.size, 0, none⟩) 0 0) HE0
          clear HE0 HK
          obtain ⟨d, hd⟩ : ∃ d : Nat, d = if 0 < turn then (turn % (r2.length : Int)).toNat else 0 := ⟨_, rfl⟩
          have HD := Lib.hid hd
          clear hd
          go_upto_block 6 with (fail)
          clear y2 s0 s1 s2 s3 s4
          generalize wc.heap.size = g2 at *
          generalize World.setCell _ _ _ = W6 at *
          go_cut [14] (fun s14 wc => ∃ (m2 : List Wn) (vw2 : Value), m2.Perm r2 ∧ HL w0 wc (boxS b now f vw2 held vr' :: wantsAt w0.heap.size vw2 m2 :: wantsAt w0.heap.size (.slice A7 r2.length c7) r2 :: runsAt w0.heap.size vr' m :: boxT bT ticks (.slice AE E.length cE) (.slice AC C.length cC) (.slice AG G.length cG) turn :: L))
          case first =>
            go_wp2
            go_loopg [14] r2.length (fun g i wr => ∃ (k : Nat) (m2 : List Wn) (vw2 : Value), i = .int .i64 k ∧ k + g = r2.length ∧ TurnTo r2 d k m2 ∧ HL w0 wr (boxS b now f vw2 held vr' :: wantsAt w0.heap.size vw2 m2 :: wantsAt w0.heap.size (.slice A7 r2.length c7) r2 :: runsAt w0.heap.size vr' m :: boxT bT ticks (.slice AE E.length cE) (.slice AC C.length cC) (.slice AG G.length cG) turn :: L))
            case atStart => exact ⟨0, [], _, rfl, by omega, ⟨rfl, fun j h => by omega⟩, HS⟩
            case round =>
              obtain ⟨j, m2, vw2, rfl, hj, hT, HK⟩ := hrel
              clear HS
              have hm2 := hT.len
              have HT := Lib.hid hT
              clear hT
              by_cases hlj : j < r2.length
              · have t4 : wr.cell? ⟨bT, 4, none⟩ = some (.int .i64 turn) := boxT_mem (HK.sel 5 [4]) (List.mem_cons_self ..) 4
                go_upto_if 157 with (fail)
                go_cut [15] (fun s15 wc => s15 = .int .i64 (((j + d) % r2.length : Nat) : Int) ∧ wc = wr)
                case first =>
                  have hd := HD.out
                  by_cases ht : 0 < turn
                  · rw [if_pos ht] at hd
                    have hp := Int.emod_nonneg turn (show (r2.length : Int) ≠ 0 by omega)
                    have hp2 := Int.emod_lt_of_pos turn (show (0 : Int) < r2.length by omega)
                    have hx : ((j : Int) + turn % (r2.length : Int)) % (r2.length : Int) = (((j + d) % r2.length : Nat) : Int) := by
                      rw [hd]; push_cast; rw [Int.toNat_of_nonneg hp]
                    have HX := Lib.hid hx
                    clear hd hx
                    go_wp2
                    go_meet
                    case rel => exact ⟨by rw [HX.out], rfl⟩
                  · rw [if_neg ht] at hd
                    have hx : (j : Int) = (((j + d) % r2.length : Nat) : Int) := by
                      rw [hd, Nat.add_zero, Nat.mod_eq_of_lt hlj]
                    have HX := Lib.hid hx
                    clear hd hx
                    go_wp2
                    go_meet
                    case rel => exact ⟨by rw [← HX.out], rfl⟩
                case rest =>
                  obtain ⟨rfl, rfl⟩ := hcut
                  have hix : (j + d) % r2.length < r2.length := Nat.mod_lt _ (by omega)
                  generalize hxi : (j + d) % r2.length = xi at *
                  obtain ⟨x, hx⟩ : ∃ x, r2[xi]? = some x := ⟨_, List.getElem?_eq_getElem hix⟩
                  obtain ⟨B2, e2, rfl, -, hb1, hb2⟩ := row_shape (show wc.ownsRow w0.heap.size 60 3 vw2 m2.length (m2.flatMap encW) from HK.tail.head)
                  unfold maxLen at hb2
                  have HXI := Lib.hid hxi; have Hx := Lib.hid hx
                  clear hxi hx t4
                  have hm2b : m2.length < 5864062014800 := by omega
                  have HP := HK.drew.sel 2 [1, 0]
                  obtain ⟨-, -, k0, -, -⟩ := boxS_cells (HP.sel 2 [1, 0])
                  obtain ⟨b3, o3, c3, hv, d0, d1, d2⟩ := wn_at (rd_row (HP.sel 3 [2]).head) Hx.out
                  simp only [Value.slice.injEq] at hv
                  obtain ⟨rfl, -, rfl⟩ := hv
                  have H11 := HP.alloc' (.cells #[.int .i64 x.job, .int .i64 x.nodes, .int .i64 x.limit] 60)
                  obtain ⟨-, -, j0, -, -⟩ := boxS_cells (HK.alloc' (.cells #[.int .i64 x.job, .int .i64 x.nodes, .int .i64 x.limit] 60))
                  have HbT := Lib.hid hbT; have Hm2 := Lib.hid hm2; clear hbT hm2
                  --<<
                  go_wp2
                  go_region_law
                   ((refine step_append_hl (ys := #[]) sliceWn rfl _ _ rfl (v := .slice B2 m2.length e2) (xv := .slice (some ⟨wc.heap.size, 0, none⟩) 1 1) (n := m2.length) (m := 1) (xs := m2.flatMap encW) (news := [x].flatMap encW) H11 rfl rfl (rd_new (cs := [.int .i64 x.job, .int .i64 x.nodes, .int .i64 x.limit]) rfl rfl (by decide)) (one_encW _) (by unfold maxLen; omega) (by omega) ?_; intro v4 w6 H12; obtain ⟨A6, c6, rfl, -, -, -⟩ := row_shape H12.head;
                      have k6 := boxS_frozen H12 (List.mem_cons_of_mem _ (List.mem_cons_self ..)) 2;
                      have k7 := boxS_mem H12 (List.mem_cons_of_mem _ (List.mem_cons_self ..)) 2))
                  all_goals
                    have HS2 := set_boxS2 (u := .slice A6 (m2.length + 1) c6) (H12.sel 2 [1, 0])
                    go_wp2
                    go_roundg (gk - 1)
                    case measure => omega
                    case rel =>
                      refine ⟨j + 1, m2 ++ [x], .slice A6 (m2.length + 1) c6, by go_num, by omega, HT.out.more (by rw [HXI.out]; exact Hx.out), ?_⟩
                      unfold wantsAt
                      rw [List.length_append, List.flatMap_append]
                      exact HS2
                  -->>
              · go_wp2
                go_meet
                case rel =>
                  have e : j = r2.length := by omega
                  subst e
                  refine ⟨m2, vw2, ?_, HK⟩
                  rcases Nat.eq_zero_or_pos r2.length with h | h
                  · rw [List.eq_nil_of_length_eq_zero h, List.eq_nil_of_length_eq_zero (hm2.trans h)]
                  · refine turned_perm (d := d) hm2 ?_ HT.out.at_
                    rw [HD.out]
                    split
                    · have := Int.emod_lt_of_pos turn (show (0 : Int) < r2.length by omega)
                      have := Int.emod_nonneg turn (show (r2.length : Int) ≠ 0 by omega)
                      omega
                    · exact h
          case rest =>
            obtain ⟨m2, vw2, hp, HK⟩ := hcut
            clear HS
            have hml := hp.length_eq
            obtain ⟨B2, e2, rfl, hB2, hb1, hb2⟩ := row_shape (show wc.ownsRow w0.heap.size 60 3 vw2 m2.length (m2.flatMap encW) from HK.tail.head)
            unfold maxLen at hb2
            rw [hml] at HK hb1
            have t4 : wc.cell? ⟨bT, 4, none⟩ = some (.int .i64 turn) := boxT_mem (HK.sel 5 [4]) (List.mem_cons_self ..) 4
            by_cases ht : turn < 0
            · have Hml := Lib.hid hml; have Hp := Lib.hid hp
              clear hml hp
              go_wp2
              go_loopg [16] (r2.length / 2) (fun g i wr => ∃ (k : Nat) (m3 : List Wn), i = .int .i64 k ∧ k + g = r2.length / 2 ∧ m3.Perm r2 ∧ HL w0 wr (boxS b now f (.slice B2 r2.length e2) held vr' :: wantsAt w0.heap.size (.slice B2 r2.length e2) m3 :: wantsAt w0.heap.size (.slice A7 r2.length c7) r2 :: runsAt w0.heap.size vr' m :: boxT bT ticks (.slice AE E.length cE) (.slice AC C.length cC) (.slice AG G.length cG) turn :: L))
              case atStart => exact ⟨0, m2, rfl, by omega, Hp.out, HK⟩
              case round =>
                obtain ⟨j, m3, rfl, hj, hp3, HJ⟩ := hrel
                clear HK t4
                have hl3 := hp3.length_eq
                have HP3 := Lib.hid hp3
                clear hp3
                obtain ⟨s0, s1, s2, s3, s4⟩ := boxS_cells HJ
                by_cases hlj : j < r2.length / 2
                · obtain ⟨g3, rfl⟩ := hB2.resolve_left (by rw [Hml.out]; omega)
                  have hq2 : (j : Int) < (r2.length : Int) / 2 := by omega
                  obtain ⟨q, hq⟩ : ∃ q, q + 1 = r2.length := ⟨r2.length - 1, by omega⟩
                  obtain ⟨p, hp⟩ : ∃ p, p + j = q := ⟨q - j, by omega⟩
                  obtain ⟨x, hx⟩ : ∃ x, m3[j]? = some x := ⟨_, List.getElem?_eq_getElem (by omega)⟩
                  obtain ⟨y, hy⟩ : ∃ y, m3[p]? = some y := ⟨_, List.getElem?_eq_getElem (by omega)⟩
                  have hjn : j < r2.length := by omega
                  have hpn : p < r2.length := by omega
                  have hw1 : IntKind.i64.wrap ((r2.length : Int) - 1) = (q : Int) := by rw [IntWalk.i64_in _ (by omega)]; omega
                  have hw2 : IntKind.i64.wrap ((q : Int) - (j : Int)) = (p : Int) := by rw [IntWalk.i64_in _ (by omega)]; omega
                  have Hq := Lib.hid hq; have Hpq := Lib.hid hp; have Hl3 := Lib.hid hl3; have Hx := Lib.hid hx; have Hy := Lib.hid hy; have HW1 := Lib.hid hw1; have HW2 := Lib.hid hw2
                  have HR := wantsAt_row (HJ.sel 2 [1, 0]) hl3
                  clear hq hp hl3 hx hy hw1 hw2 HJ s0 s1 s3 s4
                  have d0 : wr.cell? ⟨g3, j * 3, none⟩ = some (.int .i64 x.job) := HR.rowCell (List.mem_cons_self ..) _ _ (by rw [show j * 3 = j * 3 + 0 by omega, flat_at encW 3 (fun _ => rfl) m3 j 0 _ Hx.out (by decide)]; rfl)
                  have d1 : wr.cell? ⟨g3, j * 3 + 1, none⟩ = some (.int .i64 x.nodes) := HR.rowCell (List.mem_cons_self ..) _ _ (by rw [flat_at encW 3 (fun _ => rfl) m3 j 1 _ Hx.out (by decide)]; rfl)
                  have d2 : wr.cell? ⟨g3, j * 3 + 2, none⟩ = some (.int .i64 x.limit) := HR.rowCell (List.mem_cons_self ..) _ _ (by rw [flat_at encW 3 (fun _ => rfl) m3 j 2 _ Hx.out (by decide)]; rfl)
                  have HX := (HL.allocW HR x).sel 3 [1, 2, 0]
                  generalize hb6 : wr.heap.size = b6 at HX
                  replace HX : HL w0 (wr.alloc (.cells #[.int .i64 x.job, .int .i64 x.nodes, .int .i64 x.limit] 60)) (row w0.heap.size 60 3 (.slice (some ⟨g3, 0, none⟩) r2.length e2) r2.length (m3.flatMap encW) :: boxS b now f (.slice (some ⟨g3, 0, none⟩) r2.length e2) held vr' :: boxW b6 x :: wantsAt w0.heap.size (.slice A7 r2.length c7) r2 :: runsAt w0.heap.size vr' m :: boxT bT ticks (.slice AE E.length cE) (.slice AC C.length cC) (.slice AG G.length cG) turn :: L) := HX
                  go_wp2
                  clear d0 d1 d2 s2
                  have Hb6 := Lib.hid hb6; clear hb6
                  generalize wr.alloc _ = W1 at *
                  have s2 := boxS_mem (HX.sel 2 [1, 0]) (List.mem_cons_self ..) 2
                  have d0 : W1.cell? ⟨g3, p * 3, none⟩ = some (.int .i64 y.job) := HX.rowCell (List.mem_cons_self ..) _ _ (by rw [show p * 3 = p * 3 + 0 by omega, flat_at encW 3 (fun _ => rfl) m3 p 0 _ Hy.out (by decide)]; rfl)
                  have d1 : W1.cell? ⟨g3, p * 3 + 1, none⟩ = some (.int .i64 y.nodes) := HX.rowCell (List.mem_cons_self ..) _ _ (by rw [flat_at encW 3 (fun _ => rfl) m3 p 1 _ Hy.out (by decide)]; rfl)
                  have d2 : W1.cell? ⟨g3, p * 3 + 2, none⟩ = some (.int .i64 y.limit) := HX.rowCell (List.mem_cons_self ..) _ _ (by rw [flat_at encW 3 (fun _ => rfl) m3 p 2 _ Hy.out (by decide)]; rfl)
                  have hw1 := HW1.out; have hw2 := HW2.out
                  refine wp_region_cut 15 (by kernel_rfl) (by kernel_rfl) ?_
                  simp only [List.take_succ_cons, List.take_zero, List.drop_succ_cons, List.drop_zero]
                  repeat (go_big_quiet_step ((fail)))
                  refine wpQuiet_nil ?_
                  intro nq
                  have HN := HX.drewN nq
                  clear s2 d0 d1 d2 HX
                  generalize W1.drewN nq = W2 at *
                  have f0 := HN.rowFrozen (List.mem_cons_self ..) (j * 3)
                  have f1 := HN.rowFrozen (List.mem_cons_self ..) (j * 3 + 1)
                  have f2 := HN.rowFrozen (List.mem_cons_self ..) (j * 3 + 2)
                  have d0 : W2.cell? ⟨g3, j * 3, none⟩ = some (.int .i64 x.job) := HN.rowCell (List.mem_cons_self ..) _ _ (by rw [show j * 3 = j * 3 + 0 by omega, flat_at encW 3 (fun _ => rfl) m3 j 0 _ Hx.out (by decide)]; rfl)
                  have d1 : W2.cell? ⟨g3, j * 3 + 1, none⟩ = some (.int .i64 x.nodes) := HN.rowCell (List.mem_cons_self ..) _ _ (by rw [flat_at encW 3 (fun _ => rfl) m3 j 1 _ Hx.out (by decide)]; rfl)
                  have d2 : W2.cell? ⟨g3, j * 3 + 2, none⟩ = some (.int .i64 x.limit) := HN.rowCell (List.mem_cons_self ..) _ _ (by rw [flat_at encW 3 (fun _ => rfl) m3 j 2 _ Hx.out (by decide)]; rfl)
                  have HS : HL w0 (((W2.setCell ⟨g3, j * 3, none⟩ (.int .i64 y.job)).setCell ⟨g3, j * 3 + 1, none⟩ (.int .i64 y.nodes)).setCell ⟨g3, j * 3 + 2, none⟩ (.int .i64 y.limit)) (row w0.heap.size 60 3 (.slice (some ⟨g3, 0, none⟩) r2.length e2) r2.length ((m3.set j y).flatMap encW) :: boxS b now f (.slice (some ⟨g3, 0, none⟩) r2.length e2) held vr' :: boxW b6 x :: wantsAt w0.heap.size (.slice A7 r2.length c7) r2 :: runsAt w0.heap.size vr' m :: boxT bT ticks (.slice AE E.length cE) (.slice AC C.length cC) (.slice AG G.length cG) turn :: L) := by
                    have HS := ((HN.setRow (j * 3) (.int .i64 y.job)).setRow (j * 3 + 1) (.int .i64 y.nodes)).setRow (j * 3 + 2) (.int .i64 y.limit)
                    rwa [set_wn3 y.job y.nodes y.limit m3 j (by rw [Hl3.out]; exact hjn)] at HS
                  clear HN hw1 hw2
                  go_wp2
                  clear f0 f1 f2 d0 d1 d2
                  generalize World.setCell _ _ _ = W3 at *
                  have s2 := boxS_mem (HS.sel 2 [1, 0]) (List.mem_cons_self ..) 2
                  obtain ⟨q0, q1, q2⟩ := boxW_cells (HS.sel 3 [2, 0, 1])
                  have hw1 := HW1.out; have hw2 := HW2.out
                  refine wp_region_cut 9 (by kernel_rfl) (by kernel_rfl) ?_
                  simp only [List.take_succ_cons, List.take_zero, List.drop_succ_cons, List.drop_zero]
                  repeat (go_big_quiet_step ((fail)))
                  refine wpQuiet_nil ?_
                  intro nr
                  have HN := HS.drewN nr
                  clear s2 q0 q1 q2 HS hw1 hw2
                  generalize W3.drewN nr = W4 at *
                  obtain ⟨z, hz⟩ : ∃ z, (m3.set j y)[p]? = some z := ⟨_, List.getElem?_eq_getElem (by rw [List.length_set, Hl3.out]; exact hpn)⟩
                  have Hz := Lib.hid hz; clear hz
                  have f0 := HN.rowFrozen (List.mem_cons_self ..) (p * 3)
                  have f1 := HN.rowFrozen (List.mem_cons_self ..) (p * 3 + 1)
                  have f2 := HN.rowFrozen (List.mem_cons_self ..) (p * 3 + 2)
                  have d0 : W4.cell? ⟨g3, p * 3, none⟩ = some (.int .i64 z.job) := HN.rowCell (List.mem_cons_self ..) _ _ (by rw [show p * 3 = p * 3 + 0 by omega, flat_at encW 3 (fun _ => rfl) (m3.set j y) p 0 _ Hz.out (by decide)]; rfl)
                  have d1 : W4.cell? ⟨g3, p * 3 + 1, none⟩ = some (.int .i64 z.nodes) := HN.rowCell (List.mem_cons_self ..) _ _ (by rw [flat_at encW 3 (fun _ => rfl) (m3.set j y) p 1 _ Hz.out (by decide)]; rfl)
                  have d2 : W4.cell? ⟨g3, p * 3 + 2, none⟩ = some (.int .i64 z.limit) := HN.rowCell (List.mem_cons_self ..) _ _ (by rw [flat_at encW 3 (fun _ => rfl) (m3.set j y) p 2 _ Hz.out (by decide)]; rfl)
                  have HS : HL w0 (((W4.setCell ⟨g3, p * 3, none⟩ (.int .i64 x.job)).setCell ⟨g3, p * 3 + 1, none⟩ (.int .i64 x.nodes)).setCell ⟨g3, p * 3 + 2, none⟩ (.int .i64 x.limit)) (row w0.heap.size 60 3 (.slice (some ⟨g3, 0, none⟩) r2.length e2) r2.length (((m3.set j y).set p x).flatMap encW) :: boxS b now f (.slice (some ⟨g3, 0, none⟩) r2.length e2) held vr' :: boxW b6 x :: wantsAt w0.heap.size (.slice A7 r2.length c7) r2 :: runsAt w0.heap.size vr' m :: boxT bT ticks (.slice AE E.length cE) (.slice AC C.length cC) (.slice AG G.length cG) turn :: L) := by
                    have HS := ((HN.setRow (p * 3) (.int .i64 x.job)).setRow (p * 3 + 1) (.int .i64 x.nodes)).setRow (p * 3 + 2) (.int .i64 x.limit)
                    rwa [set_wn3 x.job x.nodes x.limit (m3.set j y) p (by rw [List.length_set, Hl3.out]; exact hpn)] at HS
                  clear HN
                  go_wp2
                  clear f0 f1 f2 d0 d1 d2
                  go_roundg (gk - 1)
                  case measure => omega
                  case rel =>
                    refine ⟨j + 1, (m3.set j y).set p x, by go_num, by omega, swap_perm HP3.out Hx.out Hy.out, ?_⟩
                    have e : ((m3.set j y).set p x).length = r2.length := by rw [List.length_set, List.length_set, Hl3.out]
                    exact (row_wantsAt HS e).sel 3 [1, 0]
                · have hq : decide ((j : Int) < (r2.length : Int) / 2) = false := decide_eq_false (by omega)
                  have Hl3 := Lib.hid hl3; clear hl3
                  go_wp2
                  go_end0
                  exact ⟨rfl, .slice B2 r2.length e2, vr', m3, f, m, HL1.out, HCM.out.befell hn20 HP3.out, HJ.sel 5 [0, 1, 3]⟩
            · have Hml := Lib.hid hml
              clear hml
              go_wp2
              go_end0
              refine ⟨rfl, .slice B2 r2.length e2, vr', m2, f, m, HL1.out, HCM.out.befell hn20 hp, ?_⟩
              exact HK.sel 5 [0, 1, 3]
end
end Go.Proofs.Ytebibcaahjmjfaa

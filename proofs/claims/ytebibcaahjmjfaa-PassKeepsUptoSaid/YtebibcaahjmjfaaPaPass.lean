/- A pass: what it answers. -/
import Derived.Test.YtebibcaahjmjfaaPaPlan
import Derived.Test.YtebibcaahjmjfaaPaFill
import Derived.Test.YtebibcaahjmjfaaPrShown
import Derived.Deep.RegionHeld3
set_option linter.unusedVariables false
set_option linter.unusedSimpArgs false
namespace Go.Proofs.Ytebibcaahjmjfaa
open Go.RowKit Go.Proofs.HL Go.Proofs.HL.Pr Go.Proofs.HL.Pa
section
variable {w0 w : World} {L : List At} {v u : Value} {ws : List Wn} {l : List Rn}
theorem okW_may {now free holder : Int} (hm : mayB now free ws holder l = true) : ∀ x ∈ ws, okW x := fun x hx => by
  have := (mayB_iff.1 hm).2.2.1 x hx
  exact ⟨this.1, this.2.1, this.2.2.1, this.2.2.2.2.1, this.2.2.2.2.2⟩
def planV (u : Value) (s : RS) : Value := .agg #[u, .int .i64 s.holder, .int .i64 s.shadow, .int .i64 s.extra]
set_option maxRecDepth 100000 in
set_option maxHeartbeats 8000000 in
theorem pass_no (H : HL w0 w L) (hW : Wants w0 L v ws) (hr : Runs w0 L u l) (hl : l.length ≤ 8796093021952) (now free holder : Int) (hm : mayB now free ws holder l = false) :
    Calls Try.prog 28 #[.int .i64 now, .int .i64 free, v, .int .i64 holder, u] w fun e w' => e = .returned (.tuple #[planV (.slice none 0 0) ⟨0, 0, [], [], 0, 0, 0⟩, .int .i64 150]) ∧ HL w0 w' L := by
  have H1 := H.alloc (.cells #[.slice none 0 0, .int .i64 0, .int .i64 0, .int .i64 0] 50)
  have hmay := may_ok H1 (hW.cons _) (hr.cons _) (by omega) now free holder
  rw [hm] at hmay
  go_enter Try.func28, Try.ntmps28
  go_wp2_with (go_at_call 52; refine hmay.mono ?_; rintro e w1 ⟨rfl, H2⟩; clear hmay H1; have c0 := H2.cell 0; have c1 := H2.cell 1; have c2 := H2.cell 2; have c3 := H2.cell 3; have f0 := H2.frozen 0; have f1 := H2.frozen 1; have f2 := H2.frozen 2; have f3 := H2.frozen 3)
  have HS := (((H2.setCell 0 (.slice none 0 0)).setCell 1 (.int .i64 0)).setCell 2 (.int .i64 0)).setCell 3 (.int .i64 0)
  clear c0 c1 c2 c3 f0 f1 f2 f3 H2
  generalize World.setCell _ _ _ = W at *
  have c0 : W.cell? ⟨w.heap.size, 0, none⟩ = some (.slice none 0 0) := HS.cell 0
  have c1 : W.cell? ⟨w.heap.size, 1, none⟩ = some (.int .i64 0) := HS.cell 1
  have c2 : W.cell? ⟨w.heap.size, 2, none⟩ = some (.int .i64 0) := HS.cell 2
  have c3 : W.cell? ⟨w.heap.size, 3, none⟩ = some (.int .i64 0) := HS.cell 3
  (try simp only [Exit.inBlock, Exit.then]); refine bodyPost_ret (by simp [results, Try.results28, go_sem, c0, c1, c2, c3]; try rfl) rfl ?_
  exact ⟨rfl, HS.tail⟩

set_option maxRecDepth 100000 in
set_option maxHeartbeats 8000000 in
theorem pass_ok (H : HL w0 w L) (hW : Wants w0 L v ws) (hr : Runs w0 L u l) (hl : l.length ≤ 8796093021952) (now free holder : Int) (hm : mayB now free ws holder l = true) :
    Calls Try.prog 28 #[.int .i64 now, .int .i64 free, v, .int .i64 holder, u] w fun e w' => ∃ u', e = .returned (.tuple #[planV u' (passC now free ws holder l), .int .i64 0]) ∧ HL w0 w' (intsR w0.heap.size u' (passD now free ws holder l).starts :: L) := by
  obtain ⟨A, c, rfl, hc1, hc2⟩ := rd_shape (hW w H)
  obtain ⟨B, d, rfl, hd1, hd2⟩ := rd_shape (hr w H)
  unfold maxLen at hc2 hd2
  have hmm := @run_makeMap Try.prog
  have H1 := H.alloc (.cells #[.slice none 0 0, .int .i64 0, .int .i64 0, .int .i64 0] 50)
  have hmay := may_ok H1 (hW.cons _) (hr.cons _) (by omega) now free holder
  rw [hm] at hmay
  have hok := okW_may hm
  obtain ⟨⟨n0, n1, f0, f1⟩, -, -, hnd, hho⟩ := mayB_iff.1 hm
  have Hnd := Lib.hid hnd
  have Hho := Lib.hid hho
  clear hm hnd hho
  generalize hb1 : w.heap.size = b1 at *
  go_enter Try.func28, Try.ntmps28
  go_wp2_with (first
    | (go_at_call 52; refine hmay.mono ?_; rintro e w1 ⟨rfl, H2⟩; clear hmay H1;
        have H3 := (((H2.alloc (.map #[] 0)).shutMap IntMap.empty).alloc (.cells #[.int .i64 now, .int .i64 free, .slice none 0 0, .map (some w1.heap.size), .slice none 0 0, .int .i64 holder, .int .i64 0, .int .i64 0] 95));
        rw [World.size_alloc] at H3;
        have k0 := H3.cell 2;
        have H5 := (((H3.nilRow w0.heap.size 3 1).nilRow w0.heap.size 42 2).sel 4 [0, 2, 1, 3]);
        have hr5 := hr _ (H5.sel 5 []))
    | (at_builtin; refine append_runs (v := .slice none 0 0) (xv := .slice B l.length d) (xs := []) (ys := l) rfl _ _ rfl H5 rfl rfl hr5 (by simp; omega) ?_; intro z w5 H6; clear H5 hr5; rw [List.nil_append] at H6; obtain ⟨A6, c6, rfl, -, -, -⟩ := row_shape H6.head; have k6 : w5.cell? ⟨w1.heap.size + 1, 2, none⟩ = some (.slice none 0 0) := H6.swap.cell 2; have k7 : w5.frozen? ⟨w1.heap.size + 1, 2, none⟩ = false := H6.swap.frozen 2; have H7 := H6.swap.setCell 2 (.slice A6 l.length c6)))
  clear k0 k6 k7
  have H8 : HL w0 _ (rndL w0 (w1.heap.size + 1) w1.heap.size (rs0 now free holder l) (.slice A6 l.length c6) (.slice none 0 0) (blk b1 (.cells #[.slice none 0 0, .int .i64 0, .int .i64 0, .int .i64 0] 50) :: L)) := H7.sel 4 [0, 2, 3, 1]
  clear H2 H3 H6 H7
  generalize World.setCell _ _ _ = W8 at *
  generalize w1.heap.size + 1 = p at *
  generalize w1.heap.size = mb at *
  have hW1 : Wants w0 (blk b1 (.cells #[.slice none 0 0, .int .i64 0, .int .i64 0, .int .i64 0] 50) :: L) (.slice A ws.length c) ws := hW.cons _
  have hN : l.length ≤ 8796093021952 := hl
  have G0 : Good l.length (rs0 now free holder l) := ⟨f0, by show free + (([] : List Int).length : Nat) ≤ 256; simpa using f1, by simp [rs0], n0, n1, by show (0 : Int) ≤ 0; omega, by show (0 : Int) ≤ _; omega⟩
  generalize hLB : blk b1 (.cells #[.slice none 0 0, .int .i64 0, .int .i64 0, .int .i64 0] 50) :: L = LB at *
  generalize Value.slice none 0 0 = us0 at *
  generalize Value.slice A6 l.length c6 = ur0 at *
  go_loopg [42, 13] ws.length (fun g i nd wr => ∃ (k : Nat) (s' : RS) (ur' us' : Value) (need : Int), i = .int .i64 k ∧ nd = .int .i64 need ∧ k + g = ws.length ∧ Good l.length s' ∧ (ws.take k).foldl (holdStep holder) (rs0 now free holder l, 0) = (s', need) ∧ HL w0 wr (rndL w0 p mb s' ur' us' LB))
  case atStart => exact ⟨0, _, ur0, us0, 0, rfl, rfl, by omega, G0, rfl, H8⟩
  case round =>
    obtain ⟨k, s', ur', us', need, rfl, rfl, hk, G', hR, HK⟩ := hrel
    clear H8
    by_cases hlt : k < ws.length
    · obtain ⟨x, hx⟩ : ∃ x, ws[k]? = some x := ⟨_, List.getElem?_eq_getElem hlt⟩
      obtain ⟨b, o, c', hv, d0, d1, d2⟩ := wn_at (hW1 wr HK.tail.tail.tail.tail) hx
      simp only [Value.slice.injEq] at hv
      obtain ⟨rfl, -, rfl⟩ := hv
      have hst := foldl_take_succ (holdStep holder) (rs0 now free holder l, 0) ws hx
      rw [hR] at hst
      have Hst := Lib.hid hst; have Hx := Lib.hid hx
      have okx := Lib.hid (hok x (List.mem_of_getElem? hx))
      clear hst hx
      have HS := (HK.alloc (.cells #[.int .i64 x.job, .int .i64 x.nodes, .int .i64 x.limit] 60)).sel 5 [1, 2, 3, 4, 0]
      clear HK
      generalize hW5 : wr.alloc (.cells #[.int .i64 x.job, .int .i64 x.nodes, .int .i64 x.limit] 60) = W at *
      generalize hb5 : wr.heap.size = b5 at *
      replace HS : HL w0 W (rndL w0 p mb s' ur' us' (blk b5 (.cells #[.int .i64 x.job, .int .i64 x.nodes, .int .i64 x.limit] 60) :: LB)) := HS
      have e0 : W.cell? ⟨b5, 0, none⟩ = some (.int .i64 x.job) := (HS.cellOf (b := b5) (vs := #[.int .i64 x.job, .int .i64 x.nodes, .int .i64 x.limit]) (E := 60) (fz := (0, 0)) (by simp [rndL]) 0); have e1 : W.cell? ⟨b5, 1, none⟩ = some (.int .i64 x.nodes) := (HS.cellOf (b := b5) (vs := #[.int .i64 x.job, .int .i64 x.nodes, .int .i64 x.limit]) (E := 60) (fz := (0, 0)) (by simp [rndL]) 1); have e2 : W.cell? ⟨b5, 2, none⟩ = some (.int .i64 x.limit) := (HS.cellOf (b := b5) (vs := #[.int .i64 x.job, .int .i64 x.nodes, .int .i64 x.limit]) (E := 60) (fz := (0, 0)) (by simp [rndL]) 2)
      by_cases hj : x.job = holder
      · have hno : holder ∉ (ws.take k).map (·.job) := fun h => dup_no Hx.out (hj.symm ▸ h) Hnd.out
        rw [hold_nil _ _ hno] at hR
        simp only [Prod.mk.injEq] at hR
        obtain ⟨rfl, rfl⟩ := hR
        have hb1 : (x.job == holder) = true := by simp [hj]
        have hb2 : decide (x.job = holder) = true := decide_eq_true hj
        have hlets := lets_ok HS (List.mem_cons_self ..) x
        have Hj := Lib.hid hj; clear hj
        by_cases hf : x.nodes ≤ (rs0 now free holder l).free
        · have Hnx := Lib.hid (show holdStep holder (rs0 now free holder l, 0) x = ({ startP (rs0 now free holder l) x with holder := -1 }, x.nodes) by unfold holdStep; rw [if_neg (fun h => h Hj.out), if_pos hf])
          rw [decide_eq_true hf] at hlets
          have Hf := Lib.hid hf; clear hf
          subst hb5; subst hW5
          go_wp2_with (first
            | (go_at_call 53; generalize wr.heap.size = b5 at *; refine hlets.mono ?_; rintro e w7 ⟨rfl, H7⟩; clear hlets HS; have q0 : w7.cell? ⟨b5, 0, none⟩ = some (.int .i64 x.job) := (H7.cellOf (b := b5) (vs := #[.int .i64 x.job, .int .i64 x.nodes, .int .i64 x.limit]) (E := 60) (fz := (0, 0)) (by simp [rndL]) 0); have q1 : w7.cell? ⟨b5, 1, none⟩ = some (.int .i64 x.nodes) := (H7.cellOf (b := b5) (vs := #[.int .i64 x.job, .int .i64 x.nodes, .int .i64 x.limit]) (E := 60) (fz := (0, 0)) (by simp [rndL]) 1); have q2 : w7.cell? ⟨b5, 2, none⟩ = some (.int .i64 x.limit) := (H7.cellOf (b := b5) (vs := #[.int .i64 x.job, .int .i64 x.nodes, .int .i64 x.limit]) (E := 60) (fz := (0, 0)) (by simp [rndL]) 2))
            | (go_at_call 54; refine (start_good G' hN H7 okx.out Hf.out (by simp [rs0])).mono ?_; rintro e w8 ⟨ur8, us8, rfl, G8, H8⟩; clear H7 q0 q1 q2; have g5 : w8.cell? ⟨p, 5, none⟩ = some (.int .i64 holder) := rnd_cell H8 (List.mem_cons_self ..) 5; have g6 : w8.frozen? ⟨p, 5, none⟩ = false := rnd_frozen H8 (List.mem_cons_self ..) 5; have H9 := HL.setCell H8 5 (.int .i64 (-1))))
          go_roundg (gk - 1)
          case measure => omega
          case rel => exact ⟨k + 1, { startP (rs0 now free holder l) x with holder := -1 }, ur8, us8, x.nodes, by go_num, rfl, by omega, ⟨G8.free0, G8.cap, G8.len, G8.now0, G8.now1, G8.ex0, G8.ex1⟩, by rw [Hst.out, Hnx.out], H9.sel 5 [0, 1, 2, 3]⟩
        · have Hnx := Lib.hid (show holdStep holder (rs0 now free holder l, 0) x = (rs0 now free holder l, x.nodes) by unfold holdStep; rw [if_neg (fun h => h Hj.out), if_neg hf])
          rw [decide_eq_false hf] at hlets
          clear hf
          subst hb5; subst hW5
          go_wp2_with (first
            | (go_at_call 53; generalize wr.heap.size = b5 at *; refine hlets.mono ?_; rintro e w7 ⟨rfl, H7⟩; clear hlets HS))
          go_roundg (gk - 1)
          case measure => omega
          case rel => exact ⟨k + 1, rs0 now free holder l, ur', us', x.nodes, by go_num, rfl, by omega, G', by rw [Hst.out, Hnx.out], H7.sel 5 [0, 1, 2, 3]⟩
      · have Hnx := Lib.hid (show holdStep holder (s', need) x = (s', need) by unfold holdStep; rw [if_pos hj])
        have hb1 : (x.job == holder) = false := by simp [hj]
        have hb2 : decide (x.job = holder) = false := decide_eq_false hj
        clear hj
        subst hb5; subst hW5
        go_wp2
        go_roundg (gk - 1)
        case measure => omega
        case rel => exact ⟨k + 1, s', ur', us', need, by go_num, rfl, by omega, G', by rw [Hst.out, Hnx.out], HS.sel 5 [0, 1, 2, 3]⟩
    · obtain rfl : k = ws.length := by omega
      rw [List.take_length] at hR
      have hA : passA now free ws holder l = (s', need) := hR
      clear hR hlt
      have c5 : wr.cell? ⟨p, 5, none⟩ = some (.int .i64 s'.holder) := rnd_cell HK (List.mem_cons_self ..) 5
      go_upto_if 67 with (fail)
      go_cut [13] (fun s13 wc => ∃ ur2 us2, s13 = .int .i64 (passB now free ws holder l).2 ∧ Good l.length (passB now free ws holder l).1 ∧ HL w0 wc (rndL w0 p mb (passB now free ws holder l).1 ur2 us2 LB))
      case first =>
        by_cases hh : s'.holder = -1
        · have hB := Lib.hid (show passB now free ws holder l = rankedP s' ws by unfold passB; rw [hA, if_pos hh])
          have hrk := ranked_ok G' hN HK hW1 hok
          have hb1 : (s'.holder == -1) = true := by simp [hh]
          have hb2 : decide (s'.holder = -1) = true := decide_eq_true hh
          clear hh
          go_wp2_with (go_at_call 55; refine hrk.mono ?_; rintro e w9 ⟨ur9, us9, rfl, G9, H9⟩; clear hrk)
          go_meet
          case rel =>
            rw [hB.out]
            exact ⟨ur9, us9, rfl, G9, H9⟩
        · have hB := Lib.hid (show passB now free ws holder l = (s', need) by unfold passB; rw [hA, if_neg hh])
          have hb1 : (s'.holder == -1) = false := by simp [hh]
          have hb2 : decide (s'.holder = -1) = false := decide_eq_false hh
          clear hh
          go_wp2
          go_meet
          case rel =>
            rw [hB.out]
            exact ⟨ur', us', rfl, G', HK⟩
      case rest =>
        obtain ⟨ur2, us2, rfl, G2, H2⟩ := hcut
        clear HK c5 hA G' G0
        generalize hB : passB now free ws holder l = P2 at *
        obtain ⟨s2, need2⟩ := P2
        have HB := Lib.hid hB
        clear hB
        dsimp only at G2 H2
        have c5 : wc.cell? ⟨p, 5, none⟩ = some (.int .i64 s2.holder) := rnd_cell H2 (List.mem_cons_self ..) 5
        go_upto_if 75 with (fail)
        go_cut [13] (fun s13 wd => ∃ ur3 us3, s13 = .int .i64 need2 ∧ Good l.length (pinS now (s2, need2)) ∧ HL w0 wd (rndL w0 p mb (pinS now (s2, need2)) ur3 us3 LB))
        case first =>
          by_cases hh : 0 ≤ s2.holder
          · have hlen : s2.runs.length ≤ 8796093022208 := by have := G2.len; have := G2.cap; have := G2.free0; omega
            have hex := shadow_ex (now := now) (free := s2.free) (need := need2) hlen
            obtain ⟨sa, sm, sb, hsh⟩ : ∃ a m b, shadowAll now s2.free s2.runs need2 = (a, m, b) := ⟨_, _, _, rfl⟩
            have hpin : pinS now (s2, need2) = { s2 with shadow := sa, extra := sm } := by unfold pinS; rw [if_pos hh, hsh]
            rw [hsh] at hex
            have Hpin := Lib.hid hpin
            have G3 : Good l.length { s2 with shadow := sa, extra := sm } := ⟨G2.free0, G2.cap, G2.len, G2.now0, G2.now1, hex.1, hex.2⟩
            have HX := (H2.drew).sel 4 [3, 0, 1, 2]
            have hsd := shadow_ok HX (entRuns _) hlen now s2.free need2
            rw [hsh] at hsd
            simp only [shV] at hsd
            have hb1 : decide (0 ≤ s2.holder) = true := decide_eq_true hh
            clear hpin hsh hex hlen
            have S1 : wc.drew.cell? ⟨p, 1, none⟩ = some (.int .i64 s2.free) ∧ wc.drew.cell? ⟨p, 2, none⟩ = some ur2 := ⟨rnd_cell H2.drew (List.mem_cons_self ..) 1, rnd_cell H2.drew (List.mem_cons_self ..) 2⟩
            go_wp2
            go_region_held3 (fun w' => w'.cell? ⟨p, 1, none⟩ = some (.int .i64 s2.free) ∧ w'.cell? ⟨p, 2, none⟩ = some ur2) (first | assumption | (exact S2 _) | (exact S3 _ _) | go_keep)
             ((go_at_call 16; refine hsd.mono ?_; rintro e w6 ⟨rfl, H6⟩; clear hsd S1 HX;
                have H7 := H6.sel 4 [1, 2, 3, 0];
                have S1 : w6.cell? ⟨p, 1, none⟩ = some (.int .i64 s2.free) ∧ w6.cell? ⟨p, 2, none⟩ = some ur2 := ⟨rnd_cell H7 (List.mem_cons_self ..) 1, rnd_cell H7 (List.mem_cons_self ..) 2⟩;
                have g6 : w6.cell? ⟨p, 6, none⟩ = some (.int .i64 s2.shadow) := rnd_cell H7 (List.mem_cons_self ..) 6;
                have z6 : w6.frozen? ⟨p, 6, none⟩ = false := rnd_frozen H7 (List.mem_cons_self ..) 6;
                have g7 : ∀ a, (w6.setCell ⟨p, 6, none⟩ a).cell? ⟨p, 7, none⟩ = some (.int .i64 s2.extra) := (fun a => (HL.setCell H7 6 a).cell 7);
                have z7 : ∀ a, (w6.setCell ⟨p, 6, none⟩ a).frozen? ⟨p, 7, none⟩ = false := (fun a => (HL.setCell H7 6 a).frozen 7);
                have S2 : ∀ a, (w6.setCell ⟨p, 6, none⟩ a).cell? ⟨p, 1, none⟩ = some (.int .i64 s2.free) ∧ (w6.setCell ⟨p, 6, none⟩ a).cell? ⟨p, 2, none⟩ = some ur2 := (fun a => ⟨(HL.setCell H7 6 a).cell 1, (HL.setCell H7 6 a).cell 2⟩);
                have S3 : ∀ a b, ((w6.setCell ⟨p, 6, none⟩ a).setCell ⟨p, 7, none⟩ b).cell? ⟨p, 1, none⟩ = some (.int .i64 s2.free) ∧ ((w6.setCell ⟨p, 6, none⟩ a).setCell ⟨p, 7, none⟩ b).cell? ⟨p, 2, none⟩ = some ur2 := (fun a b => ⟨(HL.setCell (HL.setCell H7 6 a) 7 b).cell 1, (HL.setCell (HL.setCell H7 6 a) 7 b).cell 2⟩)))
            all_goals
             go_wp2
             go_meet
             case rel =>
              rw [Hpin.out]
              exact ⟨ur2, us2, rfl, G3, HL.setCell (HL.setCell H7 6 _) 7 _⟩
          · have hpin := Lib.hid (show pinS now (s2, need2) = s2 by unfold pinS; rw [if_neg hh])
            replace hh : s2.holder < 0 := by omega
            go_wp2
            go_meet
            case rel =>
              rw [hpin.out]
              exact ⟨ur2, us2, rfl, G2, H2⟩
        case rest =>
          obtain ⟨ur3, us3, rfl, G3, H3⟩ := hcut
          have hC : passC now free ws holder l = pinS now (s2, need2) := by unfold passC; rw [HB.out]
          generalize pinS now (s2, need2) = s3 at *
          have HC := Lib.hid hC
          clear hC H2 G2 c5
          have S0 : wc.drew.cell? ⟨p, 5, none⟩ = some (.int .i64 s3.holder) ∧ wc.drew.cell? ⟨p, 6, none⟩ = some (.int .i64 s3.shadow) ∧ wc.drew.cell? ⟨p, 7, none⟩ = some (.int .i64 s3.extra) := ⟨rnd_cell H3.drew (List.mem_cons_self ..) 5, rnd_cell H3.drew (List.mem_cons_self ..) 6, rnd_cell H3.drew (List.mem_cons_self ..) 7⟩
          have HZ := (H3.alloc (.cells #[.slice none 0 0, .int .i64 0, .int .i64 0, .int .i64 0] 50)).drew
          have S4 : (wc.alloc (.cells #[.slice none 0 0, .int .i64 0, .int .i64 0, .int .i64 0] 50)).drew.cell? ⟨p, 5, none⟩ = some (.int .i64 s3.holder) ∧ (wc.alloc (.cells #[.slice none 0 0, .int .i64 0, .int .i64 0, .int .i64 0] 50)).drew.cell? ⟨p, 6, none⟩ = some (.int .i64 s3.shadow) ∧ (wc.alloc (.cells #[.slice none 0 0, .int .i64 0, .int .i64 0, .int .i64 0] 50)).drew.cell? ⟨p, 7, none⟩ = some (.int .i64 s3.extra) := ⟨rnd_cell HZ.tail (List.mem_cons_self ..) 5, rnd_cell HZ.tail (List.mem_cons_self ..) 6, rnd_cell HZ.tail (List.mem_cons_self ..) 7⟩
          have HP := (H3.alloc (.cells #[.slice none 0 0, .int .i64 s3.holder, .int .i64 s3.shadow, .int .i64 s3.extra] 50)).drew
          have S5 : (wc.alloc (.cells #[.slice none 0 0, .int .i64 s3.holder, .int .i64 s3.shadow, .int .i64 s3.extra] 50)).drew.cell? ⟨p, 5, none⟩ = some (.int .i64 s3.holder) ∧ (wc.alloc (.cells #[.slice none 0 0, .int .i64 s3.holder, .int .i64 s3.shadow, .int .i64 s3.extra] 50)).drew.cell? ⟨p, 6, none⟩ = some (.int .i64 s3.shadow) ∧ (wc.alloc (.cells #[.slice none 0 0, .int .i64 s3.holder, .int .i64 s3.shadow, .int .i64 s3.extra] 50)).drew.cell? ⟨p, 7, none⟩ = some (.int .i64 s3.extra) := ⟨rnd_cell HP.tail (List.mem_cons_self ..) 5, rnd_cell HP.tail (List.mem_cons_self ..) 6, rnd_cell HP.tail (List.mem_cons_self ..) 7⟩
          go_wp2
          go_region_held3 (fun w' => w'.cell? ⟨p, 5, none⟩ = some (.int .i64 s3.holder) ∧ w'.cell? ⟨p, 6, none⟩ = some (.int .i64 s3.shadow) ∧ w'.cell? ⟨p, 7, none⟩ = some (.int .i64 s3.extra)) (first | assumption | go_keep) (fail)
          clear HZ S0 S4
          obtain ⟨c5, -, -⟩ := S5
          have HF : HL w0 (wc.alloc (.cells #[.slice none 0 0, .int .i64 s3.holder, .int .i64 s3.shadow, .int .i64 s3.extra] 50)).drew (rndL w0 p mb s3 ur3 us3 (blk wc.heap.size (.cells #[.slice none 0 0, .int .i64 s3.holder, .int .i64 s3.shadow, .int .i64 s3.extra] 50) :: LB)) := HP.sel 5 [1, 2, 3, 4, 0]
          clear HP
          subst hLB
          generalize hW6 : (wc.alloc (.cells #[.slice none 0 0, .int .i64 s3.holder, .int .i64 s3.shadow, .int .i64 s3.extra] 50)).drew = W6 at *
          generalize hq : wc.heap.size = q at *
          by_cases hh : 0 ≤ s3.holder
          · have hfl := fill_ok G3 hN HF (hW1.cons _) hok
            have Hh := Lib.hid hh
            go_wp2_with (go_at_call 56; refine hfl.mono ?_; rintro e w9 ⟨ur9, us9, rfl, G9, H9⟩; clear hfl HF c5; obtain ⟨A9, c9, e9, -, -, -⟩ := row_shape (show w9.ownsRow w0.heap.size 3 1 us9 _ _ from H9.tail.head); generalize (ws.foldl fillStep s3).starts.length = n9 at e9; subst e9; have H10 := H9.sel 6 [4, 5, 0, 1, 2, 3]; have t0 : w9.cell? ⟨p, 4, none⟩ = some (.slice A9 n9 c9) := rnd_cell H9 (List.mem_cons_self ..) 4; have t1 : w9.cell? ⟨q, 0, none⟩ = some (.slice none 0 0) := H10.cell 0; have t2 : w9.frozen? ⟨q, 0, none⟩ = false := H10.frozen 0; have H11 := (HL.setCell H10 0 (.slice A9 n9 c9)); have u0' : (w9.setCell ⟨q, 0, none⟩ (.slice A9 n9 c9)).cell? ⟨q, 0, none⟩ = some (.slice A9 n9 c9) := H11.cell 0; have u1' : (w9.setCell ⟨q, 0, none⟩ (.slice A9 n9 c9)).cell? ⟨q, 1, none⟩ = some (.int .i64 s3.holder) := H11.cell 1; have u2' : (w9.setCell ⟨q, 0, none⟩ (.slice A9 n9 c9)).cell? ⟨q, 2, none⟩ = some (.int .i64 s3.shadow) := H11.cell 2; have u3' : (w9.setCell ⟨q, 0, none⟩ (.slice A9 n9 c9)).cell? ⟨q, 3, none⟩ = some (.int .i64 s3.extra) := H11.cell 3; have v0' : (w9.setCell ⟨q, 0, none⟩ (.slice A9 n9 c9)).cell? ⟨b1, 0, none⟩ = some us0 := H11.swap.cell 0; have y0' : (w9.setCell ⟨q, 0, none⟩ (.slice A9 n9 c9)).frozen? ⟨b1, 0, none⟩ = false := H11.swap.frozen 0; have v1' : (w9.setCell ⟨q, 0, none⟩ (.slice A9 n9 c9)).cell? ⟨b1, 1, none⟩ = some (.int .i64 0) := H11.swap.cell 1; have y1' : (w9.setCell ⟨q, 0, none⟩ (.slice A9 n9 c9)).frozen? ⟨b1, 1, none⟩ = false := H11.swap.frozen 1; have v2' : (w9.setCell ⟨q, 0, none⟩ (.slice A9 n9 c9)).cell? ⟨b1, 2, none⟩ = some (.int .i64 0) := H11.swap.cell 2; have y2' : (w9.setCell ⟨q, 0, none⟩ (.slice A9 n9 c9)).frozen? ⟨b1, 2, none⟩ = false := H11.swap.frozen 2; have v3' : (w9.setCell ⟨q, 0, none⟩ (.slice A9 n9 c9)).cell? ⟨b1, 3, none⟩ = some (.int .i64 0) := H11.swap.cell 3; have y3' : (w9.setCell ⟨q, 0, none⟩ (.slice A9 n9 c9)).frozen? ⟨b1, 3, none⟩ = false := H11.swap.frozen 3)
            have HS := (((H11.swap.setCell 0 (.slice A9 n9 c9)).setCell 1 (.int .i64 s3.holder)).setCell 2 (.int .i64 s3.shadow)).setCell 3 (.int .i64 s3.extra)
            clear u0' u1' u2' u3' v0' v1' v2' v3' y0' y1' y2' y3' t0 t1 t2 H11 H10 H9
            generalize World.setCell _ _ _ = W9 at *
            have c0 : W9.cell? ⟨b1, 0, none⟩ = some (.slice A9 n9 c9) := HS.cell 0
            have c1 : W9.cell? ⟨b1, 1, none⟩ = some (.int .i64 s3.holder) := HS.cell 1
            have c2 : W9.cell? ⟨b1, 2, none⟩ = some (.int .i64 s3.shadow) := HS.cell 2
            have c3 : W9.cell? ⟨b1, 3, none⟩ = some (.int .i64 s3.extra) := HS.cell 3
            (try simp only [Exit.inBlock, Exit.then]); refine bodyPost_ret (by simp [results, Try.results28, go_sem, c0, c1, c2, c3]; try rfl) rfl ?_
            have hD : passD now free ws holder l = ws.foldl fillStep s3 := by unfold passD; rw [HC.out, if_pos Hh.out]
            rw [hD, HC.out]
            exact ⟨.slice A9 n9 c9, rfl, HS.sel 6 [3]⟩
          · have Hh := Lib.hid hh
            replace hh : s3.holder < 0 := by omega
            obtain ⟨A9, c9, e9, -, -, -⟩ := row_shape (show W6.ownsRow w0.heap.size 3 1 us3 _ _ from HF.tail.head)
            generalize s3.starts.length = n9 at e9
            subst e9
            have H10 := HF.sel 6 [4, 5, 0, 1, 2, 3]
            have t0 : W6.cell? ⟨p, 4, none⟩ = some (.slice A9 n9 c9) := rnd_cell HF (List.mem_cons_self ..) 4
            have t1 : W6.cell? ⟨q, 0, none⟩ = some (.slice none 0 0) := H10.cell 0
            have t2 : W6.frozen? ⟨q, 0, none⟩ = false := H10.frozen 0
            have H11 := (HL.setCell H10 0 (.slice A9 n9 c9))
            have u0' : (W6.setCell ⟨q, 0, none⟩ (.slice A9 n9 c9)).cell? ⟨q, 0, none⟩ = some (.slice A9 n9 c9) := H11.cell 0
            have u1' : (W6.setCell ⟨q, 0, none⟩ (.slice A9 n9 c9)).cell? ⟨q, 1, none⟩ = some (.int .i64 s3.holder) := H11.cell 1
            have u2' : (W6.setCell ⟨q, 0, none⟩ (.slice A9 n9 c9)).cell? ⟨q, 2, none⟩ = some (.int .i64 s3.shadow) := H11.cell 2
            have u3' : (W6.setCell ⟨q, 0, none⟩ (.slice A9 n9 c9)).cell? ⟨q, 3, none⟩ = some (.int .i64 s3.extra) := H11.cell 3
            have v0' : (W6.setCell ⟨q, 0, none⟩ (.slice A9 n9 c9)).cell? ⟨b1, 0, none⟩ = some us0 := H11.swap.cell 0
            have y0' : (W6.setCell ⟨q, 0, none⟩ (.slice A9 n9 c9)).frozen? ⟨b1, 0, none⟩ = false := H11.swap.frozen 0
            have v1' : (W6.setCell ⟨q, 0, none⟩ (.slice A9 n9 c9)).cell? ⟨b1, 1, none⟩ = some (.int .i64 0) := H11.swap.cell 1
            have y1' : (W6.setCell ⟨q, 0, none⟩ (.slice A9 n9 c9)).frozen? ⟨b1, 1, none⟩ = false := H11.swap.frozen 1
            have v2' : (W6.setCell ⟨q, 0, none⟩ (.slice A9 n9 c9)).cell? ⟨b1, 2, none⟩ = some (.int .i64 0) := H11.swap.cell 2
            have y2' : (W6.setCell ⟨q, 0, none⟩ (.slice A9 n9 c9)).frozen? ⟨b1, 2, none⟩ = false := H11.swap.frozen 2
            have v3' : (W6.setCell ⟨q, 0, none⟩ (.slice A9 n9 c9)).cell? ⟨b1, 3, none⟩ = some (.int .i64 0) := H11.swap.cell 3
            have y3' : (W6.setCell ⟨q, 0, none⟩ (.slice A9 n9 c9)).frozen? ⟨b1, 3, none⟩ = false := H11.swap.frozen 3
            go_wp2
            have HS := (((H11.swap.setCell 0 (.slice A9 n9 c9)).setCell 1 (.int .i64 s3.holder)).setCell 2 (.int .i64 s3.shadow)).setCell 3 (.int .i64 s3.extra)
            clear u0' u1' u2' u3' v0' v1' v2' v3' y0' y1' y2' y3' t0 t1 t2 H11 H10 HF
            generalize World.setCell _ _ _ = W9 at *
            have c0 : W9.cell? ⟨b1, 0, none⟩ = some (.slice A9 n9 c9) := HS.cell 0
            have c1 : W9.cell? ⟨b1, 1, none⟩ = some (.int .i64 s3.holder) := HS.cell 1
            have c2 : W9.cell? ⟨b1, 2, none⟩ = some (.int .i64 s3.shadow) := HS.cell 2
            have c3 : W9.cell? ⟨b1, 3, none⟩ = some (.int .i64 s3.extra) := HS.cell 3
            (try simp only [Exit.inBlock, Exit.then]); refine bodyPost_ret (by simp [results, Try.results28, go_sem, c0, c1, c2, c3]; try rfl) rfl ?_
            have hD : passD now free ws holder l = s3 := by unfold passD; rw [HC.out, if_neg (by have := Hh.out; omega)]
            rw [hD, HC.out]
            exact ⟨.slice A9 n9 c9, rfl, HS.sel 6 [3]⟩
end
end Go.Proofs.Ytebibcaahjmjfaa

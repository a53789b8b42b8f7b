/- Those in their rank: as many as fit; the first that does not fit holds. -/
import Derived.Test.YtebibcaahjmjfaaPaStart
import Derived.Test.YtebibcaahjmjfaaPaLets
set_option linter.unusedVariables false
set_option linter.unusedSimpArgs false
namespace Go.Proofs.Ytebibcaahjmjfaa
open Go.RowKit Go.Proofs.HL Go.Proofs.HL.Pr Go.Proofs.HL.Pa

/-- A pass at work stays within bounds. -/
structure Good (N : Nat) (s : RS) : Prop where
  free0 : 0 ≤ s.free
  cap : s.free + s.starts.length ≤ 256
  len : s.runs.length = N + s.starts.length
  now0 : 0 ≤ s.now
  now1 : s.now ≤ 2199023255552
  ex0 : 0 ≤ s.extra
  ex1 : s.extra ≤ 4503599627370496
def okW (x : Wn) : Prop := 0 ≤ x.job ∧ 1 ≤ x.nodes ∧ x.nodes ≤ 256 ∧ 1 ≤ x.limit ∧ x.limit ≤ 1048576
theorem Good.start {N : Nat} {s : RS} {x : Wn} (G : Good N s) (hx : okW x) (hf : x.nodes ≤ s.free) : Good N (startP s x) := by
  obtain ⟨g1, g2, g3, g4, g5, g6, g7⟩ := G
  obtain ⟨-, h1, -, -, -⟩ := hx
  refine ⟨?_, ?_, ?_, g4, g5, g6, g7⟩
  · show 0 ≤ s.free - x.nodes; omega
  · show s.free - x.nodes + ((s.starts ++ [x.job]).length : Nat) ≤ 256
    rw [List.length_append, List.length_singleton]; omega
  · show (s.runs ++ [_]).length = N + (s.starts ++ [x.job]).length
    rw [List.length_append, List.length_append, List.length_singleton, List.length_singleton]; omega
def Wants (w0 : World) (L : List At) (v : Value) (l : List Wn) : Prop := Ent w0 L (Rd 3 v l.length (l.flatMap encW))
theorem Wants.cons {w0 : World} {L : List At} {v : Value} {l : List Wn} (h : Wants w0 L v l) (A : At) : Wants w0 (A :: L) v l := Ent.cons h A
theorem wn_at {w : World} {v : Value} {l : List Wn} (h : Rd 3 v l.length (l.flatMap encW) w) {k : Nat} {x : Wn} (hx : l[k]? = some x) :
    ∃ b o c, v = .slice (some ⟨b, o, none⟩) l.length c ∧ w.cell? ⟨b, o + k * 3, none⟩ = some (.int .i64 x.job) ∧ w.cell? ⟨b, o + k * 3 + 1, none⟩ = some (.int .i64 x.nodes) ∧ w.cell? ⟨b, o + k * 3 + 2, none⟩ = some (.int .i64 x.limit) := by
  obtain ⟨b, o, c, h1, -, -, h2⟩ := rd_elem encW 3 (fun _ => rfl) (by decide) h hx
  exact ⟨b, o, c, h1, h2 0 _ rfl, h2 1 _ rfl, h2 2 _ rfl⟩
theorem zeroI (w : World) : (zeroValue 3).run Try.prog w = .ok (.int .i64 0) w := by kernel_rfl
section
variable {w0 w : World} {L : List At} {p mb : Nat} {s : RS} {ur us v : Value} {N : Nat} {ws : List Wn} {S : List Int}
/-- What a pass owns. -/
def rndL (w0 : World) (p mb : Nat) (s : RS) (ur us : Value) (L : List At) : List At := rnd p mb s ur us :: intsR w0.heap.size us s.starts :: mp mb (kvS s.starts) :: runsAt w0.heap.size ur s.runs :: L
theorem started_run (H : HL w0 w (mp mb (kvS S) :: L)) (j : Int) :
    (Instr.lookup 93 (.map (some mb)) (.int .i64 j) false).run Try.prog w = .ok (.int .i64 (if j ∈ S then 1 else 0)) w := by
  have h := H.lookup Try.underlying93 Try.underlying3 zeroI j false
  rw [kvS_lookup] at h
  rw [h]
  by_cases hj : j ∈ S
  · simp [hj]
  · simp [hj]
theorem start_good (G : Good N s) (hN : N ≤ 8796093021952) (H : HL w0 w (rndL w0 p mb s ur us L)) {x : Wn} (hx : okW x) (hf : x.nodes ≤ s.free) (hno : x.job ∉ s.starts) :
    Calls Try.prog 54 #[.pointer (some ⟨p, 0, none⟩), wnV x] w fun e w' => ∃ ur' us', e = .returned (.tuple #[]) ∧ Good N (startP s x) ∧ HL w0 w' (rndL w0 p mb (startP s x) ur' us' L) := by
  have G' := G.start hx hf
  obtain ⟨g1, g2, g3, g4, g5, g6, g7⟩ := G
  obtain ⟨h0, h1, h2, h3, h4⟩ := hx
  refine (start_ok H x hno (by omega) (by omega) (by omega) (by omega)).mono ?_
  rintro e w' ⟨ur', us', rfl, H'⟩
  exact ⟨ur', us', rfl, G', H'⟩

set_option maxRecDepth 100000 in
set_option maxHeartbeats 4000000 in
theorem ranked_ok (G : Good N s) (hN : N ≤ 8796093021952) (H : HL w0 w (rndL w0 p mb s ur us L)) (hW : Wants w0 L v ws) (hws : ∀ x ∈ ws, okW x) :
    Calls Try.prog 55 #[.pointer (some ⟨p, 0, none⟩), v] w fun e w' => ∃ ur' us', e = .returned (.int .i64 (rankedP s ws).2) ∧ Good N (rankedP s ws).1 ∧ HL w0 w' (rndL w0 p mb (rankedP s ws).1 ur' us' L) := by
  obtain ⟨A, c, rfl, hc1, hc2⟩ := rd_shape (hW w H.tail.tail.tail.tail)
  unfold maxLen at hc2
  go_enter Try.func55, Try.ntmps55
  go_wp2
  go_loopg [9] ws.length (fun g i wr => ∃ (k : Nat) (s' : RS) (ur' us' : Value), i = .int .i64 k ∧ k + g = ws.length ∧ Good N s' ∧ rankedP s ws = rankedP s' (ws.drop k) ∧ HL w0 wr (rndL w0 p mb s' ur' us' L))
  case atStart => exact ⟨0, s, ur, us, rfl, by omega, G, rfl, H⟩
  case round =>
    obtain ⟨k, s', ur', us', rfl, hk, G', hR, HK⟩ := hrel
    clear H G
    have hRR := Lib.hid hR; clear hR
    by_cases hlt : k < ws.length
    · obtain ⟨x, hx⟩ : ∃ x, ws[k]? = some x := ⟨_, List.getElem?_eq_getElem hlt⟩
      obtain ⟨b, o, c', hv, d0, d1, d2⟩ := wn_at (hW wr HK.tail.tail.tail.tail) hx
      simp only [Value.slice.injEq] at hv
      obtain ⟨rfl, -, rfl⟩ := hv
      have hdrop : ws.drop k = x :: ws.drop (k + 1) := by
        rw [List.drop_eq_getElem_cons hlt]; congr 1; rw [List.getElem?_eq_getElem hlt] at hx; exact Option.some.inj hx
      have okx := Lib.hid (hws x (List.mem_of_getElem? hx))
      have Hd := Lib.hid hdrop
      clear hx hdrop
      have HB := HK.alloc (.cells #[.int .i64 x.job, .int .i64 x.nodes, .int .i64 x.limit] 60)
      have HS := HB.sel 5 [1, 2, 3, 4, 0]
      clear HK HB
      generalize hW5 : wr.alloc (.cells #[.int .i64 x.job, .int .i64 x.nodes, .int .i64 x.limit] 60) = W at *
      generalize hb5 : wr.heap.size = b5 at *
      replace HS : HL w0 W (rndL w0 p mb s' ur' us' (blk b5 (.cells #[.int .i64 x.job, .int .i64 x.nodes, .int .i64 x.limit] 60) :: L)) := HS
      have c3 : W.cell? ⟨p, 3, none⟩ = some (.map (some mb)) := rnd_cell HS (List.mem_cons_self ..) 3
      have e0 : W.cell? ⟨b5, 0, none⟩ = some (.int .i64 x.job) := HS.cellOf (b := b5) (vs := #[.int .i64 x.job, .int .i64 x.nodes, .int .i64 x.limit]) (E := 60) (fz := (0, 0)) (by simp [rndL]) 0
      have hl := fun n => started_run ((HS.sel 3 [2, 0, 1]).drewN n) x.job
      subst hb5
      subst hW5
      go_wp2
      refine wp_region_cut 6 (by kernel_rfl) (by kernel_rfl) ?_
      simp only [List.take_succ_cons, List.take_zero, List.drop_succ_cons, List.drop_zero]
      repeat (go_big_quiet_step ((fail)))
      refine wpQuiet_nil ?_
      intro nq
      have HQ := HS.drewN nq
      have hl2 := hl nq
      clear HS c3 e0 hl d0 d1 d2
      generalize hW6 : World.drewN _ nq = W6 at *
      generalize wr.heap.size = b5 at *
      have e0 : W6.cell? ⟨b5, 0, none⟩ = some (.int .i64 x.job) := HQ.cellOf (b := b5) (vs := #[.int .i64 x.job, .int .i64 x.nodes, .int .i64 x.limit]) (E := 60) (fz := (0, 0)) (by simp [rndL]) 0
      have e1 : W6.cell? ⟨b5, 1, none⟩ = some (.int .i64 x.nodes) := HQ.cellOf (b := b5) (vs := #[.int .i64 x.job, .int .i64 x.nodes, .int .i64 x.limit]) (E := 60) (fz := (0, 0)) (by simp [rndL]) 1
      have e2 : W6.cell? ⟨b5, 2, none⟩ = some (.int .i64 x.limit) := HQ.cellOf (b := b5) (vs := #[.int .i64 x.job, .int .i64 x.nodes, .int .i64 x.limit]) (E := 60) (fz := (0, 0)) (by simp [rndL]) 2
      by_cases hin : x.job ∈ s'.starts
      · have hnx : rankedP s ws = rankedP s' (ws.drop (k + 1)) := by rw [hRR.out, Hd.out, rankedP, if_pos hin]
        have Hnx := Lib.hid hnx; clear hnx
        rw [if_pos hin] at hl2
        clear hin
        go_wp2
        go_roundg (gk - 1)
        case measure => omega
        case rel => exact ⟨k + 1, s', ur', us', by go_num, by omega, G', Hnx.out, HQ.sel 5 [0, 1, 2, 3]⟩
      · rw [if_neg hin] at hl2
        have hlets := lets_ok HQ (List.mem_cons_self ..) x
        by_cases hf : x.nodes ≤ s'.free
        · have hnx : rankedP s ws = rankedP (startP s' x) (ws.drop (k + 1)) := by rw [hRR.out, Hd.out, rankedP, if_neg hin, if_pos hf]
          have Hnx := Lib.hid hnx; clear hnx
          rw [decide_eq_true hf] at hlets
          have hst := fun w1 (H1 : HL w0 w1 (rndL w0 p mb s' ur' us' (blk b5 (.cells #[.int .i64 x.job, .int .i64 x.nodes, .int .i64 x.limit] 60) :: L))) => start_good G' hN H1 okx.out hf hin
          clear hin hf
          go_wp2_with (first
            | (go_at_call 53; refine hlets.mono ?_; rintro e w7 ⟨rfl, H7⟩; clear hlets HQ; have f0 : w7.cell? ⟨b5, 0, none⟩ = some (.int .i64 x.job) := (H7.cellOf (b := b5) (vs := #[.int .i64 x.job, .int .i64 x.nodes, .int .i64 x.limit]) (E := 60) (fz := (0, 0)) (by simp [rndL]) 0); have f1 : w7.cell? ⟨b5, 1, none⟩ = some (.int .i64 x.nodes) := (H7.cellOf (b := b5) (vs := #[.int .i64 x.job, .int .i64 x.nodes, .int .i64 x.limit]) (E := 60) (fz := (0, 0)) (by simp [rndL]) 1); have f2 : w7.cell? ⟨b5, 2, none⟩ = some (.int .i64 x.limit) := (H7.cellOf (b := b5) (vs := #[.int .i64 x.job, .int .i64 x.nodes, .int .i64 x.limit]) (E := 60) (fz := (0, 0)) (by simp [rndL]) 2))
            | (go_at_call 54; refine (hst _ H7).mono ?_; rintro e w8 ⟨ur8, us8, rfl, G8, H8⟩; clear H7 hst f0 f1 f2))
          go_roundg (gk - 1)
          case measure => omega
          case rel => exact ⟨k + 1, startP s' x, ur8, us8, by go_num, by omega, G8, Hnx.out, H8.sel 5 [0, 1, 2, 3]⟩
        · have hnx : rankedP s ws = ({ s' with holder := x.job }, x.nodes) := by rw [hRR.out, Hd.out, rankedP, if_neg hin, if_neg hf]
          have Hnx := Lib.hid hnx; clear hnx
          rw [decide_eq_false hf] at hlets
          clear hin hf
          go_wp2_with (go_at_call 53; refine hlets.mono ?_; rintro e w7 ⟨rfl, H7⟩; clear hlets HQ; have f0 : w7.cell? ⟨b5, 0, none⟩ = some (.int .i64 x.job) := (H7.cellOf (b := b5) (vs := #[.int .i64 x.job, .int .i64 x.nodes, .int .i64 x.limit]) (E := 60) (fz := (0, 0)) (by simp [rndL]) 0); have f1 : (w7.setCell ⟨p, 5, none⟩ (.int .i64 x.job)).cell? ⟨b5, 1, none⟩ = some (.int .i64 x.nodes) := ((HL.setCell H7 5 (.int .i64 x.job)).cellOf (b := b5) (vs := #[.int .i64 x.job, .int .i64 x.nodes, .int .i64 x.limit]) (E := 60) (fz := (0, 0)) (by simp) 1); have f2 : w7.cell? ⟨p, 5, none⟩ = some (.int .i64 s'.holder) := rnd_cell H7 (List.mem_cons_self ..) 5; have f3 : w7.frozen? ⟨p, 5, none⟩ = false := rnd_frozen H7 (List.mem_cons_self ..) 5)
          have H9 := HL.setCell H7 5 (.int .i64 x.job)
          go_ret
          rw [Hnx.out]
          exact ⟨ur', us', rfl, ⟨G'.free0, G'.cap, G'.len, G'.now0, G'.now1, G'.ex0, G'.ex1⟩, H9.sel 5 [0, 1, 2, 3]⟩
    · have hnx : rankedP s ws = (s', 0) := by rw [hRR.out, List.drop_eq_nil_of_le (by omega), rankedP]
      have Hnx := Lib.hid hnx; clear hnx
      go_wp2
      go_ret
      rw [Hnx.out]
      exact ⟨ur', us', rfl, G', HK⟩
end
end Go.Proofs.Ytebibcaahjmjfaa

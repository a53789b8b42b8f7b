/- Whether the numbers of a pass may be. -/
import Derived.Test.YtebibcaahjmjfaaPaRank
set_option linter.unusedVariables false
set_option linter.unusedSimpArgs false
namespace Go.Proofs.Ytebibcaahjmjfaa
open Go.RowKit Go.Proofs.HL Go.Proofs.HL.Pr Go.Proofs.HL.Pa

theorem mayB_iff {now free holder : Int} {ws : List Wn} {l : List Rn} : mayB now free ws holder l = true ↔ (0 ≤ now ∧ now ≤ 2199023255552 ∧ 0 ≤ free ∧ free ≤ 256) ∧ (∀ r ∈ l, 1 ≤ r.nodes ∧ r.nodes ≤ 256 ∧ now < r.fin ∧ r.fin ≤ 4398046511104) ∧
    (∀ x ∈ ws, 0 ≤ x.job ∧ 1 ≤ x.nodes ∧ x.nodes ≤ 256 ∧ x.nodes ≤ sumAll free l ∧ 1 ≤ x.limit ∧ x.limit ≤ 1048576) ∧ (ws.map (·.job)).Nodup ∧ (holder = -1 ∨ holder ∈ ws.map (·.job)) := by
  simp [mayB, okRun, okWant, and_assoc]
theorem take_succ_at {α : Type} {l : List α} {k : Nat} {x : α} (hx : l[k]? = some x) : l.take (k + 1) = l.take k ++ [x] := by
  obtain ⟨hk, rfl⟩ := List.getElem?_eq_some_iff.1 hx
  exact List.take_succ_eq_append_getElem hk
theorem lookup_put2 {S : List Int} {j : Int} (h : j ∈ S) : ((putKV (kvS S) j (.int .i64 2)).lookup j).getD (.int .i64 0) = .int .i64 2 := by
  have hs : ((kvS S).lookup j).isSome = true := by rw [kvS_lookup, if_pos h]; rfl
  unfold putKV
  rw [if_pos hs]
  clear hs
  induction S with
  | nil => simp at h
  | cons y S ih =>
    by_cases e : j = y
    · subst e; simp [kvS]
    · have h' : j ∈ S := by simpa [e] using h
      have := ih h'
      have e2 : (j == y) = false := by simp [e]
      have e3 : (y == j) = false := by simp [Ne.symm e]
      have e4 : y ≠ j := Ne.symm e
      simp only [kvS, List.map_cons, e3, e4, Bool.false_eq_true, if_false, List.lookup_cons, e2] at this ⊢
      exact this
theorem dup_no {ws : List Wn} {k : Nat} {x : Wn} (hx : ws[k]? = some x) (h : x.job ∈ (ws.take k).map (·.job)) : ¬ (ws.map (·.job)).Nodup := by
  intro hn
  obtain ⟨hk, rfl⟩ := List.getElem?_eq_some_iff.1 hx
  rw [← List.take_append_drop k ws, List.drop_eq_getElem_cons hk, List.map_append, List.nodup_append] at hn
  exact hn.2.2 _ h _ (List.mem_cons_self ..) rfl
section
variable {w0 w : World} {L : List At} {v u : Value} {ws : List Wn} {l : List Rn} {mb : Nat}
theorem retBool {b c : Bool} (h : c = b) : (Value.bool b) = .bool c := by rw [h]
set_option maxRecDepth 100000 in
set_option maxHeartbeats 4000000 in
theorem may_ok (H : HL w0 w L) (hW : Wants w0 L v ws) (hr : Runs w0 L u l) (hl : l.length ≤ 8796093022208) (now free holder : Int) :
    Calls Try.prog 52 #[.int .i64 now, .int .i64 free, v, .int .i64 holder, u] w fun e w' => e = .returned (.bool (mayB now free ws holder l)) ∧ HL w0 w' L := by
  obtain ⟨A, c, rfl, hc1, hc2⟩ := rd_shape (hW w H)
  obtain ⟨B, d, rfl, hd1, hd2⟩ := rd_shape (hr w H)
  unfold maxLen at hc2 hd2
  have hmm := @run_makeMap Try.prog
  by_cases h0 : 0 ≤ now ∧ now ≤ 2199023255552 ∧ 0 ≤ free ∧ free ≤ 256
  case neg =>
    have hf : mayB now free ws holder (l) = false := by rw [Bool.eq_false_iff]; intro h; exact h0 (mayB_iff.1 h).1
    rw [hf]; clear hf
    have h1 : now < 0 ∨ (0 ≤ now ∧ 2199023255552 < now) ∨ (0 ≤ now ∧ now ≤ 2199023255552 ∧ free < 0) ∨ (0 ≤ now ∧ now ≤ 2199023255552 ∧ 0 ≤ free ∧ 256 < free) := by omega
    clear h0
    go_enter Try.func52, Try.ntmps52
    rcases h1 with h1 | ⟨h1, h2⟩ | ⟨h1, h2, h3⟩ | ⟨h1, h2, h3, h4⟩
    all_goals
      go_wp2
      go_ret
      exact ⟨rfl, H⟩
  obtain ⟨n0, n1, f0, f1⟩ := h0
  go_enter Try.func52, Try.ntmps52
  go_wp2
  have hNe : mayB now free ws holder l = (l.all (okRun now) && ws.all (okWant (sumAll free l)) && decide (ws.map (·.job)).Nodup && (decide (holder = -1) || decide (holder ∈ ws.map (·.job)))) := by
    simp [mayB, n0, n1, f0, f1]
  clear hNe
  go_loopg [34, 11] l.length (fun g i s wr => ∃ k : Nat, i = .int .i64 k ∧ s = .int .i64 (free + sumN (l.take k)) ∧ k + g = l.length ∧ (∀ r ∈ l.take k, 1 ≤ r.nodes ∧ r.nodes ≤ 256 ∧ now < r.fin ∧ r.fin ≤ 4398046511104) ∧ HL w0 wr L)
  case atStart => exact ⟨0, rfl, by simp [sumN], by omega, (fun _ h => by simp at h), H⟩
  case round =>
    obtain ⟨k, rfl, rfl, hk, hok, HK⟩ := hrel
    clear H
    have Hok := Lib.hid hok; clear hok
    by_cases hlt : k < l.length
    · obtain ⟨x, hx⟩ : ∃ x, l[k]? = some x := ⟨_, List.getElem?_eq_getElem hlt⟩
      obtain ⟨b, o, c', hv, d0, d1⟩ := run_at (hr wr HK) hx
      simp only [Value.slice.injEq] at hv
      obtain ⟨rfl, -, rfl⟩ := hv
      have Hx := Lib.hid hx; clear hx
      have HB := HK.alloc' (.cells #[.int .i64 x.nodes, .int .i64 x.fin] 42)
      clear HK
      by_cases h2 : x.nodes < 1
      · have Hf : Hid (mayB now free ws holder l = false) := Lib.hid (by
          rw [Bool.eq_false_iff]; intro h; have := (mayB_iff.1 h).2.1 x (List.mem_of_getElem? Hx.out); omega)
        go_wp2
        go_ret
        exact ⟨retB Hf.out, HB⟩
      by_cases h3 : 256 < x.nodes
      · have Hf : Hid (mayB now free ws holder l = false) := Lib.hid (by
          rw [Bool.eq_false_iff]; intro h; have := (mayB_iff.1 h).2.1 x (List.mem_of_getElem? Hx.out); omega)
        go_wp2
        go_ret
        exact ⟨retB Hf.out, HB⟩
      by_cases h4 : x.fin ≤ now
      · have Hf : Hid (mayB now free ws holder l = false) := Lib.hid (by
          rw [Bool.eq_false_iff]; intro h; have := (mayB_iff.1 h).2.1 x (List.mem_of_getElem? Hx.out); omega)
        go_wp2
        go_ret
        exact ⟨retB Hf.out, HB⟩
      by_cases h5 : 4398046511104 < x.fin
      · have Hf : Hid (mayB now free ws holder l = false) := Lib.hid (by
          rw [Bool.eq_false_iff]; intro h; have := (mayB_iff.1 h).2.1 x (List.mem_of_getElem? Hx.out); omega)
        go_wp2
        go_ret
        exact ⟨retB Hf.out, HB⟩
      have hsb := sumN_bd (l := l.take k) (fun r h => ⟨(Hok.out r h).1, (Hok.out r h).2.1⟩)
      have hlk : (l.take k).length ≤ 8796093022208 := by rw [List.length_take]; omega
      generalize hq : sumN (l.take k) = q at *
      have hwr : IntKind.i64.wrap (free + q + x.nodes) = free + q + x.nodes := IntWalk.i64_in _ (by omega)
      have Hq := Lib.hid hq
      clear hq hsb hlk
      go_wp2
      go_roundg (gk - 1)
      case measure => omega
      case rel =>
        refine ⟨k + 1, by go_num, ?_, by omega, ?_, HB⟩
        · rw [take_succ_at Hx.out, sumN_append, Hq.out]; simp only [sumN]; congr 1; omega
        · rw [take_succ_at Hx.out]
          intro r hr'
          rcases List.mem_append.1 hr' with h | h
          · exact Hok.out r h
          · obtain rfl : r = x := by simpa using h
            omega
    · obtain rfl : k = l.length := by omega
      rw [List.take_length] at *
      have hsb := sumN_bd (l := l) (fun r h => ⟨(Hok.out r h).1, (Hok.out r h).2.1⟩)
      go_wp2
      have HM0 := (HK.alloc (.map #[] 0)).shutMap IntMap.empty
      clear HK hlt
      generalize World.alloc _ _ = W0 at *
      generalize wr.heap.size = mb at *
      go_loopg [65] ws.length (fun g i wr => ∃ k : Nat, i = .int .i64 k ∧ k + g = ws.length ∧ (∀ x ∈ ws.take k, 0 ≤ x.job ∧ 1 ≤ x.nodes ∧ x.nodes ≤ 256 ∧ x.nodes ≤ sumAll free l ∧ 1 ≤ x.limit ∧ x.limit ≤ 1048576) ∧ ((ws.take k).map (·.job)).Nodup ∧ HL w0 wr (mp mb (kvS ((ws.take k).map (·.job))) :: L))
      case atStart => exact ⟨0, rfl, by omega, (fun _ h => by simp at h), by simp, HM0⟩
      case round =>
        obtain ⟨k, rfl, hk2, hokW, hnd, HK⟩ := hrel
        clear HM0
        have HokW := Lib.hid hokW; have Hnd := Lib.hid hnd; clear hokW hnd
        by_cases hlt : k < ws.length
        · obtain ⟨x, hx⟩ : ∃ x, ws[k]? = some x := ⟨_, List.getElem?_eq_getElem hlt⟩
          obtain ⟨b, o, c', hv, d0, d1, d2⟩ := wn_at (hW wr HK.tail) hx
          simp only [Value.slice.injEq] at hv
          obtain ⟨rfl, -, rfl⟩ := hv
          have Hx := Lib.hid hx
          have HM := (HK.alloc (.cells #[.int .i64 x.job, .int .i64 x.nodes, .int .i64 x.limit] 60)).sel 2 [1, 0]
          have e0 : (wr.alloc (.cells #[.int .i64 x.job, .int .i64 x.nodes, .int .i64 x.limit] 60)).cell? ⟨wr.heap.size, 0, none⟩ = some (.int .i64 x.job) := HM.cellOf (b := wr.heap.size) (vs := #[.int .i64 x.job, .int .i64 x.nodes, .int .i64 x.limit]) (E := 60) (fz := (0, 0)) (by simp) 0
          have hl1 := started_run (HM.sel 1 [0]) x.job
          clear HK
          by_cases hin : x.job ∈ (ws.take k).map (·.job)
          · rw [if_pos hin] at hl1
            have Hf : Hid (mayB now free ws holder l = false) := Lib.hid (by
              rw [Bool.eq_false_iff]; intro h; exact dup_no hx hin (mayB_iff.1 h).2.2.2.1)
            have hp := lookup_put2 hin
            clear hx hin
            go_wp2_with (first
              | (at_mapUpdate; refine wpList_mapUpdate_hl (k := x.job) (val := .int .i64 2) Try.underlying93 Try.underlying3 rfl _ _ _ rfl HM rfl rfl rfl ?_; intro w4 H4; clear HM hl1 e0; have q0 : w4.cell? ⟨wr.heap.size, 0, none⟩ = some (.int .i64 x.job) := (H4.cellOf (b := wr.heap.size) (vs := #[.int .i64 x.job, .int .i64 x.nodes, .int .i64 x.limit]) (E := 60) (fz := (0, 0)) (by simp) 0); have q1 : w4.cell? ⟨wr.heap.size, 1, none⟩ = some (.int .i64 x.nodes) := (H4.cellOf (b := wr.heap.size) (vs := #[.int .i64 x.job, .int .i64 x.nodes, .int .i64 x.limit]) (E := 60) (fz := (0, 0)) (by simp) 1); have q2 : w4.cell? ⟨wr.heap.size, 2, none⟩ = some (.int .i64 x.limit) := (H4.cellOf (b := wr.heap.size) (vs := #[.int .i64 x.job, .int .i64 x.nodes, .int .i64 x.limit]) (E := 60) (fz := (0, 0)) (by simp) 2); have hl2 := (H4.sel 1 [0]).lookup Try.underlying93 Try.underlying3 zeroI x.job false; rw [hp] at hl2; simp only [Bool.false_eq_true, if_false] at hl2))
            go_ret
            exact ⟨retB Hf.out, H4.tail.tail⟩
          rw [if_neg hin] at hl1
          have hkp : putKV (kvS ((ws.take k).map (·.job))) x.job (.int .i64 1) = kvS ((ws.take k).map (·.job) ++ [x.job]) := kvS_put hin
          have Hin := Lib.hid hin
          clear hx hin
          by_cases h2 : x.job < 0
          · have Hf : Hid (mayB now free ws holder l = false) := Lib.hid (by
              rw [Bool.eq_false_iff]; intro h; have := (mayB_iff.1 h).2.2.1 x (List.mem_of_getElem? Hx.out); unfold sumAll at this; omega)
            go_wp2_with (first
              | (at_mapUpdate; refine wpList_mapUpdate_hl (k := x.job) (val := .int .i64 1) Try.underlying93 Try.underlying3 rfl _ _ _ rfl HM rfl rfl rfl ?_; intro w4 H4; clear HM hl1 e0; have q0 : w4.cell? ⟨wr.heap.size, 0, none⟩ = some (.int .i64 x.job) := (H4.cellOf (b := wr.heap.size) (vs := #[.int .i64 x.job, .int .i64 x.nodes, .int .i64 x.limit]) (E := 60) (fz := (0, 0)) (by simp) 0); have q1 : w4.cell? ⟨wr.heap.size, 1, none⟩ = some (.int .i64 x.nodes) := (H4.cellOf (b := wr.heap.size) (vs := #[.int .i64 x.job, .int .i64 x.nodes, .int .i64 x.limit]) (E := 60) (fz := (0, 0)) (by simp) 1); have q2 : w4.cell? ⟨wr.heap.size, 2, none⟩ = some (.int .i64 x.limit) := (H4.cellOf (b := wr.heap.size) (vs := #[.int .i64 x.job, .int .i64 x.nodes, .int .i64 x.limit]) (E := 60) (fz := (0, 0)) (by simp) 2); rw [hkp] at H4; have hl2 := started_run (H4.sel 1 [0]) x.job; rw [if_pos (List.mem_append_right _ (List.mem_singleton_self _))] at hl2))
            go_ret
            exact ⟨retB Hf.out, H4.tail.tail⟩
          by_cases h3 : x.nodes < 1
          · have Hf : Hid (mayB now free ws holder l = false) := Lib.hid (by
              rw [Bool.eq_false_iff]; intro h; have := (mayB_iff.1 h).2.2.1 x (List.mem_of_getElem? Hx.out); unfold sumAll at this; omega)
            go_wp2_with (first
              | (at_mapUpdate; refine wpList_mapUpdate_hl (k := x.job) (val := .int .i64 1) Try.underlying93 Try.underlying3 rfl _ _ _ rfl HM rfl rfl rfl ?_; intro w4 H4; clear HM hl1 e0; have q0 : w4.cell? ⟨wr.heap.size, 0, none⟩ = some (.int .i64 x.job) := (H4.cellOf (b := wr.heap.size) (vs := #[.int .i64 x.job, .int .i64 x.nodes, .int .i64 x.limit]) (E := 60) (fz := (0, 0)) (by simp) 0); have q1 : w4.cell? ⟨wr.heap.size, 1, none⟩ = some (.int .i64 x.nodes) := (H4.cellOf (b := wr.heap.size) (vs := #[.int .i64 x.job, .int .i64 x.nodes, .int .i64 x.limit]) (E := 60) (fz := (0, 0)) (by simp) 1); have q2 : w4.cell? ⟨wr.heap.size, 2, none⟩ = some (.int .i64 x.limit) := (H4.cellOf (b := wr.heap.size) (vs := #[.int .i64 x.job, .int .i64 x.nodes, .int .i64 x.limit]) (E := 60) (fz := (0, 0)) (by simp) 2); rw [hkp] at H4; have hl2 := started_run (H4.sel 1 [0]) x.job; rw [if_pos (List.mem_append_right _ (List.mem_singleton_self _))] at hl2))
            go_ret
            exact ⟨retB Hf.out, H4.tail.tail⟩
          by_cases h4 : 256 < x.nodes
          · have Hf : Hid (mayB now free ws holder l = false) := Lib.hid (by
              rw [Bool.eq_false_iff]; intro h; have := (mayB_iff.1 h).2.2.1 x (List.mem_of_getElem? Hx.out); unfold sumAll at this; omega)
            go_wp2_with (first
              | (at_mapUpdate; refine wpList_mapUpdate_hl (k := x.job) (val := .int .i64 1) Try.underlying93 Try.underlying3 rfl _ _ _ rfl HM rfl rfl rfl ?_; intro w4 H4; clear HM hl1 e0; have q0 : w4.cell? ⟨wr.heap.size, 0, none⟩ = some (.int .i64 x.job) := (H4.cellOf (b := wr.heap.size) (vs := #[.int .i64 x.job, .int .i64 x.nodes, .int .i64 x.limit]) (E := 60) (fz := (0, 0)) (by simp) 0); have q1 : w4.cell? ⟨wr.heap.size, 1, none⟩ = some (.int .i64 x.nodes) := (H4.cellOf (b := wr.heap.size) (vs := #[.int .i64 x.job, .int .i64 x.nodes, .int .i64 x.limit]) (E := 60) (fz := (0, 0)) (by simp) 1); have q2 : w4.cell? ⟨wr.heap.size, 2, none⟩ = some (.int .i64 x.limit) := (H4.cellOf (b := wr.heap.size) (vs := #[.int .i64 x.job, .int .i64 x.nodes, .int .i64 x.limit]) (E := 60) (fz := (0, 0)) (by simp) 2); rw [hkp] at H4; have hl2 := started_run (H4.sel 1 [0]) x.job; rw [if_pos (List.mem_append_right _ (List.mem_singleton_self _))] at hl2))
            go_ret
            exact ⟨retB Hf.out, H4.tail.tail⟩
          by_cases h5 : free + sumN l < x.nodes
          · have Hf : Hid (mayB now free ws holder l = false) := Lib.hid (by
              rw [Bool.eq_false_iff]; intro h; have := (mayB_iff.1 h).2.2.1 x (List.mem_of_getElem? Hx.out); unfold sumAll at this; omega)
            go_wp2_with (first
              | (at_mapUpdate; refine wpList_mapUpdate_hl (k := x.job) (val := .int .i64 1) Try.underlying93 Try.underlying3 rfl _ _ _ rfl HM rfl rfl rfl ?_; intro w4 H4; clear HM hl1 e0; have q0 : w4.cell? ⟨wr.heap.size, 0, none⟩ = some (.int .i64 x.job) := (H4.cellOf (b := wr.heap.size) (vs := #[.int .i64 x.job, .int .i64 x.nodes, .int .i64 x.limit]) (E := 60) (fz := (0, 0)) (by simp) 0); have q1 : w4.cell? ⟨wr.heap.size, 1, none⟩ = some (.int .i64 x.nodes) := (H4.cellOf (b := wr.heap.size) (vs := #[.int .i64 x.job, .int .i64 x.nodes, .int .i64 x.limit]) (E := 60) (fz := (0, 0)) (by simp) 1); have q2 : w4.cell? ⟨wr.heap.size, 2, none⟩ = some (.int .i64 x.limit) := (H4.cellOf (b := wr.heap.size) (vs := #[.int .i64 x.job, .int .i64 x.nodes, .int .i64 x.limit]) (E := 60) (fz := (0, 0)) (by simp) 2); rw [hkp] at H4; have hl2 := started_run (H4.sel 1 [0]) x.job; rw [if_pos (List.mem_append_right _ (List.mem_singleton_self _))] at hl2))
            go_ret
            exact ⟨retB Hf.out, H4.tail.tail⟩
          by_cases h6 : x.limit < 1
          · have Hf : Hid (mayB now free ws holder l = false) := Lib.hid (by
              rw [Bool.eq_false_iff]; intro h; have := (mayB_iff.1 h).2.2.1 x (List.mem_of_getElem? Hx.out); unfold sumAll at this; omega)
            go_wp2_with (first
              | (at_mapUpdate; refine wpList_mapUpdate_hl (k := x.job) (val := .int .i64 1) Try.underlying93 Try.underlying3 rfl _ _ _ rfl HM rfl rfl rfl ?_; intro w4 H4; clear HM hl1 e0; have q0 : w4.cell? ⟨wr.heap.size, 0, none⟩ = some (.int .i64 x.job) := (H4.cellOf (b := wr.heap.size) (vs := #[.int .i64 x.job, .int .i64 x.nodes, .int .i64 x.limit]) (E := 60) (fz := (0, 0)) (by simp) 0); have q1 : w4.cell? ⟨wr.heap.size, 1, none⟩ = some (.int .i64 x.nodes) := (H4.cellOf (b := wr.heap.size) (vs := #[.int .i64 x.job, .int .i64 x.nodes, .int .i64 x.limit]) (E := 60) (fz := (0, 0)) (by simp) 1); have q2 : w4.cell? ⟨wr.heap.size, 2, none⟩ = some (.int .i64 x.limit) := (H4.cellOf (b := wr.heap.size) (vs := #[.int .i64 x.job, .int .i64 x.nodes, .int .i64 x.limit]) (E := 60) (fz := (0, 0)) (by simp) 2); rw [hkp] at H4; have hl2 := started_run (H4.sel 1 [0]) x.job; rw [if_pos (List.mem_append_right _ (List.mem_singleton_self _))] at hl2))
            go_ret
            exact ⟨retB Hf.out, H4.tail.tail⟩
          by_cases h7 : 1048576 < x.limit
          · have Hf : Hid (mayB now free ws holder l = false) := Lib.hid (by
              rw [Bool.eq_false_iff]; intro h; have := (mayB_iff.1 h).2.2.1 x (List.mem_of_getElem? Hx.out); unfold sumAll at this; omega)
            go_wp2_with (first
              | (at_mapUpdate; refine wpList_mapUpdate_hl (k := x.job) (val := .int .i64 1) Try.underlying93 Try.underlying3 rfl _ _ _ rfl HM rfl rfl rfl ?_; intro w4 H4; clear HM hl1 e0; have q0 : w4.cell? ⟨wr.heap.size, 0, none⟩ = some (.int .i64 x.job) := (H4.cellOf (b := wr.heap.size) (vs := #[.int .i64 x.job, .int .i64 x.nodes, .int .i64 x.limit]) (E := 60) (fz := (0, 0)) (by simp) 0); have q1 : w4.cell? ⟨wr.heap.size, 1, none⟩ = some (.int .i64 x.nodes) := (H4.cellOf (b := wr.heap.size) (vs := #[.int .i64 x.job, .int .i64 x.nodes, .int .i64 x.limit]) (E := 60) (fz := (0, 0)) (by simp) 1); have q2 : w4.cell? ⟨wr.heap.size, 2, none⟩ = some (.int .i64 x.limit) := (H4.cellOf (b := wr.heap.size) (vs := #[.int .i64 x.job, .int .i64 x.nodes, .int .i64 x.limit]) (E := 60) (fz := (0, 0)) (by simp) 2); rw [hkp] at H4; have hl2 := started_run (H4.sel 1 [0]) x.job; rw [if_pos (List.mem_append_right _ (List.mem_singleton_self _))] at hl2))
            go_ret
            exact ⟨retB Hf.out, H4.tail.tail⟩
          go_wp2_with (first
            | (at_mapUpdate; refine wpList_mapUpdate_hl (k := x.job) (val := .int .i64 1) Try.underlying93 Try.underlying3 rfl _ _ _ rfl HM rfl rfl rfl ?_; intro w4 H4; clear HM hl1 e0; have q0 : w4.cell? ⟨wr.heap.size, 0, none⟩ = some (.int .i64 x.job) := (H4.cellOf (b := wr.heap.size) (vs := #[.int .i64 x.job, .int .i64 x.nodes, .int .i64 x.limit]) (E := 60) (fz := (0, 0)) (by simp) 0); have q1 : w4.cell? ⟨wr.heap.size, 1, none⟩ = some (.int .i64 x.nodes) := (H4.cellOf (b := wr.heap.size) (vs := #[.int .i64 x.job, .int .i64 x.nodes, .int .i64 x.limit]) (E := 60) (fz := (0, 0)) (by simp) 1); have q2 : w4.cell? ⟨wr.heap.size, 2, none⟩ = some (.int .i64 x.limit) := (H4.cellOf (b := wr.heap.size) (vs := #[.int .i64 x.job, .int .i64 x.nodes, .int .i64 x.limit]) (E := 60) (fz := (0, 0)) (by simp) 2); rw [hkp] at H4; have hl2 := started_run (H4.sel 1 [0]) x.job; rw [if_pos (List.mem_append_right _ (List.mem_singleton_self _))] at hl2))
          go_roundg (gk - 1)
          case measure => omega
          case rel =>
            refine ⟨k + 1, by go_num, by omega, ?_, ?_, ?_⟩
            · rw [take_succ_at Hx.out]
              intro r hr'
              rcases List.mem_append.1 hr' with h | h
              · exact HokW.out r h
              · obtain rfl : r = x := by simpa using h
                unfold sumAll
                omega
            · rw [take_succ_at Hx.out, List.map_append, List.nodup_append]
              refine ⟨Hnd.out, by simp, fun a ha b' hb e => ?_⟩
              obtain rfl : b' = x.job := by simpa using hb
              exact Hin.out (e ▸ ha)
            · rw [take_succ_at Hx.out, List.map_append]
              exact H4.sel 2 [0]
        · obtain rfl : k = ws.length := by omega
          rw [List.take_length] at *
          have hl1 := started_run HK holder
          by_cases hh : holder = -1
          · have Hf : Hid (mayB now free ws holder l = true) := Lib.hid (mayB_iff.2 ⟨⟨n0, n1, f0, f1⟩, Hok.out, HokW.out, Hnd.out, .inl hh⟩)
            have hb1 : (holder == -1) = true := by simp [hh]
            have hb2 : decide (holder = -1) = true := decide_eq_true hh
            clear hh
            go_wp2
            go_ret
            exact ⟨retB Hf.out, HK.tail⟩
          · have hb1 : (holder == -1) = false := by simp [hh]
            have hb2 : decide (holder = -1) = false := decide_eq_false hh
            by_cases hm : holder ∈ ws.map (·.job)
            · have Hf : Hid (mayB now free ws holder l = true) := Lib.hid (mayB_iff.2 ⟨⟨n0, n1, f0, f1⟩, Hok.out, HokW.out, Hnd.out, .inr hm⟩)
              rw [if_pos hm] at hl1
              clear hh hm
              go_wp2
              go_ret
              exact ⟨retB Hf.out, HK.tail⟩
            · have Hf : Hid (mayB now free ws holder l = false) := Lib.hid (by
                rw [Bool.eq_false_iff]; intro h; rcases (mayB_iff.1 h).2.2.2.2 with h | h
                · exact hh h
                · exact hm h)
              rw [if_neg hm] at hl1
              clear hh hm
              go_wp2
              go_ret
              exact ⟨retB Hf.out, HK.tail⟩
end
end Go.Proofs.Ytebibcaahjmjfaa

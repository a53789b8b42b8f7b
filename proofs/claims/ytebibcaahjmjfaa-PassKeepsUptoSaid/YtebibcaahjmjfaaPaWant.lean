/- A job's want; whether a number is in a list. -/
import Derived.Test.YtebibcaahjmjfaaPaBox
set_option linter.unusedVariables false
set_option linter.unusedSimpArgs false
namespace Go.Proofs.Ytebibcaahjmjfaa
open Go.RowKit Go.Proofs.HL Go.Proofs.HL.Pr Go.Proofs.HL.Pa
theorem find_at {α : Type} {q : α → Bool} : ∀ (l : List α) (k : Nat) (x : α), l[k]? = some x → q x = true → (∀ j y, j < k → l[j]? = some y → q y = false) → l.find? q = some x
  | [], k, x, h, _, _ => by simp at h
  | y :: l, 0, x, h, hx, _ => by
    simp only [List.getElem?_cons_zero, Option.some.injEq] at h
    subst h
    rw [List.find?_cons, hx]
  | y :: l, k + 1, x, h, hx, hb => by
    rw [List.find?_cons, hb 0 y (by omega) rfl]
    exact find_at l k x (by simpa using h) hx (fun j z hj hz => hb (j + 1) z (by omega) (by simpa using hz))
theorem find_no {α : Type} {q : α → Bool} {l : List α} (h : ∀ j y, j < l.length → l[j]? = some y → q y = false) : l.find? q = none := by
  rw [List.find?_eq_none]
  intro x hx
  obtain ⟨j, hj, rfl⟩ := List.getElem_of_mem hx
  rw [h j _ hj (List.getElem?_eq_getElem hj)]
  exact Bool.false_ne_true
def wantL (ws : List Wn) (job : Int) : Option Wn := ws.find? fun x => x.job == job
section
variable {w0 w : World} {L : List At} {v : Value} {ws : List Wn} {S : List Int}
set_option maxRecDepth 100000 in
set_option maxHeartbeats 2000000 in
theorem want_ok (H : HL w0 w L) (hW : Wants w0 L v ws) (job : Int) :
    Calls Try.prog 29 #[v, .int .i64 job] w fun e w' => e = .returned (.tuple #[wnV ((wantL ws job).getD ⟨0, 0, 0⟩), .bool (wantL ws job).isSome]) ∧ HL w0 w' L := by
  obtain ⟨A, c, rfl, hc1, hc2⟩ := rd_shape (hW w H)
  unfold maxLen at hc2
  have HB := HL.allocW H ⟨0, 0, 0⟩
  go_enter Try.func29, Try.ntmps29
  go_wp2
  go_loopg [6] ws.length (fun g i wr => ∃ k : Nat, i = .int .i64 k ∧ k + g = ws.length ∧ (∀ j y, j < k → ws[j]? = some y → (y.job == job) = false) ∧ HL w0 wr (boxW w.heap.size ⟨0, 0, 0⟩ :: L))
  case atStart => exact ⟨0, rfl, by omega, (fun _ _ h => by omega), HB⟩
  case round =>
    obtain ⟨k, rfl, hk, hno, HK⟩ := hrel
    have Hno := Lib.hid hno
    clear hno HB
    obtain ⟨b0, b1, b2⟩ := boxW_cells HK
    have f0 := HL.frozen HK 0; have f1 := HL.frozen HK 1; have f2 := HL.frozen HK 2
    by_cases hlt : k < ws.length
    · obtain ⟨x, hx⟩ : ∃ x, ws[k]? = some x := ⟨_, List.getElem?_eq_getElem hlt⟩
      obtain ⟨b, o, c', hv, d0, d1, d2⟩ := wn_at (hW wr HK.tail) hx
      simp only [Value.slice.injEq] at hv
      obtain ⟨rfl, -, rfl⟩ := hv
      have Hx := Lib.hid hx; clear hx
      by_cases hj : x.job = job
      · have hq : (x.job == job) = true := by simp [hj]
        have hq2 : decide (x.job = job) = true := decide_eq_true hj
        have Hf := Lib.hid (show wantL ws job = some x from find_at ws k x Hx.out hq Hno.out)
        have HS := ((HL.setCell HK 0 (.int .i64 x.job)).setCell 1 (.int .i64 x.nodes)).setCell 2 (.int .i64 x.limit)
        have Hj := Lib.hid hj; clear hj
        go_wp2
        generalize World.setCell _ _ _ = W at *
        have c0 : W.cell? ⟨w.heap.size, 0, none⟩ = some (.int .i64 x.job) := HS.cell 0
        have c1 : W.cell? ⟨w.heap.size, 1, none⟩ = some (.int .i64 x.nodes) := HS.cell 1
        have c2 : W.cell? ⟨w.heap.size, 2, none⟩ = some (.int .i64 x.limit) := HS.cell 2
        (try simp only [Exit.inBlock, Exit.then]); refine bodyPost_ret (by simp [results, Try.results29, go_sem, c0, c1, c2]; try rfl) rfl ?_
        rw [Hf.out]
        exact ⟨rfl, HS.tail⟩
      · have hq : (x.job == job) = false := by simp [hj]
        have hq2 : decide (x.job = job) = false := decide_eq_false hj
        clear hj
        go_wp2
        go_roundg (gk - 1)
        case measure => omega
        case rel =>
          refine ⟨k + 1, by go_num, by omega, fun j y hj hy => ?_, HK⟩
          rcases Nat.lt_or_ge j k with h | h
          · exact Hno.out j y h hy
          · obtain rfl : j = k := by omega
            rw [Hx.out] at hy
            obtain rfl := Option.some.inj hy
            exact hq
    · have Hf := Lib.hid (show wantL ws job = none from find_no (fun j y hj hy => Hno.out j y (by omega) hy))
      have HS := ((HL.setCell HK 0 (.int .i64 0)).setCell 1 (.int .i64 0)).setCell 2 (.int .i64 0)
      go_wp2
      generalize World.setCell _ _ _ = W at *
      have c0 : W.cell? ⟨w.heap.size, 0, none⟩ = some (.int .i64 0) := HS.cell 0
      have c1 : W.cell? ⟨w.heap.size, 1, none⟩ = some (.int .i64 0) := HS.cell 1
      have c2 : W.cell? ⟨w.heap.size, 2, none⟩ = some (.int .i64 0) := HS.cell 2
      (try simp only [Exit.inBlock, Exit.then]); refine bodyPost_ret (by simp [results, Try.results29, go_sem, c0, c1, c2]; try rfl) rfl ?_
      rw [Hf.out]
      exact ⟨rfl, HS.tail⟩
set_option maxRecDepth 100000 in
set_option maxHeartbeats 2000000 in
theorem has_ok (H : HL w0 w L) (hS : Ints w0 L v S) (n : Int) :
    Calls Try.prog 30 #[v, .int .i64 n] w fun e w' => e = .returned (.bool (decide (n ∈ S))) ∧ HL w0 w' L := by
  obtain ⟨A, c, rfl, hc1, hc2⟩ := rd_shape (hS w H)
  unfold maxLen at hc2
  go_enter Try.func30, Try.ntmps30
  go_wp2
  go_loopg [5] S.length (fun g i wr => ∃ k : Nat, i = .int .i64 k ∧ k + g = S.length ∧ (∀ j y, j < k → S[j]? = some y → y ≠ n) ∧ HL w0 wr L)
  case atStart => exact ⟨0, rfl, by omega, (fun _ _ h => by omega), H⟩
  case round =>
    obtain ⟨k, rfl, hk, hno, HK⟩ := hrel
    have Hno := Lib.hid hno
    clear hno H
    by_cases hlt : k < S.length
    · obtain ⟨x, hx⟩ : ∃ x, S[k]? = some x := ⟨_, List.getElem?_eq_getElem hlt⟩
      obtain ⟨b, o, c', hv, d0⟩ := int_at (hS wr HK) hx
      simp only [Value.slice.injEq] at hv
      obtain ⟨rfl, -, rfl⟩ := hv
      have Hx := Lib.hid hx; clear hx
      by_cases hj : x = n
      · have hq : (x == n) = true := by simp [hj]
        have hq2 : decide (x = n) = true := decide_eq_true hj
        have Hd := Lib.hid (show decide (n ∈ S) = true from decide_eq_true (hj ▸ List.mem_of_getElem? Hx.out))
        clear hj
        go_wp2
        go_ret
        exact ⟨retB Hd.out, HK⟩
      · have hq : (x == n) = false := by simp [hj]
        have hq2 : decide (x = n) = false := decide_eq_false hj
        have Hj := Lib.hid hj
        clear hj
        go_wp2
        go_roundg (gk - 1)
        case measure => omega
        case rel =>
          refine ⟨k + 1, by go_num, by omega, fun j y hj hy => ?_, HK⟩
          rcases Nat.lt_or_ge j k with h | h
          · exact Hno.out j y h hy
          · obtain rfl : j = k := by omega
            rw [Hx.out] at hy
            obtain rfl := Option.some.inj hy
            exact Hj.out
    · have Hd := Lib.hid (show decide (n ∈ S) = false from decide_eq_false (fun h => by
        obtain ⟨j, hj, e⟩ := List.getElem_of_mem h
        exact Hno.out j _ (by omega) (List.getElem?_eq_getElem hj) e))
      go_wp2
      go_ret
      exact ⟨retB Hd.out, HK⟩
theorem wantL_mem {ws : List Wn} (hn : (ws.map (·.job)).Nodup) {x : Wn} (hx : x ∈ ws) : wantL ws x.job = some x := by
  obtain ⟨k, hk, rfl⟩ := List.getElem_of_mem hx
  refine find_at ws k _ (List.getElem?_eq_getElem hk) (by simp) (fun j y hj hy => ?_)
  obtain ⟨hj2, rfl⟩ := List.getElem?_eq_some_iff.1 hy
  rw [beq_eq_false_iff_ne]
  intro e
  have := (List.getElem_inj (h₀ := by simpa using hj2) (h₁ := by simpa using hk) hn).1 (by simpa using e)
  omega
theorem wantL_no {ws : List Wn} {job : Int} (h : job ∉ ws.map (·.job)) : wantL ws job = none := by
  refine find_no (fun j y hj hy => ?_)
  rw [beq_eq_false_iff_ne]
  intro e
  exact h (by rw [← e]; exact List.mem_map_of_mem (List.mem_of_getElem? hy))
end
end Go.Proofs.Ytebibcaahjmjfaa

/- The document's examples, at the head of all statements; the lent list. -/
import Derived.Test.YtebibcaahjmjfaaPrUse
import Derived.Test.YtebibcaahjmjfaaPrPlainB
set_option linter.unusedVariables false
set_option linter.unusedSimpArgs false
namespace Go.Proofs.Ytebibcaahjmjfaa
open Go.RowKit Go.Proofs.HL Go.Proofs.HL.Pr

section
variable {w0 w : World} {L : List At} {v : Value} {l : List Rn}
def runsX : List Rn := [⟨3, 6⟩, ⟨1, 9⟩, ⟨2, 6⟩]
theorem ownRuns {xs : List Rn} (H : HL w0 w (runsAt w0.heap.size v xs :: L)) : Rd 2 v xs.length (xs.flatMap encR) w := rd_row H.head
theorem entRuns {xs : List Rn} {base : Nat} (L' : List At) : Runs w0 (runsAt base v xs :: L') v xs := fun w H => rd_row H.head
set_option maxRecDepth 100000 in
theorem runs_ok (H : HL w0 w L) : Calls Try.prog 35 #[] w fun e w' => ∃ g, e = .returned (.slice (some ⟨g, 0, none⟩) 3 3) ∧ HL w0 w' (runsAt w0.heap.size (.slice (some ⟨g, 0, none⟩) 3 3) runsX :: L) := by
  go_enter Try.func35, Try.ntmps35
  go_wp2
  go_ret
  exact ⟨_, rfl, (H.alloc (.cells #[.int .i64 3, .int .i64 6, .int .i64 1, .int .i64 9, .int .i64 2, .int .i64 6] 42)).rowOf (cs := runsX.flatMap encR) rfl (by decide)⟩

theorem func_not_nil (f : Fn) (cs : Array Value) (w : World) : (binOp .eql 38 (.func f #[] cs) Value.nilFunc).run Try.prog w = .ok (.bool false) w := by kernel_rfl
set_option maxRecDepth 100000 in
set_option maxHeartbeats 1000000 in
theorem shown_ok (H : HL w0 w L) : Calls Try.prog 12 #[] w fun e w' => e = .returned (.bool true) ∧ HL w0 w' L := by
  have hq := func_not_nil
  have e1 : stepsAll 1 2 runsX = [⟨1, 2⟩, ⟨6, 7⟩, ⟨9, 8⟩] := by decide
  have e2 : shadowAll 1 2 runsX 3 = (6, 4, true) := by decide
  have e3 : shadowAll 1 2 runsX 9 = (0, 0, false) := by decide
  have e4 : atAll 1 2 runsX 100 = 8 := by decide
  have E1 := Lib.hid e1; have E2 := Lib.hid e2; have E3 := Lib.hid e3; have E4 := Lib.hid e4
  clear e1 e2 e3 e4
  go_enter Try.func12, Try.ntmps12
  go_wp2_with (first
    | (go_at_call 35; refine (runs_ok H).mono ?_; rintro e w1 ⟨g1, rfl, H1⟩; clear H)
    | (go_at_call 22; refine (all_ok H1 (entRuns _) (by decide) 1 2).mono ?_; rintro e w2 ⟨fv, K, Kp, rfl, ⟨gf, lb, rfl, -, -⟩, -, H2⟩; clear H1; have H := HL.drops H2; clear H2)
    | (go_at_call 14; refine (steps_ok H1 (entRuns _) (by decide) 1 2).mono ?_; rw [E1.out]; rintro e w3 ⟨u2, rfl, H⟩; clear H1; have HS := ownStps H; obtain ⟨b2, o2, c2, hv, d0, d1⟩ := stp_at (k := 1) HS rfl; subst hv; clear HS d0 d1)
    | (go_at_call 16; refine (shadow_ok H1 (entRuns _) (by decide) _ _ _).mono ?_; first | (rw [E2.out]; simp only [shV]; rintro e w5 ⟨rfl, H⟩; clear H1) | (rw [E3.out]; simp only [shV]; rintro e w6 ⟨rfl, H⟩; clear H1; have HS := ownStps (H.sel 3 [2]); obtain ⟨b3, o3, c3, hv, d0, d1⟩ := stp_at (k := 1) HS rfl; simp only [Value.slice.injEq, Option.some.injEq, Addr.mk.injEq] at hv; obtain ⟨⟨hv1, hv2, -⟩, -, -⟩ := hv; subst hv1; subst hv2; rw [Nat.one_mul] at d0 d1; clear HS))
    | (go_at_call 15; refine (atAll_ok H1 (entRuns _) (by decide) 1 2 100).mono ?_; rw [E4.out]; rintro e w7 ⟨rfl, H⟩; clear H1))
  go_ret
  exact ⟨rfl, H.sel 6 []⟩

def mark77 : Rn := ⟨-77, 0⟩
theorem rd_run {x : Rn} : Rd 2 (.slice (some ⟨w.heap.size, 0, none⟩) 1 1) 1 ([x].flatMap encR) (w.alloc (.cells #[.int .i64 x.nodes, .int .i64 x.fin] 42)) := rd_new (cs := [.int .i64 x.nodes, .int .i64 x.fin]) rfl rfl (by decide)
set_option maxRecDepth 100000 in
set_option maxHeartbeats 800000 in
theorem lend_ok (H : HL w0 w L) (hr : Runs w0 L v l) (hl : l.length ≤ 8796093022000) :
    Calls Try.prog 13 #[v] w fun e w' => ∃ u, e = .returned u ∧ HL w0 w' (runsAt w0.heap.size u (l ++ [mark77]) :: L) := by
  obtain ⟨A, c, rfl, -, -⟩ := rd_shape (hr w H)
  have H1 := emptyRuns H
  have hb : ([] : List Rn).length + l.length ≤ 8796093022208 := by simp; omega
  have hb2 : l.length + [mark77].length ≤ 8796093022208 := by simp; omega
  have hr1 := hr _ (H.alloc' (.cells #[] 42))
  go_enter Try.func13, Try.ntmps13
  go_wp2_with (first
    | (at_builtin; refine append_runs (v := .slice (some ⟨w.heap.size, 0, none⟩) 0 0) (xv := .slice A l.length c) (xs := []) (ys := l) rfl _ _ rfl H1 rfl rfl hr1 hb ?_; intro z w3 H3; clear H1 hr1; have H4 := H3.alloc' (.cells #[.int .i64 (-77), .int .i64 0] 42); have hr4 := rd_run (w := w3) (x := mark77); rw [List.nil_append] at H4; clear H3)
    | (at_builtin; refine append_runs (v := z) (xv := .slice (some ⟨w3.heap.size, 0, none⟩) 1 1) (xs := l) (ys := [mark77]) rfl _ _ rfl H4 rfl rfl hr4 hb2 ?_; intro z5 w5 H5; clear H4 hr4))
  go_ret
  exact ⟨_, rfl, H5⟩

theorem set_run (a b : Int) : ∀ (m : List Rn) (k : Nat), k < m.length → ((m.flatMap encR).set (k * 2) (.int .i64 a)).set (k * 2 + 1) (.int .i64 b) = (m.set k ⟨a, b⟩).flatMap encR
  | [], k, h => by simp at h
  | x :: m, 0, h => by simp [encR]
  | x :: m, k + 1, h => by
    have ih := set_run a b m k (by simpa using h)
    rw [List.set_cons_succ, List.flatMap_cons, List.flatMap_cons, ← ih]
    have e1 : (k + 1) * 2 = k * 2 + 2 := by omega
    rw [e1]
    simp [encR, List.set_append]
theorem entPrefix {A : Option Addr} {n c k base : Nat} {m : List Rn} {L' : List At} (hn : n = m.length) (hk : k ≤ m.length) : Runs w0 (runsAt base (.slice A n c) m :: L') (.slice A k c) (m.take k) := by
  intro W hW
  subst hn
  have h1 := rd_prefix (rd_row hW.head) k hk
  have e : (m.flatMap encR).take (k * 2) = (m.take k).flatMap encR := by
    clear h1 hW hk
    induction m generalizing k with
    | nil => simp
    | cons x m ih =>
      cases k with
      | zero => simp
      | succ k =>
        rw [List.take_succ_cons, List.flatMap_cons, List.flatMap_cons, ← ih (k := k), show (k + 1) * 2 = k * 2 + 2 by omega]
        simp [encR]
  rw [e] at h1
  have e2 : (m.take k).length = k := by rw [List.length_take]; omega
  show Rd 2 (.slice A k c) (m.take k).length ((m.take k).flatMap encR) W
  rw [e2]
  exact h1
theorem rowAddr {A : Option Addr} {n c base : Nat} {m : List Rn} (H : HL w0 w (runsAt base (.slice A n c) m :: L)) (h : 0 < m.length) : ∃ g, A = some ⟨g, 0, none⟩ ∧ n = m.length := by
  obtain ⟨A', c', h1, h2, -, -⟩ := row_shape (show w.ownsRow base _ 2 (.slice A n c) m.length (m.flatMap encR) from H.head)
  simp only [Value.slice.injEq] at h1
  obtain ⟨rfl, hn, -⟩ := h1
  obtain ⟨g, rfl⟩ := h2.resolve_left (by omega)
  exact ⟨g, rfl, hn⟩

set_option maxRecDepth 100000 in
set_option maxHeartbeats 2000000 in
theorem still_ok {u : Value} {y : Int} (H : HL w0 w (runsAt w0.heap.size u (l ++ [⟨-77, y⟩]) :: L)) (hr : Runs w0 L v l) (hl : l.length ≤ 8796093022000) :
    Calls Try.prog 21 #[u, v] w fun e w' => ∃ m', e = .returned (.bool true) ∧ m'.length = l.length + 1 ∧ HL w0 w' (runsAt w0.heap.size u m' :: L) := by
  obtain ⟨A, c, rfl, -, hc1, hc2⟩ := row_shape (show w.ownsRow w0.heap.size 42 2 u (l ++ [(⟨-77, y⟩ : Rn)]).length ((l ++ [(⟨-77, y⟩ : Rn)]).flatMap encR) from H.head)
  have hlen : (l ++ [(⟨-77, y⟩ : Rn)]).length = l.length + 1 := by simp
  rw [hlen] at H hc1 ⊢
  obtain ⟨g, rfl, -⟩ := rowAddr H (by rw [hlen]; omega)
  unfold maxLen at hc2
  have hp : Runs w0 (runsAt w0.heap.size (.slice (some ⟨g, 0, none⟩) (l.length + 1) c) (l ++ [⟨-77, y⟩]) :: L) (.slice (some ⟨g, 0, none⟩) l.length c) l := by
    have := entPrefix (w0 := w0) (A := some ⟨g, 0, none⟩) (c := c) (base := w0.heap.size) (m := l ++ [⟨-77, y⟩]) (L' := L) (k := l.length) hlen.symm (by rw [hlen]; omega)
    rwa [List.take_left] at this
  have hsame := sameRuns_ok H hp (hr.cons _)
  rw [decide_eq_true rfl] at hsame
  have Hlen := Lib.hid hlen
  clear hlen hp
  go_enter Try.func21, Try.ntmps21
  go_wp2_with (go_at_call 39; refine hsame.mono ?_; rintro e w1 ⟨rfl, H1⟩; clear hsame H; have hrd := rd_row H1.head; obtain ⟨b5, o5, c5, hv, d0, d1⟩ := run_at hrd (k := l.length) (x := ⟨-77, y⟩) (by simp); simp only [Value.slice.injEq, Option.some.injEq, Addr.mk.injEq] at hv; obtain ⟨⟨hv1, hv2, -⟩, -, -⟩ := hv; subst hv1; subst hv2; rw [Nat.zero_add] at d0; clear hrd d1)
  clear d0
  go_loopg [7] (l.length + 1) (fun g2 i wr => ∃ (k : Nat) (m : List Rn), i = .int .i64 k ∧ k + g2 = l.length + 1 ∧ m.length = l.length + 1 ∧ HL w0 wr (runsAt w0.heap.size (.slice (some ⟨g, 0, none⟩) (l.length + 1) c) m :: L))
  case atStart => exact ⟨0, _, rfl, by omega, Hlen.out, H1⟩
  case round =>
    obtain ⟨k, m, rfl, hk, hm, HK⟩ := hrel
    clear H1
    have Hm := Lib.hid hm
    by_cases hlt : k < l.length + 1
    · obtain ⟨xk, hxk⟩ : ∃ x, m[k]? = some x := ⟨_, List.getElem?_eq_getElem (by omega)⟩
      have HK' : HL w0 wr (row w0.heap.size 42 2 (.slice (some ⟨g, 0, none⟩) (l.length + 1) c) (l.length + 1) (m.flatMap encR) :: L) := by
        have := HK; unfold runsAt at this; rwa [hm] at this
      have c0 : wr.cell? ⟨g, k * 2, none⟩ = some (.int .i64 xk.nodes) := HK'.rowCell (List.mem_cons_self ..) _ _ (by
        rw [show k * 2 = k * 2 + 0 by omega, flat_at encR 2 (fun _ => rfl) m k 0 _ hxk (by decide)]; rfl)
      have c1 : wr.cell? ⟨g, k * 2 + 1, none⟩ = some (.int .i64 xk.fin) := HK'.rowCell (List.mem_cons_self ..) _ _ (by
        rw [flat_at encR 2 (fun _ => rfl) m k 1 _ hxk (by decide)]; rfl)
      have f0 := HK'.rowFrozen (List.mem_cons_self ..) (k * 2)
      have f1 := HK'.rowFrozen (List.mem_cons_self ..) (k * 2 + 1)
      have HS := (HK'.setRow (k * 2) (.int .i64 5)).setRow (k * 2 + 1) (.int .i64 5)
      rw [set_run 5 5 m k (by omega)] at HS
      clear HK HK' hm hxk
      go_wp2
      go_roundg (gk - 1)
      case measure => omega
      case rel => exact ⟨k + 1, m.set k ⟨5, 5⟩, by go_num, by omega, by rw [List.length_set]; exact Hm.out, by unfold runsAt; rw [List.length_set, Hm.out]; exact HS⟩
    · clear hm
      go_wp2
      go_ret
      exact ⟨m, rfl, Hm.out, HK⟩
end
end Go.Proofs.Ytebibcaahjmjfaa

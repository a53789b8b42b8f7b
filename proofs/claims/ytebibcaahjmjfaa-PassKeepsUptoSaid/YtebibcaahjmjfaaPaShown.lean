/- The document's examples of a pass, at the head of all statements. -/
import Derived.Test.YtebibcaahjmjfaaPaPass
import Derived.Test.YtebibcaahjmjfaaPaSmall
set_option linter.unusedVariables false
set_option linter.unusedSimpArgs false
namespace Go.Proofs.Ytebibcaahjmjfaa
open Go.RowKit Go.Proofs.HL Go.Proofs.HL.Pr Go.Proofs.HL.Pa
section
variable {w0 w : World} {L : List At}
def wantsAt (base : Nat) (v : Value) (l : List Wn) : At := row base 60 3 v l.length (l.flatMap encW)
theorem entWants {base : Nat} {v : Value} {l : List Wn} (L' : List At) : Wants w0 (wantsAt base v l :: L') v l := fun w H => rd_row H.head
theorem rdInts {base : Nat} {v : Value} {S : List Int} (H : HL w0 w (intsR base v S :: L)) : Rd 1 v S.length (S.map fun j => .int .i64 j) w := by
  have h : w.ownsRow base 3 1 v S.length (S.map fun j => .int .i64 j) := H.head
  exact rd_row h
def ws1 : List Wn := [⟨0, 3, 5⟩, ⟨1, 3, 5⟩, ⟨2, 1, 5⟩, ⟨3, 1, 6⟩]
def ws2 : List Wn := [⟨7, 1, 9⟩, ⟨8, 1, 9⟩, ⟨5, 4, 1⟩]
def rn2 : List Rn := [⟨2, 8⟩]
theorem nilWants : Wants w0 L (.slice none 0 0) [] := fun _ _ => rd_nil
theorem nilRuns : Runs w0 L (.slice none 0 0) [] := fun _ _ => rd_nil
theorem call1 (H : HL w0 w L) : Calls Try.prog 28 #[.int .i64 1, .int .i64 4, .slice (some ⟨w.heap.size, 0, none⟩) 4 4, .int .i64 (-1), .slice none 0 0] (w.alloc (.cells #[.int .i64 0, .int .i64 3, .int .i64 5, .int .i64 1, .int .i64 3, .int .i64 5, .int .i64 2, .int .i64 1, .int .i64 5, .int .i64 3, .int .i64 1, .int .i64 6] 60)) fun e w' => ∃ u, e = .returned (.tuple #[.agg #[u, .int .i64 1, .int .i64 6, .int .i64 1], .int .i64 0]) ∧ HL w0 w' (intsR w0.heap.size u [0, 2] :: L) := by
  have H1 : HL w0 (w.alloc (.cells #[.int .i64 0, .int .i64 3, .int .i64 5, .int .i64 1, .int .i64 3, .int .i64 5, .int .i64 2, .int .i64 1, .int .i64 5, .int .i64 3, .int .i64 1, .int .i64 6] 60)) (wantsAt w0.heap.size (.slice (some ⟨w.heap.size, 0, none⟩) 4 4) ws1 :: L) := (H.alloc (.cells #[.int .i64 0, .int .i64 3, .int .i64 5, .int .i64 1, .int .i64 3, .int .i64 5, .int .i64 2, .int .i64 1, .int .i64 5, .int .i64 3, .int .i64 1, .int .i64 6] 60)).rowOf (n := 4) (k := 3) (cs := ws1.flatMap encW) rfl (by decide)
  refine (pass_ok H1 (entWants (l := ws1) _) nilRuns (by decide) 1 4 (-1) (by decide)).mono ?_
  rintro e w' ⟨u, he, H2⟩
  have a1 : (passC 1 4 ws1 (-1) []).holder = 1 ∧ (passC 1 4 ws1 (-1) []).shadow = 6 ∧ (passC 1 4 ws1 (-1) []).extra = 1 ∧ (passD 1 4 ws1 (-1) []).starts = [0, 2] := by decide
  simp only [planV, a1.1, a1.2.1, a1.2.2.1] at he
  rw [a1.2.2.2] at H2
  exact ⟨u, he, H2.sel 2 [0]⟩
theorem call2 {b : Nat} (hb : w.heap.size = b) (H : HL w0 w L) : Calls Try.prog 28 #[.int .i64 3, .int .i64 2, .slice (some ⟨b, 0, none⟩) 3 3, .int .i64 5, .slice (some ⟨b + 1, 0, none⟩) 1 1] ((w.alloc (.cells #[.int .i64 7, .int .i64 1, .int .i64 9, .int .i64 8, .int .i64 1, .int .i64 9, .int .i64 5, .int .i64 4, .int .i64 1] 60)).alloc (.cells #[.int .i64 2, .int .i64 8] 42)) fun e w' => ∃ u, e = .returned (.tuple #[.agg #[u, .int .i64 5, .int .i64 8, .int .i64 0], .int .i64 0]) ∧ HL w0 w' (intsR w0.heap.size u [] :: L) := by
  subst hb
  have H1 : HL w0 (w.alloc (.cells #[.int .i64 7, .int .i64 1, .int .i64 9, .int .i64 8, .int .i64 1, .int .i64 9, .int .i64 5, .int .i64 4, .int .i64 1] 60)) (wantsAt w0.heap.size (.slice (some ⟨w.heap.size, 0, none⟩) 3 3) ws2 :: L) := (H.alloc (.cells #[.int .i64 7, .int .i64 1, .int .i64 9, .int .i64 8, .int .i64 1, .int .i64 9, .int .i64 5, .int .i64 4, .int .i64 1] 60)).rowOf (n := 3) (k := 3) (cs := ws2.flatMap encW) rfl (by decide)
  have H2 : HL w0 ((w.alloc (.cells #[.int .i64 7, .int .i64 1, .int .i64 9, .int .i64 8, .int .i64 1, .int .i64 9, .int .i64 5, .int .i64 4, .int .i64 1] 60)).alloc (.cells #[.int .i64 2, .int .i64 8] 42)) (runsAt w0.heap.size (.slice (some ⟨w.heap.size + 1, 0, none⟩) 1 1) rn2 :: wantsAt w0.heap.size (.slice (some ⟨w.heap.size, 0, none⟩) 3 3) ws2 :: L) := by
    have := (H1.alloc (.cells #[.int .i64 2, .int .i64 8] 42)).rowOf (n := 1) (k := 2) (cs := rn2.flatMap encR) rfl (by decide)
    rw [World.size_alloc] at this
    exact this
  refine (pass_ok H2 (Wants.cons (entWants (l := ws2) _) _) (entRuns (xs := rn2) _) (by decide) 3 2 5 (by decide)).mono ?_
  rintro e w' ⟨u, he, H3⟩
  have a1 : (passC 3 2 ws2 5 rn2).holder = 5 ∧ (passC 3 2 ws2 5 rn2).shadow = 8 ∧ (passC 3 2 ws2 5 rn2).extra = 0 ∧ (passD 3 2 ws2 5 rn2).starts = [] := by decide
  simp only [planV, a1.1, a1.2.1, a1.2.2.1] at he
  rw [a1.2.2.2] at H3
  exact ⟨u, he, H3.sel 3 [0]⟩
theorem call3 (H : HL w0 w L) : Calls Try.prog 28 #[.int .i64 1, .int .i64 2, .slice none 0 0, .int .i64 0, .slice none 0 0] w fun e w' => e = .returned (.tuple #[.agg #[.slice none 0 0, .int .i64 0, .int .i64 0, .int .i64 0], .int .i64 150]) ∧ HL w0 w' L :=
  pass_no H nilWants nilRuns (by decide) 1 2 0 (by decide)
set_option maxRecDepth 100000 in
set_option maxHeartbeats 4000000 in
theorem shown15_ok (H : HL w0 w L) : Calls Try.prog 23 #[] w fun e w' => e = .returned (.bool true) ∧ HL w0 w' L := by
  go_enter Try.func23, Try.ntmps23
  go_wp2_with (first
    | (go_at_call 28; first
        | ((with_reducible refine (call1 H).mono ?_); rintro e w1 ⟨u1, rfl, H1⟩; clear H; obtain ⟨A1, c1, hv, -, -, -⟩ := row_shape (show w1.ownsRow w0.heap.size 3 1 u1 _ _ from H1.head); subst hv; have H2 := H1.alloc (.cells #[.slice A1 2 c1, .int .i64 1, .int .i64 6, .int .i64 1] 50))
        | ((with_reducible refine (call2 (b := w1.heap.size + 1) (World.size_alloc ..) H2).mono ?_); rintro e w3 ⟨u3, rfl, H3⟩; clear H2; obtain ⟨A3, c3, hv, -, -, -⟩ := row_shape (show w3.ownsRow w0.heap.size 3 1 u3 _ _ from H3.head); subst hv; have H4 := H3.alloc (.cells #[.slice A3 0 c3, .int .i64 5, .int .i64 8, .int .i64 0] 50))
        | ((with_reducible refine (call3 H4).mono ?_); rintro e w5 ⟨rfl, H5⟩; clear H4;
            have H6 := H5.alloc (.cells #[.slice none 0 0, .int .i64 0, .int .i64 0, .int .i64 0] 50);
            have p0 : (w5.alloc (.cells #[.slice none 0 0, .int .i64 0, .int .i64 0, .int .i64 0] 50)).cell? ⟨w1.heap.size, 0, none⟩ = some (.slice A1 2 c1) := (H6.sel 4 [3]).cell 0;
            have p1 : (w5.alloc (.cells #[.slice none 0 0, .int .i64 0, .int .i64 0, .int .i64 0] 50)).cell? ⟨w1.heap.size, 1, none⟩ = some (.int .i64 1) := (H6.sel 4 [3]).cell 1;
            have p2 : (w5.alloc (.cells #[.slice none 0 0, .int .i64 0, .int .i64 0, .int .i64 0] 50)).cell? ⟨w1.heap.size, 2, none⟩ = some (.int .i64 6) := (H6.sel 4 [3]).cell 2;
            have p3 : (w5.alloc (.cells #[.slice none 0 0, .int .i64 0, .int .i64 0, .int .i64 0] 50)).cell? ⟨w1.heap.size, 3, none⟩ = some (.int .i64 1) := (H6.sel 4 [3]).cell 3;
            have H7 : HL w0 ((w5.alloc (.cells #[.slice none 0 0, .int .i64 0, .int .i64 0, .int .i64 0] 50)).alloc (.cells #[.int .i64 0, .int .i64 2] 3)) (intsR w0.heap.size (.slice (some ⟨w5.heap.size + 1, 0, none⟩) 2 2) [0, 2] :: _) := (by have := (H6.alloc (.cells #[.int .i64 0, .int .i64 2] 3)).rowOf (n := 2) (k := 1) (cs := [.int .i64 0, .int .i64 2]) rfl (by decide); rw [World.size_alloc] at this; exact this)))
    | (go_at_call 26; first
        | (have hs := same15_ok (a := [0, 2]) (b := [0, 2]) (u := .slice A1 2 c1) (v := .slice (some ⟨w5.heap.size + 1, 0, none⟩) 2 2) (h1 := 1) (s1 := 6) (e1 := 1) (h2 := 1) (s2 := 6) (e2 := 1) H7 (show Ints w0 _ (.slice A1 2 c1) [0, 2] from fun W H => rdInts (H.sel 6 [5])) (entInts _); rw [decide_eq_true (by decide)] at hs; (with_reducible refine hs.mono ?_); clear hs; rintro e w8 ⟨rfl, H8⟩; clear H7 H6;
            have r0 : w8.cell? ⟨w3.heap.size, 0, none⟩ = some (.slice A3 0 c3) := (H8.sel 3 [2]).cell 0; have r1 : w8.cell? ⟨w3.heap.size, 1, none⟩ = some (.int .i64 5) := (H8.sel 3 [2]).cell 1; have r2 : w8.cell? ⟨w3.heap.size, 2, none⟩ = some (.int .i64 8) := (H8.sel 3 [2]).cell 2; have r3 : w8.cell? ⟨w3.heap.size, 3, none⟩ = some (.int .i64 0) := (H8.sel 3 [2]).cell 3)
        | (have hs := same15_ok (a := []) (b := []) (u := .slice A3 0 c3) (v := .slice none 0 0) (h1 := 5) (s1 := 8) (e1 := 0) (h2 := 5) (s2 := 8) (e2 := 0) H8 (show Ints w0 _ (.slice A3 0 c3) [] from fun W H => rdInts (H.sel 4 [3])) (fun _ _ => rd_nil); rw [decide_eq_true (by decide)] at hs; (with_reducible refine hs.mono ?_); clear hs; rintro e w9 ⟨rfl, H9⟩; clear H8))
    )
  go_ret
  exact ⟨rfl, H9.sel 6 []⟩
end
end Go.Proofs.Ytebibcaahjmjfaa

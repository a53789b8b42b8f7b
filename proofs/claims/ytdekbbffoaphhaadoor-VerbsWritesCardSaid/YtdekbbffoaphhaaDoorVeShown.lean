/- The document's examples of commands; the law VerbsNames. -/
import Derived.Test.YtdekbbffoaphhaaDoorVeParse
import Derived.Test.YtdekbbffoaphhaaDoorVePrint
set_option linter.unusedVariables false
set_option linter.unusedSimpArgs false
namespace Go.Proofs.YtdekbbffoaphhaaDoor
open Go.RowKit Go.Proofs.HL Go.Proofs.Ve
theorem cmd_eql (o c : Cm) (w : World) : (binOp .eql 24 (cmV o) (cmV c)).run Tryd.prog w = .ok (.bool (!neqC o c)) w := by
  have hu : Tryd.prog.underlying 24 = some (.struct (Tryd.prog.fieldsOf 24)) := by kernel_rfl
  have hp : Tryd.prog.stoodInHeld 24 = false := by kernel_rfl
  unfold cmV
  rw [run_eql_struct, run_equalIn_agg _ _ _ _ _ hu hp]
  clear hu hp
  simp [go_sem]
  by_cases h : o = c
  · subst h
    simp [neqC]
  · have hn : neqC o c = true := by simp [neqC, h]
    rw [hn]
    by_cases h0 : o.kind = c.kind <;> simp only [h0, if_true, if_false, Bool.not_true]
    by_cases h1 : o.name.toList = c.name.toList <;> simp only [h1, if_true, if_false]
    by_cases h2 : o.par.toList = c.par.toList <;> simp only [h2, if_true, if_false]
    by_cases h3 : o.sh = c.sh <;> simp only [h3, if_true, if_false]
    by_cases h4 : o.nd = c.nd <;> simp only [h4, if_true, if_false]
    by_cases h5 : o.lm = c.lm <;> simp only [h5, if_true, if_false]
    by_cases h6 : o.jb = c.jb <;> simp only [h6, if_true, if_false]
    by_cases h7 : o.tk = c.tk <;> simp only [h7, if_true, if_false]
    refine absurd ?_ h
    obtain ⟨a0, a1, a2, a3, a4, a5, a6, a7⟩ := o
    obtain ⟨b0, b1, b2, b3, b4, b5, b6, b7⟩ := c
    dsimp only at *
    obtain rfl := bytes_same h1
    obtain rfl := bytes_same h2
    subst h0 h3 h4 h5 h6 h7
    rfl
def cA : Cm := ⟨1, ⟨#[97]⟩, ⟨#[]⟩, 0, 2, 5, 0, 0⟩
def cB : Cm := ⟨4, ⟨#[]⟩, ⟨#[]⟩, 0, 0, 0, 0, 3⟩
theorem ex1 : parseR ⟨#[115, 117, 98, 109, 105, 116, 32, 97, 32, 50, 32, 53]⟩ = (cA, 0) := by decide +kernel
theorem ex2 : parseR ⟨#[116, 105, 99, 107, 32, 48, 49]⟩ = (zeroC 0, 83) := by decide +kernel
theorem ex3 : printL cB = [116, 105, 99, 107, 32, 51] := by decide +kernel
theorem ex4 : checkB cB = true := by decide +kernel
theorem ex5 : checkN (zeroC 14) = 84 := by decide +kernel
theorem ex6 : validB ⟨#[97, 45, 66, 95, 57]⟩ = true := by decide +kernel
theorem ex7 : validB ⟨#[97, 32, 98]⟩ = false := by decide +kernel
theorem okB : CmOk cB := ⟨by decide, by decide, fun f => by unfold numF cB; dsimp only; split <;> (try split) <;> (try split) <;> (try split) <;> decide⟩
section
variable {w0 w : World} {L : List At}
set_option maxRecDepth 100000 in
set_option maxHeartbeats 4000000 in
theorem shown_ok (hD : Doors w0) (H : HL w0 w L) : Calls Tryd.prog 10 #[] w fun e w' => e = .returned (.bool true) ∧ HL w0 w' L := by
  have hp1 := parse_ok hD H ⟨#[115, 117, 98, 109, 105, 116, 32, 97, 32, 50, 32, 53]⟩ (by decide)
  rw [ex1] at hp1
  have hp2 := fun W L' (HH : HL w0 W L') => by have := parse_ok hD HH ⟨#[116, 105, 99, 107, 32, 48, 49]⟩ (by decide); rw [ex2] at this; exact this
  have hpr := fun W L' (HH : HL w0 W L') => by have := print_ok hD HH cB okB ex4; rw [ex3] at this; exact this
  have hck := fun W L' (HH : HL w0 W L') => by have := check_ok HH (zeroC 14) (by decide) (by decide); rw [ex5] at this; exact this
  have hv1 := fun W => by have := valid_ok ⟨#[97, 45, 66, 95, 57]⟩ (by decide) W; rw [ex6] at this; exact this
  have hv2 := fun W => by have := valid_ok ⟨#[97, 32, 98]⟩ (by decide) W; rw [ex7] at this; exact this
  have hcmp := fun W => cmd_eql cA cA W
  rw [show (!neqC cA cA) = true from by simp [neqC]] at hcmp
  simp only [cmV, cA, cB, zeroC] at hp1 hp2 hpr hck hcmp
  go_enter Tryd.func10, Tryd.ntmps10
  go_wp2_with (first
    | (go_at_call 11; first
        | ((with_reducible refine hp1.mono ?_); rintro e w1 ⟨rfl, H1⟩; have H2 := HL.allocC H1 cA; simp only [cA] at H2; have tok : True := trivial)
        | ((with_reducible refine (hp2 _ _ H2).mono ?_); rintro e w3 ⟨rfl, H3⟩; have H4 := HL.allocC H3 (zeroC 0); simp only [zeroC] at H4))
    | (go_at_call 15; refine (hpr _ _ H4).mono ?_; rintro e w5 ⟨rfl, H5⟩; obtain ⟨n0, n1, n2, n3, n4, n5, n6, n7⟩ := boxC_cells (H5.sel 2 [1, 0]))
    | (go_at_call 17; refine (hck _ _ H5).mono ?_; rintro e w6 ⟨rfl, H6⟩)
    | (go_at_call 13; first
        | ((with_reducible refine (hv1 _).mono ?_); rintro e w7 ⟨rfl, rfl⟩)
        | ((with_reducible refine (hv2 _).mono ?_); rintro e w8 ⟨rfl, rfl⟩)))
  go_ret
  exact ⟨rfl, H6.tail.tail⟩
end
set_option maxRecDepth 100000 in
theorem verbsNames_law {w : World} (hD : Doors w) : Calls Tryd.prog 6 #[] w fun e w' => e = .returned (.bool true) ∧ Below w.heap.size w w' := by
  have hs := shown_ok hD (HL.start w)
  go_enter Tryd.func6, Tryd.ntmps6
  go_wp2_with (go_at_call 10; refine hs.mono ?_; rintro e w1 ⟨rfl, H1⟩; clear hs)
  go_ret
  exact ⟨rfl, H1.below⟩
end Go.Proofs.YtdekbbffoaphhaaDoor

/- The law VerbsReads: of any line both parse alike, and both tell alike whether it is a name. -/
import Derived.Test.YtdekbbffoaphhaaDoorVeLawBack
import Derived.Test.YtdekbbffoaphhaaDoorVeRefPar
set_option linter.unusedVariables false
set_option linter.unusedSimpArgs false
namespace Go.Proofs.YtdekbbffoaphhaaDoor
open Go.RowKit Go.Proofs.HL Go.Proofs.Ve
set_option maxRecDepth 100000 in
set_option maxHeartbeats 8000000 in
theorem verbsReads_law {w : World} (hD : Doors w) {line : ByteArray} (hl : line.size ≤ 140737488351232) :
    Calls Tryd.prog 3 #[.string line] w fun e w' => e = .returned (.bool true) ∧ Below w.heap.size w w' := by
  have H0 := HL.start w
  have hs := shown_ok hD H0
  obtain ⟨d, e2, hde⟩ : ∃ d e2, parseR line = (d, e2) := ⟨_, _, rfl⟩
  have hpl := fun W L' (HH : HL w W L') => by have := parse_ok hD HH line hl; rw [hde] at this; exact this
  have hpr := fun W L' (HH : HL w W L') => by have := Ref.parse_ok HH line hl; rw [hde] at this; exact this
  have hv := fun W => valid_ok line (by omega) W
  have hvr := fun W => Ref.valid_ok line (by omega) W
  have hcz := fun W => cmd_eql d d W
  rw [show (!neqC d d) = true from by simp [neqC]] at hcz
  generalize validB line = vb at hv hvr
  clear H0 hde
  unfold cmV at *
  go_enter Tryd.func3, Tryd.ntmps3
  go_wp2_with (first
    | (go_at_call 10; refine hs.mono ?_; rintro e w1 ⟨rfl, H1⟩; clear hs)
    | (go_at_call 11; (with_reducible refine (hpl _ _ H1).mono ?_); rintro e w2 ⟨rfl, H2⟩; clear H1; have H3 := HL.allocC H2 d; obtain ⟨n0, n1, n2, n3, n4, n5, n6, n7⟩ := boxC_cells H3)
    | (go_at_call 12; (with_reducible refine (hpr _ _ H3).mono ?_); rintro e w4 ⟨rfl, H4⟩; clear H3 n0 n1 n2 n3 n4 n5 n6 n7; have H5 := HL.allocC H4 d; obtain ⟨n0, n1, n2, n3, n4, n5, n6, n7⟩ := boxC_cells (H5.sel 2 [1, 0]); obtain ⟨m0, m1, m2, m3, m4, m5, m6, m7⟩ := boxC_cells H5)
    | (go_at_call 13; refine (hv _).mono ?_; rintro e w6 ⟨rfl, rfl⟩)
    | (go_at_call 14; refine (hvr _).mono ?_; rintro e w6 ⟨rfl, rfl⟩))
  go_ret
  exact ⟨by simp, H5.below⟩
end Go.Proofs.YtdekbbffoaphhaaDoor

/- The law AnswersParse: any text is read as the document says, and what is read is written so. -/
import Derived.Test.YtdekbbffoaphhaaGreatDoorAnZipB
import Derived.Test.YtdekbbffoaphhaaGreatDoorAnShown
import Derived.Test.YtdekbbffoaphhaaGreatDoorAnRefPa
import Derived.Test.YtdekbbffoaphhaaGreatDoorAnRefSame
set_option linter.unusedVariables false
set_option linter.unusedSimpArgs false
set_option maxRecDepth 100000
set_option maxHeartbeats 8000000
namespace Go.Proofs.YtdekbbffoaphhaaGreatDoor
open Go.RowKit Go.Proofs.HL Go.Proofs.An
theorem answersParse_law {w : World} (hD : Doors w) (k : Int) (t : ByteArray) (ht : t.size ≤ 1048576) :
  Calls Tryz.prog 4 #[.int .i64 k, .string t] w fun e w' => e = .returned (.bool true) ∧ Below w.heap.size w w' := by
 have hsh := shown_ok hD (HL.start w)
 have hpa := fun W L' (HW : HL w W L') => parse_ok hD HW k t (by omega)
 have hrf := fun W L' (HW : HL w W L') => Ref.parse_ok hD HW k t ht
 have hz : ((parseA k t).2 = 0 ∧ CandOk k (parseA k t).1 ∧ checkA k (parseA k t).1 = 0 ∧ printS k (parseA k t).1 = t) ∨ (parseA k t).2 = 90 := by
  rw [← refParse_eq ht]
  rcases refParse_cases k t with h | ⟨a, h1, h2, h3, h4⟩
  ·exact .inr (by rw [h])
  ·exact .inl (by rw [h4]; exact ⟨rfl, body_ok ht h1, h2, h3⟩)
 obtain ⟨⟨r, c⟩, hyc⟩ : ∃ p, parseA k t = p := ⟨_, rfl⟩
 simp only [hyc] at hpa hrf hz
 have hsm : sameA r r = true := by rw [sameA_eq]; simp
 have HSM := Lib.hid hsm; have HZ := Lib.hid hz
 unfold ParsePost at hpa hrf
 clear hyc ht hsm hz
 go_enter Tryz.func4, Tryz.ntmps4
 go_upto_region 4 with (first
  | (go_at_call 6; refine hsh.mono ?_; rintro e w2 ⟨rfl, H2⟩; clear hsh)
  | (go_at_call 13; refine (hpa _ _ H2).mono ?_; rintro e w3 ⟨K, Ae, As, Ar, ce, cs, cr, ps, rfl, hps, hE, hI, hR, H3⟩; have HPS := Lib.hid hps; clear hpa H2 hps; have H4 := HL.bzA H3; have G4 : _ = some (Obj.cells _ 32 (0, 0)) := H4.head; have H5 : HL w _ (boxA w3.heap.size r (.slice Ae r.events.length ce) (.slice As r.job.set.length cs) (.slice Ar r.ranks.length cr) :: _) := HL.setWhole (cells := ansA r (.slice Ae r.events.length ce) (.slice As r.job.set.length cs) (.slice Ar r.ranks.length cr)) H4)
  | (refine wpList_store_row rfl 32 _ _ rfl w3.heap.size (ansA r (.slice Ae r.events.length ce) (.slice As r.job.set.length cs) (.slice Ar r.ranks.length cr)) rfl rfl 32 _ G4 (ansA_size _ _ _ _) rfl (ansA_one _ _ _ _ _ _ _ _ _ _) ?_; clear G4 H4 H3))
 generalize World.setRow _ _ _ = W5 at *
 generalize w3.heap.size = b5 at *
 go_upto_region 5 with (first
  | (go_at_call 15; refine (hrf _ _ H5).mono ?_; rintro e w6 ⟨K', Ae', As', Ar', ce', cs', cr', qs, rfl, hqs, hE', hI', hR', H6⟩; have HQS := Lib.hid hqs; clear hrf H5 hqs; have H7 := HL.bzA H6; have G7 : _ = some (Obj.cells _ 32 (0, 0)) := H7.head; have H8 : HL w _ (boxA w6.heap.size r (.slice Ae' r.events.length ce') (.slice As' r.job.set.length cs') (.slice Ar' r.ranks.length cr') :: _) := HL.setWhole (cells := ansA r (.slice Ae' r.events.length ce') (.slice As' r.job.set.length cs') (.slice Ar' r.ranks.length cr')) H7)
  | (refine wpList_store_row rfl 32 _ _ rfl w6.heap.size (ansA r (.slice Ae' r.events.length ce') (.slice As' r.job.set.length cs') (.slice Ar' r.ranks.length cr')) rfl rfl 32 _ G7 (ansA_size _ _ _ _) rfl (ansA_one _ _ _ _ _ _ _ _ _ _) ?_; clear G7 H7 H6))
 generalize World.setRow _ _ _ = W8 at *
 generalize w6.heap.size = b8 at *
 have G1 : W8.heap[b5]? = some (Obj.cells (ansA r (.slice Ae r.events.length ce) (.slice As r.job.set.length cs) (.slice Ar r.ranks.length cr)) 32 (0, 0)) := (HL.drops (K := K') H8.tail).head
 have G2 : W8.heap[b8]? = some (Obj.cells (ansA r (.slice Ae' r.events.length ce') (.slice As' r.job.set.length cs') (.slice Ar' r.ranks.length cr')) 32 (0, 0)) := H8.head
 have hE1 := (Evs.left (M := []) hE).cons (boxA b5 r (.slice Ae r.events.length ce) (.slice As r.job.set.length cs) (.slice Ar r.ranks.length cr))
 have hE2 : Evs w (boxA b8 r (.slice Ae' r.events.length ce') (.slice As' r.job.set.length cs') (.slice Ar' r.ranks.length cr') :: (K' ++ (boxA b5 r (.slice Ae r.events.length ce) (.slice As r.job.set.length cs) (.slice Ar r.ranks.length cr) :: (K ++ [])))) (.slice Ae r.events.length ce) ps := ⟨Ent.cons (Ent.right hE1.rd) _, fun p hp => Ent.cons (Ent.right (hE1.own p hp)) _⟩
 have hI2 := Ent.cons (Ent.right (K := K') (Ent.cons (Ent.left (M := []) hI) (boxA b5 r (.slice Ae r.events.length ce) (.slice As r.job.set.length cs) (.slice Ar r.ranks.length cr)))) (boxA b8 r (.slice Ae' r.events.length ce') (.slice As' r.job.set.length cs') (.slice Ar' r.ranks.length cr'))
 have hR2 := Ent.cons (Ent.right (K := K') (Ent.cons (Ent.left (M := []) hR) (boxA b5 r (.slice Ae r.events.length ce) (.slice As r.job.set.length cs) (.slice Ar r.ranks.length cr)))) (boxA b8 r (.slice Ae' r.events.length ce') (.slice As' r.job.set.length cs') (.slice Ar' r.ranks.length cr'))
 have hsm : Calls Tryz.prog 12 #[.agg (ansA r (.slice Ae r.events.length ce) (.slice As r.job.set.length cs) (.slice Ar r.ranks.length cr)), .agg (ansA r (.slice Ae' r.events.length ce') (.slice As' r.job.set.length cs') (.slice Ar' r.ranks.length cr'))] _ _ := Ref.Same_ok H8 r r Ae As Ar Ae' As' Ar' ce cs cr ce' cs' cr' HPS.out HQS.out hE2 hI2 hR2 (hE'.left.cons _) (Ent.cons (Ent.left hI') _) (Ent.cons (Ent.left hR') _)
 rw [HSM.out] at hsm
 clear hE hI hR hE' hI' hR' hE1
 have HE2 := Lib.hid hE2; have HI2 := Lib.hid hI2; have HR2 := Lib.hid hR2
 clear hE2 hI2 hR2
 rcases HZ.out with ⟨rfl, hco, hc0, hp0⟩ | rfl
 ·have HCO := Lib.hid hco; have HC0 := Lib.hid hc0; have HP0 := Lib.hid hp0
  clear hco hc0 hp0
  go_upto_region 7 with (first
   | (have g1 := G1; refine wpList_load_if (by rfl) 32 _ rfl b5 rfl 32 _ (0, 0) _ g1 Tryz.underlying32 rfl (ansA_size _ _ _ _) ?_; clear g1 G1)
   | (have g1 := G2; refine wpList_load_if (by rfl) 32 _ rfl b8 rfl 32 _ (0, 0) _ g1 Tryz.underlying32 rfl (ansA_size _ _ _ _) ?_; clear g1 G2)
   | (go_at_call 12; (with_reducible refine hsm.mono ?_); rintro e w9 ⟨rfl, H9⟩; clear hsm H8; have G1 : w9.heap[b5]? = some (Obj.cells (ansA r (.slice Ae r.events.length ce) (.slice As r.job.set.length cs) (.slice Ar r.ranks.length cr)) 32 (0, 0)) := (HL.drops (K := K') H9.tail).head; have hpr : Calls Tryz.prog 8 #[.int .i64 k, .agg (ansA r (.slice Ae r.events.length ce) (.slice As r.job.set.length cs) (.slice Ar r.ranks.length cr))] _ _ := print_ok hD fmtU_all H9 k r Ae As Ar ce cs cr HPS.out HE2.out HI2.out HR2.out HCO.out.ok (by have := HCO.out.print; omega)))
  rw [HC0.out, HP0.out] at hpr
  have hq : (t.toList == t.toList) = true := beq_self_eq_true _
  go_upto_region 10 with (first
   | (have g1 := G1; refine wpList_load_row rfl 32 _ rfl b5 rfl 32 _ (0, 0) _ g1 Tryz.underlying32 rfl (ansA_size _ _ _ _) ?_; clear g1 G1)
   | (go_at_call 8; (with_reducible refine hpr.mono ?_); rintro e w10 ⟨rfl, H10⟩; clear hpr H9))
  have HB := Lib.hid H10.below
  clear H10
  go_wp2
  go_ret
  exact ⟨rfl, HB.out⟩
 ·go_upto_region 7 with (first
   | (have g1 := G1; refine wpList_load_if (by rfl) 32 _ rfl b5 rfl 32 _ (0, 0) _ g1 Tryz.underlying32 rfl (ansA_size _ _ _ _) ?_; clear g1 G1)
   | (have g1 := G2; refine wpList_load_if (by rfl) 32 _ rfl b8 rfl 32 _ (0, 0) _ g1 Tryz.underlying32 rfl (ansA_size _ _ _ _) ?_; clear g1 G2)
   | (go_at_call 12; (with_reducible refine hsm.mono ?_); rintro e w9 ⟨rfl, H9⟩; clear hsm H8))
  have HB := Lib.hid H9.below
  clear H9
  go_wp2
  go_ret
  exact ⟨rfl, HB.out⟩
end Go.Proofs.YtdekbbffoaphhaaGreatDoor

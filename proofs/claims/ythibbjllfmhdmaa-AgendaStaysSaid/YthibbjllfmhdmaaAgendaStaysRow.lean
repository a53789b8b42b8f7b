/- The statement AgendaStays: whatever the input, the law returns true and the input reads as it did. No conditions. -/
import Derived.Test.YthibbjllfmhdmaaRows
import Derived.Test.YthibbjllfmhdmaaAgRows
import Derived.Test.YthibbjllfmhdmaaAgLawStays
import Derived.ProofKit
import Derived.OpenShut
import Derived.ShutString
import Derived.Below
import Derived.SizedLaws
import Derived.Carry
set_option linter.unusedVariables false
namespace Go.Proofs.Ythibbjllfmhdmaa.RagendaStays
open Go.ChangeShapes Go.WideShapes Go.ChangeAt Go.RowKit Go.Proofs.HL
open Go.ChangeMaps (open_string shut_string)
theorem own : ownKnob Try.prog.godebug = none := by kernel_rfl
theorem laidOut : laidOutB Try.prog = true := by kernel_rfl
set_option maxRecDepth 100000 in
theorem lifted (os : Os) (started : os.Started) (H : Type) (enc : TypeId × Value → H) :
    ReturnsInHanded {} Try.checked os 6 .any (Rows.agendaStaysSpec.pre6 enc Try.prog Try.f6 Rows.agendaStaysRow.domain false) (Rows.agendaStaysSpec.post enc Try.prog Try.f6 false true false false) := by
  refine returnsInHanded_of_change_sized (C := Try.checked) own started (by kernel_rfl) Try.func6
    (ChangeSpec.witness6 (enc := enc) (C := Try.checked) false ⟨#[], #[.slice none 0 0, .slice none 0 0, .int .i64 0], []⟩ 8 (by kernel_rfl) (by kernel_rfl) (by kernel_rfl) (by kernel_rfl)) ?_
  intro W base args ds gs before hval0 hW hcnd hsz0 _
  have hsz : (DataW.weightsEach Try.prog (Try.f6.params.toList ++ Rows.agendaStaysSpec.plain.varTypes Try.prog) (ds ++ gs)).all (· ≤ reachBytes) = true := hsz0
  have hval : ∀ (j : Nat) t v, Try.f6.params[j]? = some t → args[j]? = some v → Value.okWide Try.prog W .any base t v := hval0
  have hW' := hW
  obtain ⟨p, q, hA0, hV, rfl, hfz, hnd⟩ := hW
  have hA : DataW.TrodAll enc Try.prog W 0 (fun _ => true) true Try.f6.params.toList args.toList ds p := hA0
  rw [Try.params6] at hA hval hsz
  obtain ⟨v0, vs0, d0, ds0, p0, q0, hargs, rfl, rfl, h0, r0⟩ := trodAll_cons hA
  obtain ⟨v1, vs1, d1, ds1, p1, q1, rfl, rfl, rfl, h1, r1⟩ := trodAll_cons r0
  obtain ⟨v2, vs2, d2, ds2, p2, q2, rfl, rfl, rfl, h2, r2⟩ := trodAll_cons r1
  obtain ⟨rfl, rfl, rfl⟩ := trodAll_nil r2
  obtain rfl : args = #[v0, v1, v2] := by cases args; simp_all
  obtain ⟨rfl, rfl⟩ := trodVars_none hV
  have k0 := h0
  have lt0 : ∀ x ∈ p0, x.block < W.heap.size := by obtain ⟨m, hm⟩ := k0; exact DataW.trod_lt m _ _ _ hm
  obtain ⟨l0, a0, w0, z0⟩ := open_acts (okWide_slice Try.underlying22 (hval 0 22 v0 rfl rfl)) h0
  have y0 : l0.length * 40 ≤ 140737488351232 := by
    rcases z0 with ⟨_, rfl⟩ | ⟨elems, rest, rfl, hl⟩
    · exact by simp
    · have z := sized_slice hsz (j := 0) (t := 22) (e := 45) rfl rfl Try.underlying22
      rw [show Try.prog.bytesOf 45 = 40 by kernel_rfl, hl, Nat.add_mul] at z
      unfold reachBytes at z
      omega
  have k1 := h1
  have lt1 : ∀ x ∈ p1, x.block < W.heap.size := by obtain ⟨m, hm⟩ := k1; exact DataW.trod_lt m _ _ _ hm
  obtain ⟨l1, a1, w1, z1⟩ := open_nums (okWide_slice Try.underlying27 (hval 1 27 v1 rfl rfl)) h1
  have y1 : l1.length * 8 ≤ 140737488351232 := by
    rcases z1 with ⟨_, rfl⟩ | ⟨elems, rest, rfl, hl⟩
    · exact by simp
    · have z := sized_slice hsz (j := 1) (t := 27) (e := 3) rfl rfl Try.underlying27
      rw [show Try.prog.bytesOf 3 = 8 by kernel_rfl, hl, Nat.add_mul] at z
      unfold reachBytes at z
      omega
  obtain ⟨a2, rfl, rfl, rfl, w2⟩ := open_int Try.underlying3 (hval 2 3 v2 rfl rfl) h2
  clear hA0 hval0 hsz0 hsz
  refine (stays_law a0 (by omega) a1 y1 a2).mono fun e W' ⟨he, bel⟩ => ?_
  subst he
  exact ⟨_, rfl, _, _, _, [], _, [], hW', trodAll_mk1 (shut_bool Try.underlying4 _), (trodAll_cons_mk (Below.trod laidOut (by kernel_rfl) (of_decide_eq_true (by kernel_rfl)) k0 bel lt0) (trodAll_cons_mk (Below.trod laidOut (by kernel_rfl) (of_decide_eq_true (by kernel_rfl)) k1 bel lt1) (trodAll_cons_mk (shut_int Try.underlying3 w2) trodAll_mk0))), rfl, bel.frame _, fun h => by cases h⟩
end Go.Proofs.Ythibbjllfmhdmaa.RagendaStays
namespace Go.Proofs.Ythibbjllfmhdmaa
open Go.RowKit
theorem agendaStays_holds : Rows.AgendaStaysSaid :=
  OpenClaim.holds_of_wide 6 Try.f6 rfl rfl rfl rfl rfl rfl rfl ⟨rfl, rfl, rfl, rfl, rfl⟩ rfl rfl rfl rfl rfl (by kernel_rfl) Try.func6 (by kernel_rfl)
    (of_decide_eq_true (by kernel_rfl)) (by unfold Func.isWrapper; first | (rw [if_pos (by decide +kernel)]; kernel_rfl) | (rw [if_neg (by decide +kernel)]; exact ⟨rfl, rfl⟩))
    (fun os started H enc _ => RagendaStays.lifted os started H enc)
#print axioms agendaStays_holds
end Go.Proofs.Ythibbjllfmhdmaa

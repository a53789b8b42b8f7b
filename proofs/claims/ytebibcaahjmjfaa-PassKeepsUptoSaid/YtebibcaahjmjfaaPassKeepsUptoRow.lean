/- The statement PassKeeps where the input is of bulk at most 1048576: the law returns true and the input reads as it did. -/
import Derived.Test.YtebibcaahjmjfaaRows
import Derived.Test.YtebibcaahjmjfaaPrRows
import Derived.Test.YtebibcaahjmjfaaPaLawKeeps
import Derived.ProofKit
import Derived.OpenShut
import Derived.ShutString
import Derived.Below
import Derived.SizedLaws
import Derived.Carry
import Derived.JoinedCond
set_option linter.unusedVariables false
namespace Go.Proofs.Ytebibcaahjmjfaa.Bulk
theorem one {H : Type} (d : DataW H) : 1 ≤ Rows.uptoBulk d := by
  cases d with
  | lit l => cases l <;> simp [Rows.uptoBulk]
  | nil => simp [Rows.uptoBulk]
  | ptr d => simp [Rows.uptoBulk]
  | slice elems spare => simp [Rows.uptoBulk]
  | agg parts => simp [Rows.uptoBulk]
  | iface t d => simp [Rows.uptoBulk]
  | map entries => simp [Rows.uptoBulk]
  | held h => simp [Rows.uptoBulk]
theorem many {H : Type} : ∀ (l : List (DataW H)), l.length ≤ Rows.uptoBulkAll l
  | [] => Nat.zero_le _
  | d :: l => by have h1 := one d; have h2 := many l; simp only [Rows.uptoBulkAll, List.length_cons]; omega
theorem part {H : Type} : ∀ {l : List (DataW H)} {i : Nat} {d : DataW H}, l[i]? = some d → Rows.uptoBulk d ≤ Rows.uptoBulkAll l
  | [], i, d, h => by simp at h
  | x :: l, 0, d, h => by simp only [List.getElem?_cons_zero, Option.some.injEq] at h; subst h; simp only [Rows.uptoBulkAll]; omega
  | x :: l, i + 1, d, h => by simp only [List.getElem?_cons_succ] at h; have := part h; simp only [Rows.uptoBulkAll]; omega
theorem elems {H : Type} {parts e r : List (DataW H)} {ds : List (DataW H)} {i : Nat} (hk : Rows.uptoSmall H (.agg parts :: ds) = true) (h : parts[i]? = some (.slice e r)) : e.length ≤ 1048576 := by
  have h1 : Rows.uptoBulkAll (.agg parts :: ds) ≤ 1048576 := of_decide_eq_true hk
  have h2 := part h
  have h3 := many e
  simp only [Rows.uptoBulkAll, Rows.uptoBulk] at h1 h2
  omega
end Go.Proofs.Ytebibcaahjmjfaa.Bulk
namespace Go.Proofs.Ytebibcaahjmjfaa.RpassKeeps
open Go.ChangeShapes Go.WideShapes Go.ChangeAt Go.RowKit Go.Proofs.HL
open Go.ChangeMaps (open_string shut_string)
theorem own : ownKnob Try.prog.godebug = none := by kernel_rfl
theorem laidOut : laidOutB Try.prog = true := by kernel_rfl
set_option maxRecDepth 100000 in
theorem lifted (os : Os) (started : os.Started) (H : Type) (enc : TypeId × Value → H) (F : Stop.Interp) :
    ReturnsInHanded {} Try.checked os 9 .any ((Rows.OpenSpec.upto Rows.passKeepsSpec).pre6 enc Try.prog Try.f9 Rows.passKeepsUptoRow.domain false) (((Rows.OpenSpec.upto Rows.passKeepsSpec).at F).post enc Try.prog Try.f9 false true false false) := by
  refine returnsInHanded_of_cond (C := Try.checked) (s := Rows.OpenSpec.upto Rows.passKeepsSpec) (k := Rows.uptoSmall) rfl own started (by kernel_rfl) Try.func9
    (OpenSpec.witness (enc := enc) (C := Try.checked) (s := Rows.OpenSpec.upto Rows.passKeepsSpec) (k := Rows.uptoSmall) rfl false ⟨#[], #[.agg #[.int .i64 0, .int .i64 0, .slice none 0 0, .int .i64 0, .slice none 0 0], .slice none 0 0], []⟩ 8 (by kernel_rfl) (by kernel_rfl) (by kernel_rfl)
      (x := ([.agg [.lit (.int .i64 0), .lit (.int .i64 0), .nil, .lit (.int .i64 0), .nil], .nil], [], [])) (by kernel_rfl) rfl (by kernel_rfl)) ?_
  intro W base args ds gs before hval0 hW _ hk _
  have hval : ∀ (j : Nat) t v, Try.f9.params[j]? = some t → args[j]? = some v → Value.okWide Try.prog W .any base t v := hval0
  have hW' := hW
  obtain ⟨p, q, hA0, hV, rfl, hfz, hnd⟩ := hW
  have hA : DataW.TrodAll enc Try.prog W 0 (fun _ => true) true Try.f9.params.toList args.toList ds p := hA0
  rw [Try.params9] at hA hval
  obtain ⟨v0, vs0, d0, ds0, p0, q0, hargs, rfl, rfl, h0, r0⟩ := trodAll_cons hA
  obtain ⟨v1, vs1, d1, ds1, p1, q1, rfl, rfl, rfl, h1, r1⟩ := trodAll_cons r0
  obtain ⟨rfl, rfl, rfl⟩ := trodAll_nil r1
  obtain rfl : args = #[v0, v1] := by cases args; simp_all
  obtain ⟨rfl, rfl⟩ := trodVars_none hV
  have k0 := h0
  have lt0 : ∀ x ∈ p0, x.block < W.heap.size := by obtain ⟨m, hm⟩ := k0; exact DataW.trod_lt m _ _ _ hm
  obtain ⟨b0, e0, rfl, a0, c0, rfl, f0, g0⟩ := open_ask (by obtain ⟨cs, h1, h2⟩ := okWide_struct Try.underlying47 (hval 0 47 v0 rfl rfl); exact ⟨cs, h1, h2.trans (by kernel_rfl)⟩) h0
  have k1 := h1
  have lt1 : ∀ x ∈ p1, x.block < W.heap.size := by obtain ⟨m, hm⟩ := k1; exact DataW.trod_lt m _ _ _ hm
  obtain ⟨l1, a1, c1, z1⟩ := open_turns (okWide_slice Try.underlying65 (hval 1 65 v1 rfl rfl)) h1
  have hk2 : Rows.uptoSmall H (.agg e0 :: [d1]) = true := by simpa using hk
  have y0 : b0.ws.length ≤ 1048576 := by
    rcases f0 with e | ⟨elems, rest, he, hl⟩
    · rw [e]; simp
    · rw [← hl]; exact Bulk.elems hk2 he
  have y1 : b0.l.length ≤ 1048576 := by
    rcases g0 with e | ⟨elems, rest, he, hl⟩
    · rw [e]; simp
    · rw [← hl]; exact Bulk.elems hk2 he
  clear hA0 hval0 hk hk2
  refine (keeps_law (a := b0) (T := l1) a0 c0 a1 c1 y0 y1).mono fun e W' ⟨he, bel⟩ => ?_
  subst he
  exact ⟨_, rfl, _, _, _, [], _, [], hW', trodAll_mk1 (shut_bool Try.underlying4 _), (trodAll_cons_mk (Below.trod laidOut (by kernel_rfl) (of_decide_eq_true (by kernel_rfl)) k0 bel lt0) (trodAll_cons_mk (Below.trod laidOut (by kernel_rfl) (of_decide_eq_true (by kernel_rfl)) k1 bel lt1) trodAll_mk0)), rfl, bel.frame _, fun h => by cases h⟩
end Go.Proofs.Ytebibcaahjmjfaa.RpassKeeps
namespace Go.Proofs.Ytebibcaahjmjfaa
open Go.RowKit
theorem passKeeps_holds : Rows.PassKeepsUptoSaid :=
  OpenClaim.holds_of_cond 9 Try.f9 rfl rfl rfl rfl rfl rfl rfl ⟨rfl, rfl, rfl, rfl, rfl⟩ rfl rfl rfl rfl rfl (by kernel_rfl) Try.func9 (by kernel_rfl)
    (of_decide_eq_true (by kernel_rfl)) (by unfold Func.isWrapper; first | (rw [if_pos (by decide +kernel)]; kernel_rfl) | (rw [if_neg (by decide +kernel)]; exact ⟨rfl, rfl⟩))
    (fun os started H enc _ F => RpassKeeps.lifted os started H enc F)
#print axioms passKeeps_holds
end Go.Proofs.Ytebibcaahjmjfaa

/- The steps on owned things, inside a fence (a round of a range over a function). -/
import Derived.Test.YtebibcaahjmjfaaSteps
import Derived.Maps.OwnIn
import Derived.Laws.OwnMore
set_option linter.unusedVariables false
namespace Go.Proofs.HL
open Go.RowKit
section
variable {F : Fence} {nF : Nat} {P : Program} {ops : Array Oper} {rest : List Oper} {o : Oper} {a : Act} {Q : Exit → Act → World → Prop} {w0 w : World} {L : List At}

theorem wpListIn_append_hl {t E : TypeId} {k bytes : Nat} (S : SliceOf P t E k bytes) (hgd : o.guard = none) (s x : Operand) (ho : o.op = .call { callee := .builtin .append, args := #[s, x], argTypes := #[t, t] })
    {v xv : Value} {n m : Nat} {xs news : List Value} (H : HL w0 w (row w0.heap.size E k v n xs :: L)) (hs : a.eval s = v) (hx : a.eval x = xv) (hr : Rd k xv m news w) (h1 : ∀ u ∈ news, u.oneCell' = true)
    (h63 : n + m ≤ maxLen) (hbytes : (n + m) * bytes ≤ 140737488355328)
    (h : ∀ v' w', HL w0 w' (row w0.heap.size E k v' (n + m) (xs ++ news) :: L) → (v' = .slice none 0 0 ↔ v = .slice none 0 0 ∧ m = 0) → wpListIn F nF P ops Q rest (a.put o.dst v') w') : wpListIn F nF P ops Q (o :: rest) a w := by
  obtain ⟨i, z, hi, hz, hsize, hby, hzs⟩ := S.info
  obtain ⟨hl, hm, ad, c, rfl, hc1, hc2, hn, hcell⟩ := hr
  cases ad with
  | none =>
    obtain ⟨rfl, rfl⟩ := hn rfl
    obtain rfl : news = [] := List.eq_nil_of_length_eq_zero (by simpa using hl)
    refine wpListIn_plain hgd fun K hK => ?_
    have hrun := run_append_owned_none (P := P) (w := w) w0.heap.size t o.type E i k S.ht hi v n xs H.head
    unfold Oper.wpIn
    refine ⟨by simp [Oper.about, ho, resolve, Target.leads, Sem.run_pure], ?_⟩
    rw [Oper.semAt_plain F _ _ (by rw [ho]; intro c hc'; cases hc')]
    simp [execOp, ho, resolve, invoke, builtin, hs, hx, hrun, Result.andThen]
    refine hK _ _ (h v w ?_ (by simp))
    simpa using H
  | some ad =>
    refine wpListIn_append_own_at w hgd s x t ho w0.heap.size E i z k bytes S.ht hi hz hsize hby hzs S.pos v n xs hs H.head ad m c news hx hl (hcell ad rfl) h1 h63 hbytes H.size (fun v' w' hown hgrow hnil hat => h v' w' ?_ hnil)
    refine H.step hgrow hown (fun b hb => ?_)
    rcases hat with e | e
    · exact .inl (e.symm.trans hb)
    · exact .inr (by
        have : v'.ownBlock = some b := hb
        rw [e] at this
        cases this
        exact Nat.le_refl _)

theorem wpListIn_mapUpdate_hl {t kt et : TypeId} (ht : P.underlying t = some (.map kt et)) (hk : P.underlying kt = some (.int .i64)) (hg : o.guard = none) (m x v : Operand) (hop : o.op = Op.mapUpdate t m x v)
    {b : Nat} {KV : List (Int × Value)} (H : HL w0 w (mp b KV :: L)) {k : Int} {val : Value} (hm : a.eval m = .map (some b)) (hx : a.eval x = .int .i64 k) (hv : a.eval v = val)
    (h : ∀ w', HL w0 w' (mp b (putKV KV k val) :: L) → wpListIn F nF P ops Q rest (a.put o.dst undef) w') : wpListIn F nF P ops Q (o :: rest) a w := by
  refine wpListIn_plain hg fun K' hK' => ?_
  obtain ⟨w', hrun, r1⟩ := H.mapUpdate ht hk k val
  unfold Oper.wpIn
  refine ⟨by simp [Oper.about, hop], ?_⟩
  rw [Oper.semAt_plain F _ _ (by rw [hop]; intro c hc'; cases hc')]
  simp [execOp, hop, hm, hx, hv, hrun, Result.andThen]
  exact hK' _ _ (h w' r1)
end
end Go.Proofs.HL

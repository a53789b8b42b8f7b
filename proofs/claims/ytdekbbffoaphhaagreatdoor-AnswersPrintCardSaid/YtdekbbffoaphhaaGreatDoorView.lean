/- A list that is only read: a part of a block of the call's own. -/
import Derived.Test.YtdekbbffoaphhaaGreatDoorOwn
import Derived.Deep.Slices
set_option linter.unusedVariables false
namespace Go.Proofs.HL
open Go.RowKit

theorem cellOne {w W : World} {L : List At} (H : HL w W L) {b : Nat} {v : Value} {E : TypeId} (hm : blk b (.cells #[v] E) ∈ L) : W.cell? ⟨b, 0, none⟩ = some v := by rw [H.cellOf hm 0]; rfl
theorem add_block (a : Addr) (i : Nat) : (a.add i).block = a.block := by unfold Addr.add; split <;> rfl
def view (k : Nat) (v : Value) (n : Nat) (cs : List Value) : At where
  fp := v.ownBlock
  holds w := Rd k v n cs w ∧ ∀ b, v.ownBlock = some b → b < w.heap.size
  lt := fun w b e h => h.2 b e
  stable := fun w w' r hg hne h => by
    refine ⟨?_, fun b hb => Nat.lt_of_lt_of_le (h.2 b hb) hg.size⟩
    obtain ⟨h1, h2, a, c, h3, h4, h5, h6, h7⟩ := h.1
    refine ⟨h1, h2, a, c, h3, h4, h5, h6, fun ad hd j u hu => ?_⟩
    subst hd
    have hb : v.ownBlock = some ad.block := by rw [h3]; rfl
    have hlt := h.2 _ hb
    have hne' : some ad.block ≠ r := by
      rcases hne with e | e
      · rw [hb] at e; cases e
      · rw [← hb]; exact e
    have := h7 ad rfl j u hu
    rw [← this]
    refine World.cell?_of_block ?_
    rw [add_block]
    exact hg.block _ hlt hne'

theorem HL.viewOf {w0 w : World} {L : List At} {base k n : Nat} {E : TypeId} {v : Value} {cs : List Value} (h : HL w0 w (row base E k v n cs :: L)) : HL w0 w (view k v n cs :: L) := by
  refine h.turn (fun hh => ⟨rd_row hh, fun b hb => ?_⟩) (fun b e => e)
  exact (hh.lt b hb).2
theorem HL.nilView {w0 w : World} {L : List At} (h : HL w0 w L) (k : Nat) : HL w0 w (view k (.slice none 0 0) 0 [] :: L) := (h.nilRow 0 0 k).viewOf
theorem HL.rdView {w0 w : World} {L : List At} {k n : Nat} {v : Value} {cs : List Value} (h : HL w0 w L) (hm : view k v n cs ∈ L) : Rd k v n cs w := (h.get hm).1

theorem rd_prefix {w : World} {k n c : Nat} {A : Option Addr} {cs : List Value} (h : Rd k (.slice A n c) n cs w) (hi : Nat) (hh : hi ≤ n) : Rd k (.slice A hi c) hi (cs.take (hi * k)) w := by
  obtain ⟨h1, h2, a, c', h3, h4, h5, h6, h7⟩ := h
  simp only [Value.slice.injEq] at h3
  obtain ⟨rfl, -, rfl⟩ := h3
  have hle : hi * k ≤ n * k := Nat.mul_le_mul_right k hh
  refine ⟨by rw [List.length_take, h1]; omega, by omega, A, c, rfl, by omega, h5, fun e => ⟨by have := (h6 e).1; omega, (h6 e).2⟩, fun ad hd j u hu => h7 ad hd j u ?_⟩
  have hj := (List.getElem?_eq_some_iff.1 hu).1
  rw [List.length_take] at hj
  rwa [List.getElem?_take_of_lt (by omega)] at hu
theorem rd_suffix {w : World} {k n c : Nat} {a a' : Addr} {cs : List Value} (h : Rd k (.slice (some a) n c) n cs w) (lo : Nat) (hl : lo ≤ n) (ha : a' = a.add (lo * k) ∨ n = lo) : Rd k (.slice (some a') (n - lo) (c - lo)) (n - lo) (cs.drop (lo * k)) w := by
  obtain ⟨h1, h2, a1, c', h3, h4, h5, h6, h7⟩ := h
  simp only [Value.slice.injEq] at h3
  obtain ⟨rfl, -, rfl⟩ := h3
  refine ⟨by rw [List.length_drop, h1, Nat.sub_mul], by omega, some a', c - lo, rfl, by omega, by omega, (fun e => nomatch e), fun ad hd j u hu => ?_⟩
  cases hd
  rw [List.getElem?_drop] at hu
  rcases ha with rfl | ha
  · have := h7 a rfl _ u hu
    rwa [← Go.Deep.add_add] at this
  · have hj := (List.getElem?_eq_some_iff.1 hu).1
    rw [h1, ha] at hj
    omega

/-- The append as a step of a region that draws its order. -/
theorem step_append_hl {P : Program} {ops : Array Oper} {o : Oper} {a : Act} {K : Act → World → Prop} {Q : Exit → Act → World → Prop} {w0 w : World} {L : List At} {ys : Array Bool} {Z : Prop} {t E : TypeId} {k bytes : Nat} (S : SliceOf P t E k bytes) (hgd : o.guard = none) (s x : Operand)
    (ho : o.op = .call { callee := .builtin .append, args := #[s, x], argTypes := #[t, t] })
    {v xv : Value} {n m : Nat} {xs news : List Value} (H : HL w0 w (row w0.heap.size E k v n xs :: L)) (hs : a.eval s = v) (hx : a.eval x = xv) (hr : Rd k xv m news w) (h1 : ∀ u ∈ news, u.oneCell' = true)
    (h63 : n + m ≤ maxLen) (hbytes : (n + m) * bytes ≤ 140737488355328)
    (h : ∀ v' w', HL w0 w' (row w0.heap.size E k v' (n + m) (xs ++ news) :: L) → K (a.put o.dst v') w') : if Region.wanted o (yielded ops a.tmps) = true then o.wp P a w K Q else Z := by
  rw [if_pos (by simp [Region.wanted, hgd])]
  obtain ⟨i, z, hi, hz, hsize, hby, hzs⟩ := S.info
  obtain ⟨hl, hm, ad, c, rfl, hc1, hc2, hn, hcell⟩ := hr
  cases ad with
  | none =>
    obtain ⟨rfl, rfl⟩ := hn rfl
    obtain rfl : news = [] := List.eq_nil_of_length_eq_zero (by simpa using hl)
    have hrun := run_append_owned_none (P := P) (w := w) w0.heap.size t o.type E i k S.ht hi v n xs H.head
    unfold Oper.wp
    simp [execOp, ho, resolve, invoke, builtin, hs, hx, hrun, Result.andThen]
    exact h v w (by simpa using H)
  | some ad =>
    obtain ⟨v', w', hrun, hown, hgrow, hnil, hat⟩ := run_append_own_at (P := P) w w0.heap.size t o.type E i z k bytes S.ht hi hz hsize hby hzs S.pos v n xs H.head ad m c news hl (hcell ad rfl) h1 h63 hbytes H.size
    unfold Oper.wp execOp
    simp only [ho, resolve, invoke, builtin, Sem.run_bind, Sem.run_pure, Result.andThen_ok, List.map_toArray, List.map_cons, List.map_nil, hs, hx, hrun]
    refine h v' w' (H.step hgrow hown (fun b hb => ?_))
    rcases hat with e | e
    · exact .inl (e.symm.trans hb)
    · exact .inr (by
        have : v'.ownBlock = some b := hb
        rw [e] at this
        cases this
        exact Nat.le_refl _)
end Go.Proofs.HL

/- Steps of a walk in the words of what a call owns: append, maps, ranges over maps. -/
import Derived.Test.YtdekbbffoaphhaaGreatDoorHL
import Derived.Test.YtdekbbffoaphhaaGreatDoorMap
import Derived.Laws.AppendOwnNone
import Derived.Maps.AppendAt
import Derived.Deep.LoopGhost
import Derived.Lib.Hide
set_option linter.unusedVariables false
namespace Go.Proofs.HL
open Go.RowKit

/-- t is the type of the slices of E, whose values have k cells and take so many bytes. -/
structure SliceOf (P : Program) (t E : TypeId) (k bytes : Nat) : Prop where
 ht : P.underlying t = some (.slice E)
 info : ∃ i z, P.info? E = some i ∧ i.zero = some z ∧ i.size = k ∧ i.bytes = bytes ∧ z.cells.size = k
 pos : 0 < k
theorem sliceOf {P : Program} {t E : TypeId} {k bytes : Nat} {z : Value} (ht : P.underlying t = some (.slice E)) (h : (P.info? E).map (fun i => (i.zero, i.size, i.bytes)) = some (some z, k, bytes)) (hz : z.cells.size = k) (hp : 0 < k) : SliceOf P t E k bytes := by
 refine ⟨ht, ?_, hp⟩
 cases e : P.info? E with
 | none => rw [e] at h; cases h
 | some i =>
  rw [e] at h
  simp only [Option.map_some, Option.some.injEq, Prod.mk.injEq] at h
  exact ⟨i, z, rfl, h.1, h.2.1, h.2.2, hz⟩

theorem add_zero_block (b i : Nat) : (⟨b, 0, none⟩ : Addr).add i = ⟨b, i, none⟩ := by unfold Addr.add; split <;> simp_all
theorem add_plain (b o i : Nat) : (⟨b, o, none⟩ : Addr).add i = ⟨b, o + i, none⟩ := by unfold Addr.add; split <;> simp_all

theorem rd_new {w : World} {cs : List Value} {E : TypeId} {k n b : Nat} (hb : b = w.heap.size) (hl : cs.length = n * k) (hn : n ≤ maxLen) : Rd k (.slice (some ⟨b, 0, none⟩) n n) n cs (w.alloc (.cells cs.toArray E)) := by
 subst hb
 refine ⟨hl, hn, _, n, rfl, Nat.le_refl _, hn, (fun h => nomatch h), fun ad hd j u hu => ?_⟩
 cases hd
 rw [add_zero_block]
 simpa using hu
theorem rd_one {w : World} {u : Value} {E : TypeId} {b : Nat} (hb : b = w.heap.size) : Rd 1 (.slice (some ⟨b, 0, none⟩) 1 1) 1 [u] (w.alloc (.cells #[u] E)) := rd_new (cs := [u]) hb rfl (by decide)
theorem rd_nil {w : World} {k : Nat} : Rd k (.slice none 0 0) 0 [] w := ⟨by simp, by simp, none, 0, rfl, Nat.le_refl _, by simp, (fun _ => ⟨rfl, rfl⟩), (fun _ h => nomatch h)⟩
/-- A row of the call's own is read. -/
theorem rd_row {w : World} {base : Nat} {E : TypeId} {k n : Nat} {v : Value} {xs : List Value} (h : w.ownsRow base E k v n xs) : Rd k v n xs w := by
 have hl := h.1
 rcases h.2 with ⟨rfl, rfl⟩ | ⟨g, cap, cur, rfl, _, hg, hn, hm, hs, ht⟩
 ·obtain rfl : xs = [] := List.eq_nil_of_length_eq_zero (by simpa using hl)
  exact rd_nil
 ·refine ⟨hl, Nat.le_trans hn hm, _, cap, rfl, hn, hm, (fun e => nomatch e), fun ad hd j u hu => ?_⟩
  cases hd
  exact h.cells rfl j u hu
/-- The shape of a row's slice. -/
theorem row_shape {w : World} {base : Nat} {E : TypeId} {k n : Nat} {v : Value} {xs : List Value} (h : w.ownsRow base E k v n xs) : ∃ A c, v = .slice A n c ∧ (n = 0 ∨ ∃ g, A = some ⟨g, 0, none⟩) ∧ n ≤ c ∧ c ≤ maxLen := by
 rcases h.2 with ⟨rfl, rfl⟩ | ⟨g, cap, cur, rfl, _, hg, hn, hm, hs, ht⟩
 ·exact ⟨none, 0, rfl, .inl rfl, Nat.le_refl _, Nat.zero_le _⟩
 ·exact ⟨_, cap, rfl, .inr ⟨g, rfl⟩, hn, hm⟩
section
variable {P : Program} {ops : Array Oper} {rest : List Oper} {o : Oper} {a : Act} {Q : Exit → Act → World → Prop} {w0 w : World} {L : List At}

theorem wpList_append_hl {t E : TypeId} {k bytes : Nat} (S : SliceOf P t E k bytes) (hgd : o.guard = none) (s x : Operand) (ho : o.op = .call { callee := .builtin .append, args := #[s, x], argTypes := #[t, t] })
  {v xv : Value} {n m : Nat} {xs news : List Value} (H : HL w0 w (row w0.heap.size E k v n xs :: L)) (hs : a.eval s = v) (hx : a.eval x = xv) (hr : Rd k xv m news w) (h1 : ∀ u ∈ news, u.oneCell' = true)
  (h63 : n + m ≤ maxLen) (hbytes : (n + m) * bytes ≤ 140737488355328)
  (h : ∀ v' w', HL w0 w' (row w0.heap.size E k v' (n + m) (xs ++ news) :: L) → (v' = .slice none 0 0 ↔ v = .slice none 0 0 ∧ m = 0) → wpList P ops Q rest (a.put o.dst v') w') : wpList P ops Q (o :: rest) a w := by
 obtain ⟨i, z, hi, hz, hsize, hby, hzs⟩ := S.info
 obtain ⟨hl, hm, ad, c, rfl, hc1, hc2, hn, hcell⟩ := hr
 cases ad with
 | none =>
  obtain ⟨rfl, rfl⟩ := hn rfl
  obtain rfl : news = [] := List.eq_nil_of_length_eq_zero (by simpa using hl)
  refine wpList_append_own_none hgd s x t ho w0.heap.size E i k S.ht hi v n xs hs H.head hx ?_
  refine h v w ?_ (by simp)
  simpa using H
 | some ad =>
  refine wpList_append_own_at w hgd s x t ho w0.heap.size E i z k bytes S.ht hi hz hsize hby hzs S.pos v n xs hs H.head ad m c news hx hl (hcell ad rfl) h1 h63 hbytes H.size (fun v' w' hown hgrow hnil hat => h v' w' ?_ hnil)
  refine H.step hgrow hown (fun b hb => ?_)
  rcases hat with e | e
  ·exact .inl (e.symm.trans hb)
  ·exact .inr (by
    have : v'.ownBlock = some b := hb
    rw [e] at this
    cases this
    exact Nat.le_refl _)

/-! ### A range over a map: the map is as it is, and it is not written meanwhile -/
/-- What has been gone through: each entry once. -/
structure Gone (es : Array MapEntry) (ps : List MapEntry) : Prop where
 mem : ∀ e ∈ ps, e ∈ es.toList
 nodup : (ps.map (·.born)).Nodup
end
end Go.Proofs.HL

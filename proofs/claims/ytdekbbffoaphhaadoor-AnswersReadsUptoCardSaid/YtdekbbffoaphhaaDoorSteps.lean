/- Steps of a walk in the words of what a call owns: append, maps, ranges over maps. -/
import Derived.Test.YtdekbbffoaphhaaDoorHL
import Derived.Test.YtdekbbffoaphhaaDoorMap
import Derived.Laws.AppendOwnNone
import Derived.Maps.AppendAt
import Derived.Deep.LoopGhost
import Derived.Lib.Hide
set_option linter.unusedVariables false
namespace Go.Proofs.HL
open Go.RowKit

/-- t is the type of the slices of E, whose values have k cells and take so many bytes. -/
structure SliceOf (P : Program) (t E : TypeId) (k bytes : Nat) : Prop where
  ht : P.underlying t = some (.slice E)
  info : ∃ i z, P.info? E = some i ∧ i.zero = some z ∧ i.size = k ∧ i.bytes = bytes ∧ z.cells.size = k
  pos : 0 < k
theorem sliceOf {P : Program} {t E : TypeId} {k bytes : Nat} {z : Value} (ht : P.underlying t = some (.slice E)) (h : (P.info? E).map (fun i => (i.zero, i.size, i.bytes)) = some (some z, k, bytes)) (hz : z.cells.size = k) (hp : 0 < k) : SliceOf P t E k bytes := by
  refine ⟨ht, ?_, hp⟩
  cases e : P.info? E with
  | none => rw [e] at h; cases h
  | some i =>
    rw [e] at h
    simp only [Option.map_some, Option.some.injEq, Prod.mk.injEq] at h
    exact ⟨i, z, rfl, h.1, h.2.1, h.2.2, hz⟩

theorem add_zero_block (b i : Nat) : (⟨b, 0, none⟩ : Addr).add i = ⟨b, i, none⟩ := by unfold Addr.add; split <;> simp_all
theorem add_plain (b o i : Nat) : (⟨b, o, none⟩ : Addr).add i = ⟨b, o + i, none⟩ := by unfold Addr.add; split <;> simp_all

theorem rd_new {w : World} {cs : List Value} {E : TypeId} {k n b : Nat} (hb : b = w.heap.size) (hl : cs.length = n * k) (hn : n ≤ maxLen) : Rd k (.slice (some ⟨b, 0, none⟩) n n) n cs (w.alloc (.cells cs.toArray E)) := by
  subst hb
  refine ⟨hl, hn, _, n, rfl, Nat.le_refl _, hn, (fun h => nomatch h), fun ad hd j u hu => ?_⟩
  cases hd
  rw [add_zero_block]
  simpa using hu
theorem rd_one {w : World} {u : Value} {E : TypeId} {b : Nat} (hb : b = w.heap.size) : Rd 1 (.slice (some ⟨b, 0, none⟩) 1 1) 1 [u] (w.alloc (.cells #[u] E)) := rd_new (cs := [u]) hb rfl (by decide)
theorem rd_nil {w : World} {k : Nat} : Rd k (.slice none 0 0) 0 [] w := ⟨by simp, by simp, none, 0, rfl, Nat.le_refl _, by simp, (fun _ => ⟨rfl, rfl⟩), (fun _ h => nomatch h)⟩
/-- A row of the call's own is read. -/
theorem rd_row {w : World} {base : Nat} {E : TypeId} {k n : Nat} {v : Value} {xs : List Value} (h : w.ownsRow base E k v n xs) : Rd k v n xs w := by
  have hl := h.1
  rcases h.2 with ⟨rfl, rfl⟩ | ⟨g, cap, cur, rfl, _, hg, hn, hm, hs, ht⟩
  · obtain rfl : xs = [] := List.eq_nil_of_length_eq_zero (by simpa using hl)
    exact rd_nil
  · refine ⟨hl, Nat.le_trans hn hm, _, cap, rfl, hn, hm, (fun e => nomatch e), fun ad hd j u hu => ?_⟩
    cases hd
    exact h.cells rfl j u hu
/-- The shape of a row's slice. -/
theorem row_shape {w : World} {base : Nat} {E : TypeId} {k n : Nat} {v : Value} {xs : List Value} (h : w.ownsRow base E k v n xs) : ∃ A c, v = .slice A n c ∧ (n = 0 ∨ ∃ g, A = some ⟨g, 0, none⟩) ∧ n ≤ c ∧ c ≤ maxLen := by
  rcases h.2 with ⟨rfl, rfl⟩ | ⟨g, cap, cur, rfl, _, hg, hn, hm, hs, ht⟩
  · exact ⟨none, 0, rfl, .inl rfl, Nat.le_refl _, Nat.zero_le _⟩
  · exact ⟨_, cap, rfl, .inr ⟨g, rfl⟩, hn, hm⟩
theorem HL.rd {w0 w : World} {L : List At} {base : Nat} {E : TypeId} {k n : Nat} {v : Value} {xs : List Value} (H : HL w0 w (row base E k v n xs :: L)) : Rd k v n xs w := rd_row H.head
theorem Rd.same {w w' : World} {k n : Nat} {v : Value} {cs : List Value} (h : Rd k v n cs w) (hg : w.grownBy w' none) : Rd k v n cs w' := by
  obtain ⟨h1, h2, a, c, h3, h4, h5, h6, h7⟩ := h
  refine ⟨h1, h2, a, c, h3, h4, h5, h6, fun ad hd j u hu => ?_⟩
  have := h7 ad hd j u hu
  exact (World.cell?_of_block (hg.block _ (World.block_lt_of_cell? w _ this) (by simp))).trans this
theorem Rd.alloc {w : World} {k n : Nat} {v : Value} {cs : List Value} (h : Rd k v n cs w) (o : Obj) : Rd k v n cs (w.alloc o) := h.same (World.grownBy_alloc w o none)

section
variable {P : Program} {ops : Array Oper} {rest : List Oper} {o : Oper} {a : Act} {Q : Exit → Act → World → Prop} {w0 w : World} {L : List At}

theorem wpList_append_hl {t E : TypeId} {k bytes : Nat} (S : SliceOf P t E k bytes) (hgd : o.guard = none) (s x : Operand) (ho : o.op = .call { callee := .builtin .append, args := #[s, x], argTypes := #[t, t] })
    {v xv : Value} {n m : Nat} {xs news : List Value} (H : HL w0 w (row w0.heap.size E k v n xs :: L)) (hs : a.eval s = v) (hx : a.eval x = xv) (hr : Rd k xv m news w) (h1 : ∀ u ∈ news, u.oneCell' = true)
    (h63 : n + m ≤ maxLen) (hbytes : (n + m) * bytes ≤ 140737488355328)
    (h : ∀ v' w', HL w0 w' (row w0.heap.size E k v' (n + m) (xs ++ news) :: L) → (v' = .slice none 0 0 ↔ v = .slice none 0 0 ∧ m = 0) → wpList P ops Q rest (a.put o.dst v') w') : wpList P ops Q (o :: rest) a w := by
  obtain ⟨i, z, hi, hz, hsize, hby, hzs⟩ := S.info
  obtain ⟨hl, hm, ad, c, rfl, hc1, hc2, hn, hcell⟩ := hr
  cases ad with
  | none =>
    obtain ⟨rfl, rfl⟩ := hn rfl
    obtain rfl : news = [] := List.eq_nil_of_length_eq_zero (by simpa using hl)
    refine wpList_append_own_none hgd s x t ho w0.heap.size E i k S.ht hi v n xs hs H.head hx ?_
    refine h v w ?_ (by simp)
    simpa using H
  | some ad =>
    refine wpList_append_own_at w hgd s x t ho w0.heap.size E i z k bytes S.ht hi hz hsize hby hzs S.pos v n xs hs H.head ad m c news hx hl (hcell ad rfl) h1 h63 hbytes H.size (fun v' w' hown hgrow hnil hat => h v' w' ?_ hnil)
    refine H.step hgrow hown (fun b hb => ?_)
    rcases hat with e | e
    · exact .inl (e.symm.trans hb)
    · exact .inr (by
        have : v'.ownBlock = some b := hb
        rw [e] at this
        cases this
        exact Nat.le_refl _)

theorem wpList_mapUpdate_hl {t kt et : TypeId} (ht : P.underlying t = some (.map kt et)) (hk : P.underlying kt = some (.int .i64)) (hg : o.guard = none) (m x v : Operand) (hop : o.op = Op.mapUpdate t m x v)
    {b : Nat} {KV : List (Int × Value)} (H : HL w0 w (mp b KV :: L)) {k : Int} {val : Value} (hm : a.eval m = .map (some b)) (hx : a.eval x = .int .i64 k) (hv : a.eval v = val)
    (h : ∀ w', HL w0 w' (mp b (putKV KV k val) :: L) → wpList P ops Q rest (a.put o.dst undef) w') : wpList P ops Q (o :: rest) a w := by
  refine wpList_plain hg fun K' hK' => ?_
  obtain ⟨w', hrun, r1⟩ := H.mapUpdate ht hk k val
  unfold Oper.wp
  simp [execOp, hop, hm, hx, hv, hrun, Result.andThen]
  exact hK' _ _ (h w' r1)

theorem wpList_delete_hl {t kt kt' et : TypeId} (ht : P.underlying t = some (.map kt et)) (hk : P.underlying kt = some (.int .i64)) (hg : o.guard = none) (m x : Operand) (hop : o.op = Op.call { callee := Callee.builtin Builtin.delete, args := #[m, x], argTypes := #[t, kt'] })
    {b : Nat} {KV : List (Int × Value)} (H : HL w0 w (mp b KV :: L)) {k : Int} (hm : a.eval m = .map (some b)) (hx : a.eval x = .int .i64 k)
    (h : ∀ w', HL w0 w' (mp b (delKV KV k) :: L) → wpList P ops Q rest (a.put o.dst (.tuple #[])) w') : wpList P ops Q (o :: rest) a w := by
  refine wpList_plain hg fun K' hK' => ?_
  obtain ⟨w', hrun, r1⟩ := H.delete (kt' := kt') ht hk k o.type
  unfold Oper.wp
  simp [execOp, hop, resolve, invoke, builtin, hm, hx, hrun, Result.andThen]
  exact hK' _ _ (h w' r1)

/-! ### A range over a map: the map is as it is, and it is not written meanwhile -/
theorem HL.openMap {b : Nat} {KV : List (Int × Value)} (H : HL w0 w (mp b KV :: L)) : ∃ es clock, HL w0 w (blk b (.map es clock) :: L) ∧ IntMap es clock KV := by
  obtain ⟨es, clock, hb, M⟩ := H.head
  exact ⟨es, clock, H.step (grownBy_refl w _) hb (fun b' e => .inl e), M⟩
theorem HL.shutMap {b : Nat} {es : Array MapEntry} {clock : Nat} {KV : List (Int × Value)} (H : HL w0 w (blk b (.map es clock) :: L)) (M : IntMap es clock KV) : HL w0 w (mp b KV :: L) :=
  H.turn (fun h => ⟨es, clock, h, M⟩) (fun b' e => e)

theorem wpList_range_hl {t kt et : TypeId} (ht : P.underlying t = some (.map kt et)) (hg : o.guard = none) (m : Operand) (hop : o.op = Op.range t m)
    {b : Nat} {es : Array MapEntry} {clock : Nat} (H : HL w0 w (blk b (.map es clock) :: L)) (hm : a.eval m = .map (some b))
    (h : ∀ it w', HL w0 w' (blk it (.mapIter (some b) clock #[] clock) :: blk b (.map es clock) :: L) → wpList P ops Q rest (a.put o.dst (.pointer (some ⟨it, 0, none⟩))) w') : wpList P ops Q (o :: rest) a w := by
  refine wpList_plain hg fun K' hK' => ?_
  have hb : w.heap[b]? = some (.map es clock) := H.head
  unfold Oper.wp
  simp [execOp, hop, hm, Instr.range, run_underlying ht, getObj, newObj, Sem.run, hb, Result.andThen]
  exact hK' _ _ (h _ _ (H.alloc _))

/-- What has been gone through: each entry once. -/
structure Gone (es : Array MapEntry) (ps : List MapEntry) : Prop where
  mem : ∀ e ∈ ps, e ∈ es.toList
  nodup : (ps.map (·.born)).Nodup
theorem Gone.nil (es : Array MapEntry) : Gone es [] := ⟨(fun _ h => nomatch h), List.nodup_nil⟩
theorem length_le_of_nodup {α : Type} [DecidableEq α] : ∀ (l l' : List α), l.Nodup → (∀ x ∈ l, x ∈ l') → l.length ≤ l'.length
  | [], _, _, _ => Nat.zero_le _
  | x :: l, l', hn, hs => by
    obtain ⟨h1, h2⟩ := List.nodup_cons.1 hn
    have hx := hs x (List.mem_cons_self ..)
    have := length_le_of_nodup l (l'.erase x) h2 (fun y hy => (List.mem_erase_of_ne (fun e : y = x => h1 (by rw [← e]; exact hy))).2 (hs y (List.mem_cons_of_mem _ hy)))
    rw [List.length_erase_of_mem hx] at this
    have := List.length_pos_of_mem hx
    simp only [List.length_cons]
    omega
theorem nodup_of_map {α β : Type} (f : α → β) {l : List α} (h : (l.map f).Nodup) : l.Nodup := List.Pairwise.of_map f (fun a b (e : f a ≠ f b) e' => e (congrArg f e')) h
theorem Gone.length {es : Array MapEntry} {ps : List MapEntry} (h : Gone es ps) (hb : (es.toList.map (·.born)).Nodup) : ps.length ≤ es.size := by
  have h1 := length_le_of_nodup (ps.map (·.born)) (es.toList.map (·.born)) h.nodup (fun x hx => by
    obtain ⟨e, he, rfl⟩ := List.mem_map.1 hx
    exact List.mem_map.2 ⟨e, h.mem e he, rfl⟩)
  simpa using h1
theorem born_inj {l : List MapEntry} (hb : (l.map (·.born)).Nodup) {x y : MapEntry} (hx : x ∈ l) (hy : y ∈ l) (e : x.born = y.born) : x = y := by
  induction l with
  | nil => cases hx
  | cons z l ih =>
    simp only [List.map_cons, List.nodup_cons] at hb
    rcases List.mem_cons.1 hx with rfl | hx
    · rcases List.mem_cons.1 hy with rfl | hy
      · rfl
      · exact absurd (List.mem_map.2 ⟨y, hy, e.symm⟩) hb.1
    · rcases List.mem_cons.1 hy with e2 | hy
      · rw [← e2] at hb
        exact absurd (List.mem_map.2 ⟨x, hx, e⟩) hb.1
      · exact ih hb.2 hx hy
theorem Gone.perm {es : Array MapEntry} {ps : List MapEntry} (h : Gone es ps) (hb : (es.toList.map (·.born)).Nodup) (hl : (leftOf es (ps.map (·.born)).toArray).size = 0) : ps.Perm es.toList := by
  have n1 : ps.Nodup := nodup_of_map _ h.nodup
  have n2 : es.toList.Nodup := nodup_of_map _ hb
  rw [List.perm_ext_iff_of_nodup n1 n2]
  intro x
  refine ⟨h.mem x, fun hx => ?_⟩
  have h0 : leftOf es (ps.map (·.born)).toArray = #[] := Array.eq_empty_of_size_eq_zero hl
  unfold leftOf at h0
  rw [Array.filter_eq_empty_iff] at h0
  have := h0 x (by simpa using hx)
  simp only [List.contains_toArray, Bool.not_eq_true, Bool.not_eq_false', List.contains_iff_mem, List.mem_map] at this
  obtain ⟨y, hy, e⟩ := this
  exact born_inj hb (h.mem y hy) hx e ▸ hy

theorem wpList_next_hl (hg : o.guard = none) (it : Operand) (hop : o.op = Op.next it false) {r b clock : Nat} {es : Array MapEntry} {KV : List (Int × Value)} {ps : List MapEntry} (M : IntMap es clock KV) (hps : Gone es ps)
    (H : HL w0 w (blk r (.mapIter (some b) clock (ps.map (·.born)).toArray clock) :: blk b (.map es clock) :: L)) (hit : a.eval it = .pointer (some ⟨r, 0, none⟩))
    (hDone : ps.Perm es.toList → wpList P ops Q rest (a.put o.dst (.tuple #[.bool false])) w)
    (hMore : ∀ e w', e ∈ es.toList → Gone es (ps ++ [e]) → HL w0 w' (blk r (.mapIter (some b) clock ((ps ++ [e]).map (·.born)).toArray clock) :: blk b (.map es clock) :: L) →
      (Instr.entry (.pointer (some ⟨r, 0, none⟩))).run P w' = .ok (.tuple #[e.key, e.val]) w' → wpList P ops Q rest (a.put o.dst (.tuple #[.bool true, e.key, e.val])) w') :
    wpList P ops Q (o :: rest) a w := by
  refine wpList_plain hg fun K' hK' => ?_
  have hr : w.heap[r]? = some (.mapIter (some b) clock (ps.map (·.born)).toArray clock) := H.head
  have hb : w.heap[b]? = some (.map es clock) := H.tail.head
  have hlt := (Array.getElem?_eq_some_iff.1 hr).1
  unfold Oper.wp
  rcases run_next_at (P := P) w o.type r b clock clock (ps.map (·.born)).toArray es clock hr hb M.old (Nat.le_refl _) with ⟨h0, hrun⟩ | ⟨e, he, w1, hw1, hrun⟩
  · simp [execOp, hop, hit, hrun, Result.andThen]
    exact hK' _ _ (hDone (hps.perm M.born h0))
  · obtain ⟨he1, he2⟩ := mem_left he
    have hg : Gone es (ps ++ [e]) := by
      refine ⟨fun x hx => ?_, ?_⟩
      · rcases List.mem_append.1 hx with hx | hx
        · exact hps.mem x hx
        · obtain rfl := List.mem_singleton.1 hx
          exact he1
      · rw [List.map_append]
        refine List.nodup_append.2 ⟨hps.nodup, by simp, ?_⟩
        rintro x hx y hy rfl
        simp at hy
        subst hy
        simp only [List.contains_toArray] at he2
        have : (ps.map (·.born)).contains e.born = true := by rw [List.contains_iff_mem]; exact hx
        rw [this] at he2
        cases he2
    have hseen : (ps.map (·.born)).toArray.push e.born = ((ps ++ [e]).map (·.born)).toArray := by simp
    have hH : HL w0 (ChangeMaps.setBlock w1 r (.mapIter (some b) clock ((ps ++ [e]).map (·.born)).toArray clock)) (blk r (.mapIter (some b) clock ((ps ++ [e]).map (·.born)).toArray clock) :: blk b (.map es clock) :: L) := by
      have hgw : w.grownBy (ChangeMaps.setBlock w1 r (.mapIter (some b) clock ((ps ++ [e]).map (·.born)).toArray clock)) (some r) := by
        rcases hw1 with rfl | rfl
        · exact grownBy_heap _ r _
        · exact ⟨rfl, rfl, rfl, (grownBy_heap w.drew r _).size, (grownBy_heap w.drew r _).block⟩
      refine H.step hgw ?_ (fun b' hb' => .inl hb')
      have : r < w1.heap.size := by rcases hw1 with rfl | rfl <;> exact hlt
      show (w1.heap.setIfInBounds r _)[r]? = _
      exact Array.getElem?_setIfInBounds_self_of_lt this
    have hen := run_entry_at (P := P) _ r b clock (ps.map (·.born)).toArray es clock e (by rw [hseen]; exact hH.head) hH.tail.head he1 M.born
    have := hK' _ _ (hMore e _ he1 hg hH hen)
    have e2 : (execOp a.eval o).run P w = .ok (.value (.tuple #[.bool true, e.key, e.val])) (ChangeMaps.setBlock w1 r (.mapIter (some b) clock ((ps ++ [e]).map (·.born)).toArray clock)) := by
      rw [← hseen]
      simp [execOp, hop, hit, hrun, Result.andThen]
    rw [e2]
    exact this
end
end Go.Proofs.HL

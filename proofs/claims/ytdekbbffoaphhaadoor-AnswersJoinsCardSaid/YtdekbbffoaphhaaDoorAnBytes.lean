/- Bytes made of a string, grown by strings and by bytes, and made a string again. -/
import Derived.Test.YtdekbbffoaphhaaDoorAnBase
import Derived.Lib.AppendStr
import Derived.Lib.ConvBytes
import Derived.Laws.BytesArg
import Derived.Lib.Builder
import Derived.Maps.AppendAt
set_option linter.unusedVariables false
set_option linter.unusedSimpArgs false
namespace Go.Proofs.HL
open Go.RowKit
/-- No cell of the row is frozen (a stretch behind its end may be). -/
def Loose (fz : Nat × Nat) (n : Nat) : Prop := n ≤ fz.1 ∨ fz.2 = 0
def OwnsL (w : World) (base : Nat) (e : TypeId) (v : Value) (xs : List Value) : Prop :=
  ∃ g cap cur fz, v = .slice (some ⟨g, 0, none⟩) xs.length cap ∧ base ≤ g ∧ w.heap[g]? = some (.cells cur e fz) ∧ Loose fz cur.size ∧ xs.length ≤ cap ∧ cap ≤ maxLen ∧ cur.size = cap ∧ cur.toList.take xs.length = xs
def rowL (base : Nat) (e : TypeId) (v : Value) (xs : List Value) : At where
  fp := v.ownBlock
  holds w := OwnsL w base e v xs
  lt := fun w b h1 h => by
    obtain ⟨g, cap, cur, fz, rfl, -, hg, -⟩ := h
    simp [Value.ownBlock] at h1
    subst h1
    exact (Array.getElem?_eq_some_iff.1 hg).1
  stable := fun w w' r hg hne h => by
    obtain ⟨g, cap, cur, fz, rfl, hb, hgg, rest⟩ := h
    refine ⟨g, cap, cur, fz, rfl, hb, ?_, rest⟩
    rw [hg.block g (Array.getElem?_eq_some_iff.1 hgg).1 (by simpa [Value.ownBlock] using hne)]
    exact hgg
theorem OwnsL.cells {w : World} {base g : Nat} {e : TypeId} {n c : Nat} {xs : List Value} (h : OwnsL w base e (.slice (some ⟨g, 0, none⟩) n c) xs) : ∀ j u, xs[j]? = some u → w.cell? ((⟨g, 0, none⟩ : Addr).add j) = some u := by
  intro j u hu
  obtain ⟨g', cap, cur, fz, hv, -, hgg, -, -, -, -, htake⟩ := h
  simp only [Value.slice.injEq, Option.some.injEq, Addr.mk.injEq] at hv
  obtain ⟨⟨rfl, -⟩, -, -⟩ := hv
  have hadd : (⟨g, 0, none⟩ : Addr).add j = ⟨g, j, none⟩ := by unfold Addr.add; split <;> simp_all
  rw [hadd, cell_of_row w g j cur e fz hgg]
  rw [← htake, List.getElem?_take] at hu
  split at hu
  · simpa using hu
  · cases hu
theorem run_storeCells_L (P : Program) (g o : Nat) (t : TypeId) (fz : Nat × Nat) : ∀ (vs : List Value) (i : Nat) (cur : Array Value) (w : World), w.heap[g]? = some (.cells cur t fz) → Loose fz cur.size → o + i + vs.length ≤ cur.size → (∀ v ∈ vs, v.oneCell' = true) →
    (storeCells ⟨g, o, none⟩ vs i).run P w = .ok () (w.setRow g (cur.toList.take (o + i) ++ vs ++ cur.toList.drop (o + i + vs.length)).toArray)
  | [], i, cur, w, hg, _, _, _ => by
    simp only [storeCells, List.append_nil, List.length_nil, Nat.add_zero, List.take_append_drop, Array.toArray_toList]
    rw [setRow_self w g cur t fz hg]
    rfl
  | v :: rest, i, cur, w, hg, hfz, hl, h1 => by
    have hi : o + i < cur.size := by simp at hl; omega
    have hadd : (⟨g, o, none⟩ : Addr).add i = ⟨g, o + i, none⟩ := by unfold Addr.add; split <;> simp_all
    have hcell : w.cell? ⟨g, o + i, none⟩ = some cur[o + i] := by simp [World.cell?, hg, hi]
    have hfro : w.frozen? ⟨g, o + i, none⟩ = false := by
      obtain ⟨lo, hi'⟩ := fz
      simp only [World.frozen?, hg, Bool.and_eq_false_iff, decide_eq_false_iff_not]
      rcases hfz with h | h
      · left
        simp only at h
        omega
      · right
        simp only at h
        omega
    have hst : (store ((⟨g, o, none⟩ : Addr).add i) v).run P w = .ok () (w.setRow g (cur.setIfInBounds (o + i) v)) := by
      rw [hadd, run_store P w _ v _ (h1 v (by simp)), hcell]
      simp [hfro, setCell_eq_setRow w g (o + i) cur t fz v hg]
    have ih := run_storeCells_L P g o t fz rest (i + 1) (cur.setIfInBounds (o + i) v) (w.setRow g (cur.setIfInBounds (o + i) v)) (setRow_heap w g cur _ t _ hg) (by simpa using hfz) (by simp at hl ⊢; omega) (fun x hx => h1 x (by simp [hx]))
    simp only [storeCells, Sem.run_bind, hst, Result.andThen_ok, ih, setRow_setRow]
    congr 3
    have e := list_seg_step cur.toList (o + i) v rest (by simp at hl ⊢; omega)
    simpa [Array.toList_setIfInBounds, Nat.add_assoc] using e
section
variable {P : Program} (w : World)
/-- What is laid behind in the row; or a new row. -/
theorem ownsL_room {base : Nat} {e : TypeId} {g cap : Nat} {cur : Array Value} {fz : Nat × Nat} {xs news : List Value} (hbg : base ≤ g) (hg : w.heap[g]? = some (.cells cur e fz)) (hfz : Loose fz cur.size) (hcs : cur.size = cap) (hcm : cap ≤ maxLen) (htake : cur.toList.take xs.length = xs) (hroom : xs.length + news.length ≤ cap) :
    OwnsL (w.setRow g (cur.toList.take xs.length ++ news ++ cur.toList.drop (xs.length + news.length)).toArray) base e (.slice (some ⟨g, 0, none⟩) (xs.length + news.length) cap) (xs ++ news) ∧
      w.grownBy (w.setRow g (cur.toList.take xs.length ++ news ++ cur.toList.drop (xs.length + news.length)).toArray) (some g) := by
  have hsz : (cur.toList.take xs.length ++ news ++ cur.toList.drop (xs.length + news.length)).toArray.size = cap := by
    simp only [List.size_toArray, List.length_append, List.length_take, List.length_drop, Array.length_toList]
    omega
  refine ⟨⟨g, cap, _, fz, by rw [List.length_append], hbg, setRow_heap w g cur _ e _ hg, by rw [hsz, ← hcs]; exact hfz, by rw [List.length_append]; exact hroom, hcm, hsz, ?_⟩, ⟨rfl, rfl, rfl, by simp, fun k _ hk => setRow_other w g k _ (fun e => hk (by rw [e]))⟩⟩
  rw [htake]
  show ((xs ++ news) ++ _).take (xs ++ news).length = xs ++ news
  exact List.take_left
theorem ownsL_grown {base old : Nat} {e : TypeId} {xs news : List Value} {z : Value} (hz : z.cells.size = 1) (hbase : base ≤ w.heap.size) (h63 : xs.length + news.length ≤ maxLen) (ho : old < xs.length + news.length) (row : Option Nat) :
    OwnsL (w.drew.alloc (.cells (xs.toArray ++ news.toArray ++ Builtin.zeroCells z.cells (grownCap w (xs.length + news.length) old e - (xs.length + news.length))) e)) base e (.slice (some ⟨w.heap.size, 0, none⟩) (xs.length + news.length) (grownCap w (xs.length + news.length) old e)) (xs ++ news) ∧
      w.grownBy (w.drew.alloc (.cells (xs.toArray ++ news.toArray ++ Builtin.zeroCells z.cells (grownCap w (xs.length + news.length) old e - (xs.length + news.length))) e)) row := by
  have hge := grownCap_ge w (xs.length + news.length) old e
  have hcm : grownCap w (xs.length + news.length) old e ≤ maxLen := grownCap_le_maxLen w (xs.length + news.length) old e h63
  have hn : w.drew.heap.size = w.heap.size := rfl
  refine ⟨⟨w.heap.size, _, _, (0, 0), by rw [List.length_append], hbase, by first | exact heap_alloc_new w.drew _ | (rw [← hn]; exact heap_alloc_new w.drew _), .inr rfl, by rw [List.length_append]; exact hge, hcm, ?_, ?_⟩, ⟨rfl, rfl, rfl, by simp, fun k hk _ => by first | exact Go.heap_alloc_old w.drew _ k hk | exact heap_alloc_old w.drew _ hk⟩⟩
  · simp only [Array.size_append, List.size_toArray, size_zeroCells, hz]
    omega
  · simp only [Array.toList_append]
    rw [show (xs.toArray).toList ++ (news.toArray).toList = xs ++ news by simp]
    exact List.take_left
theorem run_append_L_string (base : Nat) (t u ty e : TypeId) (i : TypeInfo) (ht : P.underlying t = some (.slice e)) (hu : P.underlying u = some .string) (hi : P.info? e = some i) (hz : i.zero = some (.int .u8 0))
    (hsize : i.size = 1) (hby : i.bytes = 1) (v : Value) (xs : List Value) (hown : OwnsL w base e v xs) (s : ByteArray) (hbytes : xs.length + s.size ≤ 140737488355328) (hbase : base ≤ w.heap.size) :
    ∃ v' w', (Builtin.append_ #[t, u] ty #[v, .string s]).run P w = .ok v' w' ∧ OwnsL w' base e v' (xs ++ Lib.strCells s) ∧ w.grownBy w' v.ownBlock ∧ (v'.ownBlock = v.ownBlock ∨ v'.ownBlock = some w.heap.size) := by
  have hsl := Lib.strCells_length s
  have hown' := hown
  obtain ⟨g, cap, cur, fz, rfl, hbg, hg, hfz, hnc, hcm, hcs, htake⟩ := hown
  by_cases hroom : xs.length + s.size ≤ cap
  · have hf := Lib.run_firstCells_string (P := P) w 1 s
    have hst := run_storeCells_L P g xs.length e fz (Lib.strCells s) 0 cur w hg hfz (by rw [hsl]; omega) (Lib.strCells_oneCell s)
    obtain ⟨h1, h2⟩ := ownsL_room w (news := Lib.strCells s) hbg hg hfz hcs hcm htake (by rw [hsl]; exact hroom)
    simp only [Nat.add_zero, hsl] at hst h1 h2
    refine ⟨_, _, ?_, h1, h2, .inl rfl⟩
    simp [Builtin.append_, run_underlying ht, run_underlying hu, sizeOf, typeInfo, hi, hsize, Builtin.lenOf, hroom, hf, Addr.add_lit, hst]
  · have hr := Lib.run_append_grow_string (P := P) w t u ty e i (.int .u8 0) ht hu hi hz ⟨g, 0, none⟩ xs.length cap xs (by rw [hsize]; simp) (OwnsL.cells hown') s (by omega) (by unfold maxLen at hcm; omega) (by rw [hby]; exact growslice_fits (by omega) (by omega))
    obtain ⟨h1, h2⟩ := ownsL_grown w (base := base) (old := cap) (e := e) (xs := xs) (news := Lib.strCells s) (z := .int .u8 0) rfl hbase (by rw [hsl]; unfold maxLen; omega) (by rw [hsl]; omega) (some g)
    simp only [hsl] at h1 h2
    exact ⟨_, _, hr, h1, h2, .inr rfl⟩
theorem run_append_L (base : Nat) (t ty e : TypeId) (i : TypeInfo) (ht : P.underlying t = some (.slice e)) (hi : P.info? e = some i) (hz : i.zero = some (.int .u8 0))
    (hsize : i.size = 1) (hby : i.bytes = 1) (v : Value) (xs : List Value) (hown : OwnsL w base e v xs) (a : Addr) (m c : Nat) (news : List Value) (hl : news.length = m) (hnews : ∀ j u, news[j]? = some u → w.cell? (a.add j) = some u) (ho : ∀ u ∈ news, u.oneCell' = true)
    (hbytes : xs.length + m ≤ 140737488355328) (hbase : base ≤ w.heap.size) :
    ∃ v' w', (Builtin.append_ #[t, t] ty #[v, .slice (some a) m c]).run P w = .ok v' w' ∧ OwnsL w' base e v' (xs ++ news) ∧ w.grownBy w' v.ownBlock ∧ (v'.ownBlock = v.ownBlock ∨ v'.ownBlock = some w.heap.size) := by
  subst hl
  have hown' := hown
  obtain ⟨g, cap, cur, fz, rfl, hbg, hg, hfz, hnc, hcm, hcs, htake⟩ := hown
  by_cases hroom : xs.length + news.length ≤ cap
  · have hf := run_firstCells_some (P := P) w 1 news.length a news.length c news (by simp) hnews
    have hst := run_storeCells_L P g xs.length e fz news 0 cur w hg hfz (by omega) ho
    obtain ⟨h1, h2⟩ := ownsL_room w (news := news) hbg hg hfz hcs hcm htake hroom
    simp only [Nat.add_zero] at hst
    refine ⟨_, _, ?_, h1, h2, .inl rfl⟩
    simp [Builtin.append_, run_underlying ht, sizeOf, typeInfo, hi, hsize, Builtin.lenOf, hroom, hf, Addr.add_lit, hst]
  · have hr := run_append_grow (P := P) w t ty e i (.int .u8 0) ht hi hz ⟨g, 0, none⟩ xs.length cap xs (by rw [hsize]; simp) (OwnsL.cells hown') a news.length c news (by rw [hsize]; simp) hnews (by omega) (by unfold maxLen at hcm; omega) (by rw [hby]; exact growslice_fits (by omega) (by omega))
    obtain ⟨h1, h2⟩ := ownsL_grown w (base := base) (old := cap) (e := e) (xs := xs) (news := news) (z := .int .u8 0) rfl hbase (by unfold maxLen; omega) (by omega) (some g)
    exact ⟨_, _, hr, h1, h2, .inr rfl⟩
end
theorem HL.stepL {w0 w w' : World} {L : List At} {e : TypeId} {v v' : Value} {xs ys : List Value} (H : HL w0 w (rowL w0.heap.size e v xs :: L)) (hown : OwnsL w' w0.heap.size e v' ys) (hgrow : w.grownBy w' v.ownBlock) (hat : v'.ownBlock = v.ownBlock ∨ v'.ownBlock = some w.heap.size) : HL w0 w' (rowL w0.heap.size e v' ys :: L) :=
  H.step (A' := rowL w0.heap.size e v' ys) hgrow hown (fun b hb => by
    have hb' : v'.ownBlock = some b := hb
    rcases hat with h | h
    · exact .inl (h.symm.trans hb')
    · refine .inr ?_
      rw [h] at hb'
      cases hb'
      exact Nat.le_refl _)
section
variable {P : Program} {ops : Array Oper} {rest : List Oper} {o : Oper} {a : Act} {Q : Exit → Act → World → Prop} {w0 w : World} {L : List At} {t u e : TypeId}
theorem wpList_append_L_string (ht : P.underlying t = some (.slice e)) (hu : P.underlying u = some .string) (hinf : (P.info? e).map (fun i => (i.zero, i.size, i.bytes)) = some (some (.int .u8 0), 1, 1)) (hgd : o.guard = none) (sl x : Operand)
    (ho : o.op = .call { callee := .builtin .append, args := #[sl, x], argTypes := #[t, u] }) {v : Value} {xs : List Value} {s : ByteArray} (H : HL w0 w (rowL w0.heap.size e v xs :: L)) (hs : a.eval sl = v) (hx : a.eval x = .string s) (hb : xs.length + s.size ≤ 140737488355328)
    (h : ∀ v' w', HL w0 w' (rowL w0.heap.size e v' (xs ++ Lib.strCells s) :: L) → wpList P ops Q rest (a.put o.dst v') w') : wpList P ops Q (o :: rest) a w := by
  cases hq : P.info? e with
  | none => rw [hq] at hinf; cases hinf
  | some i =>
    rw [hq] at hinf
    simp only [Option.map_some, Option.some.injEq, Prod.mk.injEq] at hinf
    obtain ⟨v', w', hr, h2, h3, h4⟩ := run_append_L_string (P := P) w w0.heap.size t u o.type e i ht hu hq hinf.1 hinf.2.1 hinf.2.2 v xs H.head s hb H.size
    refine wpList_plain hgd fun K hK => ?_
    unfold Oper.wp execOp
    simp only [ho, resolve, invoke, builtin, Sem.run_bind, Sem.run_pure, Result.andThen_ok, List.map_toArray, List.map_cons, List.map_nil, hs, hx, hr]
    exact hK _ _ (h v' w' (H.stepL h2 h3 h4))
theorem wpList_append_L (ht : P.underlying t = some (.slice e)) (hinf : (P.info? e).map (fun i => (i.zero, i.size, i.bytes)) = some (some (.int .u8 0), 1, 1)) (hgd : o.guard = none) (sl x : Operand)
    (ho : o.op = .call { callee := .builtin .append, args := #[sl, x], argTypes := #[t, t] }) {v : Value} {xs news : List Value} {b m c : Nat} (H : HL w0 w (rowL w0.heap.size e v xs :: L)) (hs : a.eval sl = v) (hx : a.eval x = .slice (some ⟨b, 0, none⟩) m c) (hl : news.length = m)
    (hnews : ∀ j u, news[j]? = some u → w.cell? ⟨b, j, none⟩ = some u) (h1 : ∀ u ∈ news, u.oneCell' = true) (hb : xs.length + m ≤ 140737488355328)
    (h : ∀ v' w', HL w0 w' (rowL w0.heap.size e v' (xs ++ news) :: L) → wpList P ops Q rest (a.put o.dst v') w') : wpList P ops Q (o :: rest) a w := by
  cases hq : P.info? e with
  | none => rw [hq] at hinf; cases hinf
  | some i =>
    rw [hq] at hinf
    simp only [Option.map_some, Option.some.injEq, Prod.mk.injEq] at hinf
    obtain ⟨v', w', hr, h2, h3, h4⟩ := run_append_L (P := P) w w0.heap.size t o.type e i ht hq hinf.1 hinf.2.1 hinf.2.2 v xs H.head ⟨b, 0, none⟩ m c news hl (fun j u hu => by rw [add_zero_block]; exact hnews j u hu) h1 hb H.size
    refine wpList_plain hgd fun K hK => ?_
    unfold Oper.wp execOp
    simp only [ho, resolve, invoke, builtin, Sem.run_bind, Sem.run_pure, Result.andThen_ok, List.map_toArray, List.map_cons, List.map_nil, hs, hx, hr]
    exact hK _ _ (h v' w' (H.stepL h2 h3 h4))
end
/-- A string's bytes, made. -/
theorem HL.bytes {w0 w : World} {L : List At} (H : HL w0 w L) (e : TypeId) (s : ByteArray) (hs : s.size ≤ 140737488355328) : HL w0 (Lib.bytesWorld w e s) (rowL w0.heap.size e (.slice (some ⟨w.heap.size, 0, none⟩) s.size (grownCap w s.size 0 e)) (Lib.strCells s) :: L) := by
  have hb := Lib.bytesWorld_below w e s
  have hge := grownCap_ge w s.size 0 e
  have hcm : grownCap w s.size 0 e ≤ maxLen := grownCap_le_maxLen w s.size 0 e (by unfold maxLen; omega)
  have hsl := Lib.strCells_length s
  have hsz : (Lib.bytesCells w e s).size = grownCap w s.size 0 e := by
    have : s.data.size = s.size := rfl
    simp only [Lib.bytesCells, Array.size_append, Array.size_map, Array.size_replicate]
    omega
  refine H.new (A' := rowL w0.heap.size e _ _) ⟨hb.os, hb.tape, hb.output, hb.size, fun k hk _ => hb.block k hk⟩ ?_ (fun b hb => by cases hb; exact Nat.le_refl _)
  refine ⟨w.heap.size, grownCap w s.size 0 e, Lib.bytesCells w e s, _, by rw [hsl], H.size, Lib.bytesWorld_at_new w e s, .inl (Nat.le_refl _), by rw [hsl]; exact hge, hcm, hsz, ?_⟩
  rw [hsl]
  have e1 : (Lib.bytesCells w e s).toList = Lib.strCells s ++ List.replicate (grownCap w s.size 0 e - s.size) (.int .u8 0) := by
    simp [Lib.bytesCells, Lib.strCells]
  rw [e1, ← hsl]
  exact List.take_left
/-- Bytes, made a string. -/
theorem run_string_L {P : Program} {w : World} {base : Nat} {src e dst : TypeId} (hs : P.underlying src = some (.slice e)) (he : P.underlying e = some (.int .u8)) (hd : P.underlying dst = some .string) {v : Value} {l : List UInt8} (h : OwnsL w base e v (l.map fun b => .int .u8 (b.toNat : Int))) :
    (convert src dst v).run P w = .ok (.string ⟨l.toArray⟩) w := by
  have h' := h
  obtain ⟨g, cap, cur, fz, rfl, -⟩ := h
  have hc := OwnsL.cells h'
  have hr := run_convert_bytes_arg (P := P) w src e hs he g 0 (l.map fun b => Value.int .u8 (b.toNat : Int)).length cap (l.map fun b => (b.toNat : Int)) (by simp) (fun i hi => by
    rw [Nat.zero_add]
    have hi' : i < l.length := by simpa using hi
    have := hc i (.int .u8 ((l.map fun b => (b.toNat : Int)).getD i 0)) (by simp [List.getElem?_eq_getElem hi'])
    rwa [add_zero_block] at this) dst hd
  rw [hr]
  congr 2
  have : (strOfNums (l.map fun b => (b.toNat : Int))).data.toList = l := by
    rw [strOfNums_data, List.map_map]
    conv => rhs; rw [← List.map_id l]
    apply List.map_congr_left
    intro b _
    simp
  exact (by
    cases hq : strOfNums (l.map fun b => (b.toNat : Int)) with
    | mk d =>
      rw [hq] at this
      simp only at this
      rw [← this])
end Go.Proofs.HL

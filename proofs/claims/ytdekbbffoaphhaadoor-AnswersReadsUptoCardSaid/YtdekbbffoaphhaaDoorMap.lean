/- Maps keyed by ints, as things that a call owns: look-up, store, delete, length, one step of a range. -/
import Derived.Test.YtdekbbffoaphhaaDoorHL
import Derived.Maps.Keyed
import Derived.Maps.RangeRun
set_option linter.unusedVariables false
namespace Go.Proofs.HL
open Go.RowKit

/-- What a map keyed by ints holds, in the order in which it was laid in. -/
structure IntMap (es : Array MapEntry) (clock : Nat) (KV : List (Int × Value)) : Prop where
  keys : ∀ e ∈ es.toList, e.key = .int .i64 (intOf e.key)
  kv : es.toList.map (fun e => (intOf e.key, e.val)) = KV
  nodup : (KV.map (·.1)).Nodup
  born : (es.toList.map (·.born)).Nodup
  old : ∀ e ∈ es.toList, e.born < clock

theorem IntMap.empty : IntMap #[] 0 [] := ⟨by simp, rfl, by simp, by simp, by simp⟩
theorem IntMap.size {es : Array MapEntry} {clock : Nat} {KV : List (Int × Value)} (M : IntMap es clock KV) : es.size = KV.length := by
  rw [← M.kv]; simp

/-- A map of the call's own. -/
def mp (b : Nat) (KV : List (Int × Value)) : At where
  fp := some b
  holds w := ∃ es clock, w.heap[b]? = some (.map es clock) ∧ IntMap es clock KV
  lt := fun w b' e ⟨es, clock, h, _⟩ => by
    cases e
    exact (Array.getElem?_eq_some_iff.1 h).1
  stable := fun w w' row hg hne ⟨es, clock, h, M⟩ => by
    refine ⟨es, clock, ?_, M⟩
    rw [hg.block b (Array.getElem?_eq_some_iff.1 h).1 (hne.resolve_left (by simp))]
    exact h

section
variable {P : Program} {w : World} {t kt et : TypeId} {b : Nat} {es : Array MapEntry} {clock : Nat} {KV : List (Int × Value)}

theorem modify_mid {α : Type} (f : α → α) (e : α) (l2 : List α) : ∀ l1 : List α, (l1 ++ e :: l2).modify l1.length f = l1 ++ f e :: l2
  | [] => by simp
  | x :: l1 => by simp [modify_mid f e l2 l1]

theorem findNow_int (k : Int) : ∀ (l : List MapEntry), (∀ e ∈ l, e.key = .int .i64 (intOf e.key)) → ∀ i,
    (Instr.findNow (.int .i64) (.int .i64 k) l i = some none ∧ ∀ e ∈ l, intOf e.key ≠ k) ∨
    ∃ l1 e l2, l = l1 ++ e :: l2 ∧ intOf e.key = k ∧ (∀ x ∈ l1, intOf x.key ≠ k) ∧ Instr.findNow (.int .i64) (.int .i64 k) l i = some (some (i + l1.length, e.val))
  | [], _, i => .inl ⟨rfl, by simp⟩
  | e :: l, h, i => by
    have he := h e (List.mem_cons_self ..)
    by_cases hk : intOf e.key = k
    · refine .inr ⟨[], e, l, rfl, hk, by simp, ?_⟩
      unfold Instr.findNow
      rw [he, hk]
      simp [Instr.sameNow]
    · have step : Instr.findNow (.int .i64) (.int .i64 k) (e :: l) i = Instr.findNow (.int .i64) (.int .i64 k) l (i + 1) := by
        conv => lhs; unfold Instr.findNow
        rw [he]
        have : (k == intOf e.key) = false := by simp; exact fun e' => hk e'.symm
        simp [Instr.sameNow, this]
      rcases findNow_int k l (fun x hx => h x (List.mem_cons_of_mem _ hx)) (i + 1) with ⟨h1, h2⟩ | ⟨l1, x, l2, h1, h2, h3, h4⟩
      · exact .inl ⟨step.trans h1, fun x hx => (List.mem_cons.1 hx).elim (fun e' => e' ▸ hk) (h2 x)⟩
      · refine .inr ⟨e :: l1, x, l2, by rw [h1]; rfl, h2, fun y hy => (List.mem_cons.1 hy).elim (fun e' => e' ▸ hk) (h3 y), ?_⟩
        rw [step, h4]
        simp [Nat.add_assoc, Nat.add_comm 1]

theorem run_checkKey_int (hk : P.underlying kt = some (.int .i64)) (em : Bool) (k : Int) : (Instr.checkKey em 10000 kt (.int .i64 k)).run P w = .ok () w := by
  show (Instr.checkKey em (9999 + 1) kt (.int .i64 k)).run P w = .ok () w
  unfold Instr.checkKey
  simp [run_underlying hk]

theorem run_findKey_int (hk : P.underlying kt = some (.int .i64)) (M : IntMap es clock KV) (k : Int) :
    ((Instr.findKey kt (.int .i64 k) es.toList).run P w = .ok none w ∧ KV.lookup k = none ∧ ∀ e ∈ es.toList, intOf e.key ≠ k) ∨
    ∃ l1 e l2, es.toList = l1 ++ e :: l2 ∧ intOf e.key = k ∧ (∀ x ∈ l1, intOf x.key ≠ k) ∧ (Instr.findKey kt (.int .i64 k) es.toList).run P w = .ok (some (l1.length, e.val)) w ∧ KV.lookup k = some e.val := by
  rcases findNow_int k es.toList M.keys 0 with ⟨h1, h2⟩ | ⟨l1, e, l2, h1, h2, h3, h4⟩
  · refine .inl ⟨by simp [Instr.findKey, run_underlying hk, h1], ?_, h2⟩
    rw [← M.kv, List.lookup_eq_none_iff]
    intro p hp
    obtain ⟨e, he, rfl⟩ := List.mem_map.1 hp
    simpa using fun e' => h2 e he e'.symm
  · refine .inr ⟨l1, e, l2, h1, h2, h3, by simp [Instr.findKey, run_underlying hk, h4], ?_⟩
    rw [← M.kv, h1, List.map_append, List.map_cons, List.lookup_append]
    have : List.lookup k (l1.map fun e => (intOf e.key, e.val)) = none := by
      rw [List.lookup_eq_none_iff]
      intro p hp
      obtain ⟨x, hx, rfl⟩ := List.mem_map.1 hp
      simpa using fun e' => h3 x hx e'.symm
    rw [this]
    simp [h2]

/-- 'm[k]' and 'v, ok := m[k]'. -/
theorem run_lookup_mp {z : Value} (ht : P.underlying t = some (.map kt et)) (hk : P.underlying kt = some (.int .i64)) (hz : ∀ w, (zeroValue et).run P w = .ok z w)
    (hb : w.heap[b]? = some (.map es clock)) (M : IntMap es clock KV) (k : Int) (ok : Bool) :
    (Instr.lookup t (.map (some b)) (.int .i64 k) ok).run P w = .ok (if ok then .tuple #[(KV.lookup k).getD z, .bool (KV.lookup k).isSome] else (KV.lookup k).getD z) w := by
  have hc := fun em => run_checkKey_int (P := P) (w := w) hk em k
  rcases run_findKey_int (P := P) (w := w) hk M k with ⟨h1, h2, -⟩ | ⟨l1, e, l2, -, -, -, h1, h2⟩
  · cases ok <;> simp [Instr.lookup, run_underlying ht, getObj, Sem.run, hb, hc, h1, h2, hz, Result.andThen]
  · cases ok <;> simp [Instr.lookup, run_underlying ht, getObj, Sem.run, hb, hc, h1, h2, Result.andThen]

theorem HL.lookup {w0 : World} {L : List At} {z : Value} (H : HL w0 w (mp b KV :: L)) (ht : P.underlying t = some (.map kt et)) (hk : P.underlying kt = some (.int .i64)) (hz : ∀ w, (zeroValue et).run P w = .ok z w) (k : Int) (ok : Bool) :
    (Instr.lookup t (.map (some b)) (.int .i64 k) ok).run P w = .ok (if ok then .tuple #[(KV.lookup k).getD z, .bool (KV.lookup k).isSome] else (KV.lookup k).getD z) w := by
  obtain ⟨es, clock, hb, M⟩ := H.head
  exact run_lookup_mp ht hk hz hb M k ok

theorem HL.lenMap {w0 : World} {L : List At} (H : HL w0 w (mp b KV :: L)) (ht : P.underlying t = some (.map kt et)) (ty : TypeId) :
    (Builtin.len_ #[t] ty #[.map (some b)]).run P w = .ok (.int .i64 KV.length) w := by
  obtain ⟨es, clock, hb, M⟩ := H.head
  simp [Builtin.len_, run_underlying ht, getObj, Sem.run, hb, Result.andThen, goInt, M.size]

/-- What a store makes of a map. -/
def putKV (KV : List (Int × Value)) (k : Int) (v : Value) : List (Int × Value) :=
  if (KV.lookup k).isSome then KV.map (fun p => if p.1 = k then (k, v) else p) else KV ++ [(k, v)]
/-- What a delete makes of it. -/
def delKV (KV : List (Int × Value)) (k : Int) : List (Int × Value) := KV.filter (fun p => p.1 ≠ k)

theorem grownBy_heap (w : World) (b : Nat) (o : Obj) : w.grownBy { w with heap := w.heap.setIfInBounds b o } (some b) :=
  ⟨rfl, rfl, rfl, by simp, fun k _ hk => by
    show (w.heap.setIfInBounds b o)[k]? = _
    rw [Array.getElem?_setIfInBounds_ne (fun e => hk (by rw [e]))]⟩

theorem run_setObj_map (hb : w.heap[b]? = some (.map es clock)) (o : Obj) : (setObj b o).run P w = .ok () { w with heap := w.heap.setIfInBounds b o } := by
  simp [setObj, Sem.run, hb]

theorem HL.mapUpdate {w0 : World} {L : List At} (H : HL w0 w (mp b KV :: L)) (ht : P.underlying t = some (.map kt et)) (hk : P.underlying kt = some (.int .i64)) (k : Int) (v : Value) :
    ∃ w', (Instr.mapUpdate t (.map (some b)) (.int .i64 k) v).run P w = .ok () w' ∧ HL w0 w' (mp b (putKV KV k v) :: L) := by
  obtain ⟨es, clock, hb, M⟩ := H.head
  have hlt := (Array.getElem?_eq_some_iff.1 hb).1
  have hc := fun em => run_checkKey_int (P := P) (w := w) hk em k
  rcases run_findKey_int (P := P) (w := w) hk M k with ⟨h1, h2, h3⟩ | ⟨l1, e, l2, h1, h2, h3, h4, h5⟩
  · refine ⟨_, by simp [Instr.mapUpdate, run_underlying ht, getObj, Sem.run, hb, hc, h1, Result.andThen, run_setObj_map hb]; rfl, ?_⟩
    refine H.step (grownBy_heap w b _) ⟨_, _, Array.getElem?_setIfInBounds_self_of_lt hlt, ?_⟩ (fun b' hb' => .inl hb')
    refine ⟨?_, ?_, ?_, ?_, ?_⟩
    · intro x hx
      rw [Array.toList_push] at hx
      rcases List.mem_append.1 hx with hx | hx
      · exact M.keys x hx
      · obtain rfl := List.mem_singleton.1 hx
        rfl
    · rw [Array.toList_push, List.map_append, M.kv]
      simp [putKV, h2, intOf]
    · simp only [putKV, h2, Option.isSome_none, Bool.false_eq_true, if_false, List.map_append, List.map_cons, List.map_nil]
      refine List.nodup_append.2 ⟨M.nodup, by simp, ?_⟩
      rintro a ha c hc rfl
      obtain rfl := List.mem_singleton.1 hc
      obtain ⟨p, hp, hpk⟩ := List.mem_map.1 ha
      rw [← M.kv] at hp
      obtain ⟨x, hx, rfl⟩ := List.mem_map.1 hp
      exact h3 x hx hpk
    · rw [Array.toList_push, List.map_append]
      refine List.nodup_append.2 ⟨M.born, by simp, ?_⟩
      rintro a ha c hc rfl
      obtain ⟨x, hx, hxb⟩ := List.mem_map.1 ha
      simp at hc
      have := M.old x hx
      omega
    · intro x hx
      rw [Array.toList_push] at hx
      rcases List.mem_append.1 hx with hx | hx
      · have := M.old x hx
        omega
      · obtain rfl := List.mem_singleton.1 hx
        show clock < clock + 1
        omega
  · have hel : es[l1.length]? = some e := by rw [← Array.getElem?_toList, h1]; simp
    have hstay : ∀ (o : Value) (W : World), o = .int .i64 k → (Instr.keyThatStays o (.int .i64 k)).run P W = .ok (.int .i64 k) W := by
      rintro o W rfl
      simp [Instr.keyThatStays, Instr.sameBits]
    have hek : e.key = .int .i64 k := by rw [M.keys e (by rw [h1]; simp), h2]
    refine ⟨_, by simp [Instr.mapUpdate, run_underlying ht, getObj, Sem.run, hb, hc, h4, hel, Result.andThen, hstay _ _ hek, run_setObj_map hb]; rfl, ?_⟩
    have hmod : (es.modify l1.length fun e => { e with key := .int .i64 k, val := v }).toList = l1 ++ { e with key := .int .i64 k, val := v } :: l2 := by
      rw [Array.toList_modify, h1, modify_mid]
    refine H.step (grownBy_heap w b _) ⟨_, _, Array.getElem?_setIfInBounds_self_of_lt hlt, ?_⟩ (fun b' hb' => .inl hb')
    have hkv := M.kv
    have hnd := M.nodup
    have hborn := M.born
    rw [← hkv] at hnd
    rw [h1] at hkv hborn hnd
    have hput : putKV KV k v = l1.map (fun e => (intOf e.key, e.val)) ++ (k, v) :: l2.map (fun e => (intOf e.key, e.val)) := by
      unfold putKV
      rw [h5]
      simp only [Option.isSome_some, if_true]
      rw [← hkv]
      simp only [List.map_append, List.map_cons, List.map_map, h2, if_true]
      congr 1
      · refine List.map_congr_left fun x hx => ?_
        simp [h3 x hx]
      · congr 1
        refine List.map_congr_left fun x hx => ?_
        have : intOf x.key ≠ k := by
          simp only [List.map_append, List.map_cons, List.map_map] at hnd
          have h6 := (List.nodup_cons.1 (List.nodup_append.1 hnd).2.1).1
          intro hxk
          exact h6 (List.mem_map.2 ⟨x, hx, by simp [hxk, h2]⟩)
        simp [this]
    refine ⟨?_, ?_, ?_, ?_, ?_⟩
    · intro x hx
      rw [hmod] at hx
      rcases List.mem_append.1 hx with hx | hx
      · exact M.keys x (by rw [h1]; exact List.mem_append_left _ hx)
      · rcases List.mem_cons.1 hx with rfl | hx
        · rfl
        · exact M.keys x (by rw [h1]; exact List.mem_append_right _ (List.mem_cons_of_mem _ hx))
    · rw [hmod, hput]
      simp [intOf]
    · rw [hput]
      simpa [h2] using hnd
    · rw [hmod]
      simpa using hborn
    · intro x hx
      rw [hmod] at hx
      rcases List.mem_append.1 hx with hx | hx
      · exact M.old x (by rw [h1]; exact List.mem_append_left _ hx)
      · rcases List.mem_cons.1 hx with rfl | hx
        · exact M.old e (by rw [h1]; simp)
        · exact M.old x (by rw [h1]; exact List.mem_append_right _ (List.mem_cons_of_mem _ hx))

theorem HL.delete {w0 : World} {L : List At} (H : HL w0 w (mp b KV :: L)) {kt' : TypeId} (ht : P.underlying t = some (.map kt et)) (hk : P.underlying kt = some (.int .i64)) (k : Int) (ty : TypeId) :
    ∃ w', (Builtin.delete_ #[t, kt'] ty #[.map (some b), .int .i64 k]).run P w = .ok (.tuple #[]) w' ∧ HL w0 w' (mp b (delKV KV k) :: L) := by
  obtain ⟨es, clock, hb, M⟩ := H.head
  have hlt := (Array.getElem?_eq_some_iff.1 hb).1
  have hc := fun em => run_checkKey_int (P := P) (w := w) hk em k
  rcases run_findKey_int (P := P) (w := w) hk M k with ⟨h1, h2, h3⟩ | ⟨l1, e, l2, h1, h2, h3, h4, h5⟩
  · refine ⟨_, by simp [Builtin.delete_, run_underlying ht, getObj, Sem.run, hb, hc, h1, Result.andThen, run_setObj_map hb]; rfl, ?_⟩
    refine H.step (grownBy_heap w b _) ⟨_, _, Array.getElem?_setIfInBounds_self_of_lt hlt, ?_⟩ (fun b' hb' => .inl hb')
    have : delKV KV k = KV := by
      unfold delKV
      rw [List.filter_eq_self]
      intro p hp
      rw [← M.kv] at hp
      obtain ⟨x, hx, rfl⟩ := List.mem_map.1 hp
      simpa using h3 x hx
    rw [this]
    exact M
  · refine ⟨_, by simp [Builtin.delete_, run_underlying ht, getObj, Sem.run, hb, hc, h4, Result.andThen, run_setObj_map hb]; rfl, ?_⟩
    refine H.step (grownBy_heap w b _) ⟨_, _, Array.getElem?_setIfInBounds_self_of_lt hlt, ?_⟩ (fun b' hb' => .inl hb')
    have hl : l1.length < es.size := by rw [← Array.length_toList, h1]; simp
    have hmod : (es.eraseIdxIfInBounds l1.length).toList = l1 ++ l2 := by
      simp [Array.eraseIdxIfInBounds, hl, h1, List.eraseIdx_append_of_length_le]
    have hkv := M.kv
    have hnd := M.nodup
    have hborn := M.born
    rw [← hkv] at hnd
    rw [h1] at hkv hborn hnd
    have hne2 : ∀ x ∈ l2, intOf x.key ≠ k := by
      intro x hx hxk
      simp only [List.map_append, List.map_cons, List.map_map] at hnd
      exact (List.nodup_cons.1 (List.nodup_append.1 hnd).2.1).1 (List.mem_map.2 ⟨x, hx, by simp [hxk, h2]⟩)
    have hdel : delKV KV k = (l1 ++ l2).map (fun e => (intOf e.key, e.val)) := by
      unfold delKV
      rw [← hkv]
      simp only [List.map_append, List.map_cons, List.filter_append, List.filter_cons, h2]
      simp only [ne_eq, not_true_eq_false, decide_false, Bool.false_eq_true, if_false]
      congr 1
      · rw [List.filter_eq_self]
        intro p hp
        obtain ⟨x, hx, rfl⟩ := List.mem_map.1 hp
        simpa using h3 x hx
      · rw [List.filter_eq_self]
        intro p hp
        obtain ⟨x, hx, rfl⟩ := List.mem_map.1 hp
        simpa using hne2 x hx
    have hmem : ∀ x, x ∈ l1 ++ l2 → x ∈ es.toList := fun x hx => by
      rw [h1]
      rcases List.mem_append.1 hx with hx | hx
      · exact List.mem_append_left _ hx
      · exact List.mem_append_right _ (List.mem_cons_of_mem _ hx)
    have hsub : List.Sublist (l1 ++ l2) (l1 ++ e :: l2) := (List.Sublist.refl l1).append (List.sublist_cons_self e l2)
    refine ⟨fun x hx => M.keys x (hmem x (hmod ▸ hx)), by rw [hmod, hdel], ?_, ?_, fun x hx => M.old x (hmem x (hmod ▸ hx))⟩
    · rw [hdel, List.map_map]
      rw [List.map_map] at hnd
      exact hnd.sublist (hsub.map _)
    · rw [hmod]
      exact hborn.sublist (hsub.map _)
end
end Go.Proofs.HL

/- The append of so many zeros to an owned row of ints. -/
import Derived.Test.YtdekbbffoaphhaaDoorSteps
import Derived.Maps.AppendAt
set_option linter.unusedVariables false
set_option linter.unusedSimpArgs false
namespace Go.Proofs.HL
open Go.RowKit
theorem zeroC_eq {z : Value} (hz : z.cells = #[.int .i64 0]) (m : Nat) : (Builtin.zeroCells z.cells m).toList = List.replicate m (.int .i64 0) := by
  rw [hz]
  unfold Builtin.zeroCells
  apply List.ext_getElem
  · simp
  · intro i h1 h2
    simp [Nat.mod_one]
section
variable {P : Program} (w : World)
theorem run_append_zeros_at (base : Nat) (t ti ty e : TypeId) (i : TypeInfo) (z : Value) (bytes : Nat) (ht : P.underlying t = some (.slice e)) (hti : P.underlying ti = some (.int .i64)) (hi : P.info? e = some i) (hz : i.zero = some z)
    (hsize : i.size = 1) (hby : i.bytes = bytes) (hzs : z.cells = #[.int .i64 0])
    (v : Value) (n : Nat) (xs : List Value) (hown : w.ownsRow base e 1 v n xs) (m : Nat) (hm0 : 0 < m) (hm : m ≤ 1000)
    (hn : n ≤ 4294967296) (hb8 : bytes ≤ 8) (hbase : base ≤ w.heap.size) :
    ∃ v' w', (Builtin.append_ #[t, ti] ty #[v, .int .i64 m]).run P w = .ok v' w' ∧ w'.ownsRow base e 1 v' (n + m) (xs ++ List.replicate m (.int .i64 0)) ∧ w.grownBy w' v.ownBlock ∧ (v'.ownBlock = v.ownBlock ∨ v'.ownBlock = some w.heap.size) := by
  subst hby
  have hw : IntKind.i64.wrap (m : Int) = m := by rw [IntWalk.i64_in] <;> omega
  have hl0 : ¬ ((m : Int) < 0) := by omega
  have hmb : (m : Int) * (i.bytes : Int) ≤ 8000 := by
    have : m * i.bytes ≤ 1000 * 8 := Nat.mul_le_mul hm hb8
    omega
  have hbig : ¬ ((2 : Int) ^ 48 < (m : Int) * (i.bytes : Int)) := by
    have : (2 : Int) ^ 48 = 281474976710656 := by decide
    omega
  have hbig2 : ¬ ((281474976710656 : Int) < (m : Int) * (i.bytes : Int)) := by omega
  have hm1 : ¬ (m * 1 = 0) := by omega
  have hm2 : ¬ m = 0 := by omega
  have hm3 : ¬ ((m : Int) ≤ 0) := by omega
  have hm4 : max (m : Int) 0 = m := by omega
  have ha : ∀ w', (asIntOf (.int .i64 (m : Int))).run P w' = .ok (.i64, (m : Int)) w' := fun _ => rfl
  have hzc := zeroC_eq hzs m
  have hlen : (xs ++ List.replicate m (Value.int .i64 0)).length = (n + m) * 1 := by rw [List.length_append, hown.1, List.length_replicate]; omega
  have h63 : n + m ≤ maxLen := by unfold maxLen; omega
  have hcap : ∀ old, old < n + m → ¬ (281474976710656 < Builtin.nextslicecap (n + m) old * i.bytes) := fun old ho => by
    have h1 := nextslicecap_le ho
    have h2 : Builtin.nextslicecap (n + m) old * i.bytes ≤ (2 * (n + m)) * 8 := Nat.mul_le_mul h1 hb8
    omega
  have grown : ∀ (old : Nat), old < n + m → ∀ (row : Option Nat),
      (w.drew.alloc (.cells (xs.toArray ++ (Builtin.zeroCells z.cells m) ++ Builtin.zeroCells z.cells (grownCap w (n + m) old e - (n + m))) e)).ownsRow base e 1
        (.slice (some ⟨w.heap.size, 0, none⟩) (n + m) (grownCap w (n + m) old e)) (n + m) (xs ++ List.replicate m (.int .i64 0)) ∧
      w.grownBy (w.drew.alloc (.cells (xs.toArray ++ (Builtin.zeroCells z.cells m) ++ Builtin.zeroCells z.cells (grownCap w (n + m) old e - (n + m))) e)) row := by
    intro old ho row
    have hge := grownCap_ge w (n + m) old e
    have hcm : grownCap w (n + m) old e ≤ maxLen := grownCap_le_maxLen w (n + m) old e h63
    refine ⟨⟨hlen, .inr ⟨w.heap.size, _, _, rfl, hbase, heap_alloc_new w.drew _, hge, hcm, ?_, ?_⟩⟩, ⟨rfl, rfl, rfl, by simp, fun k hk _ => by first | exact Go.heap_alloc_old w.drew _ k hk | exact heap_alloc_old w.drew _ hk⟩⟩
    · have hz1 : z.cells.size = 1 := by rw [hzs]; rfl
      have := hown.1
      simp only [Array.size_append, List.size_toArray, size_zeroCells, hz1]
      omega
    · simp only [Array.toList_append, List.append_assoc, hzc]
      rw [← List.append_assoc, ← hlen]
      exact List.take_left
  rcases hown.2 with ⟨rfl, rfl⟩ | ⟨g, cap, cur, rfl, hbg, hg, hnc, hcm, hcs, htake⟩
  · obtain rfl : xs = [] := List.eq_nil_of_length_eq_zero (by simpa using hown.1)
    have hgr := grown 0 (by omega) (Value.ownBlock (.slice none 0 0))
    have hc0 := hcap 0 (by omega)
    have h63' : ¬ (9223372036854775807 < (m : Int)) := by omega
    simp only [Nat.zero_add] at hgr hc0
    simp only [Nat.zero_add, List.nil_append, Array.empty_append] at hgr ⊢
    refine ⟨_, _, ?_, hgr.1, hgr.2, .inr rfl⟩
    simp [Builtin.append_, run_underlying ht, run_underlying hti, sizeOf, typeInfo, zeroValue, hi, hz, hsize, asInt, ha, hw, hl0, hbig, hbig2, hm1, hm2, hm3, hm4, hc0, h63', Question.forced, run_firstCells_none, newRow, grownCap]
  · by_cases hroom : n + m ≤ cap
    · have hfit : n * 1 + (List.replicate m (Value.int .i64 0)).length ≤ cur.size := by rw [hcs, List.length_replicate]; omega
      have hst := run_storeCells_at P g n e (Builtin.zeroCells z.cells m).toList 0 cur w hg (by rw [hzc, List.length_replicate, hcs]; omega) (by rw [hzc]; intro u hu; rw [List.eq_of_mem_replicate hu]; rfl)
      simp only [Nat.add_zero] at hst
      refine ⟨.slice (some ⟨g, 0, none⟩) (n + m) cap, w.setRow g (cur.toList.take n ++ (Builtin.zeroCells z.cells m).toList ++ cur.toList.drop (n + (Builtin.zeroCells z.cells m).toList.length)).toArray, ?_, ⟨hlen, .inr ⟨g, cap, _, rfl, hbg, setRow_heap w g cur _ e _ hg, hroom, hcm, ?_, ?_⟩⟩, ⟨rfl, rfl, rfl, by simp, fun k _ hk => setRow_other w g k _ (fun e => hk (by simp [Value.ownBlock, e]))⟩, .inl rfl⟩
      · simp [Builtin.append_, run_underlying ht, run_underlying hti, sizeOf, typeInfo, zeroValue, hi, hz, hsize, asInt, ha, hw, hl0, hbig, hbig2, hm1, hm2, hm3, hm4, hroom, Addr.add_lit] at hst ⊢
        rw [hst]
        simp
      · rw [hzc]
        simp only [List.size_toArray, List.length_append, List.length_take, List.length_drop, Array.length_toList, List.length_replicate]
        rw [hcs] at *
        omega
      · rw [Nat.mul_one] at htake
        rw [htake, hzc, ← hlen]
        exact List.take_left
    · have hgr := grown cap (by omega) (Value.ownBlock (.slice (some ⟨g, 0, none⟩) n cap))
      have holds : ∀ j u, xs[j]? = some u → w.cell? ((⟨g, 0, none⟩ : Addr).add j) = some u := hown.cells (g := g) rfl
      have hfo := run_firstCells_some (P := P) w.drew 1 n ⟨g, 0, none⟩ n cap xs hown.1 (by simpa using holds)
      have hc0 := hcap cap (by omega)
      have h63' : ¬ (9223372036854775807 < ((n : Int) + (m : Int))) := by omega
      refine ⟨_, _, ?_, hgr.1, hgr.2, .inr rfl⟩
      simp [Builtin.append_, run_underlying ht, run_underlying hti, sizeOf, typeInfo, zeroValue, hi, hz, hsize, asInt, ha, hw, hl0, hbig, hbig2, hm1, hm2, hm3, hm4, hroom, hc0, h63', Question.forced, hfo, newRow, grownCap]
end
theorem wpList_append_zeros {P : Program} {ops : Array Oper} {rest : List Oper} {o : Oper} {a : Act} {Q : Exit → Act → World → Prop} {w0 w : World} {L : List At} {t ti E : TypeId} {bytes : Nat} (ht : P.underlying t = some (.slice E)) (hti : P.underlying ti = some (.int .i64))
    (hinf : (P.info? E).map (fun i => (i.zero, i.size, i.bytes)) = some (some (.int .i64 0), 1, bytes)) (hb8 : bytes ≤ 8) (hgd : o.guard = none) (s x : Operand) (ho : o.op = .call { callee := .builtin .append, args := #[s, x], argTypes := #[t, ti] })
    {v : Value} {n m : Nat} {xs : List Value} (H : HL w0 w (row w0.heap.size E 1 v n xs :: L)) (hs : a.eval s = v) (hx : a.eval x = .int .i64 m) (hm0 : 0 < m) (hm : m ≤ 1000) (hn : n ≤ 4294967296)
    (h : ∀ v' w', HL w0 w' (row w0.heap.size E 1 v' (n + m) (xs ++ List.replicate m (.int .i64 0)) :: L) → wpList P ops Q rest (a.put o.dst v') w') : wpList P ops Q (o :: rest) a w := by
  cases e : P.info? E with
  | none => rw [e] at hinf; cases hinf
  | some i =>
    rw [e] at hinf
    simp only [Option.map_some, Option.some.injEq, Prod.mk.injEq] at hinf
    obtain ⟨v', w', hrun, hown, hgrow, hat⟩ := run_append_zeros_at (P := P) w w0.heap.size t ti o.type E i (.int .i64 0) bytes ht hti e hinf.1 hinf.2.1 hinf.2.2 rfl v n xs H.head m hm0 hm hn hb8 H.size
    refine wpList_plain hgd fun K' hK' => ?_
    unfold Oper.wp execOp
    simp only [ho, resolve, invoke, builtin, Sem.run_bind, Sem.run_pure, Result.andThen_ok, List.map_toArray, List.map_cons, List.map_nil, hs, hx, hrun]
    refine hK' _ _ (h v' w' (H.step hgrow hown (fun b hb => ?_)))
    rcases hat with e | e
    · exact .inl (e.symm.trans hb)
    · exact .inr (by
        have : v'.ownBlock = some b := hb
        rw [e] at this
        cases this
        exact Nat.le_refl _)
end Go.Proofs.HL

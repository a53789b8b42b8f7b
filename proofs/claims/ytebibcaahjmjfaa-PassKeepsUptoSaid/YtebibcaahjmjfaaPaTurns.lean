/- What befalls between passes, as it came in. -/
import Derived.Test.YtebibcaahjmjfaaPaOpen
import Derived.Test.YtebibcaahjmjfaaPaSmall
import Derived.Test.YtebibcaahjmjfaaPaKeepsP
set_option linter.unusedVariables false
namespace Go.Proofs.Ytebibcaahjmjfaa
open Go.RowKit Go.ChangeShapes Go.WideShapes Go.Deep Go.Proofs.HL Go.Proofs.HL.Pr Go.Proofs.HL.Pa
structure TurnD where
  ticks : Int
  vE : Value
  vC : Value
  vG : Value
  turn : Int
  E : List Int
  C : List Wn
  G : List Int
def encT (t : TurnD) : List Value := [.int .i64 t.ticks, t.vE, t.vC, t.vG, .int .i64 t.turn]
/-- What lies behind a turn. -/
structure TurnRd (w : World) (t : TurnD) : Prop where
  rE : Rd 1 t.vE t.E.length (t.E.map fun j => .int .i64 j) w
  rC : Rd 3 t.vC t.C.length (t.C.flatMap encW) w
  rG : Rd 1 t.vG t.G.length (t.G.map fun j => .int .i64 j) w
  lo : -9223372036854775808 ≤ t.turn
  hi : t.turn ≤ 9223372036854775807
theorem nums_map (l : List Int) : (l.flatMap fun i => [Value.int .i64 i]) = l.map fun j => Value.int .i64 j := by
  induction l with
  | nil => rfl
  | cons x l ih => rw [List.flatMap_cons, ih]; rfl
section
variable {H : Type} {encH : TypeId × Value → H} {w : World} {base : Nat} {spare : Nat → Bool} {held : Bool}
theorem open_turn {n : Nat} {cs : List Value} {y : DataW H × List MemPlace} (hl : cs.length = 5) (ht : DataW.trod encH Try.prog w base spare held n 73 cs = some y) : ∃ x : TurnD, cs = encT x ∧ TurnRd w x := by
  obtain ⟨m, hf⟩ := open_struct Try.underlying73 (by kernel_rfl) hl ht
  obtain ⟨v0, z0, c0, t0⟩ := hf 0 _ rfl
  obtain ⟨v1, z1, c1, t1⟩ := hf 1 _ rfl
  obtain ⟨v2, z2, c2, t2⟩ := hf 2 _ rfl
  obtain ⟨v3, z3, c3, t3⟩ := hf 3 _ rfl
  obtain ⟨v4, z4, c4, t4⟩ := hf 4 _ rfl
  obtain ⟨i0, rfl, -⟩ := field_int Try.underlying3 t0
  obtain ⟨i4, rfl, hi⟩ := field_int Try.underlying3 t4
  obtain ⟨s1, h1⟩ := field_slice Try.underlying36 t1
  obtain ⟨s2, h2⟩ := field_slice Try.underlying45 t2
  obtain ⟨s3, h3⟩ := field_slice Try.underlying36 t3
  obtain ⟨E, wE, -, -⟩ := open_nums s1 h1
  obtain ⟨C, wC, -, -⟩ := open_wants s2 h2
  obtain ⟨G, wG, -, -⟩ := open_nums s3 h3
  rw [nums_map] at wE wG
  have hr : -9223372036854775808 ≤ i4 ∧ i4 ≤ 9223372036854775807 := by simpa [Lit.wf, IntKind.min, IntKind.max, IntKind.signed, IntKind.bits] using hi
  refine ⟨⟨i0, v1, v2, v3, i4, E, C, G⟩, ?_, ⟨wE, wC, wG, hr.1, hr.2⟩⟩
  match cs, hl with
  | [_, _, _, _, _], _ =>
    simp only [List.getElem?_cons_zero, List.getElem?_cons_succ, Option.some.injEq] at c0 c1 c2 c3 c4
    subst c0 c1 c2 c3 c4
    rfl
theorem open_turns {v : Value} {d : DataW H} {ps : List MemPlace} (hv : ∃ a len cap, v = .slice a len cap) (h : DataW.Trod encH Try.prog w base spare held 65 v d ps) :
    ∃ l : List TurnD, Rd 5 v l.length (l.flatMap encT) w ∧ (∀ x ∈ l, TurnRd w x) ∧ ((d = .nil ∧ l = []) ∨ ∃ elems rest, d = .slice elems rest ∧ elems.length = l.length) :=
  open_rows 5 encT (TurnRd w) (fun _ => rfl) (by decide) Try.underlying65 (by kernel_rfl) (fun n cs y hl ht => open_turn hl ht) hv h
end
theorem turn_at {v : Value} {T : List TurnD} {w : World} (h : Rd 5 v T.length (T.flatMap encT) w) {k : Nat} {x : TurnD} (hx : T[k]? = some x) : ∃ b o c, v = .slice (some ⟨b, o, none⟩) T.length c ∧ w.cell? ⟨b, o + k * 5, none⟩ = some (.int .i64 x.ticks) ∧ w.cell? ⟨b, o + k * 5 + 1, none⟩ = some x.vE ∧
    w.cell? ⟨b, o + k * 5 + 2, none⟩ = some x.vC ∧ w.cell? ⟨b, o + k * 5 + 3, none⟩ = some x.vG ∧ w.cell? ⟨b, o + k * 5 + 4, none⟩ = some (.int .i64 x.turn) := by
  obtain ⟨b, o, c, h1, -, -, h2⟩ := rd_elem encT 5 (fun _ => rfl) (by decide) h hx
  exact ⟨b, o, c, h1, h2 0 _ rfl, h2 1 _ rfl, h2 2 _ rfl, h2 3 _ rfl, h2 4 _ rfl⟩
end Go.Proofs.Ytebibcaahjmjfaa
namespace Go.Proofs.HL.Pa
open Go.Proofs.HL.Pr
open Go.Proofs.Ytebibcaahjmjfaa (mayB_iff)
theorem keeps_took {now free held : Int} {ws : List Wn} {l : List Rn} (hm : mayB now free ws held l = true) : sumW (tookOf ws (passD now free ws held l).starts) ≤ free ∧
    (free - sumW (tookOf ws (passD now free ws held l).starts)) + sumN (l ++ (tookOf ws (passD now free ws held l).starts).map (runOf now)) = free + sumN l ∧
    (∀ r ∈ l ++ (tookOf ws (passD now free ws held l).starts).map (runOf now), 1 ≤ r.nodes ∧ r.nodes ≤ 256) ∧ (leftOf ws (passD now free ws held l).starts).length ≤ ws.length := by
  obtain ⟨T, hW⟩ := whole hm
  obtain ⟨-, hr, hw, hn, -⟩ := mayB_iff.1 hm
  have hP := took_perm hW.told hn
  obtain ⟨b1, -, -⟩ := hW.told.right hm
  have b4 := rightB_iff.1 b1
  have hf := hW.told.tfree
  have hs := sumW_perm hP
  refine ⟨by omega, ?_, fun r hr2 => ?_, List.length_filter_le _ _⟩
  · rw [sumN_append, sumN_runs]; omega
  · rcases List.mem_append.1 hr2 with h | h
    · exact ⟨(hr r h).1, (hr r h).2.1⟩
    · obtain ⟨x, hx, rfl⟩ := List.mem_map.1 h
      have := hw x (List.mem_filter.1 hx).1
      exact ⟨this.2.1, this.2.2.1⟩
end Go.Proofs.HL.Pa

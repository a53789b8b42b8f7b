/- Arguments of the laws of passes: lists of wants; what a pass is asked of. -/
import Derived.Test.YtebibcaahjmjfaaPaRank
import Derived.Test.YtebibcaahjmjfaaPrRows
import Derived.SizedLaws
set_option linter.unusedVariables false
namespace Go.Proofs.Ytebibcaahjmjfaa
open Go.RowKit Go.ChangeShapes Go.WideShapes Go.Deep Go.Proofs.HL Go.Proofs.HL.Pr Go.Proofs.HL.Pa
variable {H : Type} {encH : TypeId × Value → H} {w : World} {base : Nat} {spare : Nat → Bool} {held : Bool}

theorem open_want {n : Nat} {cs : List Value} {y : DataW H × List MemPlace} (hl : cs.length = 3) (ht : DataW.trod encH Try.prog w base spare held n 60 cs = some y) : ∃ x : Wn, cs = encW x := by
  obtain ⟨m, hf⟩ := open_struct Try.underlying60 (by kernel_rfl) hl ht
  obtain ⟨v0, z0, c0, t0⟩ := hf 0 _ rfl
  obtain ⟨v1, z1, c1, t1⟩ := hf 1 _ rfl
  obtain ⟨v2, z2, c2, t2⟩ := hf 2 _ rfl
  obtain ⟨i0, rfl, -⟩ := field_int Try.underlying3 t0
  obtain ⟨i1, rfl, -⟩ := field_int Try.underlying3 t1
  obtain ⟨i2, rfl, -⟩ := field_int Try.underlying3 t2
  refine ⟨⟨i0, i1, i2⟩, ?_⟩
  match cs, hl with
  | [_, _, _], _ =>
    simp only [List.getElem?_cons_zero, List.getElem?_cons_succ, Option.some.injEq] at c0 c1 c2
    subst c0 c1 c2
    rfl
theorem open_wants {v : Value} {d : DataW H} {ps : List MemPlace} (hv : ∃ a len cap, v = .slice a len cap) (h : DataW.Trod encH Try.prog w base spare held 45 v d ps) :
    ∃ l : List Wn, Rd 3 v l.length (l.flatMap encW) w ∧ (∀ x ∈ l, True) ∧ ((d = .nil ∧ l = []) ∨ ∃ elems rest, d = .slice elems rest ∧ elems.length = l.length) :=
  open_rows 3 encW (fun _ => True) (fun _ => rfl) (by decide) Try.underlying45 (by kernel_rfl) (fun n cs y hl ht => by
    obtain ⟨x, hx⟩ := open_want hl ht
    exact ⟨x, hx, trivial⟩) hv h
/-- A field that is a list. -/
theorem field_slice {m : Nat} {t e : TypeId} {v : Value} {z : DataW H × List MemPlace} (ht : Try.prog.underlying t = some (.slice e)) (h : DataW.trod encH Try.prog w base spare held m t [v] = some z) :
    (∃ a len cap, v = .slice a len cap) ∧ DataW.Trod encH Try.prog w base spare held t v z.1 z.2 := by
  rcases open_slice ht h with ⟨hcs, -⟩ | ⟨a, len, cap, _, _, _, _, hcs, -⟩
  · simp only [List.cons.injEq, and_true] at hcs
    subst hcs
    exact ⟨⟨_, _, _, rfl⟩, m, h⟩
  · simp only [List.cons.injEq, and_true] at hcs
    subst hcs
    exact ⟨⟨_, _, _, rfl⟩, m, h⟩
/-- What a pass is asked of. -/
structure AskD where
  now : Int
  free : Int
  vw : Value
  holder : Int
  vr : Value
  ws : List Wn
  l : List Rn
def AskD.v (a : AskD) : Value := .agg #[.int .i64 a.now, .int .i64 a.free, a.vw, .int .i64 a.holder, a.vr]
set_option maxRecDepth 100000 in
theorem open_ask {v : Value} {d : DataW H} {ps : List MemPlace} (hv : ∃ cs, v = .agg cs ∧ cs.size = 5) (h : DataW.Trod encH Try.prog w base spare held 47 v d ps) :
    ∃ (a : AskD) (parts : List (DataW H)), v = a.v ∧ Rd 3 a.vw a.ws.length (a.ws.flatMap encW) w ∧ Rd 2 a.vr a.l.length (a.l.flatMap encR) w ∧ d = .agg parts ∧
      ((a.ws = []) ∨ ∃ elems rest, parts[2]? = some (.slice elems rest) ∧ elems.length = a.ws.length) ∧ ((a.l = []) ∨ ∃ elems rest, parts[4]? = some (.slice elems rest) ∧ elems.length = a.l.length) := by
  obtain ⟨fuel, hf⟩ := h
  obtain ⟨cs, rfl, hsz⟩ := hv
  obtain ⟨xs, m, _, hx, hlen, hxl, hfs⟩ := DataW.trod_struct Try.underlying47 hf
  simp only [Prod.mk.injEq] at hx
  match cs, hsz with
  | ⟨[c0, c1, c2, c3, c4]⟩, _ =>
    have t0 := hfs 0 _ rfl
    have t1 := hfs 1 _ rfl
    have t2 := hfs 2 _ rfl
    have t3 := hfs 3 _ rfl
    have t4 := hfs 4 _ rfl
    match xs, hxl with
    | [x0, x1, x2, x3, x4], _ =>
      obtain ⟨i0, rfl, -⟩ := field_int Try.underlying3 (v := c0) t0
      obtain ⟨i1, rfl, -⟩ := field_int Try.underlying3 (v := c1) t1
      obtain ⟨i3, rfl, -⟩ := field_int Try.underlying3 (v := c3) t3
      obtain ⟨s2, h2⟩ := field_slice (v := c2) Try.underlying45 t2
      obtain ⟨s4, h4⟩ := field_slice (v := c4) Try.underlying22 t4
      obtain ⟨ws, w2, -, z2⟩ := open_wants s2 h2
      obtain ⟨l, w4, -, z4⟩ := open_runs s4 h4
      refine ⟨⟨i0, i1, c2, i3, c4, ws, l⟩, _, rfl, w2, w4, hx.1, ?_, ?_⟩
      · rcases z2 with ⟨-, rfl⟩ | ⟨e, r, he, hl⟩
        · exact .inl rfl
        · exact .inr ⟨e, r, by rw [← he]; rfl, hl⟩
      · rcases z4 with ⟨-, rfl⟩ | ⟨e, r, he, hl⟩
        · exact .inl rfl
        · exact .inr ⟨e, r, by rw [← he]; rfl, hl⟩
theorem sized_parts {ts : List TypeId} {ds parts : List (DataW H)} (h : (DataW.weightsEach Try.prog ts ds).all (· ≤ reachBytes) = true) {j : Nat} {t : TypeId} {fs : Array Field} (ht : ts[j]? = some t) (hd : ds[j]? = some (.agg parts))
    (hu : Try.prog.underlying t = some (.struct fs)) : (DataW.weightsEach Try.prog (fs.toList.map (·.type)) parts).all (· ≤ reachBytes) = true := by
  refine List.all_eq_true.2 fun n hn => ?_
  exact List.all_eq_true.1 h n (DataW.weights_mem_each ht hd n (by simp only [DataW.weights, hu]; exact hn))
/-- How long its lists may be. -/
theorem ask_sizes {ts : List TypeId} {ds parts : List (DataW H)} {a : AskD} (h : (DataW.weightsEach Try.prog ts ds).all (· ≤ reachBytes) = true) {j : Nat} (ht : ts[j]? = some 47) (hd : ds[j]? = some (.agg parts))
    (h2 : (a.ws = []) ∨ ∃ elems rest, parts[2]? = some (.slice elems rest) ∧ elems.length = a.ws.length) (h4 : (a.l = []) ∨ ∃ elems rest, parts[4]? = some (.slice elems rest) ∧ elems.length = a.l.length) :
    a.ws.length * 24 ≤ 140737488351232 ∧ a.l.length * 16 ≤ 140737488351232 := by
  have hp := sized_parts h ht hd Try.underlying47
  constructor
  · rcases h2 with e | ⟨elems, rest, he, hl⟩
    · rw [e]; simp
    · have z := sized_slice hp (j := 2) (t := 45) (e := 60) rfl he Try.underlying45
      rw [show Try.prog.bytesOf 60 = 24 by kernel_rfl, hl, Nat.add_mul] at z
      unfold reachBytes at z
      omega
  · rcases h4 with e | ⟨elems, rest, he, hl⟩
    · rw [e]; simp
    · have z := sized_slice hp (j := 4) (t := 22) (e := 42) rfl he Try.underlying22
      rw [show Try.prog.bytesOf 42 = 16 by kernel_rfl, hl, Nat.add_mul] at z
      unfold reachBytes at z
      omega
end Go.Proofs.Ytebibcaahjmjfaa

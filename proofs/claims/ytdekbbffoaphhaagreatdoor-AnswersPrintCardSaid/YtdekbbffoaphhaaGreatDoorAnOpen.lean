/- An event that came in. -/
import Derived.Test.YtdekbbffoaphhaaGreatDoorAnFirst
import Derived.Test.YtdekbbffoaphhaaGreatDoorAnCheck
import Derived.Test.YtdekbbffoaphhaaGreatDoorOpen
import Derived.SizedLaws
import Derived.OpenShut
set_option linter.unusedVariables false
namespace Go.Proofs.YtdekbbffoaphhaaGreatDoor
open Go.RowKit Go.ChangeShapes Go.WideShapes Go.Deep Go.Proofs.HL Go.Proofs.An
section
variable {H : Type} {encH : TypeId × Value → H} {w : World} {base : Nat} {spare : Nat → Bool} {held : Bool}
theorem int_bd {i : Int} (h : (Lit.int .i64 i).wf = true) : An.Int64 i := by
  unfold An.Int64
  simpa [Lit.wf, IntKind.min, IntKind.max, IntKind.signed, IntKind.bits] using h
theorem sized_parts {ts : List TypeId} {ds parts : List (DataW H)} (h : (DataW.weightsEach Tryz.prog ts ds).all (· ≤ reachBytes) = true) {j : Nat} {t : TypeId} {fs : Array Field} (ht : ts[j]? = some t) (hd : ds[j]? = some (.agg parts))
    (hu : Tryz.prog.underlying t = some (.struct fs)) : (DataW.weightsEach Tryz.prog (fs.toList.map (·.type)) parts).all (· ≤ reachBytes) = true := by
  refine List.all_eq_true.2 fun n hn => ?_
  exact List.all_eq_true.1 h n (DataW.weights_mem_each ht hd n (by simp only [DataW.weights, hu]; exact hn))
/-- A field that is a list. -/
theorem field_slice {m : Nat} {t e : TypeId} {v : Value} {z : DataW H × List MemPlace} (ht : Tryz.prog.underlying t = some (.slice e)) (h : DataW.trod encH Tryz.prog w base spare held m t [v] = some z) :
    (∃ a len cap, v = .slice a len cap) ∧ DataW.Trod encH Tryz.prog w base spare held t v z.1 z.2 := by
  rcases open_slice ht h with ⟨hcs, -⟩ | ⟨a, len, cap, _, _, _, _, hcs, -⟩
  · simp only [List.cons.injEq, and_true] at hcs
    subst hcs
    exact ⟨⟨_, _, _, rfl⟩, m, h⟩
  · simp only [List.cons.injEq, and_true] at hcs
    subst hcs
    exact ⟨⟨_, _, _, rfl⟩, m, h⟩
theorem open_intl {v : Value} {d : DataW H} {ps : List MemPlace} (hv : ∃ a len cap, v = .slice a len cap) (h : DataW.Trod encH Tryz.prog w base spare held 24 v d ps) :
    ∃ l : List Int, Rd 1 v l.length (intC l) w ∧ Fits l := by
  obtain ⟨l, h1, h2, -⟩ := open_rows 1 (fun n : Int => [Value.int .i64 n]) (fun n => An.Int64 n) (fun _ => rfl) (by decide) Tryz.underlying24 (by kernel_rfl) (fun n cs y hl ht => by
    match cs, hl with
    | [c], _ =>
      obtain ⟨i, rfl, hw⟩ := field_int Tryz.underlying3 ht
      exact ⟨i, rfl, int_bd hw⟩) hv h
  exact ⟨l, by rw [intC, map_one]; exact h1, h2⟩
/-- An event as it lies where the call begins. -/
structure EvIn (w : World) (p : Ev × Value) : Prop where
  rd : Rd 1 p.2 p.1.list.length (intC p.1.list) w
  job : An.Int64 p.1.job
  tm : An.Int64 p.1.tm
  nd : An.Int64 p.1.nd
  lm : An.Int64 p.1.lm
  fits : Fits p.1.list
set_option maxRecDepth 100000 in
theorem open_ev {n : Nat} {cs : List Value} {y : DataW H × List MemPlace} (hl : cs.length = 6) (ht : DataW.trod encH Tryz.prog w base spare held n 46 cs = some y) : ∃ p : Ev × Value, cs = evC2 p ∧ EvIn w p := by
  obtain ⟨m, hf⟩ := open_struct Tryz.underlying46 (by kernel_rfl) hl ht
  obtain ⟨v0, z0, c0, t0⟩ := hf 0 _ rfl
  obtain ⟨v1, z1, c1, t1⟩ := hf 1 _ rfl
  obtain ⟨v2, z2, c2, t2⟩ := hf 2 _ rfl
  obtain ⟨v3, z3, c3, t3⟩ := hf 3 _ rfl
  obtain ⟨v4, z4, c4, t4⟩ := hf 4 _ rfl
  obtain ⟨v5, z5, c5, t5⟩ := hf 5 _ rfl
  obtain ⟨i0, rfl, -⟩ := field_int Tryz.underlying3 t0
  obtain ⟨i1, rfl, w1⟩ := field_int Tryz.underlying3 t1
  obtain ⟨i2, rfl, w2⟩ := field_int Tryz.underlying3 t2
  obtain ⟨i3, rfl, w3⟩ := field_int Tryz.underlying3 t3
  obtain ⟨i4, rfl, w4⟩ := field_int Tryz.underlying3 t4
  obtain ⟨s5, h5⟩ := field_slice Tryz.underlying24 t5
  obtain ⟨l, r5, f5⟩ := open_intl s5 h5
  refine ⟨(⟨i0, i1, i2, i3, i4, l⟩, v5), ?_, ⟨r5, int_bd w1, int_bd w2, int_bd w3, int_bd w4, f5⟩⟩
  match cs, hl with
  | [_, _, _, _, _, _], _ =>
    simp only [List.getElem?_cons_zero, List.getElem?_cons_succ, Option.some.injEq] at c0 c1 c2 c3 c4 c5
    subst c0 c1 c2 c3 c4 c5
    rfl
theorem open_event {ts : List TypeId} {ds : List (DataW H)} (hsz : (DataW.weightsEach Tryz.prog ts ds).all (· ≤ reachBytes) = true) {j : Nat} {v : Value} {d : DataW H} {ps : List MemPlace} (ht : ts[j]? = some 46) (hd : ds[j]? = some d)
    (hv : ∃ cs, v = .agg cs ∧ cs.size = 6) (h : DataW.Trod encH Tryz.prog w base spare held 46 v d ps) : ∃ p : Ev × Value, EvIn w p ∧ v = evV p.1 p.2 := by
  obtain ⟨fuel, hf⟩ := h
  obtain ⟨cs, rfl, hsize⟩ := hv
  obtain ⟨p, h1, h2⟩ := open_ev (cs := cs.toList) (by simpa using hsize) hf
  refine ⟨p, h2, ?_⟩
  have : cs = (evC2 p).toArray := by rw [← h1]
  rw [this]
  rfl
end
end Go.Proofs.YtdekbbffoaphhaaGreatDoor

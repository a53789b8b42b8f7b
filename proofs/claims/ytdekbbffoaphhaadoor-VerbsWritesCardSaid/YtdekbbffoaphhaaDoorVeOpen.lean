/- A command that came in. -/
import Derived.Test.YtdekbbffoaphhaaDoorVePrint
import Derived.Test.YtdekbbffoaphhaaDoorOpen
import Derived.SizedLaws
import Derived.OpenShut
set_option linter.unusedVariables false
namespace Go.Proofs.YtdekbbffoaphhaaDoor
open Go.RowKit Go.ChangeShapes Go.WideShapes Go.Deep Go.Proofs.HL Go.Proofs.Ve
section
variable {H : Type} {encH : TypeId × Value → H} {w : World} {base : Nat} {spare : Nat → Bool} {held : Bool}
theorem field_str {m : Nat} {t : TypeId} {v : Value} {z : DataW H × List MemPlace} (ht : Tryd.prog.underlying t = some .string) (h : DataW.trod encH Tryd.prog w base spare held m t [v] = some z) :
    ∃ s : ByteArray, v = .string s ∧ z.1 = .lit (.string s.data.toList) := by
  obtain ⟨s, h1, h2⟩ := DataW.trod_string ht h
  simp only [List.cons.injEq, and_true] at h1
  exact ⟨s, h1, by rw [h2.1]⟩
theorem int_bd {i : Int} (h : (Lit.int .i64 i).wf = true) : -9223372036854775808 ≤ i ∧ i ≤ 9223372036854775807 := by
  simpa [Lit.wf, IntKind.min, IntKind.max, IntKind.signed, IntKind.bits] using h
theorem sized_parts {ts : List TypeId} {ds parts : List (DataW H)} (h : (DataW.weightsEach Tryd.prog ts ds).all (· ≤ reachBytes) = true) {j : Nat} {t : TypeId} {fs : Array Field} (ht : ts[j]? = some t) (hd : ds[j]? = some (.agg parts))
    (hu : Tryd.prog.underlying t = some (.struct fs)) : (DataW.weightsEach Tryd.prog (fs.toList.map (·.type)) parts).all (· ≤ reachBytes) = true := by
  refine List.all_eq_true.2 fun n hn => ?_
  exact List.all_eq_true.1 h n (DataW.weights_mem_each ht hd n (by simp only [DataW.weights, hu]; exact hn))
theorem nums_ok {a b c d e k : Int} {x y : ByteArray} (ha : -9223372036854775808 ≤ a ∧ a ≤ 9223372036854775807) (hb : -9223372036854775808 ≤ b ∧ b ≤ 9223372036854775807) (hc : -9223372036854775808 ≤ c ∧ c ≤ 9223372036854775807) (hd : -9223372036854775808 ≤ d ∧ d ≤ 9223372036854775807) (he : -9223372036854775808 ≤ e ∧ e ≤ 9223372036854775807) : ∀ g, -9223372036854775808 ≤ numF ⟨k, x, y, a, b, c, d, e⟩ g ∧ numF ⟨k, x, y, a, b, c, d, e⟩ g ≤ 9223372036854775807 := by
  intro g
  unfold numF
  dsimp only
  split
  · exact ha
  · split
    · exact hb
    · split
      · exact hc
      · split
        · exact hd
        · exact he
set_option maxRecDepth 100000 in
theorem open_cmd {ts : List TypeId} {ds : List (DataW H)} (hsz : (DataW.weightsEach Tryd.prog ts ds).all (· ≤ reachBytes) = true) {j : Nat} {v : Value} {d : DataW H} {ps : List MemPlace} (ht : ts[j]? = some 24) (hd : ds[j]? = some d)
    (hv : ∃ cs, v = .agg cs ∧ cs.size = 8) (h : DataW.Trod encH Tryd.prog w base spare held 24 v d ps) : ∃ c : Cm, CmOk c ∧ v = cmV c := by
  obtain ⟨fuel, hf⟩ := h
  obtain ⟨cs, rfl, hsize⟩ := hv
  obtain ⟨xs, m, _, hx, hlen, hxl, hfs⟩ := DataW.trod_struct Tryd.underlying24 hf
  simp only [Prod.mk.injEq] at hx
  obtain ⟨rfl, -⟩ := hx
  have hp := sized_parts hsz ht hd Tryd.underlying24
  match cs, hsize with
  | ⟨[c0, c1, c2, c3, c4, c5, c6, c7]⟩, _ =>
    have t0 := hfs 0 _ rfl
    have t1 := hfs 1 _ rfl
    have t2 := hfs 2 _ rfl
    have t3 := hfs 3 _ rfl
    have t4 := hfs 4 _ rfl
    have t5 := hfs 5 _ rfl
    have t6 := hfs 6 _ rfl
    have t7 := hfs 7 _ rfl
    match xs, hxl with
    | [x0, x1, x2, x3, x4, x5, x6, x7], _ =>
      obtain ⟨i0, rfl, -⟩ := field_int Tryd.underlying3 (v := c0) t0
      obtain ⟨s1, rfl, e1⟩ := field_str Tryd.underlying9 (v := c1) t1
      obtain ⟨s2, rfl, e2⟩ := field_str Tryd.underlying9 (v := c2) t2
      obtain ⟨i3, rfl, w3⟩ := field_int Tryd.underlying3 (v := c3) t3
      obtain ⟨i4, rfl, w4⟩ := field_int Tryd.underlying3 (v := c4) t4
      obtain ⟨i5, rfl, w5⟩ := field_int Tryd.underlying3 (v := c5) t5
      obtain ⟨i6, rfl, w6⟩ := field_int Tryd.underlying3 (v := c6) t6
      obtain ⟨i7, rfl, w7⟩ := field_int Tryd.underlying3 (v := c7) t7
      refine ⟨⟨i0, s1, s2, i3, i4, i5, i6, i7⟩, ⟨?_, ?_, nums_ok (int_bd w3) (int_bd w4) (int_bd w5) (int_bd w6) (int_bd w7)⟩, rfl⟩
      · have z := sized_string hp (j := 1) rfl (by rw [← e1]; rfl)
        unfold reachBytes at z
        rw [Array.length_toList] at z
        exact z
      · have z := sized_string hp (j := 2) rfl (by rw [← e2]; rfl)
        unfold reachBytes at z
        rw [Array.length_toList] at z
        exact z
end
end Go.Proofs.YtdekbbffoaphhaaDoor

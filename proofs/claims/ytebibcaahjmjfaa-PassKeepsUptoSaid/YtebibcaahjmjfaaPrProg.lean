/- The profile's own functions: right, the copy of a list. -/
import Derived.Test.YtebibcaahjmjfaaPrSort
import Derived.WalkSpells
set_option linter.unusedVariables false
set_option linter.unusedSimpArgs false
namespace Go.Proofs.Ytebibcaahjmjfaa
open Go.RowKit Go.Proofs.HL Go.Proofs.HL.Pr

section
variable {w0 w : World} {L : List At} {v : Value} {l : List Rn}
set_option maxRecDepth 100000 in
set_option maxHeartbeats 800000 in
theorem right_ok (H : HL w0 w L) (hr : Runs w0 L v l) (free : Int) :
    Calls Try.prog 40 #[.int .i64 free, v] w fun e w' => e = .returned (.bool (rightB free l)) ∧ HL w0 w' L := by
  obtain ⟨A, c, rfl, hc1, hc2⟩ := rd_shape (hr w H)
  unfold maxLen at hc2
  by_cases h0 : free < 0
  · have hf : rightB free l = false := by simp [rightB]; omega
    rw [hf]; clear hf
    go_enter Try.func40, Try.ntmps40
    go_wp2
    go_ret
    exact ⟨rfl, H⟩
  by_cases h1 : 256 < free
  · have hf : rightB free l = false := by simp [rightB]; omega
    rw [hf]; clear hf
    go_enter Try.func40, Try.ntmps40
    go_wp2
    go_ret
    exact ⟨rfl, H⟩
  go_enter Try.func40, Try.ntmps40
  go_wp2
  go_loopg [15] l.length (fun g i wr => ∃ k : Nat, i = .int .i64 k ∧ k + g = l.length ∧ (∀ j r, j < k → l[j]? = some r → okR r = true) ∧ HL w0 wr L)
  case atStart => exact ⟨0, rfl, by omega, (fun _ _ h => by omega), H⟩
  case round =>
    obtain ⟨k, rfl, hk, hok, HK⟩ := hrel
    have Hok := Lib.hid hok; clear hok H
    by_cases hlt : k < l.length
    · obtain ⟨x, hx⟩ : ∃ x, l[k]? = some x := ⟨_, List.getElem?_eq_getElem hlt⟩
      obtain ⟨b, o, c', hv, d0, d1⟩ := run_at (hr wr HK) hx
      simp only [Value.slice.injEq] at hv
      obtain ⟨rfl, -, rfl⟩ := hv
      have Hx := Lib.hid hx; clear hx
      have HB := HK.alloc' (.cells #[.int .i64 x.nodes, .int .i64 x.fin] 42)
      clear HK
      by_cases h2 : x.nodes < 1
      · have Hf : Hid (rightB free l = false) := Lib.hid (by
          rw [Bool.eq_false_iff]; intro h; have := (rightB_iff.1 h).2.2 x (List.mem_of_getElem? Hx.out); omega)
        go_wp2
        go_ret
        exact ⟨retB Hf.out, HB⟩
      by_cases h3 : 256 < x.nodes
      · have Hf : Hid (rightB free l = false) := Lib.hid (by
          rw [Bool.eq_false_iff]; intro h; have := (rightB_iff.1 h).2.2 x (List.mem_of_getElem? Hx.out); omega)
        go_wp2
        go_ret
        exact ⟨retB Hf.out, HB⟩
      go_wp2
      go_roundg (gk - 1)
      case measure => omega
      case rel =>
        refine ⟨k + 1, by go_num, by omega, fun j r hj hjr => ?_, HB⟩
        rcases Nat.lt_or_ge j k with h | h
        · exact Hok.out j r h hjr
        · obtain rfl : j = k := by omega
          rw [Hx.out] at hjr
          cases hjr
          simp [okR]; omega
    · have Hf : Hid (rightB free l = true) := Lib.hid (by
        rw [rightB_iff]
        refine ⟨by omega, by omega, fun r hr => ?_⟩
        obtain ⟨j, hj, rfl⟩ := List.getElem_of_mem hr
        have := Hok.out j _ (by omega) (List.getElem?_eq_getElem hj)
        simpa [okR] using this)
      go_wp2
      go_ret
      exact ⟨retB Hf.out, HK⟩

theorem emptyRuns (H : HL w0 w L) : HL w0 (w.alloc (.cells #[] 42)) (runsAt w0.heap.size (.slice (some ⟨w.heap.size, 0, none⟩) 0 0) [] :: L) :=
  (H.alloc (.cells #[] 42)).rowOf (cs := []) rfl (by decide)
set_option maxRecDepth 100000 in
set_option maxHeartbeats 800000 in
theorem cloneRuns_ok (H : HL w0 w L) (hr : Runs w0 L v l) (hl : l.length ≤ 8796093022208) :
    Calls Try.prog 42 #[v] w fun e w' => ∃ u, e = .returned u ∧ HL w0 w' (runsAt w0.heap.size u l :: L) := by
  have hr0 := hr w H
  obtain ⟨h1, h2, a, c, rfl, h4, h5, h6, h7⟩ := id hr0
  cases a with
  | none =>
    obtain ⟨hl0, rfl⟩ := h6 rfl
    obtain rfl : l = [] := List.eq_nil_of_length_eq_zero hl0
    have hnil : ∀ w, (binOp .eql 22 (.slice none 0 0) (.slice none 0 0)).run Try.prog w = .ok (.bool true) w := fun w => Lib.run_eql_slice_nil w _ _ _ _ _ _ _ Try.underlying22
    simp only [List.length_nil]
    clear h7 h6
    go_enter Try.func42, Try.ntmps42
    go_wp2
    go_ret
    exact ⟨_, rfl, H.nilRow _ _ _⟩
  | some ad =>
    have H1 := emptyRuns H
    have hb : ([] : List Rn).length + l.length ≤ 8796093022208 := by simp; omega
    have hr1 := hr _ (H.alloc' (.cells #[] 42))
    have hnil : ∀ w, (binOp .eql 22 (.slice (some ad) l.length c) (.slice none 0 0)).run Try.prog w = .ok (.bool false) w := fun w => Lib.run_eql_slice_nil w _ _ _ _ _ _ _ Try.underlying22
    clear h7 h6 hr0
    go_enter Try.func42, Try.ntmps42
    go_wp2_with (at_builtin; refine append_runs (v := .slice (some ⟨w.heap.size, 0, none⟩) 0 0) (xv := .slice (some ad) l.length c) (xs := []) (ys := l) rfl _ _ rfl H1 rfl rfl hr1 hb ?_; intro z w3 H3; clear H1 hr1)
    go_ret
    exact ⟨_, rfl, H3⟩
end
end Go.Proofs.Ytebibcaahjmjfaa

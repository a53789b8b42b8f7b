/- The reference's profile: what each of its functions answers. -/
import Derived.Test.YtebibcaahjmjfaaPrCore
import Derived.Test.YtebibcaahjmjfaaView
import Derived.Test.YtebibcaahjmjfaaRegion
import Derived.Test.YtebibcaahjmjfaaIterK
import Derived.Test.YtebibcaahjmjfaaProg
import Derived.Deep.QuietTactic
import Derived.BigQuiet
import Derived.Outline
import Derived.IntWalk
import Derived.OwnWalk
import Derived.StillTailTactics
import Derived.Deep.RegionWith
import Derived.Deep.RegionLaw
import Derived.Deep.DeepCutAuto
import Derived.Handy
import Derived.KernelRfl
set_option linter.unusedVariables false
set_option linter.unusedSimpArgs false
namespace Go.Proofs.Ytebibcaahjmjfaa
open Go.RowKit Go.Proofs.HL Go.Proofs.HL.Pr

/-- A list of runs, read, whatever else is done. -/
abbrev Runs (w0 : World) (L : List At) (v : Value) (l : List Rn) : Prop := Ent w0 L fun w => Rd 2 v l.length (l.flatMap encR) w
abbrev Stps (w0 : World) (L : List At) (v : Value) (l : List Sp) : Prop := Ent w0 L fun w => Rd 2 v l.length (l.flatMap encS) w

theorem retB {a b : Bool} (h : a = b) : Ending.returned (.bool b) = .returned (.bool a) := by rw [h]
theorem retI {a b : Int} (h : a = b) : Ending.returned (.int .i64 b) = .returned (.int .i64 a) := by rw [h]
section
variable {w0 w : World} {L : List At} {v : Value} {l : List Rn}
theorem rd_shape {k n : Nat} {cs : List Value} (h : Rd k v n cs w) : ∃ A c, v = .slice A n c ∧ n ≤ c ∧ c ≤ maxLen := by
  obtain ⟨-, -, a, c, h, h1, h2, -⟩ := id h
  exact ⟨a, c, h, h1, h2⟩
theorem run_at (h : Rd 2 v l.length (l.flatMap encR) w) {k : Nat} {x : Rn} (hx : l[k]? = some x) :
    ∃ b o c, v = .slice (some ⟨b, o, none⟩) l.length c ∧ w.cell? ⟨b, o + k * 2, none⟩ = some (.int .i64 x.nodes) ∧ w.cell? ⟨b, o + k * 2 + 1, none⟩ = some (.int .i64 x.fin) := by
  obtain ⟨b, o, c, h1, -, -, h2⟩ := rd_elem encR 2 (fun _ => rfl) (by decide) h hx
  exact ⟨b, o, c, h1, h2 0 _ rfl, h2 1 _ rfl⟩
theorem stp_at {l : List Sp} (h : Rd 2 v l.length (l.flatMap encS) w) {k : Nat} {x : Sp} (hx : l[k]? = some x) :
    ∃ b o c, v = .slice (some ⟨b, o, none⟩) l.length c ∧ w.cell? ⟨b, o + k * 2, none⟩ = some (.int .i64 x.at_) ∧ w.cell? ⟨b, o + k * 2 + 1, none⟩ = some (.int .i64 x.free) := by
  obtain ⟨b, o, c, h1, -, -, h2⟩ := rd_elem encS 2 (fun _ => rfl) (by decide) h hx
  exact ⟨b, o, c, h1, h2 0 _ rfl, h2 1 _ rfl⟩

set_option maxRecDepth 100000 in
set_option maxHeartbeats 800000 in
theorem Ref.right_ok (H : HL w0 w L) (hr : Runs w0 L v l) (free : Int) :
    Calls Try.prog 36 #[.int .i64 free, v] w fun e w' => e = .returned (.bool (rightB free l)) ∧ w = w' := by
  obtain ⟨A, c, rfl, hc1, hc2⟩ := rd_shape (hr w H)
  have hr := hr w H
  unfold maxLen at hc2
  by_cases h0 : free < 0
  · have hf : rightB free l = false := by simp [rightB]; omega
    rw [hf]; clear hf
    go_enter Try.func36, Try.ntmps36
    go_wp2
    go_ret
    exact ⟨rfl, rfl⟩
  by_cases h1 : 256 < free
  · have hf : rightB free l = false := by simp [rightB]; omega
    rw [hf]; clear hf
    go_enter Try.func36, Try.ntmps36
    go_wp2
    go_ret
    exact ⟨rfl, rfl⟩
  go_enter Try.func36, Try.ntmps36
  go_wp2
  go_loop [5] (fun i => ∃ k : Nat, i = .int .i64 k ∧ k ≤ l.length ∧ ∀ j r, j < k → l[j]? = some r → okR r = true) (fun i => l.length - (intOf i).toNat)
  case atStart => exact ⟨0, rfl, by omega, fun _ _ h => by omega⟩
  case round =>
    obtain ⟨k, rfl, hk, hok⟩ := hrel
    have Hok := Lib.hid hok; clear hok
    by_cases hlt : k < l.length
    · obtain ⟨x, hx⟩ : ∃ x, l[k]? = some x := ⟨_, List.getElem?_eq_getElem hlt⟩
      obtain ⟨b, o, c', hv, d0, d1⟩ := run_at hr hx
      simp only [Value.slice.injEq] at hv
      obtain ⟨rfl, -, rfl⟩ := hv
      have Hx := Lib.hid hx; clear hx
      by_cases h2 : x.nodes < 1
      · have Hf : Hid (rightB free l = false) := Lib.hid (by
          rw [Bool.eq_false_iff]; intro h; have := (rightB_iff.1 h).2.2 x (List.mem_of_getElem? Hx.out); omega)
        go_wp2
        go_ret
        exact ⟨retB Hf.out, rfl⟩
      by_cases h3 : 256 < x.nodes
      · have Hf : Hid (rightB free l = false) := Lib.hid (by
          rw [Bool.eq_false_iff]; intro h; have := (rightB_iff.1 h).2.2 x (List.mem_of_getElem? Hx.out); omega)
        go_wp2
        go_ret
        exact ⟨retB Hf.out, rfl⟩
      go_wp2
      go_round
      case rel =>
        refine ⟨k + 1, by go_num, by omega, fun j r hj hjr => ?_⟩
        rcases Nat.lt_or_ge j k with h | h
        · exact Hok.out j r h hjr
        · obtain rfl : j = k := by omega
          rw [Hx.out] at hjr
          cases hjr
          simp [okR]; omega
      case measure => simp [intOf]; omega
    · have Hf : Hid (rightB free l = true) := Lib.hid (by
        rw [rightB_iff]
        refine ⟨by omega, by omega, fun r hr => ?_⟩
        obtain ⟨j, hj, rfl⟩ := List.getElem_of_mem hr
        have := Hok.out j _ (by omega) (List.getElem?_eq_getElem hj)
        simpa [okR] using this)
      go_wp2
      go_ret
      exact ⟨retB Hf.out, rfl⟩

set_option maxRecDepth 100000 in
set_option maxHeartbeats 800000 in
theorem Ref.at_ok (H : HL w0 w L) (hr : Runs w0 L v l) {free : Int} (hf : rightB free l = true) (hl : l.length ≤ 17592186044416) (t : Int) :
    Calls Try.prog 37 #[.int .i64 free, v, .int .i64 t] w fun e w' => e = .returned (.int .i64 (atS free l t)) ∧ w = w' := by
  obtain ⟨A, c, rfl, hc1, hc2⟩ := rd_shape (hr w H)
  have hr := hr w H
  have Hf := Lib.hid hf; clear hf
  go_enter Try.func37, Try.ntmps37
  go_wp2
  go_loop [7, 8] (fun n i => ∃ k : Nat, i = .int .i64 k ∧ k ≤ l.length ∧ n = .int .i64 (atS free (l.take k) t)) (fun _ i => l.length - (intOf i).toNat)
  case atStart => exact ⟨0, rfl, by omega, by rw [List.take_zero, atS_nil]⟩
  case round =>
    obtain ⟨k, rfl, hk, rfl⟩ := hrel
    by_cases hlt : k < l.length
    · obtain ⟨x, hx⟩ : ∃ x, l[k]? = some x := ⟨_, List.getElem?_eq_getElem hlt⟩
      obtain ⟨b, o, c', hv, d0, d1⟩ := run_at hr hx
      simp only [Value.slice.injEq] at hv
      obtain ⟨rfl, -, rfl⟩ := hv
      have hs := atS_snoc free (l.take k) x t
      rw [show l.take k ++ [x] = l.take (k + 1) by rw [List.take_add_one, hx]; rfl] at hs
      have hok : rightB free (l.take k) = true := by
        have := rightB_iff.1 Hf.out
        exact rightB_iff.2 ⟨this.1, this.2.1, fun r hr => this.2.2 r (List.mem_of_mem_take hr)⟩
      have hb := atS_bd hok t
      have hb2 := ((rightB_iff.1 Hf.out).2.2 x (List.mem_of_getElem? hx))
      have hlk : (l.take k).length ≤ k := List.length_take_le _ _
      have Hs := Lib.hid hs
      clear hs hok hx
      by_cases hle : x.fin ≤ t
      · go_wp2
        go_round
        case rel => exact ⟨k + 1, by go_num, by omega, by rw [Hs.out, if_pos hle]⟩
        case measure => simp [intOf]; omega
      · go_wp2
        go_round
        case rel => exact ⟨k + 1, by go_num, by omega, by rw [Hs.out, if_neg hle]⟩
        case measure => simp [intOf]; omega
    · have hkn : l.take k = l := List.take_of_length_le (by omega)
      have Hk := Lib.hid hkn; clear hkn
      go_wp2
      go_ret
      exact ⟨by rw [Hk.out]; rfl, rfl⟩

/-- What next tells. -/
def nextV (o : Option Int) : Value := .tuple #[.int .i64 (o.getD 0), .bool o.isSome]
set_option maxRecDepth 100000 in
set_option maxHeartbeats 800000 in
theorem Ref.next_ok (H : HL w0 w L) (hr : Runs w0 L v l) (t : Int) :
    Calls Try.prog 38 #[v, .int .i64 t] w fun e w' => e = .returned (nextV (nextS l t)) ∧ w = w' := by
  obtain ⟨A, c, rfl, hc1, hc2⟩ := rd_shape (hr w H)
  have hr := hr w H
  unfold maxLen at hc2
  go_enter Try.func38, Try.ntmps38
  go_wp2
  go_loop [6, 7, 8] (fun b s i => ∃ k : Nat, i = .int .i64 k ∧ k ≤ l.length ∧ b = .int .i64 ((nextS (l.take k) t).getD 0) ∧ s = .bool (nextS (l.take k) t).isSome) (fun _ _ i => l.length - (intOf i).toNat)
  case atStart => exact ⟨0, rfl, by omega, rfl, rfl⟩
  case round =>
    obtain ⟨k, rfl, hk, rfl, rfl⟩ := hrel
    by_cases hlt : k < l.length
    · obtain ⟨x, hx⟩ : ∃ x, l[k]? = some x := ⟨_, List.getElem?_eq_getElem hlt⟩
      obtain ⟨b, o, c', hv, d0, d1⟩ := run_at hr hx
      simp only [Value.slice.injEq] at hv
      obtain ⟨rfl, -, rfl⟩ := hv
      have hs := nextS_snoc (l.take k) x t
      rw [show l.take k ++ [x] = l.take (k + 1) by rw [List.take_add_one, hx]; rfl] at hs
      clear hx
      generalize nextS (l.take k) t = p at hs ⊢
      cases p with
      | none =>
        by_cases h1 : t < x.fin
        · rw [if_pos h1] at hs
          have Hs := Lib.hid hs; clear hs
          simp only [Option.getD_none, Option.isSome_none]
          go_wp2
          go_round
          case rel => exact ⟨k + 1, by go_num, by omega, by rw [Hs.out]; rfl, by rw [Hs.out]; rfl⟩
          case measure => simp [intOf]; omega
        · rw [if_neg h1] at hs
          have Hs := Lib.hid hs; clear hs
          simp only [Option.getD_none, Option.isSome_none]
          go_wp2
          go_round
          case rel => exact ⟨k + 1, by go_num, by omega, by rw [Hs.out]; rfl, by rw [Hs.out]; rfl⟩
          case measure => simp [intOf]; omega
      | some y =>
        simp only [Option.getD_some, Option.isSome_some]
        by_cases h1 : t < x.fin
        · rw [if_pos h1] at hs
          simp only at hs
          by_cases h2 : x.fin < y
          · rw [if_pos h2] at hs
            have Hs := Lib.hid hs; clear hs
            go_wp2
            go_round
            case rel => exact ⟨k + 1, by go_num, by omega, by rw [Hs.out]; rfl, by rw [Hs.out]; rfl⟩
            case measure => simp [intOf]; omega
          · rw [if_neg h2] at hs
            have Hs := Lib.hid hs; clear hs
            go_wp2
            go_round
            case rel => exact ⟨k + 1, by go_num, by omega, by rw [Hs.out]; rfl, by rw [Hs.out]; rfl⟩
            case measure => simp [intOf]; omega
        · rw [if_neg h1] at hs
          have Hs := Lib.hid hs; clear hs
          go_wp2
          go_round
          case rel => exact ⟨k + 1, by go_num, by omega, by rw [Hs.out]; rfl, by rw [Hs.out]; rfl⟩
          case measure => simp [intOf]; omega
    · have hkn : l.take k = l := List.take_of_length_le (by omega)
      have Hk := Lib.hid hkn; clear hkn
      go_wp2
      go_ret2
      exact ⟨by rw [Hk.out]; rfl, rfl⟩

end
end Go.Proofs.Ytebibcaahjmjfaa

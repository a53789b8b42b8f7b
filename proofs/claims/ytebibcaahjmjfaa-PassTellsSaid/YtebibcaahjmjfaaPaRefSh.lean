/- The reference's shadow, where its steps (not its runs) are few enough. -/
import Derived.Test.YtebibcaahjmjfaaPrRefB
set_option linter.unusedVariables false
set_option linter.unusedSimpArgs false
namespace Go.Proofs.Ytebibcaahjmjfaa
open Go.RowKit Go.Proofs.HL Go.Proofs.HL.Pr
/-- Times rise: there are no more of them than there is room for. -/
theorem stepsR_room (free : Int) {l : List Rn} {M : Int} (hM : ∀ r ∈ l, r.fin ≤ M) : ∀ (g : Nat) (t : Int), ((stepsR free l g t).length : Int) ≤ (if t ≤ M then M - t else 0)
  | 0, t => by simp only [stepsR, List.length_nil]; split <;> omega
  | g + 1, t => by
    unfold stepsR
    cases hn : nextS l t with
    | none => simp only [List.length_nil]; split <;> omega
    | some n =>
      obtain ⟨⟨r, hr, rfl⟩, h2, -⟩ := nextS_some.1 hn
      have ih := stepsR_room free hM g r.fin
      have := hM r hr
      rw [if_pos this] at ih
      simp only [List.length_cons]
      rw [if_pos (by omega)]
      push_cast
      omega
theorem stepsAll_room {now free : Int} {l : List Rn} (h0 : 0 ≤ now) (hn : now ≤ 4398046511104) (hM : ∀ r ∈ l, r.fin ≤ 4398046511104) : (stepsAll now free l).length ≤ 8796093022208 := by
  unfold stepsAll
  split
  · unfold stepsS
    have := stepsR_room free hM l.length now
    rw [if_pos hn] at this
    simp only [List.length_cons]
    omega
  · simp
section
variable {w0 w : World} {L : List At} {v : Value} {l : List Rn}
set_option maxRecDepth 100000 in
set_option maxHeartbeats 1000000 in
theorem Ref.steps_ok2 (now free : Int) (H : HL w0 w L) (hr : Runs w0 L v l) (hl : l.length ≤ 8796093022208) (hsl : (stepsAll now free l).length ≤ 8796093022208) :
    Calls Try.prog 18 #[.int .i64 now, .int .i64 free, v] w fun e w' => ∃ u, e = .returned u ∧ HL w0 w' (stpsAt w0.heap.size u (stepsAll now free l) :: L) := by
  have hright := Ref.right_ok H hr free
  by_cases hf : rightB free l = true
  · have hst : stepsAll now free l = stepsS now free l := by unfold stepsAll; rw [if_pos hf]
    rw [hst] at hsl ⊢
    clear hst
    rw [hf] at hright
    have hat := Ref.at_ok H hr hf (by omega)
    have h1 := stepsS_length now free l
    have hpre : [(⟨now, atS free l now⟩ : Sp)] ++ stepsR free l l.length now = stepsS now free l := rfl
    generalize stepsS now free l = T at *
    generalize hx : (⟨now, atS free l now⟩ : Sp) = x0 at *
    have H1 := newStp (x := x0) H
    have e1 : x0.at_ = now := by rw [← hx]
    have e2 : x0.free = atS free l now := by rw [← hx]
    rw [e1, e2] at H1
    have Hf := Lib.hid hf; have Hpre := Lib.hid hpre
    clear hf hpre hx e1 e2
    go_enter Try.func18, Try.ntmps18
    go_wp2_with (first
      | (go_at_call 36; refine hright.mono ?_; rintro e w1 ⟨rfl, rfl⟩; clear hright)
      | (go_at_call 37; refine (hat now).mono ?_; rintro e w1 ⟨rfl, rfl⟩; clear hat))
    go_loopg [7, 8] l.length (fun g u t wr => ∃ (tt : Int) (pre : List Sp), t = .int .i64 tt ∧ above l tt ≤ g ∧ pre ++ stepsR free l g tt = T ∧ HL w0 wr (stpsAt w0.heap.size u pre :: L))
    case atStart => exact ⟨now, [x0], rfl, above_le l now, Hpre.out, H1⟩
    case round =>
      obtain ⟨tt, pre, rfl, ha, hp, HK⟩ := hrel
      have hnext := Ref.next_ok HK (hr.cons _) tt
      have hat := Ref.at_ok HK (hr.cons _) Hf.out (by omega)
      clear H1
      cases hn : nextS l tt with
      | none =>
        have hz : pre = T := by
          rw [← hp]
          cases gk with
          | zero => simp [stepsR]
          | succ g => simp [stepsR, hn]
        rw [hn] at hnext
        subst hz
        clear hp ha hn
        go_wp2_with (go_at_call 38; refine hnext.mono ?_; rintro e w1 ⟨rfl, rfl⟩; clear hnext; simp only [nextV, Option.getD_none, Option.isSome_none])
        go_ret
        exact ⟨_, rfl, HK⟩
      | some n =>
        have hlt := above_lt hn
        obtain ⟨g, rfl⟩ : ∃ g, gk = g + 1 := ⟨gk - 1, by omega⟩
        have hp2 : (pre ++ [⟨n, atS free l n⟩]) ++ stepsR free l g n = T := by rw [← hp]; simp [stepsR, hn]
        have hlen : (pre ++ [(⟨n, atS free l n⟩ : Sp)]).length ≤ T.length := by have := congrArg List.length hp2; rw [List.length_append] at this; omega
        have hb : pre.length + [(⟨n, atS free l n⟩ : Sp)].length ≤ 8796093022208 := by rw [List.length_append] at hlen; omega
        rw [hn] at hnext
        have Hp2 := Lib.hid hp2
        have hat' := hat n
        have hr2 : Rd 2 (.slice (some ⟨wr.heap.size, 0, none⟩) 1 1) 1 ([(⟨n, atS free l n⟩ : Sp)].flatMap encS) (wr.alloc (.cells #[.int .i64 n, .int .i64 (atS free l n)] 34)) := rd_stp
        have HA := HK.alloc' (.cells #[.int .i64 n, .int .i64 (atS free l n)] 34)
        clear hp hp2 hn hat hlen HK
        go_wp2_with (first
          | (go_at_call 38; refine hnext.mono ?_; rintro e w1 ⟨rfl, rfl⟩; clear hnext; simp only [nextV, Option.getD_some, Option.isSome_some])
          | (go_at_call 37; refine hat'.mono ?_; rintro e w1 ⟨rfl, rfl⟩; clear hat')
          | (at_builtin; refine append_stps (v := u7) (xv := .slice (some ⟨wr.heap.size, 0, none⟩) 1 1) (xs := pre) (ys := [⟨n, atS free l n⟩]) rfl _ _ rfl HA rfl rfl hr2 hb ?_; intro z w3 H3; clear HA hr2))
        go_roundg g
        case measure => omega
        case rel => exact ⟨n, _, rfl, by omega, Hp2.out, H3⟩
  · have hst : stepsAll now free l = [] := by unfold stepsAll; rw [if_neg hf]
    rw [hst]
    have hff : rightB free l = false := by simpa using hf
    rw [hff] at hright
    clear hst hf hff
    go_enter Try.func18, Try.ntmps18
    go_wp2_with (go_at_call 36; refine hright.mono ?_; rintro e w1 ⟨rfl, rfl⟩; clear hright)
    go_ret
    exact ⟨_, rfl, stpsNil H⟩

set_option maxRecDepth 100000 in
set_option maxHeartbeats 1000000 in
theorem Ref.shadow_ok2 (now free need : Int) (hsl : (stepsAll now free l).length ≤ 8796093022208) (H : HL w0 w L) (hr : Runs w0 L v l) (hl : l.length ≤ 8796093022208) :
    Calls Try.prog 17 #[.int .i64 now, .int .i64 free, v, .int .i64 need] w fun e w' => e = .returned (shV (shadowAll now free l need)) ∧ HL w0 w' L := by
  have hright := Ref.right_ok H hr free
  by_cases hf : rightB free l = true
  · rw [hf] at hright
    by_cases hneed : need < 0
    · have hst : shadowAll now free l need = (0, 0, false) := by unfold shadowAll; rw [if_pos hneed]
      rw [hst]
      clear hst hf
      go_enter Try.func17, Try.ntmps17
      go_wp2_with (go_at_call 36; refine hright.mono ?_; rintro e w1 ⟨rfl, rfl⟩; clear hright)
      go_ret3
      exact ⟨rfl, H⟩
    · have hst : shadowAll now free l need = shadowL need ((stepsS now free l).drop 0) := by unfold shadowAll stepsAll; rw [if_neg hneed, if_pos hf]; rfl
      rw [hst]
      have hS := Ref.steps_ok2 now free H hr hl hsl
      rw [show stepsAll now free l = stepsS now free l by unfold stepsAll; rw [if_pos hf]] at hS
      have hbd := stepsS_bd (now := now) hf
      have hlen := stepsS_length now free l
      generalize stepsS now free l = T at *
      have Hbd := Lib.hid hbd
      have hneed : 0 ≤ need := by omega
      clear hst hf hbd
      go_enter Try.func17, Try.ntmps17
      go_wp2_with (first
        | (go_at_call 36; refine hright.mono ?_; rintro e w1 ⟨rfl, rfl⟩; clear hright)
        | (go_at_call 18; refine hS.mono ?_; rintro e w1 ⟨u, rfl, H1⟩; clear hS))
      obtain ⟨A, c, rfl, hc1, hc2⟩ := rd_shape (ownStps H1)
      go_loopg [12] T.length (fun g i wr => ∃ k : Nat, i = .int .i64 k ∧ k + g = T.length ∧ shadowL need (T.drop k) = shadowL need (T.drop 0) ∧ HL w0 wr (stpsAt w0.heap.size (.slice A T.length c) T :: L))
      case atStart => exact ⟨0, rfl, by omega, rfl, H1⟩
      case round =>
        obtain ⟨k, rfl, hk, hsh, HK⟩ := hrel
        have Hsh := Lib.hid hsh
        clear hsh H1
        by_cases hlt : k < T.length
        · obtain ⟨x, hx⟩ : ∃ x, T[k]? = some x := ⟨_, List.getElem?_eq_getElem hlt⟩
          obtain ⟨b, o, c', hv, d0, d1⟩ := stp_at (ownStps HK) hx
          simp only [Value.slice.injEq] at hv
          obtain ⟨rfl, -, rfl⟩ := hv
          have hb := Hbd.out x (List.mem_of_getElem? hx)
          have Hx := Lib.hid hx; clear hx
          by_cases hle : need ≤ x.free
          · have Hh := Lib.hid (Hsh.out.symm.trans (shadow_hit Hx.out hle))
            go_wp2
            go_quiet (fail)
            go_wp2
            go_ret3
            exact ⟨by rw [Hh.out]; rfl, HK.tail.drewN _⟩
          · have Hh := Lib.hid ((shadow_miss Hx.out hle).symm.trans Hsh.out)
            go_wp2
            go_roundg (gk - 1)
            case measure => omega
            case rel => exact ⟨k + 1, by go_num, by omega, Hh.out, HK⟩
        · have hz : shadowL need (T.drop k) = (0, 0, false) := by rw [List.drop_eq_nil_of_le (by omega)]; rfl
          have Hh := Lib.hid (Hsh.out.symm.trans hz)
          clear hz
          go_wp2
          go_ret3
          exact ⟨by rw [Hh.out]; rfl, HK.tail⟩
  · have hff : rightB free l = false := by simpa using hf
    rw [hff] at hright
    have hst : shadowAll now free l need = (0, 0, false) := by unfold shadowAll stepsAll; rw [if_neg hf]; simp [shadowL]
    rw [hst]
    clear hst hf hff
    go_enter Try.func17, Try.ntmps17
    go_wp2_with (go_at_call 36; refine hright.mono ?_; rintro e w1 ⟨rfl, rfl⟩; clear hright)
    go_ret3
    exact ⟨rfl, H⟩
end
end Go.Proofs.Ytebibcaahjmjfaa

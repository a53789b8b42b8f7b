/- The reference's profile: Steps, At, Shadow. -/
import Derived.Test.YtebibcaahjmjfaaPrRef
set_option linter.unusedVariables false
set_option linter.unusedSimpArgs false
namespace Go.Proofs.Ytebibcaahjmjfaa
open Go.RowKit Go.Proofs.HL Go.Proofs.HL.Pr

theorem sliceStp : SliceOf Try.prog 26 34 2 16 := sliceOf (z := .agg #[.int .i64 0, .int .i64 0]) Try.underlying26 (by kernel_rfl) rfl (by decide)
theorem sliceRun : SliceOf Try.prog 22 42 2 16 := sliceOf (z := .agg #[.int .i64 0, .int .i64 0]) Try.underlying22 (by kernel_rfl) rfl (by decide)
/-- Steps, runs that the call owns. -/
def stpsAt (base : Nat) (v : Value) (l : List Sp) : At := row base 34 2 v l.length (l.flatMap encS)
def runsAt (base : Nat) (v : Value) (l : List Rn) : At := row base 42 2 v l.length (l.flatMap encR)
theorem one_encS (l : List Sp) : ∀ u ∈ l.flatMap encS, u.oneCell' = true := by
  intro u hu
  obtain ⟨x, -, hx⟩ := List.mem_flatMap.1 hu
  simp [encS] at hx
  rcases hx with rfl | rfl <;> rfl
theorem one_encR (l : List Rn) : ∀ u ∈ l.flatMap encR, u.oneCell' = true := by
  intro u hu
  obtain ⟨x, -, hx⟩ := List.mem_flatMap.1 hu
  simp [encR] at hx
  rcases hx with rfl | rfl <;> rfl
section
variable {P : Program} {ops : Array Oper} {rest : List Oper} {o : Oper} {a : Act} {Q : Exit → Act → World → Prop} {w0 w : World} {L : List At}
/-- One step more, several. -/
theorem append_stps {xs ys : List Sp} {v xv : Value} (hgd : o.guard = none) (s x : Operand) (ho : o.op = .call { callee := .builtin .append, args := #[s, x], argTypes := #[26, 26] })
    (H : HL w0 w (stpsAt w0.heap.size v xs :: L)) (hs : a.eval s = v) (hx : a.eval x = xv) (hr : Rd 2 xv ys.length (ys.flatMap encS) w) (hb : xs.length + ys.length ≤ 8796093022208)
    (h : ∀ v' w', HL w0 w' (stpsAt w0.heap.size v' (xs ++ ys) :: L) → wpList Try.prog ops Q rest (a.put o.dst v') w') : wpList Try.prog ops Q (o :: rest) a w :=
  wpList_append_hl sliceStp hgd s x ho H hs hx hr (one_encS ys) (by unfold maxLen; omega) (by omega) (fun v' w' H' _ => h v' w' (by
    unfold stpsAt; rw [List.length_append, List.flatMap_append]; exact H'))
theorem append_runs {xs ys : List Rn} {v xv : Value} (hgd : o.guard = none) (s x : Operand) (ho : o.op = .call { callee := .builtin .append, args := #[s, x], argTypes := #[22, 22] })
    (H : HL w0 w (runsAt w0.heap.size v xs :: L)) (hs : a.eval s = v) (hx : a.eval x = xv) (hr : Rd 2 xv ys.length (ys.flatMap encR) w) (hb : xs.length + ys.length ≤ 8796093022208)
    (h : ∀ v' w', HL w0 w' (runsAt w0.heap.size v' (xs ++ ys) :: L) → wpList Try.prog ops Q rest (a.put o.dst v') w') : wpList Try.prog ops Q (o :: rest) a w :=
  wpList_append_hl sliceRun hgd s x ho H hs hx hr (one_encR ys) (by unfold maxLen; omega) (by omega) (fun v' w' H' _ => h v' w' (by
    unfold runsAt; rw [List.length_append, List.flatMap_append]; exact H'))
end
section
variable {w0 w : World} {L : List At} {v : Value} {l : List Rn}
theorem rd_stp {x : Sp} : Rd 2 (.slice (some ⟨w.heap.size, 0, none⟩) 1 1) 1 ([x].flatMap encS) (w.alloc (.cells #[.int .i64 x.at_, .int .i64 x.free] 34)) := rd_new (cs := [.int .i64 x.at_, .int .i64 x.free]) rfl rfl (by decide)
theorem ownStps {xs : List Sp} (H : HL w0 w (stpsAt w0.heap.size v xs :: L)) : Rd 2 v xs.length (xs.flatMap encS) w := rd_row H.head
theorem stpsNil (H : HL w0 w L) : HL w0 w (stpsAt w0.heap.size (.slice none 0 0) [] :: L) := H.nilRow _ _ _
theorem newStp {x : Sp} (H : HL w0 w L) : HL w0 (w.alloc (.cells #[.int .i64 x.at_, .int .i64 x.free] 34)) (stpsAt w0.heap.size (.slice (some ⟨w.heap.size, 0, none⟩) 1 1) [x] :: L) :=
  (H.alloc (.cells #[.int .i64 x.at_, .int .i64 x.free] 34)).rowOf (cs := [.int .i64 x.at_, .int .i64 x.free]) rfl (by decide)

set_option maxRecDepth 100000 in
set_option maxHeartbeats 1000000 in
theorem Ref.steps_ok (H : HL w0 w L) (hr : Runs w0 L v l) (hl : l.length ≤ 8796093022000) (now free : Int) :
    Calls Try.prog 18 #[.int .i64 now, .int .i64 free, v] w fun e w' => ∃ u, e = .returned u ∧ HL w0 w' (stpsAt w0.heap.size u (stepsAll now free l) :: L) := by
  have hright := Ref.right_ok H hr free
  by_cases hf : rightB free l = true
  · have hst : stepsAll now free l = stepsS now free l := by unfold stepsAll; rw [if_pos hf]
    rw [hst]
    clear hst
    rw [hf] at hright
    have hat := Ref.at_ok H hr hf (by omega)
    have h1 := stepsS_length now free l
    have hpre : [(⟨now, atS free l now⟩ : Sp)] ++ stepsR free l l.length now = stepsS now free l := rfl
    generalize stepsS now free l = T at *
    generalize hx : (⟨now, atS free l now⟩ : Sp) = x0 at *
    have H1 := newStp (x := x0) H
    have e1 : x0.at_ = now := by rw [← hx]
    have e2 : x0.free = atS free l now := by rw [← hx]
    rw [e1, e2] at H1
    have Hf := Lib.hid hf; have Hpre := Lib.hid hpre
    clear hf hpre hx e1 e2
    go_enter Try.func18, Try.ntmps18
    go_wp2_with (first
      | (go_at_call 36; refine hright.mono ?_; rintro e w1 ⟨rfl, rfl⟩; clear hright)
      | (go_at_call 37; refine (hat now).mono ?_; rintro e w1 ⟨rfl, rfl⟩; clear hat))
    go_loopg [7, 8] l.length (fun g u t wr => ∃ (tt : Int) (pre : List Sp), t = .int .i64 tt ∧ above l tt ≤ g ∧ pre ++ stepsR free l g tt = T ∧ HL w0 wr (stpsAt w0.heap.size u pre :: L))
    case atStart => exact ⟨now, [x0], rfl, above_le l now, Hpre.out, H1⟩
    case round =>
      obtain ⟨tt, pre, rfl, ha, hp, HK⟩ := hrel
      have hnext := Ref.next_ok HK (hr.cons _) tt
      have hat := Ref.at_ok HK (hr.cons _) Hf.out (by omega)
      clear H1
      cases hn : nextS l tt with
      | none =>
        have hz : pre = T := by
          rw [← hp]
          cases gk with
          | zero => simp [stepsR]
          | succ g => simp [stepsR, hn]
        rw [hn] at hnext
        subst hz
        clear hp ha hn
        go_wp2_with (go_at_call 38; refine hnext.mono ?_; rintro e w1 ⟨rfl, rfl⟩; clear hnext; simp only [nextV, Option.getD_none, Option.isSome_none])
        go_ret
        exact ⟨_, rfl, HK⟩
      | some n =>
        have hlt := above_lt hn
        obtain ⟨g, rfl⟩ : ∃ g, gk = g + 1 := ⟨gk - 1, by omega⟩
        have hp2 : (pre ++ [⟨n, atS free l n⟩]) ++ stepsR free l g n = T := by rw [← hp]; simp [stepsR, hn]
        have hlen : (pre ++ [(⟨n, atS free l n⟩ : Sp)]).length ≤ l.length + 1 := by have := congrArg List.length hp2; rw [List.length_append] at this; omega
        have hb : pre.length + [(⟨n, atS free l n⟩ : Sp)].length ≤ 8796093022208 := by rw [List.length_append] at hlen; omega
        rw [hn] at hnext
        have Hp2 := Lib.hid hp2
        have hat' := hat n
        have hr2 : Rd 2 (.slice (some ⟨wr.heap.size, 0, none⟩) 1 1) 1 ([(⟨n, atS free l n⟩ : Sp)].flatMap encS) (wr.alloc (.cells #[.int .i64 n, .int .i64 (atS free l n)] 34)) := rd_stp
        have HA := HK.alloc' (.cells #[.int .i64 n, .int .i64 (atS free l n)] 34)
        clear hp hp2 hn hat hlen HK
        go_wp2_with (first
          | (go_at_call 38; refine hnext.mono ?_; rintro e w1 ⟨rfl, rfl⟩; clear hnext; simp only [nextV, Option.getD_some, Option.isSome_some])
          | (go_at_call 37; refine hat'.mono ?_; rintro e w1 ⟨rfl, rfl⟩; clear hat')
          | (at_builtin; refine append_stps (v := u7) (xv := .slice (some ⟨wr.heap.size, 0, none⟩) 1 1) (xs := pre) (ys := [⟨n, atS free l n⟩]) rfl _ _ rfl HA rfl rfl hr2 hb ?_; intro z w3 H3; clear HA hr2))
        go_roundg g
        case measure => omega
        case rel => exact ⟨n, _, rfl, by omega, Hp2.out, H3⟩
  · have hst : stepsAll now free l = [] := by unfold stepsAll; rw [if_neg hf]
    rw [hst]
    have hff : rightB free l = false := by simpa using hf
    rw [hff] at hright
    clear hst hf hff
    go_enter Try.func18, Try.ntmps18
    go_wp2_with (go_at_call 36; refine hright.mono ?_; rintro e w1 ⟨rfl, rfl⟩; clear hright)
    go_ret
    exact ⟨_, rfl, stpsNil H⟩

set_option maxRecDepth 100000 in
set_option maxHeartbeats 1000000 in
theorem Ref.atAll_ok (H : HL w0 w L) (hr : Runs w0 L v l) (hl : l.length ≤ 8796093022000) (now free t : Int) :
    Calls Try.prog 20 #[.int .i64 now, .int .i64 free, v, .int .i64 t] w fun e w' => e = .returned (.int .i64 (atAll now free l t)) ∧ w = w' := by
  have hright := Ref.right_ok H hr free
  by_cases hf : rightB free l = true
  · rw [hf] at hright
    by_cases ht : now ≤ t
    · have hst : atAll now free l t = atS free l t := by unfold atAll; rw [if_pos ⟨hf, ht⟩]
      rw [hst]
      have hat := Ref.at_ok H hr hf (by omega) t
      have Hf := Lib.hid hf
      clear hst hf
      go_enter Try.func20, Try.ntmps20
      go_wp2_with (first
        | (go_at_call 36; refine hright.mono ?_; rintro e w1 ⟨rfl, rfl⟩; clear hright)
        | (go_at_call 37; refine hat.mono ?_; rintro e w1 ⟨rfl, rfl⟩; clear hat))
      go_ret
      exact ⟨rfl, rfl⟩
    · have hst : atAll now free l t = 0 := by unfold atAll; rw [if_neg (fun h => ht h.2)]
      rw [hst]
      clear hst hf
      go_enter Try.func20, Try.ntmps20
      go_wp2_with (go_at_call 36; refine hright.mono ?_; rintro e w1 ⟨rfl, rfl⟩; clear hright)
      go_ret
      exact ⟨rfl, rfl⟩
  · have hst : atAll now free l t = 0 := by unfold atAll; rw [if_neg (fun h => hf h.1)]
    rw [hst]
    have hff : rightB free l = false := by simpa using hf
    rw [hff] at hright
    clear hst hf hff
    go_enter Try.func20, Try.ntmps20
    go_wp2_with (go_at_call 36; refine hright.mono ?_; rintro e w1 ⟨rfl, rfl⟩; clear hright)
    go_ret
    exact ⟨rfl, rfl⟩

def shV (x : Int × Int × Bool) : Value := .tuple #[.int .i64 x.1, .int .i64 x.2.1, .bool x.2.2]
theorem shadow_hit {need : Int} {T : List Sp} {k : Nat} {x : Sp} (hx : T[k]? = some x) (h : need ≤ x.free) : shadowL need (T.drop k) = (x.at_, x.free - need, true) := by
  have hlt := (List.getElem?_eq_some_iff.1 hx).1
  rw [List.drop_eq_getElem_cons hlt]
  obtain ⟨_, rfl⟩ := List.getElem?_eq_some_iff.1 hx
  simp only [shadowL, if_pos h]
theorem shadow_miss {need : Int} {T : List Sp} {k : Nat} {x : Sp} (hx : T[k]? = some x) (h : ¬ need ≤ x.free) : shadowL need (T.drop k) = shadowL need (T.drop (k + 1)) := by
  have hlt := (List.getElem?_eq_some_iff.1 hx).1
  rw [List.drop_eq_getElem_cons hlt]
  obtain ⟨_, rfl⟩ := List.getElem?_eq_some_iff.1 hx
  simp only [shadowL, if_neg h]
/-- The steps' numbers are small. -/
theorem stepsR_bd {free : Int} {l : List Rn} (hf : rightB free l = true) : ∀ (g : Nat) (t : Int), ∀ s ∈ stepsR free l g t, 0 ≤ s.free ∧ s.free ≤ 256 + 256 * l.length
  | 0, t => fun s hs => nomatch hs
  | g + 1, t => fun s hs => by
    unfold stepsR at hs
    cases hn : nextS l t with
    | none => rw [hn] at hs; cases hs
    | some n =>
      rw [hn] at hs
      simp only [List.mem_cons] at hs
      rcases hs with rfl | hs
      · exact atS_bd hf n
      · exact stepsR_bd hf g n s hs
theorem stepsS_bd {now free : Int} {l : List Rn} (hf : rightB free l = true) : ∀ s ∈ stepsS now free l, 0 ≤ s.free ∧ s.free ≤ 256 + 256 * l.length := by
  intro s hs
  unfold stepsS at hs
  simp only [List.mem_cons] at hs
  rcases hs with rfl | hs
  · exact atS_bd hf now
  · exact stepsR_bd hf _ _ s hs

set_option maxRecDepth 100000 in
set_option maxHeartbeats 1000000 in
theorem Ref.shadow_ok (H : HL w0 w L) (hr : Runs w0 L v l) (hl : l.length ≤ 8796093022000) (now free need : Int) :
    Calls Try.prog 17 #[.int .i64 now, .int .i64 free, v, .int .i64 need] w fun e w' => e = .returned (shV (shadowAll now free l need)) ∧ HL w0 w' L := by
  have hright := Ref.right_ok H hr free
  by_cases hf : rightB free l = true
  · rw [hf] at hright
    by_cases hneed : need < 0
    · have hst : shadowAll now free l need = (0, 0, false) := by unfold shadowAll; rw [if_pos hneed]
      rw [hst]
      clear hst hf
      go_enter Try.func17, Try.ntmps17
      go_wp2_with (go_at_call 36; refine hright.mono ?_; rintro e w1 ⟨rfl, rfl⟩; clear hright)
      go_ret3
      exact ⟨rfl, H⟩
    · have hst : shadowAll now free l need = shadowL need ((stepsS now free l).drop 0) := by unfold shadowAll stepsAll; rw [if_neg hneed, if_pos hf]; rfl
      rw [hst]
      have hS := Ref.steps_ok H hr hl now free
      rw [show stepsAll now free l = stepsS now free l by unfold stepsAll; rw [if_pos hf]] at hS
      have hbd := stepsS_bd (now := now) hf
      have hlen := stepsS_length now free l
      generalize stepsS now free l = T at *
      have Hbd := Lib.hid hbd
      have hneed : 0 ≤ need := by omega
      clear hst hf hbd
      go_enter Try.func17, Try.ntmps17
      go_wp2_with (first
        | (go_at_call 36; refine hright.mono ?_; rintro e w1 ⟨rfl, rfl⟩; clear hright)
        | (go_at_call 18; refine hS.mono ?_; rintro e w1 ⟨u, rfl, H1⟩; clear hS))
      obtain ⟨A, c, rfl, hc1, hc2⟩ := rd_shape (ownStps H1)
      go_loopg [12] T.length (fun g i wr => ∃ k : Nat, i = .int .i64 k ∧ k + g = T.length ∧ shadowL need (T.drop k) = shadowL need (T.drop 0) ∧ HL w0 wr (stpsAt w0.heap.size (.slice A T.length c) T :: L))
      case atStart => exact ⟨0, rfl, by omega, rfl, H1⟩
      case round =>
        obtain ⟨k, rfl, hk, hsh, HK⟩ := hrel
        have Hsh := Lib.hid hsh
        clear hsh H1
        by_cases hlt : k < T.length
        · obtain ⟨x, hx⟩ : ∃ x, T[k]? = some x := ⟨_, List.getElem?_eq_getElem hlt⟩
          obtain ⟨b, o, c', hv, d0, d1⟩ := stp_at (ownStps HK) hx
          simp only [Value.slice.injEq] at hv
          obtain ⟨rfl, -, rfl⟩ := hv
          have hb := Hbd.out x (List.mem_of_getElem? hx)
          have Hx := Lib.hid hx; clear hx
          by_cases hle : need ≤ x.free
          · have Hh := Lib.hid (Hsh.out.symm.trans (shadow_hit Hx.out hle))
            go_wp2
            go_quiet (fail)
            go_wp2
            go_ret3
            exact ⟨by rw [Hh.out]; rfl, HK.tail.drewN _⟩
          · have Hh := Lib.hid ((shadow_miss Hx.out hle).symm.trans Hsh.out)
            go_wp2
            go_roundg (gk - 1)
            case measure => omega
            case rel => exact ⟨k + 1, by go_num, by omega, Hh.out, HK⟩
        · have hz : shadowL need (T.drop k) = (0, 0, false) := by rw [List.drop_eq_nil_of_le (by omega)]; rfl
          have Hh := Lib.hid (Hsh.out.symm.trans hz)
          clear hz
          go_wp2
          go_ret3
          exact ⟨by rw [Hh.out]; rfl, HK.tail⟩
  · have hff : rightB free l = false := by simpa using hf
    rw [hff] at hright
    have hst : shadowAll now free l need = (0, 0, false) := by unfold shadowAll stepsAll; rw [if_neg hf]; simp [shadowL]
    rw [hst]
    clear hst hf hff
    go_enter Try.func17, Try.ntmps17
    go_wp2_with (go_at_call 36; refine hright.mono ?_; rintro e w1 ⟨rfl, rfl⟩; clear hright)
    go_ret3
    exact ⟨rfl, H⟩
end
end Go.Proofs.Ytebibcaahjmjfaa

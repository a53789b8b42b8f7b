/- What there is between passes; runs that end, wants that are started. -/
import Derived.Test.YtebibcaahjmjfaaPaWant
import Derived.Test.YtebibcaahjmjfaaPaKeepsP
set_option linter.unusedVariables false
set_option linter.unusedSimpArgs false
namespace Go.Proofs.Ytebibcaahjmjfaa
open Go.RowKit Go.Proofs.HL Go.Proofs.HL.Pr Go.Proofs.HL.Pa
/-- Some runs have ended: what they held is free. -/
structure Ended (now free : Int) (l : List Rn) (f : Int) (m : List Rn) : Prop where
  less : Less free l f m
  due : ∀ r ∈ m, now < r.fin
theorem Ended.keep {now free : Int} {l : List Rn} {k : Nat} {f : Int} {m : List Rn} {r : Rn} (h : Ended now free (l.take k) f m) (hr : l[k]? = some r) (hd : now < r.fin) : Ended now free (l.take (k + 1)) f (m ++ [r]) := by
  obtain ⟨⟨h1, h3⟩, h2⟩ := h
  have e : l.take (k + 1) = l.take k ++ [r] := by rw [List.take_add_one, hr]; rfl
  refine ⟨⟨by rw [e]; exact h1.append_right _, by rw [e, sumN_append, sumN_append]; omega⟩, fun x hx => ?_⟩
  rcases List.mem_append.1 hx with hx | hx
  · exact h2 x hx
  · obtain rfl := List.mem_singleton.1 hx; exact hd
theorem Ended.gone {now free : Int} {l : List Rn} {k : Nat} {f : Int} {m : List Rn} {r : Rn} (h : Ended now free (l.take k) f m) (hr : l[k]? = some r) : Ended now free (l.take (k + 1)) (f + r.nodes) m := by
  obtain ⟨⟨h1, h3⟩, h2⟩ := h
  have e : l.take (k + 1) = l.take k ++ [r] := by rw [List.take_add_one, hr]; rfl
  refine ⟨⟨by rw [e]; exact h1.trans (List.sublist_append_left _ _), ?_⟩, h2⟩
  rw [e, sumN_append]
  simp only [sumN]
  omega
theorem Ended.bd {now free : Int} {l : List Rn} {k : Nat} {f : Int} {m : List Rn} (h : Ended now free (l.take k) f m) (hn : ∀ r ∈ l, 1 ≤ r.nodes ∧ r.nodes ≤ 256) (h0 : 0 ≤ free) (h1 : free + sumN l ≤ 256) : 0 ≤ f ∧ f ≤ 256 ∧ m.length ≤ 256 := by
  have hn' : ∀ r ∈ l.take k, 1 ≤ r.nodes ∧ r.nodes ≤ 256 := fun r hr => hn r (List.mem_of_mem_take hr)
  have a1 := sumN_sub h.less.sub hn'
  have a2 := sumN_sub (List.take_sublist k l) hn
  have a3 := sumN_nn (l := m) (fun r hr => hn' r (h.less.sub.subset hr))
  have := h.less.all
  omega

def boxS (b : Nat) (now free : Int) (vw : Value) (holder : Int) (vr : Value) : At := blk b (.cells #[.int .i64 now, .int .i64 free, vw, .int .i64 holder, vr] 69)
section
variable {w0 w : World} {L : List At} {b : Nat} {now free holder : Int} {vw vr : Value} {l : List Rn} {ws : List Wn}
theorem boxS_cells (H : HL w0 w (boxS b now free vw holder vr :: L)) : w.cell? ⟨b, 0, none⟩ = some (.int .i64 now) ∧ w.cell? ⟨b, 1, none⟩ = some (.int .i64 free) ∧ w.cell? ⟨b, 2, none⟩ = some vw ∧ w.cell? ⟨b, 3, none⟩ = some (.int .i64 holder) ∧ w.cell? ⟨b, 4, none⟩ = some vr :=
  ⟨H.cell 0, H.cell 1, H.cell 2, H.cell 3, H.cell 4⟩
theorem boxS_mem (H : HL w0 w L) (hm : boxS b now free vw holder vr ∈ L) (i : Nat) : w.cell? ⟨b, i, none⟩ = #[.int .i64 now, .int .i64 free, vw, .int .i64 holder, vr][i]? := H.cellOf hm i
theorem boxS_frozen (H : HL w0 w L) (hm : boxS b now free vw holder vr ∈ L) (i : Nat) : w.frozen? ⟨b, i, none⟩ = false := H.frozenOf hm i
theorem set_boxS1 {f : Int} (H : HL w0 w (boxS b now free vw holder vr :: L)) : HL w0 (w.setCell ⟨b, 1, none⟩ (.int .i64 f)) (boxS b now f vw holder vr :: L) := HL.setCell H 1 (.int .i64 f)
theorem set_boxS4 {u : Value} (H : HL w0 w (boxS b now free vw holder vr :: L)) : HL w0 (w.setCell ⟨b, 4, none⟩ u) (boxS b now free vw holder u :: L) := HL.setCell H 4 u
theorem set_boxS2 {u : Value} (H : HL w0 w (boxS b now free vw holder vr :: L)) : HL w0 (w.setCell ⟨b, 2, none⟩ u) (boxS b now free u holder vr :: L) := HL.setCell H 2 u
theorem set_boxS3 {f : Int} (H : HL w0 w (boxS b now free vw holder vr :: L)) : HL w0 (w.setCell ⟨b, 3, none⟩ (.int .i64 f)) (boxS b now free vw f vr :: L) := HL.setCell H 3 (.int .i64 f)
theorem set_boxS0 {f : Int} (H : HL w0 w (boxS b now free vw holder vr :: L)) : HL w0 (w.setCell ⟨b, 0, none⟩ (.int .i64 f)) (boxS b f free vw holder vr :: L) := HL.setCell H 0 (.int .i64 f)

set_option maxRecDepth 100000 in
set_option maxHeartbeats 4000000 in
theorem stEnds_ok (H : HL w0 w (boxS b now free vw holder vr :: runsAt w0.heap.size vr l :: L)) (early : Int) (hn : ∀ r ∈ l, 1 ≤ r.nodes ∧ r.nodes ≤ 256) (h0 : 0 ≤ free) (h1 : free + sumN l ≤ 256) :
    Calls Try.prog 34 #[.pointer (some ⟨b, 0, none⟩), .int .i64 early] w fun e w' => ∃ vr' f m, e = .returned (.tuple #[]) ∧ Ended now free l f m ∧ HL w0 w' (boxS b now f vw holder vr' :: runsAt w0.heap.size vr' m :: L) := by
  obtain ⟨A, c, rfl, -, hc1, hc2⟩ := row_shape (show w.ownsRow w0.heap.size 42 2 vr l.length (l.flatMap encR) from H.tail.head)
  unfold maxLen at hc2
  have hl : l.length ≤ 256 := by
    have := sumN_nn hn
    omega
  have H1 := (emptyRuns H).sel 3 [1, 2, 0]
  have Hn := Lib.hid hn
  clear hn
  go_enter Try.func34, Try.ntmps34
  go_wp2
  go_loopg [4, 5] l.length (fun g v4 i wr => ∃ (k : Nat) (f : Int) (m : List Rn), i = .int .i64 k ∧ k + g = l.length ∧ Ended now free (l.take k) f m ∧ HL w0 wr (boxS b now f vw holder (.slice A l.length c) :: runsAt w0.heap.size (.slice A l.length c) l :: runsAt w0.heap.size v4 m :: L))
  case atStart => exact ⟨0, free, [], rfl, by omega, ⟨⟨by simp, by simp [sumN]⟩, (fun _ h => by simp at h)⟩, H1⟩
  case round =>
    obtain ⟨k, f, m, rfl, hk, hE, HK⟩ := hrel
    clear H1 H
    obtain ⟨f0, f1, hm⟩ := hE.bd Hn.out h0 h1
    have HE := Lib.hid hE
    clear hE
    by_cases hlt : k < l.length
    · obtain ⟨x, hx⟩ : ∃ x, l[k]? = some x := ⟨_, List.getElem?_eq_getElem hlt⟩
      have hxn := Hn.out x (List.mem_of_getElem? hx)
      have s0 : ∀ n, (wr.drewN n).cell? ⟨b, 0, none⟩ = some (.int .i64 now) := fun n => boxS_mem (HK.drewN n) (List.mem_cons_self ..) 0
      obtain ⟨s0, s1, s2, s3, s4⟩ := boxS_cells HK
      obtain ⟨b2, o, c', hv, d0, d1⟩ := run_at (rd_row HK.tail.head) hx
      simp only [Value.slice.injEq] at hv
      obtain ⟨rfl, -, rfl⟩ := hv
      have Hx := Lib.hid hx; clear hx
      by_cases hd : x.fin ≤ now ∨ (k : Int) = early
      · have hcase : (decide (x.fin ≤ now) = true) ∨ (decide (x.fin ≤ now) = false ∧ ((k : Int) == early) = true) := by
          by_cases h : x.fin ≤ now
          · exact .inl (decide_eq_true h)
          · exact .inr ⟨decide_eq_false h, by simp; omega⟩
        have hw : IntKind.i64.wrap (f + x.nodes) = f + x.nodes := IntWalk.i64_in _ (by omega)
        clear hd
        rcases hcase with hd | ⟨hd, hd2⟩
        all_goals
          go_wp2
          go_quiet (fail)
          have HK2 := HK.drewN nq
          clear s0 s1 s2 s3 s4 d0 d1 HK
          generalize wr.drewN nq = W2 at *
          obtain ⟨s0, s1, s2, s3, s4⟩ := boxS_cells HK2
          obtain ⟨b3, o3, c3, hv, d0, d1⟩ := run_at (rd_row HK2.tail.head) Hx.out
          simp only [Value.slice.injEq, Option.some.injEq, Addr.mk.injEq] at hv
          obtain ⟨⟨rfl, rfl, -⟩, -, rfl⟩ := hv
          go_wp2
          refine wp_region_cut 13 (by kernel_rfl) (by kernel_rfl) ?_
          simp only [List.take_succ_cons, List.take_zero, List.drop_succ_cons, List.drop_zero]
          repeat (go_big_quiet_step ((fail)))
          refine wpQuiet_nil ?_
          intro nr
          have HK3 := HK2.drewN nr
          have z1 := boxS_mem HK3 (List.mem_cons_self ..) 1
          have z2 := boxS_frozen HK3 (List.mem_cons_self ..) 1
          have HS := set_boxS1 (f := f + x.nodes) HK3
          clear s0 s1 s2 s3 s4 d0 d1 HK2 HK3
          go_wp2
          go_roundg (gk - 1)
          case measure => omega
          case rel => exact ⟨k + 1, f + x.nodes, m, by go_num, by omega, HE.out.gone Hx.out, HS⟩
      · have hd1 : decide (x.fin ≤ now) = false := decide_eq_false (by omega)
        have hd2 : ((k : Int) == early) = false := by simp; omega
        have Hd := Lib.hid (show now < x.fin by omega)
        clear hd
        go_wp2
        go_quiet (fail)
        have HK2 := (HK.drewN nq).sel 3 [2, 0, 1]
        clear s0 s1 s2 s3 s4 d0 d1 HK
        generalize wr.drewN nq = W2 at *
        obtain ⟨s0, s1, s2, s3, s4⟩ := boxS_cells HK2.tail
        obtain ⟨b3, o3, c3, hv, d0, d1⟩ := run_at (rd_row HK2.tail.tail.head) Hx.out
        simp only [Value.slice.injEq, Option.some.injEq, Addr.mk.injEq] at hv
        obtain ⟨⟨rfl, rfl, -⟩, -, rfl⟩ := hv
        have HA := HK2.alloc' (.cells #[.int .i64 x.nodes, .int .i64 x.fin] 42)
        have hr2 := rd_run (w := W2) (x := x)
        have hb : m.length + [x].length ≤ 8796093022208 := by simp only [List.length_cons, List.length_nil]; omega
        go_wp2_with (at_builtin; refine append_runs (v := u4) (xv := .slice (some ⟨W2.heap.size, 0, none⟩) 1 1) (xs := m) (ys := [x]) rfl _ _ rfl HA rfl rfl hr2 hb ?_; intro z7 w7 H7; clear HA hr2 hb HK2)
        go_roundg (gk - 1)
        case measure => omega
        case rel => exact ⟨k + 1, f, m ++ [x], by go_num, by omega, HE.out.keep Hx.out Hd.out, H7.sel 3 [1, 2, 0]⟩
    · have hE2 : Ended now free l f m := by have := HE.out; rwa [List.take_of_length_le (by omega)] at this
      have HE2 := Lib.hid hE2
      obtain ⟨s0, s1, s2, s3, s4⟩ := boxS_cells HK
      have z2 := boxS_frozen HK (List.mem_cons_self ..) 4
      obtain ⟨A4, c4, rfl, -, -, -⟩ := row_shape (show wr.ownsRow w0.heap.size 42 2 u4 m.length (m.flatMap encR) from HK.tail.tail.head)
      have HS := set_boxS4 (u := .slice A4 m.length c4) HK
      clear hE2
      go_wp2
      go_end0
      exact ⟨_, f, m, rfl, HE2.out, HS.sel 3 [0, 2]⟩
end
end Go.Proofs.Ytebibcaahjmjfaa

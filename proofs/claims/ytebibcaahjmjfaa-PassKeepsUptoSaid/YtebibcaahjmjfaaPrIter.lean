/- The iterators of the profile: steps, All. -/
import Derived.Test.YtebibcaahjmjfaaPrProg
import Derived.Shelf.Abstract
import Derived.OwnWalkIn
import Derived.TacticsInMore
import Derived.Sort.LoopGhostIn
set_option linter.unusedVariables false
set_option linter.unusedSimpArgs false
namespace Go.Proofs.Ytebibcaahjmjfaa
open Go.RowKit Go.Proofs.HL Go.Proofs.HL.Pr
attribute [local go_sem] Oper.semAt_some

def encIt (x : Sp) : Array Value := #[.agg #[.int .i64 x.at_, .int .i64 x.free]]
/-- What is left of the runs, from k on. -/
def RestAt (A : Option Addr) (n k m : Nat) (t : Value) : Prop := ∃ A', t = .slice A' m m ∧ k + m = n ∧ (0 < m → ∃ b o, A = some ⟨b, o, none⟩ ∧ A' = some ⟨b, o + k * 2, none⟩)
def privS (br bn bf : Nat) (v : Value) (now f : Int) : List At := [blk br (.cells #[v] 22), blk bn (.cells #[.int .i64 now] 3), blk bf (.cells #[.int .i64 f] 3)]
theorem RestAt.len {A : Option Addr} {n k m : Nat} {t : Value} (h : RestAt A n k m t) : RestAt A n k (n - k) t := by
  obtain ⟨A', h1, h2, h3⟩ := h
  have : n - k = m := by omega
  rw [this]
  exact ⟨A', h1, h2, h3⟩
section
variable {w0 w : World} {L : List At}
theorem priv_cells {br bn bf : Nat} {v : Value} {now f : Int} (H : HL w0 w (L ++ privS br bn bf v now f)) :
    w.cell? ⟨br, 0, none⟩ = some v ∧ w.cell? ⟨bn, 0, none⟩ = some (.int .i64 now) ∧ w.cell? ⟨bf, 0, none⟩ = some (.int .i64 f) ∧ w.frozen? ⟨bf, 0, none⟩ = false := by
  refine ⟨?_, ?_, ?_, H.frozenOf (b := bf) (vs := #[.int .i64 f]) (E := 3) (by simp [privS]) 0⟩
  · rw [H.cellOf (b := br) (vs := #[v]) (E := 22) (fz := (0, 0)) (by simp [privS]) 0]; rfl
  · rw [H.cellOf (b := bn) (vs := #[.int .i64 now]) (E := 3) (fz := (0, 0)) (by simp [privS]) 0]; rfl
  · rw [H.cellOf (b := bf) (vs := #[.int .i64 f]) (E := 3) (fz := (0, 0)) (by simp [privS]) 0]; rfl
theorem priv_set {br bn bf : Nat} {v : Value} {now f : Int} (H : HL w0 w (L ++ privS br bn bf v now f)) (f' : Int) : HL w0 (w.setCell ⟨bf, 0, none⟩ (.int .i64 f')) (L ++ privS br bn bf v now f') := by
  have h := HL.setAt (L ++ [blk br (.cells #[v] 22), blk bn (.cells #[.int .i64 now] 3)]) (L2 := []) (b := bf) (vs := #[.int .i64 f]) (E := 3) (fz := (0, 0)) (h := by simpa [privS] using H) 0 (.int .i64 f')
  simpa [privS] using h
end
set_option maxRecDepth 100000 in
set_option maxHeartbeats 4000000 in
theorem stepsIter {w0 : World} {S : List Rn} (hS : Rise S) {now free : Int} (hf : rightB free S = true) (hl : S.length ≤ 8796093022208) (br bn bf : Nat) (A : Option Addr) (c : Nat) :
    IterK Try.prog w0 60 #[.pointer (some ⟨br, 0, none⟩), .pointer (some ⟨bn, 0, none⟩), .pointer (some ⟨bf, 0, none⟩)] encIt (stepsS now free S) (privS br bn bf (.slice A S.length c) now free)
      (fun W => Rd 2 (.slice A S.length c) S.length (S.flatMap encR) W) := by
  have hT := stepsS_eq now free S
  generalize stepsS now free S = T at hT ⊢
  rintro l J Jx w L H h0 hKp hY
  obtain ⟨c1, c2, c3, f3⟩ := priv_cells H
  have hr := hKp 0 L h0 w H.left
  obtain ⟨-, -, A1, c1', hv, hc1, hc2, -, -⟩ := id hr
  simp only [Value.slice.injEq] at hv
  obtain ⟨rfl, -, rfl⟩ := hv
  unfold maxLen at hc2
  have hd0 : Fence.wide.depth = none := rfl
  have hf0 : ∀ f, Fence.wide.fn f := fun _ => trivial
  refine callsIn_of_wp Try.func60 rfl trivial ?_ rfl
  simp only [Try.ntmps60, List.size_toArray, List.length_cons, List.length_nil, Nat.reduceAdd, Nat.reduceSub, Array.replicate_succ, Array.replicate_zero, List.push_toArray, List.append_toArray, List.nil_append, List.cons_append]
  gi_wp2
  have HT := Lib.hid hT
  have Hf := Lib.hid hf
  have HK0 := Lib.hid hKp
  have HY := Lib.hid hY
  clear hT hf c1 c2 c3 f3 hKp hY hr
  gi_loopg [5] S.length (fun g t wr => ∃ k : Nat, RestAt A S.length k g t ∧ (∀ j r, j < k → S[j]? = some r → r.fin ≤ now) ∧ HL w0 wr (L ++ privS br bn bf (.slice A S.length c) now (free + sumN (S.take k))))
  case atStart =>
    refine ⟨0, ⟨A, rfl, by omega, fun h => ?_⟩, (fun _ _ h => by omega), by simpa [sumN] using H⟩
    have hr := HK0.out 0 L h0 w H.left
    obtain ⟨b, o, c2, hv, -⟩ := run_at hr (k := 0) (List.getElem?_eq_getElem h)
    simp only [Value.slice.injEq] at hv
    exact ⟨b, o, hv.1, by simpa using hv.1⟩
  case round =>
    obtain ⟨k, ⟨A', rfl, hkm, hA'⟩, hle, HK⟩ := hrel
    obtain ⟨c1, c2, c3, f3⟩ := priv_cells HK
    have hr := HK0.out 0 L h0 wr HK.left
    have hbd := sumN_take_bd Hf.out k
    by_cases hin : ∃ r, S[k]? = some r ∧ r.fin ≤ now
    · obtain ⟨r, hrk, hrn⟩ := hin
      have hlt : k < S.length := (List.getElem?_eq_some_iff.1 hrk).1
      obtain ⟨b, o, rfl, rfl⟩ := hA' (by omega)
      obtain ⟨b1, o1, c1', hv, d0, d1⟩ := run_at hr hrk
      simp only [Value.slice.injEq, Option.some.injEq, Addr.mk.injEq] at hv
      obtain ⟨⟨rfl, rfl, -⟩, -, rfl⟩ := hv
      obtain ⟨m, rfl⟩ : ∃ m, gk = m + 1 := ⟨gk - 1, by omega⟩
      have hnn := (rightB_iff.1 Hf.out).2.2 r (List.mem_of_getElem? hrk)
      have hsum := sumN_take_succ hrk
      have Hle := Lib.hid hle; have Hrk := Lib.hid hrk; have Hsum := Lib.hid hsum
      clear hle hrk hsum hr H hA'
      generalize hfk : free + sumN (S.take k) = fk at *
      have Hfk := Lib.hid hfk
      clear hfk
      gi_wp2
      refine wpIn_wide.2 (wp_region_cut 11 (by kernel_rfl) (by kernel_rfl) ?_)
      simp only [List.take_succ_cons, List.take_zero, List.drop_succ_cons, List.drop_zero]
      repeat (go_big_quiet_step ((fail)))
      refine wpQuiet_nil ?_
      intro nq
      go_wp2
      gi_wp2
      refine wpIn_wide.2 (wp_region_cut 6 (by kernel_rfl) (by kernel_rfl) ?_)
      simp only [List.take_succ_cons, List.take_zero, List.drop_succ_cons, List.drop_zero]
      repeat (go_big_quiet_step ((fail)))
      refine wpQuiet_nil ?_
      intro nq2
      have HN := priv_set (HK.drewN (nq + nq2)) (fk + r.nodes)
      clear HK
      by_cases hm : m = 0
      · subst hm
        go_wp2
        gi_wp2
        go_roundg 0
        case measure => omega
        case rel =>
          refine ⟨k + 1, ⟨_, rfl, by omega, fun h => by omega⟩, fun j r' hj hjr => ?_, ?_⟩
          · rcases Nat.lt_or_ge j k with h | h
            · exact Hle.out j r' h hjr
            · obtain rfl : j = k := by omega
              rw [Hrk.out] at hjr
              cases hjr
              exact hrn
          · rw [Hsum.out, ← Int.add_assoc, Hfk.out]; exact HN
      · go_wp2
        gi_wp2
        go_roundg m
        case measure => omega
        case rel =>
          refine ⟨k + 1, ⟨_, rfl, by omega, fun h => ⟨_, _, rfl, by rw [show o + (k + 1) * 2 = o + k * 2 + 2 by omega]⟩⟩, fun j r' hj hjr => ?_, ?_⟩
          · rcases Nat.lt_or_ge j k with h | h
            · exact Hle.out j r' h hjr
            · obtain rfl : j = k := by omega
              rw [Hrk.out] at hjr
              cases hjr
              exact hrn
          · rw [Hsum.out, ← Int.add_assoc, Hfk.out]; exact HN
    · have hC : CutAt S k now := ⟨hle, fun r hr => by
        rcases Int.lt_or_le now r.fin with h | h
        · exact h
        · exact absurd ⟨r, hr, h⟩ hin⟩
      have hat := hC.at hS (by omega) free
      have hx0 : T[0]? = some ⟨now, free + sumN (S.take k)⟩ := by rw [HT.out, hat]; rfl
      have hd1 : T.drop 1 = stepsT free S now := by rw [HT.out]; rfl
      have hT1 : 1 ≤ T.length := by rw [HT.out]; simp
      have hRest : RestAt A S.length k gk (.slice A' gk gk) := ⟨A', rfl, hkm, hA'⟩
      have HC := Lib.hid hC
      have hex : gk = 0 ∨ ∃ r, S[k]? = some r ∧ now < r.fin := by
        rcases Nat.eq_zero_or_pos gk with h | h
        · exact .inl h
        · have hlt : k < S.length := by omega
          exact .inr ⟨S[k], List.getElem?_eq_getElem hlt, hC.gt _ (List.getElem?_eq_getElem hlt)⟩
      have Hx0 := Lib.hid hx0; have Hd1 := Lib.hid hd1
      clear hle hin hat hx0 hd1 hC H
      generalize hfk : free + sumN (S.take k) = fk at *
      have Hfk := Lib.hid hfk
      clear hfk
      gi_wp2
      refine wpIn_wide.2 (wp_region_cut 11 (by kernel_rfl) (by kernel_rfl) ?_)
      simp only [List.take_succ_cons, List.take_zero, List.drop_succ_cons, List.drop_zero]
      rcases hex with rfl | ⟨r, hrk, hrn⟩
      case' neg.inl =>
        clear hr hA'
        repeat (go_big_quiet_step ((fail)))
        refine wpQuiet_nil ?_
        intro nq
        have HK1 := HK.drewN nq
        obtain ⟨fn, tmps, assign, body, hy, hR⟩ := HY.out 0 _ (wr.drewN nq) L _ Hx0.out h0 HK1
        dsimp only [encIt] at hy
        clear HK1 HK
        go_wp2
        gi_wp2
        refine hR.mono ?_
        rintro e W3 ⟨L'', H3, (⟨rfl, hJ3⟩ | ⟨rfl, hJx⟩)⟩
        rotate_left
        · gi_wp2
          refine bodyPost_ret (results_none rfl _ _ _) rfl ?_
          exact ⟨⟨_, rfl⟩, L'', H3.left, .inr hJx⟩
        clear hy hR c1 c2 c3 f3
        gi_wp2
      case' neg.inr =>
        have hlt : k < S.length := (List.getElem?_eq_some_iff.1 hrk).1
        obtain ⟨b, o, rfl, rfl⟩ := hA' (by omega)
        obtain ⟨b1, o1, c1', hv, d0, d1⟩ := run_at hr hrk
        simp only [Value.slice.injEq, Option.some.injEq, Addr.mk.injEq] at hv
        obtain ⟨⟨rfl, rfl, -⟩, -, rfl⟩ := hv
        obtain ⟨m, rfl⟩ : ∃ m, gk = m + 1 := ⟨gk - 1, by omega⟩
        clear hA' hr hrk
        repeat (go_big_quiet_step ((fail)))
        refine wpQuiet_nil ?_
        intro nq
        clear d0 d1
        have HK1 := HK.drewN nq
        obtain ⟨fn, tmps, assign, body, hy, hR⟩ := HY.out 0 _ (wr.drewN nq) L _ Hx0.out h0 HK1
        dsimp only [encIt] at hy
        clear HK1 HK
        go_wp2
        gi_wp2
        refine hR.mono ?_
        rintro e W3 ⟨L'', H3, (⟨rfl, hJ3⟩ | ⟨rfl, hJx⟩)⟩
        rotate_left
        · gi_wp2
          refine bodyPost_ret (results_none rfl _ _ _) rfl ?_
          exact ⟨⟨_, rfl⟩, L'', H3.left, .inr hJx⟩
        clear hy hR c1 c2 c3 f3
        clear hrn hlt
        gi_wp2
        generalize (some (⟨b, o, none⟩ : Addr)) = A at *
      all_goals
        gi_loopg [5] (S.length - k) (fun g t wq => ∃ (k j : Nat) (tt : Int) (L' : List At), RestAt _ S.length k g t ∧ CutAt S k tt ∧ j ≤ T.length ∧ T.drop j = stepsT free S tt ∧ J j L' ∧ HL w0 wq (L' ++ privS br bn bf (.slice _ S.length c) now (free + sumN (S.take k))))
        case atStart => exact ⟨k, 1, now, L'', hRest.len, HC.out, hT1, Hd1.out, hJ3, by rw [Hfk.out]; exact H3⟩
        case round =>
          obtain ⟨k2, j, tt, L2, ⟨A2, rfl, hkm2, hA2⟩, hC2, hj2, hdrop, hJ2, HK⟩ := hrel
          obtain ⟨c1, c2, c3, f3⟩ := priv_cells HK
          have hr := HK0.out j L2 hJ2 wr HK.left
          have hnx := hC2.next hS
          clear H3 hJ3 hRest
          rcases Nat.eq_zero_or_pos gk with rfl | hpos
          · have hnone : S[k2]? = none := List.getElem?_eq_none (by omega)
            rw [hnone] at hnx
            rw [stepsT_none hnx] at hdrop
            have hjn : j = T.length := by have := List.drop_eq_nil_iff.1 hdrop; omega
            have Hj := Lib.hid hjn
            clear hnone hnx hdrop hjn hr hC2 hA2
            gi_wp2
            go_end0
            exact ⟨⟨_, rfl⟩, L2, HK.left, .inl (Hj.out ▸ hJ2)⟩
          · obtain ⟨m2, rfl⟩ : ∃ m, gk = m + 1 := ⟨gk - 1, by omega⟩
            obtain ⟨r2, hrk2⟩ : ∃ r, S[k2]? = some r := ⟨_, List.getElem?_eq_getElem (by omega)⟩
            obtain ⟨b2, o2, hAe, rfl⟩ := hA2 (by omega)
            cases hAe
            obtain ⟨b1, o1, c1', hv, d0, d1⟩ := run_at hr hrk2
            simp only [Value.slice.injEq, Option.some.injEq, Addr.mk.injEq] at hv
            obtain ⟨⟨rfl, rfl, -⟩, -, rfl⟩ := hv
            rw [hrk2] at hnx
            have hT2 : T.drop j = ⟨r2.fin, atS free S r2.fin⟩ :: stepsT free S r2.fin := by rw [hdrop]; exact stepsT_some hnx
            have hlt2 := hC2.gt _ hrk2
            have HC2 := Lib.hid hC2; have HT2 := Lib.hid hT2; have Hrk2 := Lib.hid hrk2
            have HR2 : RestAt (some ⟨b2, o2, none⟩) S.length k2 (m2 + 1) (.slice (some ⟨b2, o2 + k2 * 2, none⟩) (m2 + 1) (m2 + 1)) := ⟨_, rfl, hkm2, fun _ => ⟨_, _, rfl, rfl⟩⟩
            clear hnx hdrop hT2 hC2 hrk2 hr hA2 HC Hd1 Hfk Hx0 hbd
            gi_wp2
            clear d0 d1 c1 c2 c3 f3
            gi_loopg [5] (m2 + 1) (fun g t wq => ∃ k3 : Nat, RestAt (some ⟨b2, o2, none⟩) S.length k3 g t ∧ k2 ≤ k3 ∧ (∀ i y, k2 ≤ i → i < k3 → S[i]? = some y → y.fin = r2.fin) ∧ HL w0 wq (L2 ++ privS br bn bf (.slice (some ⟨b2, o2, none⟩) S.length c) now (free + sumN (S.take k3))))
            case atStart => exact ⟨k2, HR2, Nat.le_refl _, (fun _ _ h1 h2 => by omega), HK⟩
            case round =>
              obtain ⟨k3, ⟨A3, rfl, hkm3, hA3⟩, hk23, hsame, HK⟩ := hrel
              obtain ⟨c1, c2, c3, f3⟩ := priv_cells HK
              have hr := HK0.out j L2 hJ2 wr HK.left
              have hbd := sumN_take_bd Hf.out k3
              have Hsame := Lib.hid hsame
              clear hsame
              by_cases hin : ∃ y, S[k3]? = some y ∧ y.fin = r2.fin
              · obtain ⟨y, hyk, hyn⟩ := hin
                obtain ⟨b3, o3, hAe, rfl⟩ := hA3 (by have := (List.getElem?_eq_some_iff.1 hyk).1; omega)
                simp only [Option.some.injEq, Addr.mk.injEq] at hAe
                obtain ⟨rfl, rfl, -⟩ := hAe
                obtain ⟨b1, o1, c1', hv, d0, d1⟩ := run_at hr hyk
                simp only [Value.slice.injEq, Option.some.injEq, Addr.mk.injEq] at hv
                obtain ⟨⟨rfl, rfl, -⟩, -, rfl⟩ := hv
                rw [hyn] at d1
                obtain ⟨m, rfl⟩ : ∃ m, gk = m + 1 := ⟨gk - 1, by have := (List.getElem?_eq_some_iff.1 hyk).1; omega⟩
                have hnn := (rightB_iff.1 Hf.out).2.2 y (List.mem_of_getElem? hyk)
                have hsum := sumN_take_succ hyk
                have Hyk := Lib.hid hyk; have Hsum := Lib.hid hsum; have Hyn := Lib.hid hyn
                clear hyk hsum hr hA3 hyn
                generalize hfk : free + sumN (S.take k3) = fk at *
                have Hfk := Lib.hid hfk
                clear hfk
                gi_wp2
                refine wpIn_wide.2 (wp_region_cut 6 (by kernel_rfl) (by kernel_rfl) ?_)
                simp only [List.take_succ_cons, List.take_zero, List.drop_succ_cons, List.drop_zero]
                repeat (go_big_quiet_step ((fail)))
                refine wpQuiet_nil ?_
                intro nq2
                have HN := priv_set (HK.drewN nq2) (fk + y.nodes)
                clear HK
                by_cases hm : m = 0
                · subst hm
                  go_wp2
                  gi_wp2
                  go_roundg 0
                  case measure => omega
                  case rel =>
                    refine ⟨k3 + 1, ⟨_, rfl, by omega, fun h => by omega⟩, by omega, fun i y' hi1 hi2 hy' => ?_, ?_⟩
                    · rcases Nat.lt_or_ge i k3 with h | h
                      · exact Hsame.out i y' hi1 h hy'
                      · obtain rfl : i = k3 := by omega
                        rw [Hyk.out] at hy'
                        cases hy'
                        exact Hyn.out
                    · rw [Hsum.out, ← Int.add_assoc, Hfk.out]; exact HN
                · go_wp2
                  gi_wp2
                  go_roundg m
                  case measure => omega
                  case rel =>
                    refine ⟨k3 + 1, ⟨_, rfl, by omega, fun h => ⟨_, _, rfl, by rw [show o2 + (k3 + 1) * 2 = o2 + k3 * 2 + 2 by omega]⟩⟩, by omega, fun i y' hi1 hi2 hy' => ?_, ?_⟩
                    · rcases Nat.lt_or_ge i k3 with h | h
                      · exact Hsame.out i y' hi1 h hy'
                      · obtain rfl : i = k3 := by omega
                        rw [Hyk.out] at hy'
                        cases hy'
                        exact Hyn.out
                    · rw [Hsum.out, ← Int.add_assoc, Hfk.out]; exact HN
              · have hk3 : k2 < k3 := by
                  rcases Nat.lt_or_ge k2 k3 with h | h
                  · exact h
                  · obtain rfl : k3 = k2 := by omega
                    exact absurd ⟨r2, Hrk2.out, rfl⟩ hin
                have hC3 : CutAt S k3 r2.fin := by
                  refine ⟨fun i y hi hy => ?_, fun y hy => ?_⟩
                  · rcases Nat.lt_or_ge i k2 with h | h
                    · have := HC2.out.le i y h hy; omega
                    · have := Hsame.out i y h hi hy; omega
                  · have h1 := rise_at hS (by omega) Hrk2.out hy
                    have h2 : y.fin ≠ r2.fin := fun e => hin ⟨y, hy, e⟩
                    omega
                have hat := hC3.at hS (by omega) free
                have hx : T[j]? = some ⟨r2.fin, free + sumN (S.take k3)⟩ := by
                  have h1 : (T.drop j)[0]? = some ⟨r2.fin, atS free S r2.fin⟩ := by rw [HT2.out]; rfl
                  rw [List.getElem?_drop, hat] at h1
                  simpa using h1
                have hdr : T.drop (j + 1) = stepsT free S r2.fin := by rw [← List.drop_drop, HT2.out]; rfl
                have hj1 : j + 1 ≤ T.length := (List.getElem?_eq_some_iff.1 hx).1
                have HC3 := Lib.hid hC3; have Hx := Lib.hid hx; have Hdr := Lib.hid hdr
                have hex : gk = 0 ∨ ∃ y, S[k3]? = some y ∧ (y.fin == r2.fin) = false := by
                  rcases Nat.eq_zero_or_pos gk with h | h
                  · exact .inl h
                  · refine .inr ⟨_, List.getElem?_eq_getElem (show k3 < S.length by omega), ?_⟩
                    simp only [beq_eq_false_iff_ne]
                    exact fun e => hin ⟨_, List.getElem?_eq_getElem (show k3 < S.length by omega), e⟩
                clear hC3 hat hx hdr hin
                generalize hfk : free + sumN (S.take k3) = fk at *
                have Hfk := Lib.hid hfk
                clear hfk
                rcases hex with rfl | ⟨y, hyk, hyn⟩
                · clear hr hA3
                  have HK1 := HK
                  obtain ⟨fn, tmps, assign, body, hy, hR⟩ := HY.out j _ wr L2 _ Hx.out hJ2 HK
                  dsimp only [encIt] at hy
                  clear HK
                  gi_wp2
                  refine hR.mono ?_
                  rintro e W3 ⟨L3, H3, (⟨rfl, hJ3⟩ | ⟨rfl, hJx⟩)⟩
                  rotate_left
                  · gi_wp2
                    refine bodyPost_ret (results_none rfl _ _ _) rfl ?_
                    exact ⟨⟨_, rfl⟩, L3, H3.left, .inr hJx⟩
                  gi_wp2
                  clear hy hR c1 c2 c3 f3
                  go_roundg 0
                  case measure => omega
                  case rel => exact ⟨k3, j + 1, r2.fin, L3, ⟨_, rfl, hkm3, fun h => by omega⟩, HC3.out, hj1, Hdr.out, hJ3, by rw [Hfk.out]; exact H3⟩
                · obtain ⟨b3, o3, hAe, rfl⟩ := hA3 (by have := (List.getElem?_eq_some_iff.1 hyk).1; omega)
                  simp only [Option.some.injEq, Addr.mk.injEq] at hAe
                  obtain ⟨rfl, rfl, -⟩ := hAe
                  obtain ⟨b1, o1, c1', hv, d0, d1⟩ := run_at hr hyk
                  simp only [Value.slice.injEq, Option.some.injEq, Addr.mk.injEq] at hv
                  obtain ⟨⟨rfl, rfl, -⟩, -, rfl⟩ := hv
                  obtain ⟨m, rfl⟩ : ∃ m, gk = m + 1 := ⟨gk - 1, by have := (List.getElem?_eq_some_iff.1 hyk).1; omega⟩
                  clear hr hA3 hyk
                  have HK1 := HK
                  obtain ⟨fn, tmps, assign, body, hy, hR⟩ := HY.out j _ wr L2 _ Hx.out hJ2 HK
                  dsimp only [encIt] at hy
                  clear HK
                  gi_wp2
                  refine hR.mono ?_
                  rintro e W3 ⟨L3, H3, (⟨rfl, hJ3⟩ | ⟨rfl, hJx⟩)⟩
                  rotate_left
                  · gi_wp2
                    refine bodyPost_ret (results_none rfl _ _ _) rfl ?_
                    exact ⟨⟨_, rfl⟩, L3, H3.left, .inr hJx⟩
                  clear d0 d1 hyn
                  gi_wp2
                  clear hy hR c1 c2 c3 f3
                  go_roundg (m + 1)
                  case measure => omega
                  case rel => exact ⟨k3, j + 1, r2.fin, L3, ⟨_, rfl, hkm3, fun h => ⟨_, _, rfl, rfl⟩⟩, HC3.out, hj1, Hdr.out, hJ3, by rw [Hfk.out]; exact H3⟩
end Go.Proofs.Ytebibcaahjmjfaa

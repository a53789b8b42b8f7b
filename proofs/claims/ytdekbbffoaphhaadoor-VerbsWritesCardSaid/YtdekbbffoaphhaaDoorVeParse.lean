/- A line is read. -/
import Derived.Test.YtdekbbffoaphhaaDoorVeParseP
import Derived.Test.YtdekbbffoaphhaaDoorVePrintP
set_option linter.unusedVariables false
set_option linter.unusedSimpArgs false
namespace Go.Proofs.Ve
theorem split_size (sep : ByteArray) : ∀ (k : Nat) (s x : ByteArray), x ∈ Lib.splitB sep 0 k s → x.size ≤ s.size
  | 0, s, x, h => by rw [Lib.splitB_zero] at h; rw [List.mem_singleton.1 h]; exact Nat.le_refl _
  | k + 1, s, x, h => by
    unfold Lib.splitB at h
    split at h
    · rw [List.mem_singleton.1 h]; exact Nat.le_refl _
    · rcases List.mem_cons.1 h with rfl | h
      · rw [ByteArray.size_extract]; omega
      · have := split_size sep k _ x h
        rw [ByteArray.size_extract] at this
        omega
end Go.Proofs.Ve
namespace Go.Proofs.YtdekbbffoaphhaaDoor
open Go.RowKit Go.Proofs.HL Go.Proofs.Ve
section
variable {w0 w : World} {L : List At}
theorem boxC_put {b : Nat} {c d : Cm} (H : HL w0 w (boxC b c :: L)) : HL w0 ((((((((w.setCell ⟨b, 0, none⟩ (.int .i64 d.kind)).setCell ⟨b, 1, none⟩ (.string d.name)).setCell ⟨b, 2, none⟩ (.string d.par)).setCell ⟨b, 3, none⟩ (.int .i64 d.sh)).setCell ⟨b, 4, none⟩ (.int .i64 d.nd)).setCell ⟨b, 5, none⟩ (.int .i64 d.lm)).setCell ⟨b, 6, none⟩ (.int .i64 d.jb)).setCell ⟨b, 7, none⟩ (.int .i64 d.tk)) (boxC b d :: L) := by
  have h0 : HL w0 _ (boxC b ⟨d.kind, c.name, c.par, c.sh, c.nd, c.lm, c.jb, c.tk⟩ :: L) := HL.setCell H 0 (.int .i64 d.kind)
  have h1 : HL w0 _ (boxC b ⟨d.kind, d.name, c.par, c.sh, c.nd, c.lm, c.jb, c.tk⟩ :: L) := HL.setCell h0 1 (.string d.name)
  have h2 : HL w0 _ (boxC b ⟨d.kind, d.name, d.par, c.sh, c.nd, c.lm, c.jb, c.tk⟩ :: L) := HL.setCell h1 2 (.string d.par)
  have h3 : HL w0 _ (boxC b ⟨d.kind, d.name, d.par, d.sh, c.nd, c.lm, c.jb, c.tk⟩ :: L) := HL.setCell h2 3 (.int .i64 d.sh)
  have h4 : HL w0 _ (boxC b ⟨d.kind, d.name, d.par, d.sh, d.nd, c.lm, c.jb, c.tk⟩ :: L) := HL.setCell h3 4 (.int .i64 d.nd)
  have h5 : HL w0 _ (boxC b ⟨d.kind, d.name, d.par, d.sh, d.nd, d.lm, c.jb, c.tk⟩ :: L) := HL.setCell h4 5 (.int .i64 d.lm)
  have h6 : HL w0 _ (boxC b ⟨d.kind, d.name, d.par, d.sh, d.nd, d.lm, d.jb, c.tk⟩ :: L) := HL.setCell h5 6 (.int .i64 d.jb)
  exact HL.setCell h6 7 (.int .i64 d.tk)
theorem boxC_cells {b : Nat} {c : Cm} (H : HL w0 w (boxC b c :: L)) : w.cell? ⟨b, 0, none⟩ = some (.int .i64 c.kind) ∧ w.cell? ⟨b, 1, none⟩ = some (.string c.name) ∧ w.cell? ⟨b, 2, none⟩ = some (.string c.par) ∧ w.cell? ⟨b, 3, none⟩ = some (.int .i64 c.sh) ∧ w.cell? ⟨b, 4, none⟩ = some (.int .i64 c.nd) ∧ w.cell? ⟨b, 5, none⟩ = some (.int .i64 c.lm) ∧ w.cell? ⟨b, 6, none⟩ = some (.int .i64 c.jb) ∧ w.cell? ⟨b, 7, none⟩ = some (.int .i64 c.tk) :=
  ⟨boxC_at H (List.mem_cons_self ..) 0, boxC_at H (List.mem_cons_self ..) 1, boxC_at H (List.mem_cons_self ..) 2, boxC_at H (List.mem_cons_self ..) 3, boxC_at H (List.mem_cons_self ..) 4, boxC_at H (List.mem_cons_self ..) 5, boxC_at H (List.mem_cons_self ..) 6, boxC_at H (List.mem_cons_self ..) 7⟩
theorem boxC_froz {b : Nat} {c : Cm} (H : HL w0 w (boxC b c :: L)) : w.frozen? ⟨b, 0, none⟩ = false ∧ w.frozen? ⟨b, 1, none⟩ = false ∧ w.frozen? ⟨b, 2, none⟩ = false ∧ w.frozen? ⟨b, 3, none⟩ = false ∧ w.frozen? ⟨b, 4, none⟩ = false ∧ w.frozen? ⟨b, 5, none⟩ = false ∧ w.frozen? ⟨b, 6, none⟩ = false ∧ w.frozen? ⟨b, 7, none⟩ = false :=
  ⟨boxC_frozen H (List.mem_cons_self ..) 0, boxC_frozen H (List.mem_cons_self ..) 1, boxC_frozen H (List.mem_cons_self ..) 2, boxC_frozen H (List.mem_cons_self ..) 3, boxC_frozen H (List.mem_cons_self ..) 4, boxC_frozen H (List.mem_cons_self ..) 5, boxC_frozen H (List.mem_cons_self ..) 6, boxC_frozen H (List.mem_cons_self ..) 7⟩
set_option maxRecDepth 100000 in
set_option maxHeartbeats 8000000 in
theorem parse_ok (hD : Doors w0) (H : HL w0 w L) (line : ByteArray) (hl : line.size ≤ 140737488351232) :
    Calls Tryd.prog 11 #[.string line] w fun e w' => e = .returned (.tuple #[cmV (parseR line).1, .int .i64 (parseR line).2]) ∧ HL w0 w' L := by
  have H1 : HL w0 (w.alloc (.cells #[.int .i64 0, .string ⟨#[]⟩, .string ⟨#[]⟩, .int .i64 0, .int .i64 0, .int .i64 0, .int .i64 0, .int .i64 0] 24)) (boxC w.heap.size (zeroC 0) :: L) := HL.allocC H (zeroC 0)
  obtain ⟨y0, y1, y2, y3, y4, y5, y6, y7⟩ := boxC_froz H1
  obtain ⟨n0, n1, n2, n3, n4, n5, n6, n7⟩ := boxC_cells H1
  generalize hb2 : w.heap.size = b2 at *
  by_cases hlong : 256 < line.size
  · have hr : parseR line = (zeroC 0, 80) := by unfold parseR; rw [if_pos hlong]
    rw [hr]
    clear hr
    go_enter Tryd.func11, Tryd.ntmps11
    go_wp2
    refine bodyPost_ret (v := .tuple #[cmV (zeroC 0), .int .i64 80]) (by simp [results, Tryd.results11, go_sem, n0, n1, n2, n3, n4, n5, n6, n7]; try rfl) rfl ?_
    exact ⟨rfl, H1.tail⟩
  · obtain ⟨-, -, -, -, m, hm⟩ := hD.keep H1
    have hsp := Tryd.strings_Split line blankS m _ (by omega) hm (by decide)
    rw [← words_length line, show Lib.splitB blankS 0 (Lib.countB line blankS) line = wordsOf line from rfl] at hsp
    have hws : ∀ x ∈ wordsOf line, x.size ≤ 140737488351232 := fun x hx => by have := split_size _ _ _ _ hx; omega
    have hwl : (wordsOf line).length ≤ 4294967281 := by
      have : Lib.countB line blankS ≤ line.size := Lib.countB_le blankS (by decide) _ _ (Nat.le_refl _)
      rw [words_length]; omega
    have hpos : 0 < (wordsOf line).length := by rw [words_length]; omega
    rw [show parseR line = parseW (wordsOf line) from by unfold parseR; rw [if_neg hlong]]
    generalize wordsOf line = W at *
    have HWS := Lib.hid hws
    have H2 := (H1.alloc (.cells (W.map Value.string).toArray 9)).rowOf (k := 1) (n := W.length) (cs := W.map Value.string) (by simp) (by unfold maxLen; omega)
    rw [World.size_alloc, hb2] at H2
    clear hws hm n0 n1 n2 n3 n4 n5 n6 n7 y0 y1 y2 y3 y4 y5 y6 y7 H
    go_enter Tryd.func11, Tryd.ntmps11
    go_wp2_with (first
      | (go_at_call 27; refine hsp.mono ?_; rintro e w2 ⟨rfl, rfl⟩)
      | (go_at_call 28; refine (verbs_ok H2).mono ?_; rintro e w1 ⟨v, us, K, rfl, H3, hvr⟩; obtain ⟨_, bt, ot, ct, -, rfl, -, -, -⟩ := verb_at (hvr _ _ H3) (k := 0) rfl))
    have HVR := Lib.hid hvr; have Hb2 := Lib.hid hb2
    have H4 : HL w0 w1 (K ++ strs w0.heap.size (.slice (some ⟨b2 + 1, 0, none⟩) W.length W.length) W :: boxC b2 (zeroC 0) :: L) := H3
    clear hvr hb2 hsp H3 H1 H2
    go_loopg [18] 13 (fun g i wr => ∃ k : Nat, i = .int .i64 k ∧ k + g = 13 ∧ (∀ j V, j < k → verbL[j]? = some V → decide (V.word = W.headD ⟨#[]⟩) = false) ∧ HL w0 wr (K ++ strs w0.heap.size (.slice (some ⟨b2 + 1, 0, none⟩) W.length W.length) W :: boxC b2 (zeroC 0) :: L))
    case atStart => exact ⟨0, rfl, rfl, (fun j V h => by omega), H4⟩
    case round =>
      obtain ⟨k, rfl, hk, hno, HK⟩ := hrel
      clear H4
      have HNO := Lib.hid hno
      clear hno
      by_cases hlt : k < 13
      · obtain ⟨V, hV⟩ : ∃ V, verbL[k]? = some V := ⟨_, List.getElem?_eq_getElem hlt⟩
        obtain ⟨u, b3, o3, c3, hu, hv, d0, d1, d2⟩ := verb_at (HVR.out _ _ HK) hV
        simp only [Value.slice.injEq, Option.some.injEq, Addr.mk.injEq] at hv
        obtain ⟨⟨rfl, rfl, -⟩, -, rfl⟩ := hv
        have hF := (HVR.out _ _ HK).fs k V u hV hu
        obtain ⟨Au, cu, rfl, hu1, hu2⟩ := rd_shape hF
        unfold maxLen at hu2
        have hVm := List.mem_of_getElem? hV
        have hfew := fs_few V hVm
        have hVle := fs_le V hVm
        have HV := Lib.hid hV; have HU := Lib.hid hu; have HLE := Lib.hid hVle
        clear hV hu hF hVle hVm
        have HX := (HL.allocV HK V (.slice Au V.fs.length cu))
        generalize hb4 : wr.heap.size = b4 at HX
        obtain ⟨s0, hs0⟩ : ∃ s, W[0]? = some s := ⟨_, List.getElem?_eq_getElem hpos⟩
        have hhead : W.headD ⟨#[]⟩ = s0 := by cases W with
          | nil => simp at hs0
          | cons x r => simpa using hs0
        go_upto_region 7 with (fail)
        have e0 := (HX.drops (K := boxV b4 V (.slice Au V.fs.length cu) :: K)).rowCell (E := 9) (k := 1) (List.mem_cons_self ..) 0 (.string s0) (by rw [List.getElem?_map, hs0]; rfl)
        have e1 := boxV_at HX (List.mem_cons_self ..) 1
        have e2 := boxV_at HX (List.mem_cons_self ..) 2
        have Hb4 := Lib.hid hb4; have HS0 := Lib.hid hs0; have HHD := Lib.hid hhead
        clear hb4 hs0 hhead d0 d1 d2 HK
        generalize World.alloc _ _ = W2 at *
        by_cases hw : V.word = s0
        · have hq : (V.word.toList == s0.toList) = true := by rw [hw]; exact beq_self_eq_true _
          have hfind : verbL.find? (fun v => decide (v.word = W.headD ⟨#[]⟩)) = some V := find_at verbL k V HV.out (by rw [HHD.out]; simp [hw]) HNO.out
          have HF := Lib.hid hfind
          clear hw hfind
          go_quiet (fail)
          have HX2 := HX.drewN nq
          clear e0 e1 e2 HX
          generalize W2.drewN nq = W3 at *
          have e0 := boxV_at HX2 (List.mem_cons_self ..) 0
          have e2 := boxV_at HX2 (List.mem_cons_self ..) 2
          by_cases hwn : W.length = V.fs.length + 1
          · have hq2 : ((W.length : Int) != (V.fs.length : Int) + 1) = false := by simp; omega
            have HWN := Lib.hid hwn
            clear hwn
            have HB : HL w0 (W3.alloc (.cells #[.int .i64 V.kind, .string ⟨#[]⟩, .string ⟨#[]⟩, .int .i64 0, .int .i64 0, .int .i64 0, .int .i64 0, .int .i64 0] 24)) (boxC W3.heap.size (zeroC V.kind) :: boxV b4 V (.slice Au V.fs.length cu) :: (K ++ strs w0.heap.size (.slice (some ⟨b2 + 1, 0, none⟩) W.length W.length) W :: boxC b2 (zeroC 0) :: L)) := HL.allocC HX2 (zeroC V.kind)
            have e3 := boxV_at HB (b := b4) (V := V) (u := .slice Au V.fs.length cu) (by simp) 2
            generalize hb7 : W3.heap.size = b7 at HB
            go_wp2
            clear e0 e2 e3 HX2
            have Hb7 := Lib.hid hb7
            clear hb7
            generalize World.alloc _ _ = W5 at *
            try rw [show decide ((k : Int) < 13) = true from decide_eq_true (by omega)]
            go_loopg [42] V.fs.length (fun g i wq => ∃ (j : Nat) (o : Cm), i = .int .i64 j ∧ j + g = V.fs.length ∧ readAll (zeroC V.kind) V.fs W.tail = readAll o (V.fs.drop j) (W.drop (j + 1)) ∧ HL w0 wq (boxC b7 o :: boxV b4 V (.slice Au V.fs.length cu) :: (K ++ strs w0.heap.size (.slice (some ⟨b2 + 1, 0, none⟩) W.length W.length) W :: boxC b2 (zeroC 0) :: L)))
            case atStart => exact ⟨0, zeroC V.kind, rfl, by omega, by rw [List.drop_zero, List.drop_one], HB⟩
            case round =>
              obtain ⟨j, o, rfl, hj, hra, HJ⟩ := hrel
              clear HB
              have HRA := Lib.hid hra
              clear hra
              by_cases hlj : j < V.fs.length
              · obtain ⟨f, hf⟩ : ∃ f, V.fs[j]? = some f := ⟨_, List.getElem?_eq_getElem hlj⟩
                have hjw : j + 1 < W.length := by rw [HWN.out]; omega
                obtain ⟨s, hs⟩ : ∃ s, W[j + 1]? = some s := ⟨_, List.getElem?_eq_getElem hjw⟩
                have hf6 := HLE.out f (List.mem_of_getElem? hf)
                have hdf : V.fs.drop j = f :: V.fs.drop (j + 1) := by rw [List.drop_eq_getElem_cons hlj]; congr 1; exact (List.getElem?_eq_some_iff.1 hf).2
                have hdw : W.drop (j + 1) = s :: W.drop (j + 1 + 1) := by rw [List.drop_eq_getElem_cons hjw]; congr 1; exact (List.getElem?_eq_some_iff.1 hs).2
                obtain ⟨bf, of', cf, hvf, df⟩ := nat_at ((HVR.out _ _ HJ.tail.tail).fs k V _ HV.out HU.out) hf
                simp only [Value.slice.injEq] at hvf
                obtain ⟨rfl, -, rfl⟩ := hvf
                have ew := (HJ.tail.tail.drops).rowCell (E := 9) (k := 1) (List.mem_cons_self ..) (j + 1) (.string s) (by rw [List.getElem?_map, hs]; rfl)
                have hread := read_ok hD HJ f hf6 s (HWS.out s (List.mem_of_getElem? hs))
                have hnext : readAll (zeroC V.kind) V.fs W.tail = match readF o f s with | none => none | some p => readAll p (V.fs.drop (j + 1)) (W.drop (j + 1 + 1)) := by rw [HRA.out, hdf, hdw]; rfl
                have HNX := Lib.hid hnext
                clear hdf hdw hnext hf hs
                go_upto_if 54 with (go_at_call 29; refine hread.mono ?_; rintro e w7 ⟨B, rfl, o', H7, hB⟩; clear hread HJ df ew)
                cases hrf : readF o f s with
                | none =>
                  rw [hrf] at hB
                  obtain rfl : B = false := hB
                  have hr : parseW W = (zeroC 0, 83) := by unfold parseW; rw [HF.out]; simp only; rw [if_pos HWN.out, HNX.out, hrf]
                  have HR := Lib.hid hr
                  clear hr hrf
                  have HB := (HL.drops H7.tail.tail).tail
                  obtain ⟨n0, n1, n2, n3, n4, n5, n6, n7⟩ := boxC_cells HB
                  obtain ⟨y0, y1, y2, y3, y4, y5, y6, y7⟩ := boxC_froz HB
                  have HS := boxC_put (d := zeroC 0) HB
                  go_wp2
                  clear n0 n1 n2 n3 n4 n5 n6 n7 y0 y1 y2 y3 y4 y5 y6 y7 HB H7
                  simp only [zeroC] at HS
                  generalize World.setCell _ _ _ = W9 at *
                  obtain ⟨n0, n1, n2, n3, n4, n5, n6, n7⟩ := boxC_cells HS
                  refine bodyPost_ret (v := .tuple #[cmV (zeroC 0), .int .i64 83]) (by simp [results, Tryd.results11, go_sem, n0, n1, n2, n3, n4, n5, n6, n7]; try rfl) rfl ?_
                  exact ⟨by rw [HR.out], HS.tail⟩
                | some p =>
                  rw [hrf] at hB
                  obtain ⟨rfl, rfl⟩ := hB
                  have HRF := Lib.hid hrf
                  clear hrf
                  go_wp2
                  go_roundg (gk - 1)
                  case measure => omega
                  case rel => exact ⟨j + 1, o', by go_num, by omega, by rw [HNX.out, HRF.out], H7⟩
              · have hend : readAll (zeroC V.kind) V.fs W.tail = some o := by
                  rw [HRA.out, List.drop_eq_nil_of_le (by omega)]
                  rfl
                have hr : parseW W = (o, 0) := by unfold parseW; rw [HF.out]; simp only; rw [if_pos HWN.out, hend]
                have HR := Lib.hid hr
                clear hr hend
                have HB := (HL.drops HJ.tail.tail).tail
                obtain ⟨n0, n1, n2, n3, n4, n5, n6, n7⟩ := boxC_cells HB
                obtain ⟨y0, y1, y2, y3, y4, y5, y6, y7⟩ := boxC_froz HB
                obtain ⟨x0, x1, x2, x3, x4, x5, x6, x7⟩ := boxC_cells HJ
                have HS := boxC_put (d := o) HB
                go_wp2
                clear n0 n1 n2 n3 n4 n5 n6 n7 y0 y1 y2 y3 y4 y5 y6 y7 x0 x1 x2 x3 x4 x5 x6 x7 HB HJ
                generalize World.setCell _ _ _ = W9 at *
                obtain ⟨n0, n1, n2, n3, n4, n5, n6, n7⟩ := boxC_cells HS
                refine bodyPost_ret (v := .tuple #[cmV o, .int .i64 0]) (by simp [results, Tryd.results11, go_sem, n0, n1, n2, n3, n4, n5, n6, n7]; try rfl) rfl ?_
                exact ⟨by rw [HR.out], HS.tail⟩
          · have hq2 : ((W.length : Int) != (V.fs.length : Int) + 1) = true := by simp; omega
            have hr : parseW W = (zeroC 0, 82) := by unfold parseW; rw [HF.out]; simp only; rw [if_neg hwn]
            have HR := Lib.hid hr
            have HB := (HL.drops HX2.tail).tail
            obtain ⟨n0, n1, n2, n3, n4, n5, n6, n7⟩ := boxC_cells HB
            obtain ⟨y0, y1, y2, y3, y4, y5, y6, y7⟩ := boxC_froz HB
            have HS := boxC_put (d := zeroC 0) HB
            clear hr hwn
            go_wp2
            clear n0 n1 n2 n3 n4 n5 n6 n7 y0 y1 y2 y3 y4 y5 y6 y7 HB HX2 e0 e2
            simp only [zeroC] at HS
            generalize World.setCell _ _ _ = W9 at *
            obtain ⟨n0, n1, n2, n3, n4, n5, n6, n7⟩ := boxC_cells HS
            refine bodyPost_ret (v := .tuple #[cmV (zeroC 0), .int .i64 82]) (by simp [results, Tryd.results11, go_sem, n0, n1, n2, n3, n4, n5, n6, n7]; try rfl) rfl ?_
            exact ⟨by rw [HR.out], HS.tail⟩
        · have hq : (V.word.toList == s0.toList) = false := by
            rw [beq_eq_false_iff_ne]
            exact fun h => hw (bytes_same h)
          have HW := Lib.hid (show decide (V.word = W.headD ⟨#[]⟩) = false by rw [HHD.out]; simp [hw])
          clear hw
          go_quiet (fail)
          have HX2 := HX.drewN nq
          clear e0 e1 e2 HX
          generalize W2.drewN nq = W3 at *
          go_wp2
          go_roundg (gk - 1)
          case measure => omega
          case rel =>
            refine ⟨k + 1, by go_num, by omega, fun j V2 hj hV2 => ?_, HX2.tail⟩
            rcases Nat.lt_or_ge j k with h | h
            · exact HNO.out j V2 h hV2
            · obtain rfl : j = k := by omega
              rw [HV.out] at hV2
              obtain rfl := Option.some.inj hV2
              exact HW.out
      · have hr : parseW W = (zeroC 0, 81) := by
          unfold parseW
          rw [find_no (fun j V hj hV => HNO.out j V (Nat.lt_of_lt_of_le hj (by have : verbL.length = 13 := rfl; omega)) hV)]
        have HR := Lib.hid hr
        have HB := (HL.drops HK).tail
        obtain ⟨y0, y1, y2, y3, y4, y5, y6, y7⟩ := boxC_froz HB
        obtain ⟨n0, n1, n2, n3, n4, n5, n6, n7⟩ := boxC_cells HB
        have HS := boxC_put (d := zeroC 0) HB
        clear hr HK
        go_wp2
        clear n0 n1 n2 n3 n4 n5 n6 n7 y0 y1 y2 y3 y4 y5 y6 y7 HB
        simp only [zeroC] at HS
        generalize World.setCell _ _ _ = W9 at *
        obtain ⟨n0, n1, n2, n3, n4, n5, n6, n7⟩ := boxC_cells HS
        refine bodyPost_ret (v := .tuple #[cmV (zeroC 0), .int .i64 81]) (by simp [results, Tryd.results11, go_sem, n0, n1, n2, n3, n4, n5, n6, n7]; try rfl) rfl ?_
        exact ⟨by rw [HR.out], HS.tail⟩
end
end Go.Proofs.YtdekbbffoaphhaaDoor

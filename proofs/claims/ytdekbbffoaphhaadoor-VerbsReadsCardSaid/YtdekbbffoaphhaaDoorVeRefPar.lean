/- The reference's parse. -/
import Derived.Test.YtdekbbffoaphhaaDoorVeRefSpl
import Derived.Test.YtdekbbffoaphhaaDoorVeRefChk
import Derived.Test.YtdekbbffoaphhaaDoorVeParse
set_option linter.unusedVariables false
set_option linter.unusedSimpArgs false
namespace Go.Proofs.Ve
theorem wordK_at {k : Nat} {V : Verb} (h : verbL[k]? = some V) : wordK ((k : Int) + 1) = (V.word, formB V) := by
  have hk : k < 13 := (List.getElem?_eq_some_iff.1 h).1
  rcases (show k = 0 ∨ k = 1 ∨ k = 2 ∨ k = 3 ∨ k = 4 ∨ k = 5 ∨ k = 6 ∨ k = 7 ∨ k = 8 ∨ k = 9 ∨ k = 10 ∨ k = 11 ∨ k = 12 by omega) with rfl | rfl | rfl | rfl | rfl | rfl | rfl | rfl | rfl | rfl | rfl | rfl | rfl <;> (simp only [verbL, List.getElem?_cons_zero, List.getElem?_cons_succ, Option.some.injEq] at h; subst h; rfl)
theorem kind_at {k : Nat} {V : Verb} (h : verbL[k]? = some V) : V.kind = (k : Int) + 1 := by
  have hk : k < 13 := (List.getElem?_eq_some_iff.1 h).1
  rcases (show k = 0 ∨ k = 1 ∨ k = 2 ∨ k = 3 ∨ k = 4 ∨ k = 5 ∨ k = 6 ∨ k = 7 ∨ k = 8 ∨ k = 9 ∨ k = 10 ∨ k = 11 ∨ k = 12 by omega) with rfl | rfl | rfl | rfl | rfl | rfl | rfl | rfl | rfl | rfl | rfl | rfl | rfl <;> (simp only [verbL, List.getElem?_cons_zero, List.getElem?_cons_succ, Option.some.injEq] at h; subst h; rfl)
/-- What the search has found among the first k. -/
def Picked (s0 : ByteArray) (k : Nat) (kd : Int) (F : ByteArray) : Prop :=
  match (verbL.take k).find? (fun v => decide (v.word = s0)) with | some V => kd = V.kind ∧ F = formB V | none => kd = 0 ∧ F = ⟨#[]⟩
theorem words_apart : ∀ j : Fin 13, ∀ k : Fin 13, j.val < k.val → (verbL.map (·.word))[j.val]? ≠ (verbL.map (·.word))[k.val]? := by decide +kernel
theorem picked_hit {s0 F : ByteArray} {k : Nat} {kd : Int} {V : Verb} (h : Picked s0 k kd F) (hV : verbL[k]? = some V) (hw : V.word = s0) : Picked s0 (k + 1) V.kind (formB V) := by
  have hk : k < 13 := (List.getElem?_eq_some_iff.1 hV).1
  unfold Picked at *
  rw [List.take_add_one, hV, List.find?_append]
  cases hf : (verbL.take k).find? (fun v => decide (v.word = s0)) with
  | none => simp [hw]
  | some U =>
    have h1 := List.find?_some hf
    have h2 := List.mem_of_find?_eq_some hf
    obtain ⟨j, hj, he⟩ := List.getElem_of_mem h2
    rw [List.length_take] at hj
    have hj2 : j < k := by omega
    have hU : verbL[j]? = some U := by
      rw [List.getElem_take] at he
      rw [← he, List.getElem?_eq_getElem]
    exfalso
    refine words_apart ⟨j, by omega⟩ ⟨k, hk⟩ hj2 ?_
    show (verbL.map (·.word))[j]? = (verbL.map (·.word))[k]?
    rw [List.getElem?_map, List.getElem?_map, hU, hV]
    simp only [decide_eq_true_eq] at h1
    simp [h1, hw]
theorem picked_miss {s0 F : ByteArray} {k : Nat} {kd : Int} {V : Verb} (h : Picked s0 k kd F) (hV : verbL[k]? = some V) (hw : V.word ≠ s0) : Picked s0 (k + 1) kd F := by
  unfold Picked at *
  rw [List.take_add_one, hV, List.find?_append]
  cases hf : (verbL.take k).find? (fun v => decide (v.word = s0)) with
  | none => rw [hf] at h; simp [hw]; exact h
  | some U => rw [hf] at h; simpa using h
theorem picked_all {s0 F : ByteArray} {kd : Int} (h : Picked s0 13 kd F) : (kd = 0 ∧ verbL.find? (fun v => decide (v.word = s0)) = none) ∨ ∃ V, V ∈ verbL ∧ kd = V.kind ∧ F = formB V ∧ verbL.find? (fun v => decide (v.word = s0)) = some V := by
  unfold Picked at h
  rw [show verbL.take 13 = verbL from rfl] at h
  cases hf : verbL.find? (fun v => decide (v.word = s0)) with
  | none => rw [hf] at h; exact .inl ⟨h.1, rfl⟩
  | some V => rw [hf] at h; exact .inr ⟨V, List.mem_of_find?_eq_some hf, h.1, h.2, rfl⟩
theorem kind_pos : ∀ V ∈ verbL, 1 ≤ V.kind := by decide
theorem readF_num {o : Cm} {f : Nat} (h : ¬ f < 2) (s : ByteArray) : readF o f s = if (numV s).2 = true then some (setN o f (numV s).1) else none := by
  have ha := atoi_num s.data.toList
  unfold readF
  rw [if_neg h]
  unfold atoiN at ha
  unfold numV
  cases hn : numR 9223372036854775807 s.data.toList with
  | some n =>
    rw [hn] at ha
    revert ha
    split
    · rename_i m hm
      intro ha
      simp only [hm]
      split at ha
      · rename_i hc
        rw [if_pos hc]
        simp only [Option.map_some, Option.some.injEq] at ha
        simp [ha]
      · cases ha
    · intro ha; cases ha
  | none =>
    rw [hn] at ha
    revert ha
    split
    · rename_i m hm
      intro ha
      simp only [hm]
      split at ha
      · cases ha
      · rename_i hc
        rw [if_neg hc]
        simp
    · intro ha
      rename_i hm
      cases hA : Lib.atoiAll s.data.toList with
      | ok n => exact absurd hA (hm n)
      | «syntax» => simp
      | range => simp
end Go.Proofs.Ve
namespace Go.Proofs.YtdekbbffoaphhaaDoor
open Go.RowKit Go.Proofs.HL Go.Proofs.Ve
section
variable {w0 w : World} {L : List At}
set_option maxRecDepth 100000 in
set_option maxHeartbeats 8000000 in
theorem Ref.parse_ok (H : HL w0 w L) (line : ByteArray) (hl : line.size ≤ 140737488351232) :
    Calls Tryd.prog 12 #[.string line] w fun e w' => e = .returned (.tuple #[cmV (parseR line).1, .int .i64 (parseR line).2]) ∧ HL w0 w' L := by
  have H1 : HL w0 (w.alloc (.cells #[.int .i64 0, .string ⟨#[]⟩, .string ⟨#[]⟩, .int .i64 0, .int .i64 0, .int .i64 0, .int .i64 0, .int .i64 0] 24)) (boxC w.heap.size (zeroC 0) :: L) := HL.allocC H (zeroC 0)
  obtain ⟨y0, y1, y2, y3, y4, y5, y6, y7⟩ := boxC_froz H1
  obtain ⟨n0, n1, n2, n3, n4, n5, n6, n7⟩ := boxC_cells H1
  generalize hb2 : w.heap.size = b2 at *
  by_cases hlong : 256 < line.size
  · have hr : parseR line = (zeroC 0, 80) := by unfold parseR; rw [if_pos hlong]
    rw [hr]
    clear hr
    go_enter Tryd.func12, Tryd.ntmps12
    go_wp2
    refine bodyPost_ret (v := .tuple #[cmV (zeroC 0), .int .i64 80]) (by simp [results, Tryd.results12, go_sem, n0, n1, n2, n3, n4, n5, n6, n7]; try rfl) rfl ?_
    exact ⟨rfl, H1.tail⟩
  · have hsp := Ref.split_ok H1 line (by omega)
    rw [show parseR line = parseW (wordsOf line) from by unfold parseR; rw [if_neg hlong]]
    have hwc := words_cut line
    have hmemW : ∀ W : List ByteArray, W.map (·.data.toList) = cutL line.data.toList → W = wordsOf line := fun W h => map_bytes (h.trans hwc.symm)
    have HMW := Lib.hid hmemW
    have hpos : 0 < (wordsOf line).length := by rw [words_length]; omega
    have hws : ∀ x ∈ wordsOf line, x.size ≤ 256 := fun x hx => by have := split_size _ _ _ _ hx; omega
    have hwl : (wordsOf line).length ≤ 257 := by
      have : Lib.countB line blankS ≤ line.size := Lib.countB_le blankS (by decide) _ _ (Nat.le_refl _)
      rw [words_length]; omega
    have HWS := Lib.hid hws
    generalize wordsOf line = W at *
    clear hws hwc hmemW H n0 n1 n2 n3 n4 n5 n6 n7 y0 y1 y2 y3 y4 y5 y6 y7
    go_enter Tryd.func12, Tryd.ntmps12
    go_upto_region 4 with (go_at_call 30; refine hsp.mono ?_; rintro e w2 ⟨v, W', rfl, hW', H2⟩; obtain rfl := HMW.out W' hW'; clear hsp H1 hW')
    have H3 := HL.allocC H2 (zeroC 0)
    have hb5 : ∃ b5, w2.heap.size = b5 := ⟨_, rfl⟩
    obtain ⟨b5, hb5⟩ := hb5
    rw [hb5] at H3
    clear H2
    obtain ⟨s0, hs0⟩ : ∃ s, W'[0]? = some s := ⟨_, List.getElem?_eq_getElem hpos⟩
    have hhead : W'.headD ⟨#[]⟩ = s0 := by cases W' with
      | nil => simp at hs0
      | cons x r => simpa using hs0
    obtain ⟨A5, c5, rfl, hA5, h51, h52⟩ := row_shape (show World.ownsRow _ w0.heap.size 9 1 v W'.length (W'.map fun s => .string s) from H3.tail.head)
    unfold maxLen at h52
    obtain ⟨g, rfl⟩ := hA5.resolve_left (by omega)
    go_wp2
    have HB5 := Lib.hid hb5; have HHD := Lib.hid hhead; have HB2 := Lib.hid hb2
    clear hb2
    have hs0m : Value.string s0 = Value.string s0 := rfl
    have hcell0 : (W'.map fun s => Value.string s)[0]? = some (.string s0) := by rw [List.getElem?_map, hs0]; rfl
    have HC0 := Lib.hid hcell0
    clear hb5 hhead hs0 hs0m hcell0
    go_loopg [6, 7] 13 (fun q f i wr => ∃ (k : Nat) (kd : Int) (F : ByteArray), i = .int .i64 ((k : Int) + 1) ∧ f = .string F ∧ k + q = 13 ∧ Picked s0 k kd F ∧ HL w0 wr (boxC b5 (zeroC kd) :: strs w0.heap.size (.slice (some ⟨g, 0, none⟩) W'.length c5) W' :: boxC b2 (zeroC 0) :: L))
    case atStart => exact ⟨0, 0, ⟨#[]⟩, rfl, rfl, rfl, ⟨rfl, rfl⟩, H3⟩
    case round =>
      obtain ⟨k, kd, F, rfl, rfl, hk, hP, HK⟩ := hrel
      clear H3
      have HP := Lib.hid hP
      clear hP
      by_cases hlt : k < 13
      · obtain ⟨V, hV⟩ : ∃ V, verbL[k]? = some V := ⟨_, List.getElem?_eq_getElem hlt⟩
        have hwd := fun W => Ref.word_ok ((k : Int) + 1) W
        rw [wordK_at hV] at hwd
        have hkd := kind_at hV
        have e0 := HK.tail.rowCell (E := 9) (k := 1) (List.mem_cons_self ..) 0 (.string s0) HC0.out
        have z0 := boxC_frozen HK (List.mem_cons_self ..) 0
        have e1 := boxC_at HK (List.mem_cons_self ..) 0
        by_cases hw : V.word = s0
        · have hq : (V.word.toList == s0.toList) = true := by rw [hw]; exact beq_self_eq_true _
          have hnx := picked_hit HP.out hV hw
          rw [hkd] at hnx
          have HN := Lib.hid hnx
          have HS : HL w0 (wr.setCell ⟨b5, 0, none⟩ (.int .i64 ((k : Int) + 1))) (boxC b5 (zeroC ((k : Int) + 1)) :: strs w0.heap.size (.slice (some ⟨g, 0, none⟩) W'.length c5) W' :: boxC b2 (zeroC 0) :: L) := HL.setCell HK 0 (.int .i64 ((k : Int) + 1))
          clear hnx hV hw hkd HK
          generalize formB V = F1 at *
          generalize V.word = V1 at *
          go_wp2_with (go_at_call 31; refine (hwd _).mono ?_; rintro e w3 ⟨rfl, rfl⟩)
          go_roundg (gk - 1)
          case measure => omega
          case rel => exact ⟨k + 1, (k : Int) + 1, F1, by go_num, rfl, by omega, HN.out, HS⟩
        · have hq : (V.word.toList == s0.toList) = false := by
            rw [beq_eq_false_iff_ne]
            exact fun h => hw (bytes_same h)
          have HN := Lib.hid (picked_miss HP.out hV hw)
          clear hV hw hkd
          generalize formB V = F1 at *
          generalize V.word = V1 at *
          go_wp2_with (go_at_call 31; refine (hwd _).mono ?_; rintro e w3 ⟨rfl, rfl⟩)
          go_roundg (gk - 1)
          case measure => omega
          case rel => exact ⟨k + 1, kd, F, by go_num, rfl, by omega, HN.out, HK⟩
      · have hg1 : decide ((k : Int) + 1 ≤ 13) = false := decide_eq_false (by omega)
        have hg2 : (13 : Int) < (k : Int) + 1 := by omega
        have hp13 : Picked s0 13 kd F := by have := HP.out; rwa [show k = 13 by omega] at this
        rcases picked_all hp13 with ⟨rfl, hnone⟩ | ⟨V, hVm, rfl, rfl, hsome⟩
        · have hr : parseW W' = (zeroC 0, 81) := by unfold parseW; rw [HHD.out, hnone]
          have HR := Lib.hid hr
          have HB := HK.tail.tail
          obtain ⟨y0, y1, y2, y3, y4, y5, y6, y7⟩ := boxC_froz HB
          obtain ⟨n0, n1, n2, n3, n4, n5, n6, n7⟩ := boxC_cells HB
          have e1 := boxC_at HK (List.mem_cons_self ..) 0
          have HS := boxC_put (d := zeroC 0) HB
          clear hr HK hnone hp13
          go_wp2
          clear n0 n1 n2 n3 n4 n5 n6 n7 y0 y1 y2 y3 y4 y5 y6 y7 HB e1
          simp only [zeroC] at HS
          generalize World.setCell _ _ _ = W9 at *
          obtain ⟨n0, n1, n2, n3, n4, n5, n6, n7⟩ := boxC_cells HS
          refine bodyPost_ret (v := .tuple #[cmV (zeroC 0), .int .i64 81]) (by simp [results, Tryd.results12, go_sem, n0, n1, n2, n3, n4, n5, n6, n7]; try rfl) rfl ?_
          exact ⟨by rw [HR.out], HS.tail⟩
        · have hVle := fs_le V hVm
          have hfew := fs_few V hVm
          have hkp := kind_pos V hVm
          have hsz := formB_size V
          have HLE := Lib.hid hVle
          have HAT := Lib.hid (fun j f (hf : V.fs[j]? = some f) (h : j < (formB V).size) => formB_at hf (HLE.out f (List.mem_of_getElem? hf)) h)
          have e1 : wr.cell? ⟨b5, 0, none⟩ = some (.int .i64 V.kind) := boxC_at HK (List.mem_cons_self ..) 0
          have q1 : (V.kind == 0) = false := by simp; omega
          have HF := Lib.hid hsome
          clear hsome hVle hVm hp13 HP
          generalize hFV : formB V = F at *
          have HSZ := Lib.hid hsz; have HFV := Lib.hid hFV; have hfew2 : F.size ≤ 3 := by omega
          clear hsz hFV hfew
          by_cases hwn : W'.length = V.fs.length + 1
          · have hq2 : ((W'.length : Int) != (F.size : Int) + 1) = false := by have := HSZ.out; simp; omega
            have HWN := Lib.hid hwn
            clear hwn
            go_wp2
            clear e1 q1
            try rw [show decide ((k : Int) + 1 ≤ 13) = false from decide_eq_false (by omega)]
            go_loopg [10] F.size (fun q i wq => ∃ (j : Nat) (o : Cm), i = .int .i64 j ∧ j + q = F.size ∧ readAll (zeroC V.kind) V.fs W'.tail = readAll o (V.fs.drop j) (W'.drop (j + 1)) ∧ HL w0 wq (boxC b5 o :: strs w0.heap.size (.slice (some ⟨g, 0, none⟩) W'.length c5) W' :: boxC b2 (zeroC 0) :: L))
            case atStart => exact ⟨0, zeroC V.kind, rfl, by omega, by rw [List.drop_zero, List.drop_one], HK⟩
            case round =>
              obtain ⟨j, o, rfl, hj, hra, HJ⟩ := hrel
              clear HK
              have HRA := Lib.hid hra
              clear hra
              by_cases hlj : j < F.size
              · obtain ⟨f, hf⟩ : ∃ f, V.fs[j]? = some f := ⟨_, List.getElem?_eq_getElem (HSZ.out ▸ hlj)⟩
                have hjw : j + 1 < W'.length := by have := HSZ.out; rw [HWN.out]; omega
                obtain ⟨s, hs⟩ : ∃ s, W'[j + 1]? = some s := ⟨_, List.getElem?_eq_getElem hjw⟩
                have hf6 := HLE.out f (List.mem_of_getElem? hf)
                have hdf : V.fs.drop j = f :: V.fs.drop (j + 1) := by rw [List.drop_eq_getElem_cons (HSZ.out ▸ hlj)]; congr 1; exact (List.getElem?_eq_some_iff.1 hf).2
                have hdw : W'.drop (j + 1) = s :: W'.drop (j + 1 + 1) := by rw [List.drop_eq_getElem_cons hjw]; congr 1; exact (List.getElem?_eq_some_iff.1 hs).2
                have hat : ((F[j]'hlj).toNat : Int) = (letter f : Int) := congrArg _ (HAT.out j f hf hlj)
                have ew := HJ.tail.rowCell (E := 9) (k := 1) (List.mem_cons_self ..) (j + 1) (.string s) (by rw [List.getElem?_map, hs]; rfl)
                have hss := HWS.out s (List.mem_of_getElem? hs)
                have hnext : readAll (zeroC V.kind) V.fs W'.tail = match readF o f s with | none => none | some p => readAll p (V.fs.drop (j + 1)) (W'.drop (j + 1 + 1)) := by rw [HRA.out, hdf, hdw]; rfl
                have HNX := Lib.hid hnext
                have hbad : readF o f s = none → parseW W' = (zeroC 0, 83) := fun h => by
                  unfold parseW; rw [HHD.out, HF.out]; simp only; rw [if_pos HWN.out, HNX.out, h]
                have HBAD := Lib.hid hbad
                clear hdf hdw hnext hf hs hbad
                have z1 := boxC_frozen HJ (List.mem_cons_self ..) (f + 1)
                by_cases hf2 : f < 2
                · have hnm := fun W => Ref.named_yes f hf2 W
                  have htx := fun W => Ref.text_ok b5 f hf2 W
                  have hvl := fun W => Ref.valid_ok s (by omega) W
                  have z2 := boxC_txt HJ (List.mem_cons_self ..) hf2
                  have hre : readF o f s = if validB s then some (setT o f s) else none := by unfold readF; rw [if_pos hf2]
                  cases hvb : validB s with
                  | true =>
                    rw [hvb] at hre hvl
                    have HRE := Lib.hid hre
                    have HS := boxC_setT HJ hf2 s
                    clear hre hvb HJ
                    go_wp2_with (first
                      | (go_at_call 32; refine (hnm _).mono ?_; rintro e w3 ⟨rfl, rfl⟩)
                      | (go_at_call 14; refine (hvl _).mono ?_; rintro e w3 ⟨rfl, rfl⟩)
                      | (go_at_call 33; refine (htx _).mono ?_; rintro e w3 ⟨rfl, rfl⟩))
                    go_roundg (gk - 1)
                    case measure => omega
                    case rel => exact ⟨j + 1, setT o f s, by go_num, by omega, by rw [HNX.out, HRE.out]; rfl, HS⟩
                  | false =>
                    rw [hvb] at hre hvl
                    have HR := Lib.hid (HBAD.out hre)
                    have HB := HJ.tail.tail
                    obtain ⟨n0, n1, n2, n3, n4, n5, n6, n7⟩ := boxC_cells HB
                    obtain ⟨y0, y1, y2, y3, y4, y5, y6, y7⟩ := boxC_froz HB
                    have HS := boxC_put (d := zeroC 0) HB
                    clear hre hvb HJ
                    go_wp2_with (first
                      | (go_at_call 32; refine (hnm _).mono ?_; rintro e w3 ⟨rfl, rfl⟩)
                      | (go_at_call 14; refine (hvl _).mono ?_; rintro e w3 ⟨rfl, rfl⟩))
                    clear n0 n1 n2 n3 n4 n5 n6 n7 y0 y1 y2 y3 y4 y5 y6 y7 HB ew z1 z2
                    simp only [zeroC] at HS
                    generalize World.setCell _ _ _ = W9 at *
                    obtain ⟨n0, n1, n2, n3, n4, n5, n6, n7⟩ := boxC_cells HS
                    refine bodyPost_ret (v := .tuple #[cmV (zeroC 0), .int .i64 83]) (by simp [results, Tryd.results12, go_sem, n0, n1, n2, n3, n4, n5, n6, n7]; try rfl) rfl ?_
                    exact ⟨by rw [HR.out], HS.tail⟩
                · have hf2' : 2 ≤ f := by omega
                  have hnm := fun W => Ref.named_no f hf2' hf6 W
                  have htx := fun W => Ref.value_ok b5 f hf2' hf6 W
                  have hvl := fun W => Ref.number_ok s (by omega) W
                  have z2 := boxC_num HJ (List.mem_cons_self ..) hf2' hf6
                  have hre := readF_num (o := o) hf2 s
                  generalize numV s = nv at *
                  obtain ⟨nn, nb⟩ := nv
                  cases nb with
                  | true =>
                    have HRE := Lib.hid hre
                    have HS := boxC_setN HJ hf2' hf6 nn
                    clear hre HJ
                    go_wp2_with (first
                      | (go_at_call 32; refine (hnm _).mono ?_; rintro e w3 ⟨rfl, rfl⟩)
                      | (go_at_call 34; refine (hvl _).mono ?_; rintro e w3 ⟨rfl, rfl⟩)
                      | (go_at_call 35; refine (htx _).mono ?_; rintro e w3 ⟨rfl, rfl⟩))
                    go_roundg (gk - 1)
                    case measure => omega
                    case rel => exact ⟨j + 1, setN o f nn, by go_num, by omega, by rw [HNX.out, HRE.out]; rfl, HS⟩
                  | false =>
                    have HR := Lib.hid (HBAD.out hre)
                    have HB := HJ.tail.tail
                    obtain ⟨n0, n1, n2, n3, n4, n5, n6, n7⟩ := boxC_cells HB
                    obtain ⟨y0, y1, y2, y3, y4, y5, y6, y7⟩ := boxC_froz HB
                    have HS := boxC_put (d := zeroC 0) HB
                    clear hre HJ
                    go_wp2_with (first
                      | (go_at_call 32; refine (hnm _).mono ?_; rintro e w3 ⟨rfl, rfl⟩)
                      | (go_at_call 34; refine (hvl _).mono ?_; rintro e w3 ⟨rfl, rfl⟩))
                    clear n0 n1 n2 n3 n4 n5 n6 n7 y0 y1 y2 y3 y4 y5 y6 y7 HB ew z1 z2
                    simp only [zeroC] at HS
                    generalize World.setCell _ _ _ = W9 at *
                    obtain ⟨n0, n1, n2, n3, n4, n5, n6, n7⟩ := boxC_cells HS
                    refine bodyPost_ret (v := .tuple #[cmV (zeroC 0), .int .i64 83]) (by simp [results, Tryd.results12, go_sem, n0, n1, n2, n3, n4, n5, n6, n7]; try rfl) rfl ?_
                    exact ⟨by rw [HR.out], HS.tail⟩
              · have hend : readAll (zeroC V.kind) V.fs W'.tail = some o := by
                  rw [HRA.out, List.drop_eq_nil_of_le (by have := HSZ.out; omega)]
                  rfl
                have hr : parseW W' = (o, 0) := by unfold parseW; rw [HHD.out, HF.out]; simp only; rw [if_pos HWN.out, hend]
                have HR := Lib.hid hr
                clear hr hend
                have HB := HJ.tail.tail
                obtain ⟨n0, n1, n2, n3, n4, n5, n6, n7⟩ := boxC_cells HB
                obtain ⟨y0, y1, y2, y3, y4, y5, y6, y7⟩ := boxC_froz HB
                obtain ⟨x0, x1, x2, x3, x4, x5, x6, x7⟩ := boxC_cells HJ
                have HS := boxC_put (d := o) HB
                go_wp2
                clear n0 n1 n2 n3 n4 n5 n6 n7 y0 y1 y2 y3 y4 y5 y6 y7 x0 x1 x2 x3 x4 x5 x6 x7 HB HJ
                generalize World.setCell _ _ _ = W9 at *
                obtain ⟨n0, n1, n2, n3, n4, n5, n6, n7⟩ := boxC_cells HS
                refine bodyPost_ret (v := .tuple #[cmV o, .int .i64 0]) (by simp [results, Tryd.results12, go_sem, n0, n1, n2, n3, n4, n5, n6, n7]; try rfl) rfl ?_
                exact ⟨by rw [HR.out], HS.tail⟩
          · have hq2 : ((W'.length : Int) != (F.size : Int) + 1) = true := by have := HSZ.out; simp; omega
            have hr : parseW W' = (zeroC 0, 82) := by unfold parseW; rw [HHD.out, HF.out]; simp only; rw [if_neg hwn]
            have HR := Lib.hid hr
            have HB := HK.tail.tail
            obtain ⟨n0, n1, n2, n3, n4, n5, n6, n7⟩ := boxC_cells HB
            obtain ⟨y0, y1, y2, y3, y4, y5, y6, y7⟩ := boxC_froz HB
            have HS := boxC_put (d := zeroC 0) HB
            clear hr hwn HK
            go_wp2
            clear n0 n1 n2 n3 n4 n5 n6 n7 y0 y1 y2 y3 y4 y5 y6 y7 HB e1
            simp only [zeroC] at HS
            generalize World.setCell _ _ _ = W9 at *
            obtain ⟨n0, n1, n2, n3, n4, n5, n6, n7⟩ := boxC_cells HS
            refine bodyPost_ret (v := .tuple #[cmV (zeroC 0), .int .i64 82]) (by simp [results, Tryd.results12, go_sem, n0, n1, n2, n3, n4, n5, n6, n7]; try rfl) rfl ?_
            exact ⟨by rw [HR.out], HS.tail⟩
end
end Go.Proofs.YtdekbbffoaphhaaDoor

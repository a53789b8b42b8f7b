/- The reference's check. -/
import Derived.Test.YtdekbbffoaphhaaDoorVeCheck
import Derived.Test.YtdekbbffoaphhaaDoorVeRef
import Derived.Test.YtdekbbffoaphhaaDoorVeRefP
set_option linter.unusedVariables false
set_option linter.unusedSimpArgs false
namespace Go.Proofs.Ve
theorem formB_size (V : Verb) : (formB V).size = V.fs.length := by simp [formB, ByteArray.size]
theorem formB_at {V : Verb} {j f : Nat} (hf : V.fs[j]? = some f) (hV : f ≤ 6) (h : j < (formB V).size) : ((formB V)[j]'h).toNat = letter f := by
  have hj : j < V.fs.length := (List.getElem?_eq_some_iff.1 hf).1
  have he : V.fs[j] = f := (List.getElem?_eq_some_iff.1 hf).2
  have : (formB V)[j]'h = UInt8.ofNat (letter f) := by
    show ((V.fs.map fun f => UInt8.ofNat (letter f)).toArray)[j]'(by simpa using hj) = _
    simp [he]
  rw [this]
  have hs : f = 0 ∨ f = 1 ∨ f = 2 ∨ f = 3 ∨ f = 4 ∨ f = 5 ∨ f = 6 := by omega
  rcases hs with rfl | rfl | rfl | rfl | rfl | rfl | rfl <;> rfl
def refN (c : Cm) : Int := if refCheckB c then 0 else 84
theorem refN_eq (c : Cm) : refN c = checkN c := by unfold refN checkN; rw [refCheck_eq]
theorem refN_no {c : Cm} (h : refCheckB c = false) : refN c = 84 := by unfold refN; rw [h]; rfl
theorem refN_yes {c : Cm} (h : refCheckB c = true) : refN c = 0 := by unfold refN; rw [h]; rfl
theorem fs_short : ∀ V ∈ verbL, V.fs.length ≤ 8 := by decide
theorem word_neq : ∀ V ∈ verbL, V.word.toList.isEmpty = false := by
  intro V hV
  rw [Go.ByteArray.toList_eq]
  revert V
  decide
end Go.Proofs.Ve
namespace Go.Proofs.YtdekbbffoaphhaaDoor
open Go.RowKit Go.Proofs.HL Go.Proofs.Ve
section
variable {w0 w : World} {L : List At}
set_option maxRecDepth 100000 in
set_option maxHeartbeats 8000000 in
theorem Ref.check_ok (H : HL w0 w L) (c : Cm) (hn : c.name.size ≤ 9223372036854775807) (hp : c.par.size ≤ 9223372036854775807) :
    Calls Tryd.prog 18 #[cmV c] w fun e w' => e = .returned (.int .i64 (refN c)) ∧ HL w0 w' L := by
  have H1 := HL.allocC H c
  generalize hb1 : w.heap.size = b1 at H1
  have e1 := boxC_at H1 (b := b1) (c := c) (by simp) 0
  have hwd := fun W => Ref.word_ok c.kind W
  cases hf : verbL.find? (fun v => v.kind == c.kind) with
  | none =>
    have hw : wordK c.kind = (⟨#[]⟩, ⟨#[]⟩) := by unfold wordK; rw [hf]
    have hN : refN c = 84 := refN_no (by unfold refCheckB; rw [hf])
    have HN := Lib.hid hN
    rw [hw] at hwd
    clear hN hw hf
    unfold cmV
    go_enter Tryd.func18, Tryd.ntmps18
    go_wp2_with (go_at_call 31; refine (hwd _).mono ?_; rintro e w1 ⟨rfl, rfl⟩)
    go_ret
    exact ⟨retI HN.out, H1.tail⟩
  | some V =>
    have hVm := List.mem_of_find?_eq_some hf
    have hw : wordK c.kind = (V.word, formB V) := by unfold wordK; rw [hf]
    have hN : refCheckB c = match chkR { c with kind := 0 } V.fs with | none => false | some r => decide (r = zeroC 0) := by unfold refCheckB; rw [hf]; rfl
    have hwe2 := word_neq V hVm
    have hshort := fs_short V hVm
    have HN := Lib.hid hN
    have HLE := Lib.hid (fs_le V hVm)
    have hsz := formB_size V
    have HAT := Lib.hid (fun j f (hf : V.fs[j]? = some f) (h : j < (formB V).size) => formB_at hf (HLE.out f (List.mem_of_getElem? hf)) h)
    rw [hw] at hwd
    clear hN hw hf
    generalize formB V = F at hwd hsz HAT
    generalize V.word = W0 at hwd hwe2
    have H3 := HL.allocC H1 { c with kind := 0 }
    rw [World.size_alloc, hb1] at H3
    unfold cmV
    go_enter Tryd.func18, Tryd.ntmps18
    go_wp2_with (go_at_call 31; refine (hwd _).mono ?_; rintro e w1 ⟨rfl, rfl⟩)
    clear H H1 e1 hwd hwe2
    go_loopg [6] F.size (fun g i wr => ∃ (j : Nat) (r : Cm), i = .int .i64 j ∧ j + g = F.size ∧ chkR { c with kind := 0 } V.fs = chkR r (V.fs.drop j) ∧ (r.name.size ≤ 9223372036854775807 ∧ r.par.size ≤ 9223372036854775807) ∧ HL w0 wr (boxC (b1 + 1) r :: boxC b1 c :: L))
    case atStart => exact ⟨0, _, rfl, by omega, rfl, ⟨hn, hp⟩, H3⟩
    case round =>
      obtain ⟨j, r, rfl, hj, hch, hrs, HJ⟩ := hrel
      clear H3
      have HCH := Lib.hid hch
      clear hch
      by_cases hlj : j < F.size
      · obtain ⟨f, hf⟩ : ∃ f, V.fs[j]? = some f := ⟨_, List.getElem?_eq_getElem (hsz ▸ hlj)⟩
        have hf6 := HLE.out f (List.mem_of_getElem? hf)
        have hdrop : V.fs.drop j = f :: V.fs.drop (j + 1) := by rw [List.drop_eq_getElem_cons (hsz ▸ hlj)]; congr 1; exact (List.getElem?_eq_some_iff.1 hf).2
        have hat : ((F[j]'hlj).toNat : Int) = (letter f : Int) := congrArg _ (HAT.out j f hf hlj)
        have HDR := Lib.hid hdrop
        clear hdrop hf
        by_cases hf2 : f < 2
        · have hsz2 : (txtF r f).size ≤ 9223372036854775807 := by by_cases h0 : f = 0 <;> simp [txtF, h0, hrs.1, hrs.2]
          have hnm : ∀ W, Calls Tryd.prog 32 #[.int .u8 (letter f : Int)] W fun e w' => e = .returned (.bool true) ∧ W = w' := fun W => Ref.named_yes f hf2 W
          have htx : ∀ W, Calls Tryd.prog 33 #[.pointer (some ⟨b1 + 1, 0, none⟩), .int .u8 (letter f : Int)] W fun e w' => e = .returned (.pointer (some ⟨b1 + 1, f + 1, none⟩)) ∧ W = w' := fun W => Ref.text_ok (b1 + 1) f hf2 W
          have z1 := boxC_frozen HJ (List.mem_cons_self ..) (f + 1)
          have z2 := boxC_txt HJ (List.mem_cons_self ..) hf2
          by_cases hv : validB (txtF r f) = true
          · have hvc : ∀ W, Calls Tryd.prog 14 #[.string (txtF r f)] W fun e w' => e = .returned (.bool true) ∧ W = w' := fun W => by have := Ref.valid_ok (txtF r f) hsz2 W; rwa [hv] at this
            have hnx : chkR r (V.fs.drop j) = chkR (setT r f ⟨#[]⟩) (V.fs.drop (j + 1)) := by rw [HDR.out]; simp only [chkR]; rw [if_pos hf2, if_pos hv]
            have HNX := Lib.hid hnx
            have HS := boxC_setT HJ hf2 ⟨#[]⟩
            have hrs2 : (setT r f ⟨#[]⟩).name.size ≤ 9223372036854775807 ∧ (setT r f ⟨#[]⟩).par.size ≤ 9223372036854775807 := by
              unfold setT
              split
              · exact ⟨by show (0 : Nat) ≤ _; omega, hrs.2⟩
              · exact ⟨hrs.1, by show (0 : Nat) ≤ _; omega⟩
            have HRS := Lib.hid hrs2
            clear hv hnx HJ hrs2
            go_wp2_with (first
              | (go_at_call 32; refine (hnm _).mono ?_; rintro e w2 ⟨rfl, rfl⟩)
              | (go_at_call 33; refine (htx _).mono ?_; rintro e w2 ⟨rfl, rfl⟩)
              | (go_at_call 14; refine (hvc _).mono ?_; rintro e w2 ⟨rfl, rfl⟩))
            go_roundg (gk - 1)
            case measure => omega
            case rel => exact ⟨j + 1, setT r f ⟨#[]⟩, by go_num, by omega, HCH.out.trans HNX.out, HRS.out, HS⟩
          · have hv2 : validB (txtF r f) = false := by simpa using hv
            have hvc : ∀ W, Calls Tryd.prog 14 #[.string (txtF r f)] W fun e w' => e = .returned (.bool false) ∧ W = w' := fun W => by have := Ref.valid_ok (txtF r f) hsz2 W; rwa [hv2] at this
            have hN : refN c = 84 := refN_no (by rw [HN.out, HCH.out, HDR.out]; simp only [chkR]; rw [if_pos hf2, if_neg hv])
            have HNN := Lib.hid hN
            clear hv hv2 hN
            go_wp2_with (first
              | (go_at_call 32; refine (hnm _).mono ?_; rintro e w2 ⟨rfl, rfl⟩)
              | (go_at_call 33; refine (htx _).mono ?_; rintro e w2 ⟨rfl, rfl⟩)
              | (go_at_call 14; refine (hvc _).mono ?_; rintro e w2 ⟨rfl, rfl⟩))
            go_ret
            exact ⟨retI HNN.out, HJ.tail.tail⟩
        · have hf2' : 2 ≤ f := by omega
          have hnm : ∀ W, Calls Tryd.prog 32 #[.int .u8 (letter f : Int)] W fun e w' => e = .returned (.bool false) ∧ W = w' := fun W => Ref.named_no f hf2' hf6 W
          have htx : ∀ W, Calls Tryd.prog 35 #[.pointer (some ⟨b1 + 1, 0, none⟩), .int .u8 (letter f : Int)] W fun e w' => e = .returned (.pointer (some ⟨b1 + 1, f + 1, none⟩)) ∧ W = w' := fun W => Ref.value_ok (b1 + 1) f hf2' hf6 W
          have z1 := boxC_frozen HJ (List.mem_cons_self ..) (f + 1)
          have z2 := boxC_num HJ (List.mem_cons_self ..) hf2' hf6
          by_cases hneg : numF r f < 0
          · have hN : refN c = 84 := refN_no (by rw [HN.out, HCH.out, HDR.out]; simp only [chkR]; rw [if_neg hf2, if_pos hneg])
            have HNN := Lib.hid hN
            clear hN
            go_wp2_with (first
              | (go_at_call 32; refine (hnm _).mono ?_; rintro e w2 ⟨rfl, rfl⟩)
              | (go_at_call 35; refine (htx _).mono ?_; rintro e w2 ⟨rfl, rfl⟩))
            go_ret
            exact ⟨retI HNN.out, HJ.tail.tail⟩
          · have hnx : chkR r (V.fs.drop j) = chkR (setN r f 0) (V.fs.drop (j + 1)) := by rw [HDR.out]; simp only [chkR]; rw [if_neg hf2, if_neg hneg]
            have HNX := Lib.hid hnx
            have HS := boxC_setN HJ hf2' hf6 0
            have hrs2 : (setN r f 0).name.size ≤ 9223372036854775807 ∧ (setN r f 0).par.size ≤ 9223372036854775807 := by
              unfold setN
              repeat' split
              all_goals exact hrs
            have HRS := Lib.hid hrs2
            clear hnx HJ hrs2
            go_wp2_with (first
              | (go_at_call 32; refine (hnm _).mono ?_; rintro e w2 ⟨rfl, rfl⟩)
              | (go_at_call 35; refine (htx _).mono ?_; rintro e w2 ⟨rfl, rfl⟩))
            go_roundg (gk - 1)
            case measure => omega
            case rel => exact ⟨j + 1, setN r f 0, by go_num, by omega, HCH.out.trans HNX.out, HRS.out, HS⟩
      · have hend : chkR { c with kind := 0 } V.fs = some r := by
          have := HCH.out
          rw [List.drop_eq_nil_of_le (by omega)] at this
          exact this
        have c0 := boxC_at HJ (b := b1 + 1) (c := r) (List.mem_cons_self ..)
        have n0 := c0 0; have n1 := c0 1; have n2 := c0 2; have n3 := c0 3; have n4 := c0 4; have n5 := c0 5; have n6 := c0 6; have n7 := c0 7
        have hcmp := fun W => cmd_neq r (zeroC 0) W
        unfold cmV at hcmp
        by_cases ho : r = zeroC 0
        · have hN : refN c = 0 := refN_yes (by rw [HN.out, hend]; simp [ho])
          have hq : neqC r (zeroC 0) = false := by simp [neqC, ho]
          rw [hq] at hcmp
          have HNN := Lib.hid hN
          clear hN hend hq c0 ho
          simp only [zeroC] at hcmp
          go_wp2
          go_ret
          exact ⟨retI HNN.out, HJ.tail.tail⟩
        · have hN : refN c = 84 := refN_no (by rw [HN.out, hend]; simp [ho])
          have hq : neqC r (zeroC 0) = true := by simp [neqC, ho]
          rw [hq] at hcmp
          have HNN := Lib.hid hN
          clear hN hend hq c0 ho
          simp only [zeroC] at hcmp
          go_wp2
          go_ret
          exact ⟨retI HNN.out, HJ.tail.tail⟩
end
end Go.Proofs.YtdekbbffoaphhaaDoor

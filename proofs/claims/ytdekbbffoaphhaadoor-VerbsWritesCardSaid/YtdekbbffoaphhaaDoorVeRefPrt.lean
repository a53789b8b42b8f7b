/- The reference's print. -/
import Derived.Test.YtdekbbffoaphhaaDoorVeRefDig
import Derived.Test.YtdekbbffoaphhaaDoorVePrint
set_option linter.unusedVariables false
set_option linter.unusedSimpArgs false
namespace Go.Proofs.Ve
def tailT (xs : List ByteArray) : List UInt8 := xs.flatMap fun y => 32 :: y.data.toList
theorem join_flat (x : ByteArray) (xs : List ByteArray) : Lib.join ((x :: xs).map (·.data.toList)) [32] = x.data.toList ++ tailT xs := by
  rw [List.map_cons, Lib.join_cons]
  simp [Lib.joinTail, tailT, List.flatMap, Function.comp_def]
theorem chk_nat {c : Cm} : ∀ (fs : List Nat) (o p : Cm), chk c o fs = some p → ∀ f ∈ fs, 2 ≤ f → 0 ≤ numF c f
  | [], o, p, h, f, hf, _ => by simp at hf
  | g :: fs, o, p, h, f, hf, h2 => by
    simp only [chk] at h
    by_cases hg : g < 2
    · rw [if_pos hg] at h
      by_cases hv : validB (txtF c g) = true
      · rw [if_pos hv] at h
        rcases List.mem_cons.1 hf with rfl | hf
        · omega
        · exact chk_nat fs _ p h f hf h2
      · rw [if_neg hv] at h; cases h
    · rw [if_neg hg] at h
      by_cases hn : numF c g < 0
      · rw [if_pos hn] at h; cases h
      · rw [if_neg hn] at h
        rcases List.mem_cons.1 hf with rfl | hf
        · omega
        · exact chk_nat fs _ p h f hf h2
end Go.Proofs.Ve
namespace Go.Proofs.YtdekbbffoaphhaaDoor
open Go.RowKit Go.Proofs.HL Go.Proofs.Ve
section
variable {w0 w : World} {L : List At}
set_option maxRecDepth 100000 in
set_option maxHeartbeats 8000000 in
theorem Ref.print_ok (H : HL w0 w L) (c : Cm) (hc : CmOk c) (hyes : checkB c = true) :
    Calls Tryd.prog 16 #[cmV c] w fun e w' => e = .returned (.tuple #[.string ⟨(printL c).toArray⟩, .int .i64 0]) ∧ HL w0 w' L := by
  have H1 := HL.allocC H c
  have hck := Ref.check_ok H1 c (by have := hc.name; omega) (by have := hc.par; omega)
  rw [refN_eq, checkN_yes hyes] at hck
  have c1 := boxC_at H1 (b := w.heap.size) (c := c) (List.mem_cons_self ..)
  generalize hb1 : w.heap.size = b1 at *
  have hwd := fun W => Ref.word_ok c.kind W
  obtain ⟨V, o, hfind, hch, -⟩ := check_find hyes
  have hVm := List.mem_of_find?_eq_some hfind
  have hw : wordK c.kind = (V.word, formB V) := by unfold wordK; rw [hfind]
  have hprt : printL c = V.word.data.toList ++ tailT (V.fs.map (fldB c)) := by unfold printL; rw [wordsTo_all hfind]; exact join_flat _ _
  have hfsz : ∀ f ∈ V.fs, (fldB c f).size ≤ 32 := fun f hf => fld_size (fun h2 => chk_valid _ _ _ hch f hf h2) (fun f => Lib.itoa_length_le _ (hc.nums f).1 (hc.nums f).2)
  have hnat : ∀ f ∈ V.fs, 2 ≤ f → 0 ≤ numF c f := chk_nat _ _ _ hch
  have hwf := word_few V hVm
  have hshort := fs_short V hVm
  have hsz := formB_size V
  have HLE := Lib.hid (fs_le V hVm)
  have HAT := Lib.hid (fun j f (hf : V.fs[j]? = some f) (h : j < (formB V).size) => formB_at hf (HLE.out f (List.mem_of_getElem? hf)) h)
  have HP := Lib.hid hprt; have HFS := Lib.hid hfsz; have HNT := Lib.hid hnat; have HC := Lib.hid hc
  rw [hw] at hwd
  generalize formB V = F at hwd hsz HAT
  generalize hW0 : V.word = W0 at hwd hwf
  have HW0 := Lib.hid hW0
  unfold cmV at hck ⊢
  have n0 := c1 0; have n1 := c1 1; have n2 := c1 2; have n3 := c1 3; have n4 := c1 4; have n5 := c1 5; have n6 := c1 6; have n7 := c1 7
  clear c1 hyes hc H hw hprt hfsz hnat hfind hch hW0
  go_enter Tryd.func16, Tryd.ntmps16
  go_wp2_with (first
    | (go_at_call 18; refine hck.mono ?_; rintro e w2 ⟨rfl, H2⟩; clear hck H1 n0 n1 n2 n3 n4 n5 n6 n7; have n0 := boxC_at H2 (b := b1) (c := c) (List.mem_cons_self ..) 0)
    | (go_at_call 31; refine (hwd _).mono ?_; rintro e w3 ⟨rfl, rfl⟩))
  clear hwd n0 hb1
  go_loopg [4, 6] F.size (fun g s i wr => ∃ (j : Nat) (t : ByteArray), i = .int .i64 j ∧ s = .string t ∧ j + g = F.size ∧ t.size ≤ 32 + 40 * j ∧ t.data.toList = W0.data.toList ++ tailT ((V.fs.take j).map (fldB c)) ∧ HL w0 wr (boxC b1 c :: L))
  case atStart => exact ⟨0, W0, rfl, rfl, by omega, by omega, by simp [tailT], H2⟩
  case round =>
    obtain ⟨j, t, rfl, rfl, hj, hts, htl, HJ⟩ := hrel
    clear H2
    have HTL := Lib.hid htl
    clear htl
    by_cases hlj : j < F.size
    · obtain ⟨f, hf⟩ : ∃ f, V.fs[j]? = some f := ⟨_, List.getElem?_eq_getElem (hsz ▸ hlj)⟩
      have hfm := List.mem_of_getElem? hf
      have hf6 := HLE.out f hfm
      have hat : ((F[j]'hlj).toNat : Int) = (letter f : Int) := congrArg _ (HAT.out j f hf hlj)
      have hfs := HFS.out f hfm
      have hnx : ∀ q : ByteArray, q.data.toList = t.data.toList ++ 32 :: (fldB c f).data.toList → q.data.toList = W0.data.toList ++ tailT ((V.fs.take (j + 1)).map (fldB c)) := fun q hq => by
        rw [hq, HTL.out, List.take_add_one, hf]
        simp [tailT]
      have HNX := Lib.hid hnx
      have hfnn := HNT.out f hfm
      clear hf hfm hnx
      have hbl : (⟨#[32]⟩ : ByteArray).size = 1 := rfl
      by_cases hf2 : f < 2
      · have hnm := fun W => Ref.named_yes f hf2 W
        have htx := fun W => Ref.text_ok b1 f hf2 W
        have z2 := boxC_txt HJ (List.mem_cons_self ..) hf2
        have hfe : fldB c f = txtF c f := by unfold fldB; rw [if_pos hf2]
        rw [hfe] at hfs HNX
        clear hfe hfnn
        go_wp2_with (first
          | (go_at_call 32; refine (hnm _).mono ?_; rintro e w2 ⟨rfl, rfl⟩)
          | (go_at_call 33; refine (htx _).mono ?_; rintro e w2 ⟨rfl, rfl⟩))
        go_roundg (gk - 1)
        case measure => omega
        case rel => exact ⟨j + 1, t ++ ⟨#[32]⟩ ++ txtF c f, by go_num, rfl, by omega, by simp only [ByteArray.size_append]; omega, HNX.out _ (by simp), HJ⟩
      · have hf2' : 2 ≤ f := by omega
        have hnm := fun W => Ref.named_no f hf2' hf6 W
        have htx := fun W => Ref.value_ok b1 f hf2' hf6 W
        have z2 := boxC_num HJ (List.mem_cons_self ..) hf2' hf6
        have hfe : fldB c f = ⟨(Lib.itoa (numF c f)).toArray⟩ := by unfold fldB; rw [if_neg hf2]
        rw [hfe] at hfs HNX
        have hb := (HC.out.nums f).2
        obtain ⟨n, hn⟩ : ∃ n : Nat, numF c f = (n : Int) := ⟨(numF c f).toNat, by have := hfnn hf2'; omega⟩
        rw [hn] at hfs HNX hb z2
        have hdg := Ref.digits_ok HJ n hb
        generalize (⟨(Lib.itoa n).toArray⟩ : ByteArray) = D at hfs HNX hdg
        clear hfe hfnn hn
        go_wp2_with (first
          | (go_at_call 32; refine (hnm _).mono ?_; rintro e w2 ⟨rfl, rfl⟩)
          | (go_at_call 35; refine (htx _).mono ?_; rintro e w2 ⟨rfl, rfl⟩)
          | (go_at_call 40; refine hdg.mono ?_; rintro e w2 ⟨rfl, H7⟩; clear hdg HJ z2))
        go_roundg (gk - 1)
        case measure => omega
        case rel => exact ⟨j + 1, t ++ ⟨#[32]⟩ ++ D, by go_num, rfl, by omega, by simp only [ByteArray.size_append]; omega, HNX.out _ (by simp), H7⟩
    · have hend : (⟨(printL c).toArray⟩ : ByteArray) = t := by
        have := HTL.out
        rw [List.take_of_length_le (by omega), ← HW0.out, ← HP.out] at this
        rw [← this]
      have HE := Lib.hid hend
      clear hend
      go_wp2
      go_ret2
      exact ⟨by rw [HE.out]; rfl, HJ.tail⟩
end
end Go.Proofs.YtdekbbffoaphhaaDoor

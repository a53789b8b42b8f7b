/- The reference's event as a line. -/
import Derived.Test.YtdekbbffoaphhaaGreatDoorAnOnly
set_option linter.unusedVariables false
set_option linter.unusedSimpArgs false
set_option maxRecDepth 100000
set_option maxHeartbeats 8000000
namespace Go.Proofs.An
theorem onlyW_size {e : Ev} (hok : EvOk e) : ∀ s ∈ onlyW e, s.size ≤ 22 := by
 have ha : ∀ (l : List Int), Fits l → ∀ s ∈ allW l, s.size ≤ 22 := fun l hl s hs => by
  obtain ⟨n, hn, rfl⟩ := List.mem_map.1 hs
  exact itB_size (hl n hn).1 (hl n hn).2
 have f4 := fits4 hok
 have f2 := fits2 hok
 have f1 := fits1 hok
 have f2l : Fits ([e.job, e.tm] ++ e.list) := fun n hn => by
  rcases List.mem_append.1 hn with h | h
  ·exact f2 n h
  ·exact hok.fits n h
 have f1l : Fits ([e.tm] ++ e.list) := fun n hn => by
  rcases List.mem_append.1 hn with h | h
  ·exact f1 n h
  ·exact hok.fits n h
 intro s hs
 unfold onlyW at hs
 repeat' split at hs
 all_goals
  simp only [List.mem_cons, List.mem_append, List.not_mem_nil, or_false] at hs
 ·rcases hs with rfl | h
  ·decide
  ·exact ha _ f4 s h
 ·rcases hs with rfl | h
  ·decide
  ·exact ha _ f2l s h
 ·rcases hs with rfl | h | rfl
  ·decide
  ·exact ha _ f2 s h
  ·have := stW_size e.nd; omega
 ·rcases hs with rfl | h
  ·decide
  ·exact ha _ f2 s h
 ·rcases hs with rfl | h
  ·decide
  ·exact ha _ f1l s h
 ·rcases hs with rfl | h
  ·decide
  ·exact ha _ f1 s h
 ·rcases hs with rfl | h
  ·decide
  ·exact ha _ f1 s h
theorem onlyW_len (e : Ev) : (onlyW e).length ≤ e.list.length + 5 := by
 unfold onlyW
 repeat' split
 all_goals simp [allW]
 all_goals omega
theorem evN_no {e : Ev} (h : right e = false) : evN e = 90 ∧ evS e = ⟨#[]⟩ := by unfold evN evS; rw [h]; exact ⟨rfl, rfl⟩
theorem evN_yes {e : Ev} (h : right e = true) : evN e = 0 ∧ evS e = ⟨(wordsT (onlyW e)).toArray⟩ := by unfold evN evS; rw [h, onlyW_text h]; exact ⟨rfl, rfl⟩
end Go.Proofs.An
namespace Go.Proofs.YtdekbbffoaphhaaGreatDoor
open Go.RowKit Go.Proofs.HL Go.Proofs.An
section
variable {w0 w : World} {L : List At} {v : Value}
theorem Ref.event_ok (hD : Doors w0) (H : HL w0 w L) (e : Ev) (h : Ints w0 L v e.list) (hok : EvOk e) (hfew : e.list.length ≤ 4294967200) :
  Calls Tryz.prog 35 #[evV e v] w fun r w' => r = .returned (.tuple #[.string (evS e), .int .i64 (evN e)]) ∧ HL w0 w' L := by
 obtain ⟨A, c, rfl, hc1, hc2⟩ := rd_shape (h w H)
 unfold maxLen at hc2
 have H1 := HL.allocE H e (.slice A e.list.length c)
 have honly := Ref.only_ok hD H1 e (h.cons _) hok hfew
 unfold OnlyPost at honly
 have hR := refR_eq e
 have hsz := onlyW_size hok
 have hln := onlyW_len e
 obtain ⟨n0, n1, n2, n3, n4, n5⟩ := boxE_cells H1
 obtain ⟨A4, c4, hU, -, -⟩ := rd_shape (onlyU_ints (v := .slice A e.list.length c) (h.cons _) _ H1)
 have hU2 := onlyU_ints (v := .slice A e.list.length c) (h.cons (boxE w.heap.size e (.slice A e.list.length c)))
 rw [hU] at honly hU2
 unfold evV at honly ⊢
 have HR := Lib.hid hR; have HS := Lib.hid hsz
 generalize hb1 : w.heap.size = b1 at *
 clear H hR hU hsz
 go_enter Tryz.func35, Tryz.ntmps35
 go_upto_region 2 with (go_at_call 57; refine honly.mono ?_; rintro r w3 ⟨s, X, rfl, H3, hs⟩; clear honly)
 have HB1 := Lib.hid hb1
 clear hb1 H1 n0 n1 n2 n3 n4 n5
 have H4 := HL.allocE H3 (onlyE e) (.slice A4 (onlyE e).list.length c4)
 obtain ⟨As, cs, rfl, hcs1, hcs2⟩ := rd_shape (hs w3 H3)
 unfold maxLen at hcs2
 generalize World.alloc w3 _ = W at *
 generalize w3.heap.size = b4 at *
 have hs4 := hs.cons (boxE b4 (onlyE e) (.slice A4 (onlyE e).list.length c4))
 obtain ⟨n0, n1, n2, n3, n4, n5⟩ := boxE_cells (H4.sel 3 [2])
 obtain ⟨m0, m1, m2, m3, m4, m5⟩ := boxE_cells H4
 have HU := Lib.hid ((hU2.cons X).cons (boxE b4 (onlyE e) (.slice A4 (onlyE e).list.length c4)))
 have HI := Lib.hid (((h.cons (boxE b1 e (.slice A e.list.length c))).cons X).cons (boxE b4 (onlyE e) (.slice A4 (onlyE e).list.length c4)))
 have HS4 := Lib.hid hs4
 clear h hU2 hs hs4 H3
 go_cut [45] (fun t45 wc => t45 = .bool (!refR1 e) ∧ HL w0 wc (boxE b4 (onlyE e) (.slice A4 (onlyE e).list.length c4) :: X :: boxE b1 e (.slice A e.list.length c) :: L))
 case first =>
  have hdef : refR1 e = (!((onlyW e).length == 0) && sameB (onlyE e) e && decide (0 ≤ e.job) && decide (0 ≤ e.tm) && decide (0 ≤ e.nd) && decide (0 ≤ e.lm) && sgn e.list) := rfl
  have HDf := Lib.hid hdef
  clear hdef
  by_cases q0 : (onlyW e).length = 0
  ·have e0 : (((onlyW e).length : Int) == 0) = true := by simp [q0]
   have HX := Lib.hid (show refR1 e = false by rw [HDf.out]; simp [q0])
   clear q0
   go_wp2
   go_meet
   exact ⟨by rw [HX.out]; rfl, H4⟩
  have e0 : (((onlyW e).length : Int) == 0) = false := by simp; intro h; exact q0 (by rw [h]; rfl)
  have e00 : ((onlyW e).length == 0) = false := by simp; intro h; exact q0 (by rw [h]; rfl)
  have HE0 := Lib.hid e00
  clear q0 e00
  have hsame := Ref.same_ok H4 (onlyE e) e (.slice A4 (onlyE e).list.length c4) (.slice A e.list.length c) HU.out HI.out
  unfold evV at hsame
  cases q1 : sameB (onlyE e) e
  case false =>
   rw [q1] at hsame
   have HX := Lib.hid (show refR1 e = false by rw [HDf.out, q1]; simp)
   clear q1
   go_wp2_with (go_at_call 37; refine hsame.mono ?_; rintro r w5 ⟨rfl, H5⟩; clear hsame)
   go_meet
   exact ⟨by rw [HX.out]; rfl, H5⟩
  rw [q1] at hsame
  have HQ1 := Lib.hid q1
  clear q1
  have keep : ∀ W', HL w0 W' (boxE b4 (onlyE e) (.slice A4 (onlyE e).list.length c4) :: X :: boxE b1 e (.slice A e.list.length c) :: L) → W'.cell? ⟨b1, 1, none⟩ = some (.int .i64 e.job) ∧ W'.cell? ⟨b1, 2, none⟩ = some (.int .i64 e.tm) ∧ W'.cell? ⟨b1, 3, none⟩ = some (.int .i64 e.nd) ∧ W'.cell? ⟨b1, 4, none⟩ = some (.int .i64 e.lm) ∧ W'.cell? ⟨b1, 5, none⟩ = some (.slice A e.list.length c) := fun W' HW => (boxE_cells (HW.sel 3 [2])).2
  have HKE := Lib.hid keep
  clear keep
  cases q2 : decide (e.job < 0)
  case true =>
   have HX := Lib.hid (show refR1 e = false by
    have h : decide (0 ≤ e.job) = false := by simp at q2 ⊢; omega
    rw [HDf.out, h]; simp)
   go_wp2_with (go_at_call 37; refine hsame.mono ?_; rintro r w5 ⟨rfl, H5⟩; clear hsame n1 n2 n3 n4 n5; obtain ⟨n1, n2, n3, n4, n5⟩ := HKE.out _ H5)
   go_meet
   exact ⟨by rw [HX.out]; rfl, H5⟩
  have g2 : decide (0 ≤ e.job) = true := by simp at q2 ⊢; omega
  have HG2 := Lib.hid g2
  clear g2
  cases q3 : decide (e.tm < 0)
  case true =>
   have HX := Lib.hid (show refR1 e = false by
    have h : decide (0 ≤ e.tm) = false := by simp at q3 ⊢; omega
    rw [HDf.out, h]; simp)
   go_wp2_with (go_at_call 37; refine hsame.mono ?_; rintro r w5 ⟨rfl, H5⟩; clear hsame n1 n2 n3 n4 n5; obtain ⟨n1, n2, n3, n4, n5⟩ := HKE.out _ H5)
   go_meet
   exact ⟨by rw [HX.out]; rfl, H5⟩
  have g3 : decide (0 ≤ e.tm) = true := by simp at q3 ⊢; omega
  have HG3 := Lib.hid g3
  clear g3
  cases q4 : decide (e.nd < 0)
  case true =>
   have HX := Lib.hid (show refR1 e = false by
    have h : decide (0 ≤ e.nd) = false := by simp at q4 ⊢; omega
    rw [HDf.out, h]; simp)
   go_wp2_with (go_at_call 37; refine hsame.mono ?_; rintro r w5 ⟨rfl, H5⟩; clear hsame n1 n2 n3 n4 n5; obtain ⟨n1, n2, n3, n4, n5⟩ := HKE.out _ H5)
   go_meet
   exact ⟨by rw [HX.out]; rfl, H5⟩
  have g4 : decide (0 ≤ e.nd) = true := by simp at q4 ⊢; omega
  have HG4 := Lib.hid g4
  clear g4
  cases q5 : decide (e.lm < 0)
  case true =>
   have HX := Lib.hid (show refR1 e = false by
    have h : decide (0 ≤ e.lm) = false := by simp at q5 ⊢; omega
    rw [HDf.out, h]; simp)
   go_wp2_with (go_at_call 37; refine hsame.mono ?_; rintro r w5 ⟨rfl, H5⟩; clear hsame n1 n2 n3 n4 n5; obtain ⟨n1, n2, n3, n4, n5⟩ := HKE.out _ H5)
   go_meet
   exact ⟨by rw [HX.out]; rfl, H5⟩
  have g5 : decide (0 ≤ e.lm) = true := by simp at q5 ⊢; omega
  have HG5 := Lib.hid g5
  clear g5
  have HX := Lib.hid (show refR1 e = sgn e.list by rw [HDf.out, HE0.out, HQ1.out, HG2.out, HG3.out, HG4.out, HG5.out]; simp)
  cases q6 : sgn e.list
  all_goals
   go_wp2_with (first
    | (go_at_call 37; refine hsame.mono ?_; rintro r w5 ⟨rfl, H5⟩; clear hsame n1 n2 n3 n4 n5; obtain ⟨n1, n2, n3, n4, n5⟩ := HKE.out _ H5)
    | (go_at_call 31; refine (Ref.from0_ok (HI.out _ H5)).mono ?_; rintro r w6 ⟨rfl, rfl⟩))
   go_meet
   exact ⟨by rw [HX.out, q6]; try rfl, H5⟩
 case rest =>
  obtain ⟨rfl, H5⟩ := hcut
  clear H4 n0 n1 n2 n3 n4 n5 m0 m1 m2 m3 m4 m5
  obtain ⟨n0, n1, n2, n3, n4, n5⟩ := boxE_cells (H5.sel 3 [2])
  cases q0 : refR1 e
  case false =>
   have hno : right e = false := by rw [← HR.out, q0]; rfl
   obtain ⟨g1, g2⟩ := evN_no hno
   have G := Lib.hid (And.intro g1 g2)
   clear q0 hno g1 g2
   go_wp2
   go_ret2
   exact ⟨ret2S G.out.2 G.out.1, H5.tail.tail.tail⟩
  have hR2 : right e = refR2 e := by rw [← HR.out, q0]; rfl
  have HR2 := Lib.hid hR2
  clear hR2 q0
  go_upto_region 4 with (fail)
  go_cut [69] (fun t69 wd => t69 = .bool (!refR2 e) ∧ HL w0 wd (boxE b4 (onlyE e) (.slice A4 (onlyE e).list.length c4) :: X :: boxE b1 e (.slice A e.list.length c) :: L))
  case first =>
   have hd : refR2 e = (!(e.kind == 3 && (decide (e.nd < 3) || decide (6 < e.nd))) && !(e.kind == 2 && !ris e.list)) := rfl
   cases q3 : (e.kind == 3)
   case true =>
    have q2 : (e.kind == 2) = false := by simp at q3 ⊢; omega
    cases q4 : decide (e.nd < 3)
    case true =>
     have HX := Lib.hid (show refR2 e = false by rw [hd, q3, q4]; rfl)
     clear hd
     go_wp2
     go_meet
     exact ⟨by rw [HX.out]; rfl, H5⟩
    cases q5 : decide (6 < e.nd)
    case true =>
     have HX := Lib.hid (show refR2 e = false by rw [hd, q3, q4, q5]; rfl)
     clear hd
     go_wp2
     go_meet
     exact ⟨by rw [HX.out]; rfl, H5⟩
    have HX := Lib.hid (show refR2 e = true by rw [hd, q3, q4, q5, q2]; rfl)
    clear hd
    go_wp2
    go_meet
    exact ⟨by rw [HX.out]; rfl, H5⟩
   cases q2 : (e.kind == 2)
   case false =>
    have HX := Lib.hid (show refR2 e = true by rw [hd, q3, q2]; rfl)
    clear hd
    go_wp2
    go_meet
    exact ⟨by rw [HX.out]; rfl, H5⟩
   have HX := Lib.hid (show refR2 e = ris e.list by rw [hd, q3, q2]; simp)
   clear hd
   cases q6 : ris e.list
   all_goals
    go_wp2_with (go_at_call 33; refine (Ref.rises_ok (HI.out _ H5)).mono ?_; rintro r w6 ⟨rfl, rfl⟩)
    go_meet
    exact ⟨by rw [HX.out, q6]; try rfl, H5⟩
  case rest =>
   obtain ⟨rfl, H6⟩ := hcut
   clear H5 n0 n1 n2 n3 n4 n5
   cases q0 : refR2 e
   case false =>
    have hno : right e = false := by rw [HR2.out, q0]
    obtain ⟨g1, g2⟩ := evN_no hno
    have G := Lib.hid (And.intro g1 g2)
    clear q0 hno g1 g2
    go_wp2
    go_ret2
    exact ⟨ret2S G.out.2 G.out.1, H6.tail.tail.tail⟩
   have hyes : right e = true := by rw [HR2.out, q0]
   obtain ⟨g1, g2⟩ := evN_yes hyes
   have G := Lib.hid (And.intro g1 g2)
   have hwd := Ref.words_ok H6 HS4.out HS.out (by omega)
   clear q0 hyes g1 g2
   go_wp2_with (go_at_call 55; refine hwd.mono ?_; rintro r w7 ⟨rfl, H7⟩; clear hwd H6)
   go_ret2
   exact ⟨ret2S G.out.2 G.out.1, H7.tail.tail.tail⟩
end
end Go.Proofs.YtdekbbffoaphhaaGreatDoor

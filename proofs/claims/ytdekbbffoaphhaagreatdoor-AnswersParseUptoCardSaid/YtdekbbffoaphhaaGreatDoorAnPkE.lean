/- The reference reads an event's line. -/
import Derived.Test.YtdekbbffoaphhaaGreatDoorAnPkC
import Derived.Test.YtdekbbffoaphhaaGreatDoorAnRefEv
import Derived.Test.YtdekbbffoaphhaaGreatDoorAnParse
import Derived.OrdersHeld
import Derived.Test.YtdekbbffoaphhaaGreatDoorAnZipB
import Derived.Test.YtdekbbffoaphhaaGreatDoorAnZip
import Derived.Test.YtdekbbffoaphhaaGreatDoorAnPkB
set_option linter.unusedVariables false
set_option linter.unusedSimpArgs false
set_option maxRecDepth 100000
set_option maxHeartbeats 8000000
namespace Go.Proofs.YtdekbbffoaphhaaGreatDoor
open Go.RowKit Go.Proofs.HL Go.Proofs.An
section
variable {w0 w : World} {L : List At} {v : Value}
def RefReadPost (w0 : World) (L : List At) (s : ByteArray) (r : Ending) (w' : World) : Prop := ∃ u K, r = .returned (.tuple #[evV (refReadE s).1 u, .int .i64 (refReadE s).2]) ∧ Ints w0 K u (refReadE s).1.list ∧ HL w0 w' (K ++ L)
theorem refReadPost_no {s : ByteArray} (h : refReadE s = (zE, 90)) {w' : World} (H : HL w0 w' L) : RefReadPost w0 L s (.returned (.tuple #[evV zE (.slice none 0 0), .int .i64 90])) w' := by
 refine ⟨.slice none 0 0, [], by rw [h], ?_, H⟩
 rw [h]
 exact fun W _ => rd_nil
theorem refReadPost_yes {s : ByteArray} {e : Ev} (h : refReadE s = (e, 0)) {u : Value} {K : List At} (hu : Ints w0 K u e.list) {w' : World} (H : HL w0 w' (K ++ L)) : RefReadPost w0 L s (.returned (.tuple #[evV e u, .int .i64 0])) w' := by
 refine ⟨u, K, by rw [h], ?_, H⟩
 rw [h]
 exact hu
theorem refReadsPost_some_eq {ws : List ByteArray} {l : List Int} (h : readV ws = some l) : RefReadsPost w0 L ws = fun e w' => ∃ u, e = .returned (.tuple #[u, .bool true]) ∧ HL w0 w' (intsR w0.heap.size u l :: L) := by
 funext e w'; unfold RefReadsPost; rw [h]
theorem refReadsPost_none_eq {ws : List ByteArray} (h : readV ws = none) : RefReadsPost w0 L ws = fun e w' => e = .returned (.tuple #[.slice none 0 0, .bool false]) ∧ HL w0 w' L := by
 funext e w'; unfold RefReadsPost; rw [h]
end
open Go.RowKit Go.Proofs.HL Go.Proofs.An
section
variable {w0 w : World} {L : List At} {v : Value}
theorem Ref.re_1 (hD : Doors w0) (H : HL w0 w L) (s : ByteArray) (hs : s.size ≤ 1000000000) {s0 : ByteArray} (hs0 : (wordsC 32 s)[0]? = some s0) (hb : ¬ (s0 = endW ∧ (wordsC 32 s).length = 4)) (hg : s0 = submitB) {n : List Int} (hnr : readV ((wordsC 32 s).drop 1) = some n) (hk : n.length = 4) :
  Calls Tryz.prog 47 #[.string s] w (RefReadPost w0 L s) := by
 have H1 := HL.bzE H
 have hcut := Ref.cut_ok H1 s hs 32
 rw [show ((32 : UInt8).toNat : Int) = 32 from rfl] at hcut
 have hws := wordsC_size 32 s
 have hwl := wordsC_most 32 s
 have hpos := wordsC_len 32 s
 have hhead : (wordsC 32 s).headD ⟨#[]⟩ = s0 := by
  generalize wordsC 32 s = W at *
  cases W with
  | nil => simp at hs0
  | cons x r => simpa using hs0
 have hnE : ¬ isE (wordsC 32 s) := fun h => hb ⟨by rw [← hhead]; exact h.1, h.2⟩
 have hre : refReadE s = match refCand (wordsC 32 s) with | none => (zE, 90) | some e => if right e = true ∧ evS e = s then (e, 0) else (zE, 90) := rfl
 have hcok : ∀ e, refCand (wordsC 32 s) = some e → EvOk e := fun e => refCand_ok hs
 have hcand : refCand (wordsC 32 s) = match readV ((wordsC 32 s).drop 1) with | none => none | some n => refEv s0 n 0 false := by unfold refCand; rw [if_neg hnE, hhead]; rfl
 clear hhead hnE
 generalize wordsC 32 s = W at *
 generalize hb2 : w.heap.size = b2 at *
 have HRE := Lib.hid hre; have HCOK := Lib.hid hcok; have HWS := Lib.hid hws; have HS0 := Lib.hid hs0; have HCAND := Lib.hid hcand; have HNB := Lib.hid hb; have HN := Lib.hid hnr; have HG := Lib.hid hg; have HK := Lib.hid hk
 clear hnr hg hk hre hcok hws hs0 hcand hb H
 go_enter Tryz.func47, Tryz.ntmps47
 go_upto_region 2 with (go_at_call 44; refine hcut.mono ?_; rintro e w2 ⟨v, rfl, H2⟩; clear hcut H1)
 have HB2 := Lib.hid hb2
 clear hb2
 generalize World.alloc w _ = Wx at *
 have H3 := HL.bzE H2
 obtain ⟨b1, o1, c1, rfl, d0⟩ := str_at (entRow _ H3.tail) HS0.out
 rw [Nat.add_zero] at d0
 obtain ⟨A1, c1', hv1, hc1, hc2⟩ := rd_shape (entRow _ H3.tail)
 simp only [Value.slice.injEq] at hv1
 obtain ⟨-, -, rfl⟩ := hv1
 unfold maxLen at hc2
 have h0W : 0 < W.length := by omega
 generalize hb5 : w2.heap.size = b5 at *
 go_upto_region 3 with (fail)
 have HB5 := Lib.hid hb5
 clear hb5 H2
 generalize World.alloc w2 _ = W3 at *
 obtain ⟨l1, hl1⟩ : ∃ l1, W.length = l1 + 1 := ⟨W.length - 1, by omega⟩
 obtain ⟨cc, rfl⟩ : ∃ cc, c1 = cc + 1 := ⟨c1 - 1, by omega⟩
 obtain ⟨A', hA'⟩ : ∃ A', (if cc = 0 then some (⟨b1, o1, none⟩ : Addr) else some ⟨b1, o1 + 1, none⟩) = A' := ⟨_, rfl⟩
 have hle : l1 ≤ cc := by omega
 have hwd : (W.drop 1).length = l1 := by rw [List.length_drop, hl1]; rfl
 have hRs : Strs w0 (boxE b5 zE (.slice none 0 0) :: strs w0.heap.size (.slice (some ⟨b1, o1, none⟩) W.length (cc + 1)) W :: boxE b2 zE (.slice none 0 0) :: L) (.slice A' l1 cc) (W.drop 1) := fun W' HW => by
  have h1 : Rd 1 _ W.length (strC W) W' := entRow _ HW.tail
  rw [hl1] at h1
  rw [hwd, strC, List.map_drop, ← hA']
  by_cases hz : cc = 0
  ·rw [if_pos hz]
   have := rd_suffix h1 1 (by omega) (a' := ⟨b1, o1, none⟩) (.inr (by omega))
   simpa using this
  ·rw [if_neg hz]
   have := rd_suffix h1 1 (by omega) (a' := ⟨b1, o1 + 1, none⟩) (.inl (by rw [add_plain]))
   simpa using this
 have hsz : ∀ x ∈ W.drop 1, x.size ≤ 1000000000 := fun x hx => by
  have := HWS.out x (List.mem_of_mem_drop hx)
  omega
 have hrd := Ref.read_ok H3 hRs hsz (by rw [hwd]; omega)
 clear hsz
 have hmin : min (1 : Int) ((l1 : Int) + 1) = 1 := by omega
 have hl0 : (0 : Int) < (l1 : Int) + 1 := by omega
 have HWD := Lib.hid hwd
 have HLL := Lib.hid (show l1 ≤ 1000000001 by omega)
 have HL1 := Lib.hid hl1
 rw [hl1]
 clear hwd hRs hl1 hwl hpos h0W
 rw [refReadsPost_some_eq HN.out] at hrd
 have hnl := readV_len _ _ HN.out
 rw [HWD.out] at hnl
 have hce : refCand W = refEv s0 n 0 false := by rw [HCAND.out, HN.out]
 have HCE := Lib.hid hce
 clear hce
 have q1 : (s0.toList == [115, 117, 98, 109, 105, 116]) = true := by rw [HG.out]; decide +kernel
 have q2 : (s0.toList == [115, 116, 97, 114, 116]) = false := by rw [HG.out]; decide +kernel
 have q4 : (s0.toList == [112, 105, 110]) = false := by rw [HG.out]; decide +kernel
 have q5 : (s0.toList == [112, 97, 115, 115]) = false := by rw [HG.out]; decide +kernel
 have q6 : (s0.toList == [116, 105, 99, 107]) = false := by rw [HG.out]; decide +kernel
 have q7 : (s0.toList == [100, 101, 99, 97, 121]) = false := by rw [HG.out]; decide +kernel
 have q3 : (s0.toList == [101, 110, 100]) = false := by rw [HG.out]; decide +kernel
 go_upto_region 12 with (go_at_call 46; refine hrd.mono ?_; rintro r w5 ⟨u, rfl, H5⟩; clear hrd H3)
 have H6 := H5.swap
 clear H5 hA'
 obtain ⟨An, cn, rfl, hn1, hn2⟩ := rd_shape (entRow _ H6.tail)
 unfold maxLen at hn2
 have hn := fun W' e' (HW : HL w0 W' (boxE b5 e' (.slice none 0 0) :: intsR w0.heap.size (.slice An n.length cn) n :: strs w0.heap.size (.slice (some ⟨b1, o1, none⟩) W.length (cc + 1)) W :: boxE b2 zE (.slice none 0 0) :: L)) => (entRow _ HW.tail : Rd 1 (.slice An n.length cn) n.length (intC n) W')
 clear d0
 obtain ⟨b', o', c', hv, d0⟩ := str_at (entRow _ H6.tail.tail) HS0.out
 simp only [Value.slice.injEq, Option.some.injEq, Addr.mk.injEq] at hv
 obtain ⟨⟨rfl, rfl, -⟩, -, -⟩ := hv
 rw [Nat.add_zero] at d0
 have HNL := Lib.hid hnl
 clear hnl
 obtain ⟨m0, m1, m2, m3, m4, m5⟩ := boxE_cells H6
 have hk := HK.out
 have hev := refEv_1 (n := n) (nd := 0)
 rw [← HG.out] at hev
 have HEVY := Lib.hid (show refEv s0 n 0 false = _ by rw [hev, if_pos hk])
 clear hev
 have hlk := hk
 have lk : ((n.length : Int) == 4) = true := by simp; omega
 obtain ⟨x0, hx0⟩ : ∃ x, n[0]? = some x := ⟨_, List.getElem?_eq_getElem (by omega)⟩
 obtain ⟨x1, hx1⟩ : ∃ x, n[1]? = some x := ⟨_, List.getElem?_eq_getElem (by omega)⟩
 obtain ⟨x2, hx2⟩ : ∃ x, n[2]? = some x := ⟨_, List.getElem?_eq_getElem (by omega)⟩
 obtain ⟨x3, hx3⟩ : ∃ x, n[3]? = some x := ⟨_, List.getElem?_eq_getElem (by omega)⟩
 obtain ⟨bn, on, cn', hv, g0⟩ := int_at (hn _ _ H6) hx0
 simp only [Value.slice.injEq] at hv
 obtain ⟨rfl, -, rfl⟩ := hv
 rw [Nat.add_zero] at g0
 obtain ⟨b', o', c', hv, g1⟩ := int_at (hn _ _ H6) hx1
 simp only [Value.slice.injEq, Option.some.injEq, Addr.mk.injEq] at hv
 obtain ⟨⟨rfl, rfl, -⟩, -, -⟩ := hv
 obtain ⟨b', o', c', hv, g2⟩ := int_at (hn _ _ H6) hx2
 simp only [Value.slice.injEq, Option.some.injEq, Addr.mk.injEq] at hv
 obtain ⟨⟨rfl, rfl, -⟩, -, -⟩ := hv
 obtain ⟨b', o', c', hv, g3⟩ := int_at (hn _ _ H6) hx3
 simp only [Value.slice.injEq, Option.some.injEq, Addr.mk.injEq] at hv
 obtain ⟨⟨rfl, rfl, -⟩, -, -⟩ := hv
 have k0n : (0 : Int) < (n.length : Int) := by omega
 have k1n : (1 : Int) < (n.length : Int) := by omega
 have k2n : (2 : Int) < (n.length : Int) := by omega
 have k3n : (3 : Int) < (n.length : Int) := by omega
 have kn0 : 0 < n.length := by omega
 have hy : refEv s0 n 0 false = some ⟨1, x0, x1, x2, x3, []⟩ := by rw [HEVY.out]; simp [List.getD_eq_getElem?_getD, hx0, hx1, hx2, hx3]
 have HY := Lib.hid hy
 clear hy hx0 hx1 hx2 hx3
 go_upto_region 16 with (fail)
 refine wp_region_cut 13 (by kernel_rfl) (by kernel_rfl) ?_
 simp only [List.take_succ_cons, List.take_zero, List.drop_succ_cons, List.drop_zero]
 repeat (go_big_quiet_step ((fail)))
 refine wpQuiet_nil ?_
 intro nq
 have Hd := H6.drewN nq
 generalize World.drewN _ nq = Wd at *
 obtain ⟨n0, n1, n2, n3, n4, n5⟩ := boxE_cells Hd
 obtain ⟨y0, y1, y2, y3, y4, y5⟩ := boxE_froz Hd
 have HS := boxE_put (d := ⟨1, x0, x1, x2, x3, []⟩) (u := (.slice none 0 0)) Hd
 try dsimp only at HS
 go_upto_region 29 with (fail)
 generalize World.setCell _ _ _ = W7 at *
 have hx : ∃ e A c, refEv s0 n 0 false = some e ∧ Ints w0 [intsR w0.heap.size (.slice (some ⟨bn, on, none⟩) n.length cn) n] (.slice A e.list.length c) e.list ∧ HL w0 W7 (boxE b5 e (.slice A e.list.length c) :: intsR w0.heap.size (.slice (some ⟨bn, on, none⟩) n.length cn) n :: strs w0.heap.size (.slice (some ⟨b1, o1, none⟩) W.length (cc + 1)) W :: boxE b2 zE (.slice none 0 0) :: L) := by
  exact ⟨_, none, 0, HY.out, fun W _ => rd_nil, HS⟩
 obtain ⟨e, A, c, he, hI, H7⟩ := hx
 clear HS n0 n1 n2 n3 n4 n5 y0 y1 y2 y3 y4 y5 H6 hn lk g0 g1 g2 g3 m0 m1 m2 m3 m4 m5 d0 HY HEVY
 have hok : EvOk e := HCOK.out e (by rw [HCE.out]; exact he)
 have hfew : e.list.length ≤ 4294967200 := by
  have h1 := refEv_few he
  have h2 := HNL.out
  have h3 := HLL.out
  omega
 have hread : refReadE s = if right e = true ∧ evS e = s then (e, 0) else (zE, 90) := by rw [HRE.out, HCE.out, he]
 have HRD := Lib.hid hread; have HI := Lib.hid hI
 have hev := Ref.event_ok hD H7 e ((Ent.left hI).cons _) hok hfew
 obtain ⟨n0, n1, n2, n3, n4, n5⟩ := boxE_cells H7
 clear he hread hI hok hfew
 unfold evV at hev
 go_upto_region 30 with (go_at_call 35; refine hev.mono ?_; rintro r w7 ⟨rfl, H8⟩; clear hev H7 n0 n1 n2 n3 n4 n5)
 cases hrt : right e with
 | false =>
  have hn90 := (evN_no hrt).1
  have HBAD := Lib.hid (show refReadE s = (zE, 90) by rw [HRD.out, hrt]; simp)
  rw [hn90]
  have H9 := H8.sel 4 [3]
  clear hrt hn90
  obtain ⟨x0, x1, x2, x3, x4, x5⟩ := boxE_cells H9
  obtain ⟨y0, y1, y2, y3, y4, y5⟩ := boxE_froz H9
  have HS := boxE_put (d := zE) (u := .slice none 0 0) H9
  simp only [zE] at HS
  go_wp2
  clear x0 x1 x2 x3 x4 x5 y0 y1 y2 y3 y4 y5
  generalize World.setCell _ _ _ = W9 at *
  obtain ⟨x0, x1, x2, x3, x4, x5⟩ := boxE_cells (e := zE) HS
  refine bodyPost_ret (v := .tuple #[evV zE (.slice none 0 0), .int .i64 90]) (by simp [results, Tryz.results47, go_sem, x0, x1, x2, x3, x4, x5]; try rfl) rfl ?_
  exact refReadPost_no HBAD.out HS.tail

 | true =>
  have hn0 := (evN_yes hrt).1
  rw [hn0]
  clear hn0
  by_cases hes : evS e = s
  ·have HGOOD := Lib.hid (show refReadE s = (e, 0) by rw [HRD.out, hrt, hes]; simp)
   rw [hes]
   have hq : (s.toList == s.toList) = true := beq_self_eq_true _
   have H9 := H8.sel 4 [3, 1]
   obtain ⟨n0, n1, n2, n3, n4, n5⟩ := boxE_cells H8
   obtain ⟨x0, x1, x2, x3, x4, x5⟩ := boxE_cells H9
   obtain ⟨y0, y1, y2, y3, y4, y5⟩ := boxE_froz H9
   have HS := boxE_put (d := e) (u := .slice A e.list.length c) H9
   clear hrt hes H8
   go_wp2
   clear n0 n1 n2 n3 n4 n5 x0 x1 x2 x3 x4 x5 y0 y1 y2 y3 y4 y5 H9
   generalize World.setCell _ _ _ = W9 at *
   obtain ⟨x0, x1, x2, x3, x4, x5⟩ := boxE_cells HS
   refine bodyPost_ret (v := .tuple #[evV e (.slice A e.list.length c), .int .i64 0]) (by simp [results, Tryz.results47, go_sem, x0, x1, x2, x3, x4, x5]; try rfl) rfl ?_
   exact refReadPost_yes HGOOD.out HI.out HS.tail
  ·have HBAD := Lib.hid (show refReadE s = (zE, 90) by rw [HRD.out, hrt]; simp [hes])
   have hq : ((evS e).toList == s.toList) = false := by rw [beq_eq_false_iff_ne]; exact fun h => hes (bytesSame h)
   have H9 := H8.sel 4 [3]
   clear hrt hes
   generalize evS e = st at *
   obtain ⟨x0, x1, x2, x3, x4, x5⟩ := boxE_cells H9
   obtain ⟨y0, y1, y2, y3, y4, y5⟩ := boxE_froz H9
   have HS := boxE_put (d := zE) (u := .slice none 0 0) H9
   simp only [zE] at HS
   go_wp2
   clear x0 x1 x2 x3 x4 x5 y0 y1 y2 y3 y4 y5
   generalize World.setCell _ _ _ = W9 at *
   obtain ⟨x0, x1, x2, x3, x4, x5⟩ := boxE_cells (e := zE) HS
   refine bodyPost_ret (v := .tuple #[evV zE (.slice none 0 0), .int .i64 90]) (by simp [results, Tryz.results47, go_sem, x0, x1, x2, x3, x4, x5]; try rfl) rfl ?_
   exact refReadPost_no HBAD.out HS.tail

theorem Ref.re_2 (hD : Doors w0) (H : HL w0 w L) (s : ByteArray) (hs : s.size ≤ 1000000000) {s0 : ByteArray} (hs0 : (wordsC 32 s)[0]? = some s0) (hb : ¬ (s0 = endW ∧ (wordsC 32 s).length = 4)) (hg : s0 = startB) {n : List Int} (hnr : readV ((wordsC 32 s).drop 1) = some n) (hk : 2 ≤ n.length) :
  Calls Tryz.prog 47 #[.string s] w (RefReadPost w0 L s) := by
 have H1 := HL.bzE H
 have hcut := Ref.cut_ok H1 s hs 32
 rw [show ((32 : UInt8).toNat : Int) = 32 from rfl] at hcut
 have hws := wordsC_size 32 s
 have hwl := wordsC_most 32 s
 have hpos := wordsC_len 32 s
 have hhead : (wordsC 32 s).headD ⟨#[]⟩ = s0 := by
  generalize wordsC 32 s = W at *
  cases W with
  | nil => simp at hs0
  | cons x r => simpa using hs0
 have hnE : ¬ isE (wordsC 32 s) := fun h => hb ⟨by rw [← hhead]; exact h.1, h.2⟩
 have hre : refReadE s = match refCand (wordsC 32 s) with | none => (zE, 90) | some e => if right e = true ∧ evS e = s then (e, 0) else (zE, 90) := rfl
 have hcok : ∀ e, refCand (wordsC 32 s) = some e → EvOk e := fun e => refCand_ok hs
 have hcand : refCand (wordsC 32 s) = match readV ((wordsC 32 s).drop 1) with | none => none | some n => refEv s0 n 0 false := by unfold refCand; rw [if_neg hnE, hhead]; rfl
 clear hhead hnE
 generalize wordsC 32 s = W at *
 generalize hb2 : w.heap.size = b2 at *
 have HRE := Lib.hid hre; have HCOK := Lib.hid hcok; have HWS := Lib.hid hws; have HS0 := Lib.hid hs0; have HCAND := Lib.hid hcand; have HNB := Lib.hid hb; have HN := Lib.hid hnr; have HG := Lib.hid hg; have HK := Lib.hid hk
 clear hnr hg hk hre hcok hws hs0 hcand hb H
 go_enter Tryz.func47, Tryz.ntmps47
 go_upto_region 2 with (go_at_call 44; refine hcut.mono ?_; rintro e w2 ⟨v, rfl, H2⟩; clear hcut H1)
 have HB2 := Lib.hid hb2
 clear hb2
 generalize World.alloc w _ = Wx at *
 have H3 := HL.bzE H2
 obtain ⟨b1, o1, c1, rfl, d0⟩ := str_at (entRow _ H3.tail) HS0.out
 rw [Nat.add_zero] at d0
 obtain ⟨A1, c1', hv1, hc1, hc2⟩ := rd_shape (entRow _ H3.tail)
 simp only [Value.slice.injEq] at hv1
 obtain ⟨-, -, rfl⟩ := hv1
 unfold maxLen at hc2
 have h0W : 0 < W.length := by omega
 generalize hb5 : w2.heap.size = b5 at *
 go_upto_region 3 with (fail)
 have HB5 := Lib.hid hb5
 clear hb5 H2
 generalize World.alloc w2 _ = W3 at *
 obtain ⟨l1, hl1⟩ : ∃ l1, W.length = l1 + 1 := ⟨W.length - 1, by omega⟩
 obtain ⟨cc, rfl⟩ : ∃ cc, c1 = cc + 1 := ⟨c1 - 1, by omega⟩
 obtain ⟨A', hA'⟩ : ∃ A', (if cc = 0 then some (⟨b1, o1, none⟩ : Addr) else some ⟨b1, o1 + 1, none⟩) = A' := ⟨_, rfl⟩
 have hle : l1 ≤ cc := by omega
 have hwd : (W.drop 1).length = l1 := by rw [List.length_drop, hl1]; rfl
 have hRs : Strs w0 (boxE b5 zE (.slice none 0 0) :: strs w0.heap.size (.slice (some ⟨b1, o1, none⟩) W.length (cc + 1)) W :: boxE b2 zE (.slice none 0 0) :: L) (.slice A' l1 cc) (W.drop 1) := fun W' HW => by
  have h1 : Rd 1 _ W.length (strC W) W' := entRow _ HW.tail
  rw [hl1] at h1
  rw [hwd, strC, List.map_drop, ← hA']
  by_cases hz : cc = 0
  ·rw [if_pos hz]
   have := rd_suffix h1 1 (by omega) (a' := ⟨b1, o1, none⟩) (.inr (by omega))
   simpa using this
  ·rw [if_neg hz]
   have := rd_suffix h1 1 (by omega) (a' := ⟨b1, o1 + 1, none⟩) (.inl (by rw [add_plain]))
   simpa using this
 have hsz : ∀ x ∈ W.drop 1, x.size ≤ 1000000000 := fun x hx => by
  have := HWS.out x (List.mem_of_mem_drop hx)
  omega
 have hrd := Ref.read_ok H3 hRs hsz (by rw [hwd]; omega)
 clear hsz
 have hmin : min (1 : Int) ((l1 : Int) + 1) = 1 := by omega
 have hl0 : (0 : Int) < (l1 : Int) + 1 := by omega
 have HWD := Lib.hid hwd
 have HLL := Lib.hid (show l1 ≤ 1000000001 by omega)
 have HL1 := Lib.hid hl1
 rw [hl1]
 clear hwd hRs hl1 hwl hpos h0W
 rw [refReadsPost_some_eq HN.out] at hrd
 have hnl := readV_len _ _ HN.out
 rw [HWD.out] at hnl
 have hce : refCand W = refEv s0 n 0 false := by rw [HCAND.out, HN.out]
 have HCE := Lib.hid hce
 clear hce
 have q1 : (s0.toList == [115, 117, 98, 109, 105, 116]) = false := by rw [HG.out]; decide +kernel
 have q2 : (s0.toList == [115, 116, 97, 114, 116]) = true := by rw [HG.out]; decide +kernel
 have q4 : (s0.toList == [112, 105, 110]) = false := by rw [HG.out]; decide +kernel
 have q5 : (s0.toList == [112, 97, 115, 115]) = false := by rw [HG.out]; decide +kernel
 have q6 : (s0.toList == [116, 105, 99, 107]) = false := by rw [HG.out]; decide +kernel
 have q7 : (s0.toList == [100, 101, 99, 97, 121]) = false := by rw [HG.out]; decide +kernel
 have q3 : (s0.toList == [101, 110, 100]) = false := by rw [HG.out]; decide +kernel
 go_upto_region 12 with (go_at_call 46; refine hrd.mono ?_; rintro r w5 ⟨u, rfl, H5⟩; clear hrd H3)
 have H6 := H5.swap
 clear H5 hA'
 obtain ⟨An, cn, rfl, hn1, hn2⟩ := rd_shape (entRow _ H6.tail)
 unfold maxLen at hn2
 have hn := fun W' e' (HW : HL w0 W' (boxE b5 e' (.slice none 0 0) :: intsR w0.heap.size (.slice An n.length cn) n :: strs w0.heap.size (.slice (some ⟨b1, o1, none⟩) W.length (cc + 1)) W :: boxE b2 zE (.slice none 0 0) :: L)) => (entRow _ HW.tail : Rd 1 (.slice An n.length cn) n.length (intC n) W')
 clear d0
 obtain ⟨b', o', c', hv, d0⟩ := str_at (entRow _ H6.tail.tail) HS0.out
 simp only [Value.slice.injEq, Option.some.injEq, Addr.mk.injEq] at hv
 obtain ⟨⟨rfl, rfl, -⟩, -, -⟩ := hv
 rw [Nat.add_zero] at d0
 have HNL := Lib.hid hnl
 clear hnl
 obtain ⟨m0, m1, m2, m3, m4, m5⟩ := boxE_cells H6
 have hk := HK.out
 have hev := refEv_2 (n := n) (nd := 0)
 rw [← HG.out] at hev
 have HEVY := Lib.hid (show refEv s0 n 0 false = _ by rw [hev, if_pos hk])
 clear hev
 have hlk := hk
 have lk : decide ((2 : Int) ≤ (n.length : Int)) = true := by exact decide_eq_true (by omega)
 obtain ⟨x0, hx0⟩ : ∃ x, n[0]? = some x := ⟨_, List.getElem?_eq_getElem (by omega)⟩
 obtain ⟨x1, hx1⟩ : ∃ x, n[1]? = some x := ⟨_, List.getElem?_eq_getElem (by omega)⟩
 obtain ⟨bn, on, cn', hv, g0⟩ := int_at (hn _ _ H6) hx0
 simp only [Value.slice.injEq] at hv
 obtain ⟨rfl, -, rfl⟩ := hv
 rw [Nat.add_zero] at g0
 obtain ⟨b', o', c', hv, g1⟩ := int_at (hn _ _ H6) hx1
 simp only [Value.slice.injEq, Option.some.injEq, Addr.mk.injEq] at hv
 obtain ⟨⟨rfl, rfl, -⟩, -, -⟩ := hv
 have k0n : (0 : Int) < (n.length : Int) := by omega
 have k1n : (1 : Int) < (n.length : Int) := by omega
 have kn0 : 0 < n.length := by omega
 have hy : refEv s0 n 0 false = some ⟨2, x0, x1, 0, 0, n.drop 2⟩ := by rw [HEVY.out]; simp [List.getD_eq_getElem?_getD, hx0, hx1]
 have HY := Lib.hid hy
 clear hy hx0 hx1
 obtain ⟨A2, hUU⟩ : ∃ A', (if cn = 2 then (some ⟨bn, on, none⟩ : Option Addr) else some ⟨bn, on + 2, none⟩) = A' := ⟨_, rfl⟩
 have hle2 : 2 ≤ n.length := by omega
 have hlc2 : 2 ≤ cn := by omega
 have hmn2 : min (2 : Int) (n.length : Int) = 2 := by omega
 have hU : Ints w0 [intsR w0.heap.size (.slice (some ⟨bn, on, none⟩) n.length cn) n] (.slice A2 (n.length - 2) (cn - 2)) (n.drop 2) := fun W' HW => by
  have hh : Rd 1 (.slice (some ⟨bn, on, none⟩) n.length cn) n.length (intC n) W' := entRow _ HW
  rw [← hUU, List.length_drop, intC, List.map_drop]
  by_cases hcap : cn = 2
  ·rw [if_pos hcap]
   have := rd_suffix hh 2 hle2 (a' := ⟨bn, on, none⟩) (.inr (by omega))
   simpa using this
  ·rw [if_neg hcap]
   have := rd_suffix hh 2 hle2 (a' := ⟨bn, on + 2, none⟩) (.inl (by rw [Nat.mul_one, add_plain]))
   simpa using this
 have HU := Lib.hid hU
 clear hU
 go_upto_region 18 with (fail)
 refine wp_region_cut 9 (by kernel_rfl) (by kernel_rfl) ?_
 simp only [List.take_succ_cons, List.take_zero, List.drop_succ_cons, List.drop_zero]
 repeat (go_big_quiet_step ((fail)))
 refine wpQuiet_nil ?_
 intro nq
 have Hd := H6.drewN nq
 generalize World.drewN _ nq = Wd at *
 obtain ⟨n0, n1, n2, n3, n4, n5⟩ := boxE_cells Hd
 obtain ⟨y0, y1, y2, y3, y4, y5⟩ := boxE_froz Hd
 have HS := boxE_put (d := ⟨2, x0, x1, 0, 0, n.drop 2⟩) (u := (.slice A2 (n.length - 2) (cn - 2))) Hd
 try dsimp only at HS
 go_upto_region 29 with (fail)
 generalize World.setCell _ _ _ = W7 at *
 have hx : ∃ e A c, refEv s0 n 0 false = some e ∧ Ints w0 [intsR w0.heap.size (.slice (some ⟨bn, on, none⟩) n.length cn) n] (.slice A e.list.length c) e.list ∧ HL w0 W7 (boxE b5 e (.slice A e.list.length c) :: intsR w0.heap.size (.slice (some ⟨bn, on, none⟩) n.length cn) n :: strs w0.heap.size (.slice (some ⟨b1, o1, none⟩) W.length (cc + 1)) W :: boxE b2 zE (.slice none 0 0) :: L) := by
  exact ⟨_, A2, cn - 2, HY.out, by rw [List.length_drop]; exact HU.out, by have h := HS; rw [← List.length_drop (i := 2) (l := n)] at h; exact h⟩
 obtain ⟨e, A, c, he, hI, H7⟩ := hx
 clear HS n0 n1 n2 n3 n4 n5 y0 y1 y2 y3 y4 y5 H6 hn lk g0 g1 m0 m1 m2 m3 m4 m5 d0 HY HEVY
 have hok : EvOk e := HCOK.out e (by rw [HCE.out]; exact he)
 have hfew : e.list.length ≤ 4294967200 := by
  have h1 := refEv_few he
  have h2 := HNL.out
  have h3 := HLL.out
  omega
 have hread : refReadE s = if right e = true ∧ evS e = s then (e, 0) else (zE, 90) := by rw [HRE.out, HCE.out, he]
 have HRD := Lib.hid hread; have HI := Lib.hid hI
 have hev := Ref.event_ok hD H7 e ((Ent.left hI).cons _) hok hfew
 obtain ⟨n0, n1, n2, n3, n4, n5⟩ := boxE_cells H7
 clear he hread hI hok hfew
 unfold evV at hev
 go_upto_region 30 with (go_at_call 35; refine hev.mono ?_; rintro r w7 ⟨rfl, H8⟩; clear hev H7 n0 n1 n2 n3 n4 n5)
 cases hrt : right e with
 | false =>
  have hn90 := (evN_no hrt).1
  have HBAD := Lib.hid (show refReadE s = (zE, 90) by rw [HRD.out, hrt]; simp)
  rw [hn90]
  have H9 := H8.sel 4 [3]
  clear hrt hn90
  obtain ⟨x0, x1, x2, x3, x4, x5⟩ := boxE_cells H9
  obtain ⟨y0, y1, y2, y3, y4, y5⟩ := boxE_froz H9
  have HS := boxE_put (d := zE) (u := .slice none 0 0) H9
  simp only [zE] at HS
  go_wp2
  clear x0 x1 x2 x3 x4 x5 y0 y1 y2 y3 y4 y5
  generalize World.setCell _ _ _ = W9 at *
  obtain ⟨x0, x1, x2, x3, x4, x5⟩ := boxE_cells (e := zE) HS
  refine bodyPost_ret (v := .tuple #[evV zE (.slice none 0 0), .int .i64 90]) (by simp [results, Tryz.results47, go_sem, x0, x1, x2, x3, x4, x5]; try rfl) rfl ?_
  exact refReadPost_no HBAD.out HS.tail

 | true =>
  have hn0 := (evN_yes hrt).1
  rw [hn0]
  clear hn0
  by_cases hes : evS e = s
  ·have HGOOD := Lib.hid (show refReadE s = (e, 0) by rw [HRD.out, hrt, hes]; simp)
   rw [hes]
   have hq : (s.toList == s.toList) = true := beq_self_eq_true _
   have H9 := H8.sel 4 [3, 1]
   obtain ⟨n0, n1, n2, n3, n4, n5⟩ := boxE_cells H8
   obtain ⟨x0, x1, x2, x3, x4, x5⟩ := boxE_cells H9
   obtain ⟨y0, y1, y2, y3, y4, y5⟩ := boxE_froz H9
   have HS := boxE_put (d := e) (u := .slice A e.list.length c) H9
   clear hrt hes H8
   go_wp2
   clear n0 n1 n2 n3 n4 n5 x0 x1 x2 x3 x4 x5 y0 y1 y2 y3 y4 y5 H9
   generalize World.setCell _ _ _ = W9 at *
   obtain ⟨x0, x1, x2, x3, x4, x5⟩ := boxE_cells HS
   refine bodyPost_ret (v := .tuple #[evV e (.slice A e.list.length c), .int .i64 0]) (by simp [results, Tryz.results47, go_sem, x0, x1, x2, x3, x4, x5]; try rfl) rfl ?_
   exact refReadPost_yes HGOOD.out HI.out HS.tail
  ·have HBAD := Lib.hid (show refReadE s = (zE, 90) by rw [HRD.out, hrt]; simp [hes])
   have hq : ((evS e).toList == s.toList) = false := by rw [beq_eq_false_iff_ne]; exact fun h => hes (bytesSame h)
   have H9 := H8.sel 4 [3]
   clear hrt hes
   generalize evS e = st at *
   obtain ⟨x0, x1, x2, x3, x4, x5⟩ := boxE_cells H9
   obtain ⟨y0, y1, y2, y3, y4, y5⟩ := boxE_froz H9
   have HS := boxE_put (d := zE) (u := .slice none 0 0) H9
   simp only [zE] at HS
   go_wp2
   clear x0 x1 x2 x3 x4 x5 y0 y1 y2 y3 y4 y5
   generalize World.setCell _ _ _ = W9 at *
   obtain ⟨x0, x1, x2, x3, x4, x5⟩ := boxE_cells (e := zE) HS
   refine bodyPost_ret (v := .tuple #[evV zE (.slice none 0 0), .int .i64 90]) (by simp [results, Tryz.results47, go_sem, x0, x1, x2, x3, x4, x5]; try rfl) rfl ?_
   exact refReadPost_no HBAD.out HS.tail

end
open Go.RowKit Go.Proofs.HL Go.Proofs.An
section
variable {w0 w : World} {L : List At} {v : Value}
theorem Ref.re_4 (hD : Doors w0) (H : HL w0 w L) (s : ByteArray) (hs : s.size ≤ 1000000000) {s0 : ByteArray} (hs0 : (wordsC 32 s)[0]? = some s0) (hb : ¬ (s0 = endW ∧ (wordsC 32 s).length = 4)) (hg : s0 = pinB) {n : List Int} (hnr : readV ((wordsC 32 s).drop 1) = some n) (hk : n.length = 2) :
  Calls Tryz.prog 47 #[.string s] w (RefReadPost w0 L s) := by
 have H1 := HL.bzE H
 have hcut := Ref.cut_ok H1 s hs 32
 rw [show ((32 : UInt8).toNat : Int) = 32 from rfl] at hcut
 have hws := wordsC_size 32 s
 have hwl := wordsC_most 32 s
 have hpos := wordsC_len 32 s
 have hhead : (wordsC 32 s).headD ⟨#[]⟩ = s0 := by
  generalize wordsC 32 s = W at *
  cases W with
  | nil => simp at hs0
  | cons x r => simpa using hs0
 have hnE : ¬ isE (wordsC 32 s) := fun h => hb ⟨by rw [← hhead]; exact h.1, h.2⟩
 have hre : refReadE s = match refCand (wordsC 32 s) with | none => (zE, 90) | some e => if right e = true ∧ evS e = s then (e, 0) else (zE, 90) := rfl
 have hcok : ∀ e, refCand (wordsC 32 s) = some e → EvOk e := fun e => refCand_ok hs
 have hcand : refCand (wordsC 32 s) = match readV ((wordsC 32 s).drop 1) with | none => none | some n => refEv s0 n 0 false := by unfold refCand; rw [if_neg hnE, hhead]; rfl
 clear hhead hnE
 generalize wordsC 32 s = W at *
 generalize hb2 : w.heap.size = b2 at *
 have HRE := Lib.hid hre; have HCOK := Lib.hid hcok; have HWS := Lib.hid hws; have HS0 := Lib.hid hs0; have HCAND := Lib.hid hcand; have HNB := Lib.hid hb; have HN := Lib.hid hnr; have HG := Lib.hid hg; have HK := Lib.hid hk
 clear hnr hg hk hre hcok hws hs0 hcand hb H
 go_enter Tryz.func47, Tryz.ntmps47
 go_upto_region 2 with (go_at_call 44; refine hcut.mono ?_; rintro e w2 ⟨v, rfl, H2⟩; clear hcut H1)
 have HB2 := Lib.hid hb2
 clear hb2
 generalize World.alloc w _ = Wx at *
 have H3 := HL.bzE H2
 obtain ⟨b1, o1, c1, rfl, d0⟩ := str_at (entRow _ H3.tail) HS0.out
 rw [Nat.add_zero] at d0
 obtain ⟨A1, c1', hv1, hc1, hc2⟩ := rd_shape (entRow _ H3.tail)
 simp only [Value.slice.injEq] at hv1
 obtain ⟨-, -, rfl⟩ := hv1
 unfold maxLen at hc2
 have h0W : 0 < W.length := by omega
 generalize hb5 : w2.heap.size = b5 at *
 go_upto_region 3 with (fail)
 have HB5 := Lib.hid hb5
 clear hb5 H2
 generalize World.alloc w2 _ = W3 at *
 obtain ⟨l1, hl1⟩ : ∃ l1, W.length = l1 + 1 := ⟨W.length - 1, by omega⟩
 obtain ⟨cc, rfl⟩ : ∃ cc, c1 = cc + 1 := ⟨c1 - 1, by omega⟩
 obtain ⟨A', hA'⟩ : ∃ A', (if cc = 0 then some (⟨b1, o1, none⟩ : Addr) else some ⟨b1, o1 + 1, none⟩) = A' := ⟨_, rfl⟩
 have hle : l1 ≤ cc := by omega
 have hwd : (W.drop 1).length = l1 := by rw [List.length_drop, hl1]; rfl
 have hRs : Strs w0 (boxE b5 zE (.slice none 0 0) :: strs w0.heap.size (.slice (some ⟨b1, o1, none⟩) W.length (cc + 1)) W :: boxE b2 zE (.slice none 0 0) :: L) (.slice A' l1 cc) (W.drop 1) := fun W' HW => by
  have h1 : Rd 1 _ W.length (strC W) W' := entRow _ HW.tail
  rw [hl1] at h1
  rw [hwd, strC, List.map_drop, ← hA']
  by_cases hz : cc = 0
  ·rw [if_pos hz]
   have := rd_suffix h1 1 (by omega) (a' := ⟨b1, o1, none⟩) (.inr (by omega))
   simpa using this
  ·rw [if_neg hz]
   have := rd_suffix h1 1 (by omega) (a' := ⟨b1, o1 + 1, none⟩) (.inl (by rw [add_plain]))
   simpa using this
 have hsz : ∀ x ∈ W.drop 1, x.size ≤ 1000000000 := fun x hx => by
  have := HWS.out x (List.mem_of_mem_drop hx)
  omega
 have hrd := Ref.read_ok H3 hRs hsz (by rw [hwd]; omega)
 clear hsz
 have hmin : min (1 : Int) ((l1 : Int) + 1) = 1 := by omega
 have hl0 : (0 : Int) < (l1 : Int) + 1 := by omega
 have HWD := Lib.hid hwd
 have HLL := Lib.hid (show l1 ≤ 1000000001 by omega)
 have HL1 := Lib.hid hl1
 rw [hl1]
 clear hwd hRs hl1 hwl hpos h0W
 rw [refReadsPost_some_eq HN.out] at hrd
 have hnl := readV_len _ _ HN.out
 rw [HWD.out] at hnl
 have hce : refCand W = refEv s0 n 0 false := by rw [HCAND.out, HN.out]
 have HCE := Lib.hid hce
 clear hce
 have q1 : (s0.toList == [115, 117, 98, 109, 105, 116]) = false := by rw [HG.out]; decide +kernel
 have q2 : (s0.toList == [115, 116, 97, 114, 116]) = false := by rw [HG.out]; decide +kernel
 have q4 : (s0.toList == [112, 105, 110]) = true := by rw [HG.out]; decide +kernel
 have q5 : (s0.toList == [112, 97, 115, 115]) = false := by rw [HG.out]; decide +kernel
 have q6 : (s0.toList == [116, 105, 99, 107]) = false := by rw [HG.out]; decide +kernel
 have q7 : (s0.toList == [100, 101, 99, 97, 121]) = false := by rw [HG.out]; decide +kernel
 have q3 : (s0.toList == [101, 110, 100]) = false := by rw [HG.out]; decide +kernel
 go_upto_region 12 with (go_at_call 46; refine hrd.mono ?_; rintro r w5 ⟨u, rfl, H5⟩; clear hrd H3)
 have H6 := H5.swap
 clear H5 hA'
 obtain ⟨An, cn, rfl, hn1, hn2⟩ := rd_shape (entRow _ H6.tail)
 unfold maxLen at hn2
 have hn := fun W' e' (HW : HL w0 W' (boxE b5 e' (.slice none 0 0) :: intsR w0.heap.size (.slice An n.length cn) n :: strs w0.heap.size (.slice (some ⟨b1, o1, none⟩) W.length (cc + 1)) W :: boxE b2 zE (.slice none 0 0) :: L)) => (entRow _ HW.tail : Rd 1 (.slice An n.length cn) n.length (intC n) W')
 clear d0
 obtain ⟨b', o', c', hv, d0⟩ := str_at (entRow _ H6.tail.tail) HS0.out
 simp only [Value.slice.injEq, Option.some.injEq, Addr.mk.injEq] at hv
 obtain ⟨⟨rfl, rfl, -⟩, -, -⟩ := hv
 rw [Nat.add_zero] at d0
 have HNL := Lib.hid hnl
 clear hnl
 obtain ⟨m0, m1, m2, m3, m4, m5⟩ := boxE_cells H6
 have hk := HK.out
 have hev := refEv_4 (n := n) (nd := 0)
 rw [← HG.out] at hev
 have HEVY := Lib.hid (show refEv s0 n 0 false = _ by rw [hev, if_pos hk])
 clear hev
 have hlk := hk
 have lk : ((n.length : Int) == 2) = true := by simp; omega
 obtain ⟨x0, hx0⟩ : ∃ x, n[0]? = some x := ⟨_, List.getElem?_eq_getElem (by omega)⟩
 obtain ⟨x1, hx1⟩ : ∃ x, n[1]? = some x := ⟨_, List.getElem?_eq_getElem (by omega)⟩
 obtain ⟨bn, on, cn', hv, g0⟩ := int_at (hn _ _ H6) hx0
 simp only [Value.slice.injEq] at hv
 obtain ⟨rfl, -, rfl⟩ := hv
 rw [Nat.add_zero] at g0
 obtain ⟨b', o', c', hv, g1⟩ := int_at (hn _ _ H6) hx1
 simp only [Value.slice.injEq, Option.some.injEq, Addr.mk.injEq] at hv
 obtain ⟨⟨rfl, rfl, -⟩, -, -⟩ := hv
 have k0n : (0 : Int) < (n.length : Int) := by omega
 have k1n : (1 : Int) < (n.length : Int) := by omega
 have kn0 : 0 < n.length := by omega
 have hy : refEv s0 n 0 false = some ⟨4, x0, x1, 0, 0, []⟩ := by rw [HEVY.out]; simp [List.getD_eq_getElem?_getD, hx0, hx1]
 have HY := Lib.hid hy
 clear hy hx0 hx1
 go_upto_region 22 with (fail)
 refine wp_region_cut 7 (by kernel_rfl) (by kernel_rfl) ?_
 simp only [List.take_succ_cons, List.take_zero, List.drop_succ_cons, List.drop_zero]
 repeat (go_big_quiet_step ((fail)))
 refine wpQuiet_nil ?_
 intro nq
 have Hd := H6.drewN nq
 generalize World.drewN _ nq = Wd at *
 obtain ⟨n0, n1, n2, n3, n4, n5⟩ := boxE_cells Hd
 obtain ⟨y0, y1, y2, y3, y4, y5⟩ := boxE_froz Hd
 have HS := boxE_put (d := ⟨4, x0, x1, 0, 0, []⟩) (u := (.slice none 0 0)) Hd
 try dsimp only at HS
 go_upto_region 29 with (fail)
 generalize World.setCell _ _ _ = W7 at *
 have hx : ∃ e A c, refEv s0 n 0 false = some e ∧ Ints w0 [intsR w0.heap.size (.slice (some ⟨bn, on, none⟩) n.length cn) n] (.slice A e.list.length c) e.list ∧ HL w0 W7 (boxE b5 e (.slice A e.list.length c) :: intsR w0.heap.size (.slice (some ⟨bn, on, none⟩) n.length cn) n :: strs w0.heap.size (.slice (some ⟨b1, o1, none⟩) W.length (cc + 1)) W :: boxE b2 zE (.slice none 0 0) :: L) := by
  exact ⟨_, none, 0, HY.out, fun W _ => rd_nil, HS⟩
 obtain ⟨e, A, c, he, hI, H7⟩ := hx
 clear HS n0 n1 n2 n3 n4 n5 y0 y1 y2 y3 y4 y5 H6 hn lk g0 g1 m0 m1 m2 m3 m4 m5 d0 HY HEVY
 have hok : EvOk e := HCOK.out e (by rw [HCE.out]; exact he)
 have hfew : e.list.length ≤ 4294967200 := by
  have h1 := refEv_few he
  have h2 := HNL.out
  have h3 := HLL.out
  omega
 have hread : refReadE s = if right e = true ∧ evS e = s then (e, 0) else (zE, 90) := by rw [HRE.out, HCE.out, he]
 have HRD := Lib.hid hread; have HI := Lib.hid hI
 have hev := Ref.event_ok hD H7 e ((Ent.left hI).cons _) hok hfew
 obtain ⟨n0, n1, n2, n3, n4, n5⟩ := boxE_cells H7
 clear he hread hI hok hfew
 unfold evV at hev
 go_upto_region 30 with (go_at_call 35; refine hev.mono ?_; rintro r w7 ⟨rfl, H8⟩; clear hev H7 n0 n1 n2 n3 n4 n5)
 cases hrt : right e with
 | false =>
  have hn90 := (evN_no hrt).1
  have HBAD := Lib.hid (show refReadE s = (zE, 90) by rw [HRD.out, hrt]; simp)
  rw [hn90]
  have H9 := H8.sel 4 [3]
  clear hrt hn90
  obtain ⟨x0, x1, x2, x3, x4, x5⟩ := boxE_cells H9
  obtain ⟨y0, y1, y2, y3, y4, y5⟩ := boxE_froz H9
  have HS := boxE_put (d := zE) (u := .slice none 0 0) H9
  simp only [zE] at HS
  go_wp2
  clear x0 x1 x2 x3 x4 x5 y0 y1 y2 y3 y4 y5
  generalize World.setCell _ _ _ = W9 at *
  obtain ⟨x0, x1, x2, x3, x4, x5⟩ := boxE_cells (e := zE) HS
  refine bodyPost_ret (v := .tuple #[evV zE (.slice none 0 0), .int .i64 90]) (by simp [results, Tryz.results47, go_sem, x0, x1, x2, x3, x4, x5]; try rfl) rfl ?_
  exact refReadPost_no HBAD.out HS.tail

 | true =>
  have hn0 := (evN_yes hrt).1
  rw [hn0]
  clear hn0
  by_cases hes : evS e = s
  ·have HGOOD := Lib.hid (show refReadE s = (e, 0) by rw [HRD.out, hrt, hes]; simp)
   rw [hes]
   have hq : (s.toList == s.toList) = true := beq_self_eq_true _
   have H9 := H8.sel 4 [3, 1]
   obtain ⟨n0, n1, n2, n3, n4, n5⟩ := boxE_cells H8
   obtain ⟨x0, x1, x2, x3, x4, x5⟩ := boxE_cells H9
   obtain ⟨y0, y1, y2, y3, y4, y5⟩ := boxE_froz H9
   have HS := boxE_put (d := e) (u := .slice A e.list.length c) H9
   clear hrt hes H8
   go_wp2
   clear n0 n1 n2 n3 n4 n5 x0 x1 x2 x3 x4 x5 y0 y1 y2 y3 y4 y5 H9
   generalize World.setCell _ _ _ = W9 at *
   obtain ⟨x0, x1, x2, x3, x4, x5⟩ := boxE_cells HS
   refine bodyPost_ret (v := .tuple #[evV e (.slice A e.list.length c), .int .i64 0]) (by simp [results, Tryz.results47, go_sem, x0, x1, x2, x3, x4, x5]; try rfl) rfl ?_
   exact refReadPost_yes HGOOD.out HI.out HS.tail
  ·have HBAD := Lib.hid (show refReadE s = (zE, 90) by rw [HRD.out, hrt]; simp [hes])
   have hq : ((evS e).toList == s.toList) = false := by rw [beq_eq_false_iff_ne]; exact fun h => hes (bytesSame h)
   have H9 := H8.sel 4 [3]
   clear hrt hes
   generalize evS e = st at *
   obtain ⟨x0, x1, x2, x3, x4, x5⟩ := boxE_cells H9
   obtain ⟨y0, y1, y2, y3, y4, y5⟩ := boxE_froz H9
   have HS := boxE_put (d := zE) (u := .slice none 0 0) H9
   simp only [zE] at HS
   go_wp2
   clear x0 x1 x2 x3 x4 x5 y0 y1 y2 y3 y4 y5
   generalize World.setCell _ _ _ = W9 at *
   obtain ⟨x0, x1, x2, x3, x4, x5⟩ := boxE_cells (e := zE) HS
   refine bodyPost_ret (v := .tuple #[evV zE (.slice none 0 0), .int .i64 90]) (by simp [results, Tryz.results47, go_sem, x0, x1, x2, x3, x4, x5]; try rfl) rfl ?_
   exact refReadPost_no HBAD.out HS.tail

theorem Ref.re_5 (hD : Doors w0) (H : HL w0 w L) (s : ByteArray) (hs : s.size ≤ 1000000000) {s0 : ByteArray} (hs0 : (wordsC 32 s)[0]? = some s0) (hb : ¬ (s0 = endW ∧ (wordsC 32 s).length = 4)) (hg : s0 = passB) {n : List Int} (hnr : readV ((wordsC 32 s).drop 1) = some n) (hk : 1 ≤ n.length) :
  Calls Tryz.prog 47 #[.string s] w (RefReadPost w0 L s) := by
 have H1 := HL.bzE H
 have hcut := Ref.cut_ok H1 s hs 32
 rw [show ((32 : UInt8).toNat : Int) = 32 from rfl] at hcut
 have hws := wordsC_size 32 s
 have hwl := wordsC_most 32 s
 have hpos := wordsC_len 32 s
 have hhead : (wordsC 32 s).headD ⟨#[]⟩ = s0 := by
  generalize wordsC 32 s = W at *
  cases W with
  | nil => simp at hs0
  | cons x r => simpa using hs0
 have hnE : ¬ isE (wordsC 32 s) := fun h => hb ⟨by rw [← hhead]; exact h.1, h.2⟩
 have hre : refReadE s = match refCand (wordsC 32 s) with | none => (zE, 90) | some e => if right e = true ∧ evS e = s then (e, 0) else (zE, 90) := rfl
 have hcok : ∀ e, refCand (wordsC 32 s) = some e → EvOk e := fun e => refCand_ok hs
 have hcand : refCand (wordsC 32 s) = match readV ((wordsC 32 s).drop 1) with | none => none | some n => refEv s0 n 0 false := by unfold refCand; rw [if_neg hnE, hhead]; rfl
 clear hhead hnE
 generalize wordsC 32 s = W at *
 generalize hb2 : w.heap.size = b2 at *
 have HRE := Lib.hid hre; have HCOK := Lib.hid hcok; have HWS := Lib.hid hws; have HS0 := Lib.hid hs0; have HCAND := Lib.hid hcand; have HNB := Lib.hid hb; have HN := Lib.hid hnr; have HG := Lib.hid hg; have HK := Lib.hid hk
 clear hnr hg hk hre hcok hws hs0 hcand hb H
 go_enter Tryz.func47, Tryz.ntmps47
 go_upto_region 2 with (go_at_call 44; refine hcut.mono ?_; rintro e w2 ⟨v, rfl, H2⟩; clear hcut H1)
 have HB2 := Lib.hid hb2
 clear hb2
 generalize World.alloc w _ = Wx at *
 have H3 := HL.bzE H2
 obtain ⟨b1, o1, c1, rfl, d0⟩ := str_at (entRow _ H3.tail) HS0.out
 rw [Nat.add_zero] at d0
 obtain ⟨A1, c1', hv1, hc1, hc2⟩ := rd_shape (entRow _ H3.tail)
 simp only [Value.slice.injEq] at hv1
 obtain ⟨-, -, rfl⟩ := hv1
 unfold maxLen at hc2
 have h0W : 0 < W.length := by omega
 generalize hb5 : w2.heap.size = b5 at *
 go_upto_region 3 with (fail)
 have HB5 := Lib.hid hb5
 clear hb5 H2
 generalize World.alloc w2 _ = W3 at *
 obtain ⟨l1, hl1⟩ : ∃ l1, W.length = l1 + 1 := ⟨W.length - 1, by omega⟩
 obtain ⟨cc, rfl⟩ : ∃ cc, c1 = cc + 1 := ⟨c1 - 1, by omega⟩
 obtain ⟨A', hA'⟩ : ∃ A', (if cc = 0 then some (⟨b1, o1, none⟩ : Addr) else some ⟨b1, o1 + 1, none⟩) = A' := ⟨_, rfl⟩
 have hle : l1 ≤ cc := by omega
 have hwd : (W.drop 1).length = l1 := by rw [List.length_drop, hl1]; rfl
 have hRs : Strs w0 (boxE b5 zE (.slice none 0 0) :: strs w0.heap.size (.slice (some ⟨b1, o1, none⟩) W.length (cc + 1)) W :: boxE b2 zE (.slice none 0 0) :: L) (.slice A' l1 cc) (W.drop 1) := fun W' HW => by
  have h1 : Rd 1 _ W.length (strC W) W' := entRow _ HW.tail
  rw [hl1] at h1
  rw [hwd, strC, List.map_drop, ← hA']
  by_cases hz : cc = 0
  ·rw [if_pos hz]
   have := rd_suffix h1 1 (by omega) (a' := ⟨b1, o1, none⟩) (.inr (by omega))
   simpa using this
  ·rw [if_neg hz]
   have := rd_suffix h1 1 (by omega) (a' := ⟨b1, o1 + 1, none⟩) (.inl (by rw [add_plain]))
   simpa using this
 have hsz : ∀ x ∈ W.drop 1, x.size ≤ 1000000000 := fun x hx => by
  have := HWS.out x (List.mem_of_mem_drop hx)
  omega
 have hrd := Ref.read_ok H3 hRs hsz (by rw [hwd]; omega)
 clear hsz
 have hmin : min (1 : Int) ((l1 : Int) + 1) = 1 := by omega
 have hl0 : (0 : Int) < (l1 : Int) + 1 := by omega
 have HWD := Lib.hid hwd
 have HLL := Lib.hid (show l1 ≤ 1000000001 by omega)
 have HL1 := Lib.hid hl1
 rw [hl1]
 clear hwd hRs hl1 hwl hpos h0W
 rw [refReadsPost_some_eq HN.out] at hrd
 have hnl := readV_len _ _ HN.out
 rw [HWD.out] at hnl
 have hce : refCand W = refEv s0 n 0 false := by rw [HCAND.out, HN.out]
 have HCE := Lib.hid hce
 clear hce
 have q1 : (s0.toList == [115, 117, 98, 109, 105, 116]) = false := by rw [HG.out]; decide +kernel
 have q2 : (s0.toList == [115, 116, 97, 114, 116]) = false := by rw [HG.out]; decide +kernel
 have q4 : (s0.toList == [112, 105, 110]) = false := by rw [HG.out]; decide +kernel
 have q5 : (s0.toList == [112, 97, 115, 115]) = true := by rw [HG.out]; decide +kernel
 have q6 : (s0.toList == [116, 105, 99, 107]) = false := by rw [HG.out]; decide +kernel
 have q7 : (s0.toList == [100, 101, 99, 97, 121]) = false := by rw [HG.out]; decide +kernel
 have q3 : (s0.toList == [101, 110, 100]) = false := by rw [HG.out]; decide +kernel
 go_upto_region 12 with (go_at_call 46; refine hrd.mono ?_; rintro r w5 ⟨u, rfl, H5⟩; clear hrd H3)
 have H6 := H5.swap
 clear H5 hA'
 obtain ⟨An, cn, rfl, hn1, hn2⟩ := rd_shape (entRow _ H6.tail)
 unfold maxLen at hn2
 have hn := fun W' e' (HW : HL w0 W' (boxE b5 e' (.slice none 0 0) :: intsR w0.heap.size (.slice An n.length cn) n :: strs w0.heap.size (.slice (some ⟨b1, o1, none⟩) W.length (cc + 1)) W :: boxE b2 zE (.slice none 0 0) :: L)) => (entRow _ HW.tail : Rd 1 (.slice An n.length cn) n.length (intC n) W')
 clear d0
 obtain ⟨b', o', c', hv, d0⟩ := str_at (entRow _ H6.tail.tail) HS0.out
 simp only [Value.slice.injEq, Option.some.injEq, Addr.mk.injEq] at hv
 obtain ⟨⟨rfl, rfl, -⟩, -, -⟩ := hv
 rw [Nat.add_zero] at d0
 have HNL := Lib.hid hnl
 clear hnl
 obtain ⟨m0, m1, m2, m3, m4, m5⟩ := boxE_cells H6
 have hk := HK.out
 have hev := refEv_5 (n := n) (nd := 0)
 rw [← HG.out] at hev
 have HEVY := Lib.hid (show refEv s0 n 0 false = _ by rw [hev, if_pos hk])
 clear hev
 have hlk := hk
 have lk : decide ((1 : Int) ≤ (n.length : Int)) = true := by exact decide_eq_true (by omega)
 obtain ⟨x0, hx0⟩ : ∃ x, n[0]? = some x := ⟨_, List.getElem?_eq_getElem (by omega)⟩
 obtain ⟨bn, on, cn', hv, g0⟩ := int_at (hn _ _ H6) hx0
 simp only [Value.slice.injEq] at hv
 obtain ⟨rfl, -, rfl⟩ := hv
 rw [Nat.add_zero] at g0
 have k0n : (0 : Int) < (n.length : Int) := by omega
 have kn0 : 0 < n.length := by omega
 have hy : refEv s0 n 0 false = some ⟨5, 0, x0, 0, 0, n.drop 1⟩ := by rw [HEVY.out]; simp [List.getD_eq_getElem?_getD, hx0]
 have HY := Lib.hid hy
 clear hy hx0
 obtain ⟨A2, hUU⟩ : ∃ A', (if cn = 1 then (some ⟨bn, on, none⟩ : Option Addr) else some ⟨bn, on + 1, none⟩) = A' := ⟨_, rfl⟩
 have hle2 : 1 ≤ n.length := by omega
 have hlc2 : 1 ≤ cn := by omega
 have hmn2 : min (1 : Int) (n.length : Int) = 1 := by omega
 have hU : Ints w0 [intsR w0.heap.size (.slice (some ⟨bn, on, none⟩) n.length cn) n] (.slice A2 (n.length - 1) (cn - 1)) (n.drop 1) := fun W' HW => by
  have hh : Rd 1 (.slice (some ⟨bn, on, none⟩) n.length cn) n.length (intC n) W' := entRow _ HW
  rw [← hUU, List.length_drop, intC, List.map_drop]
  by_cases hcap : cn = 1
  ·rw [if_pos hcap]
   have := rd_suffix hh 1 hle2 (a' := ⟨bn, on, none⟩) (.inr (by omega))
   simpa using this
  ·rw [if_neg hcap]
   have := rd_suffix hh 1 hle2 (a' := ⟨bn, on + 1, none⟩) (.inl (by rw [Nat.mul_one, add_plain]))
   simpa using this
 have HU := Lib.hid hU
 clear hU
 go_upto_region 24 with (fail)
 refine wp_region_cut 6 (by kernel_rfl) (by kernel_rfl) ?_
 simp only [List.take_succ_cons, List.take_zero, List.drop_succ_cons, List.drop_zero]
 repeat (go_big_quiet_step ((fail)))
 refine wpQuiet_nil ?_
 intro nq
 have Hd := H6.drewN nq
 generalize World.drewN _ nq = Wd at *
 obtain ⟨n0, n1, n2, n3, n4, n5⟩ := boxE_cells Hd
 obtain ⟨y0, y1, y2, y3, y4, y5⟩ := boxE_froz Hd
 have HS := boxE_put (d := ⟨5, 0, x0, 0, 0, n.drop 1⟩) (u := (.slice A2 (n.length - 1) (cn - 1))) Hd
 try dsimp only at HS
 go_upto_region 29 with (fail)
 generalize World.setCell _ _ _ = W7 at *
 have hx : ∃ e A c, refEv s0 n 0 false = some e ∧ Ints w0 [intsR w0.heap.size (.slice (some ⟨bn, on, none⟩) n.length cn) n] (.slice A e.list.length c) e.list ∧ HL w0 W7 (boxE b5 e (.slice A e.list.length c) :: intsR w0.heap.size (.slice (some ⟨bn, on, none⟩) n.length cn) n :: strs w0.heap.size (.slice (some ⟨b1, o1, none⟩) W.length (cc + 1)) W :: boxE b2 zE (.slice none 0 0) :: L) := by
  exact ⟨_, A2, cn - 1, HY.out, by rw [List.length_drop]; exact HU.out, by have h := HS; rw [← List.length_drop (i := 1) (l := n)] at h; exact h⟩
 obtain ⟨e, A, c, he, hI, H7⟩ := hx
 clear HS n0 n1 n2 n3 n4 n5 y0 y1 y2 y3 y4 y5 H6 hn lk g0 m0 m1 m2 m3 m4 m5 d0 HY HEVY
 have hok : EvOk e := HCOK.out e (by rw [HCE.out]; exact he)
 have hfew : e.list.length ≤ 4294967200 := by
  have h1 := refEv_few he
  have h2 := HNL.out
  have h3 := HLL.out
  omega
 have hread : refReadE s = if right e = true ∧ evS e = s then (e, 0) else (zE, 90) := by rw [HRE.out, HCE.out, he]
 have HRD := Lib.hid hread; have HI := Lib.hid hI
 have hev := Ref.event_ok hD H7 e ((Ent.left hI).cons _) hok hfew
 obtain ⟨n0, n1, n2, n3, n4, n5⟩ := boxE_cells H7
 clear he hread hI hok hfew
 unfold evV at hev
 go_upto_region 30 with (go_at_call 35; refine hev.mono ?_; rintro r w7 ⟨rfl, H8⟩; clear hev H7 n0 n1 n2 n3 n4 n5)
 cases hrt : right e with
 | false =>
  have hn90 := (evN_no hrt).1
  have HBAD := Lib.hid (show refReadE s = (zE, 90) by rw [HRD.out, hrt]; simp)
  rw [hn90]
  have H9 := H8.sel 4 [3]
  clear hrt hn90
  obtain ⟨x0, x1, x2, x3, x4, x5⟩ := boxE_cells H9
  obtain ⟨y0, y1, y2, y3, y4, y5⟩ := boxE_froz H9
  have HS := boxE_put (d := zE) (u := .slice none 0 0) H9
  simp only [zE] at HS
  go_wp2
  clear x0 x1 x2 x3 x4 x5 y0 y1 y2 y3 y4 y5
  generalize World.setCell _ _ _ = W9 at *
  obtain ⟨x0, x1, x2, x3, x4, x5⟩ := boxE_cells (e := zE) HS
  refine bodyPost_ret (v := .tuple #[evV zE (.slice none 0 0), .int .i64 90]) (by simp [results, Tryz.results47, go_sem, x0, x1, x2, x3, x4, x5]; try rfl) rfl ?_
  exact refReadPost_no HBAD.out HS.tail

 | true =>
  have hn0 := (evN_yes hrt).1
  rw [hn0]
  clear hn0
  by_cases hes : evS e = s
  ·have HGOOD := Lib.hid (show refReadE s = (e, 0) by rw [HRD.out, hrt, hes]; simp)
   rw [hes]
   have hq : (s.toList == s.toList) = true := beq_self_eq_true _
   have H9 := H8.sel 4 [3, 1]
   obtain ⟨n0, n1, n2, n3, n4, n5⟩ := boxE_cells H8
   obtain ⟨x0, x1, x2, x3, x4, x5⟩ := boxE_cells H9
   obtain ⟨y0, y1, y2, y3, y4, y5⟩ := boxE_froz H9
   have HS := boxE_put (d := e) (u := .slice A e.list.length c) H9
   clear hrt hes H8
   go_wp2
   clear n0 n1 n2 n3 n4 n5 x0 x1 x2 x3 x4 x5 y0 y1 y2 y3 y4 y5 H9
   generalize World.setCell _ _ _ = W9 at *
   obtain ⟨x0, x1, x2, x3, x4, x5⟩ := boxE_cells HS
   refine bodyPost_ret (v := .tuple #[evV e (.slice A e.list.length c), .int .i64 0]) (by simp [results, Tryz.results47, go_sem, x0, x1, x2, x3, x4, x5]; try rfl) rfl ?_
   exact refReadPost_yes HGOOD.out HI.out HS.tail
  ·have HBAD := Lib.hid (show refReadE s = (zE, 90) by rw [HRD.out, hrt]; simp [hes])
   have hq : ((evS e).toList == s.toList) = false := by rw [beq_eq_false_iff_ne]; exact fun h => hes (bytesSame h)
   have H9 := H8.sel 4 [3]
   clear hrt hes
   generalize evS e = st at *
   obtain ⟨x0, x1, x2, x3, x4, x5⟩ := boxE_cells H9
   obtain ⟨y0, y1, y2, y3, y4, y5⟩ := boxE_froz H9
   have HS := boxE_put (d := zE) (u := .slice none 0 0) H9
   simp only [zE] at HS
   go_wp2
   clear x0 x1 x2 x3 x4 x5 y0 y1 y2 y3 y4 y5
   generalize World.setCell _ _ _ = W9 at *
   obtain ⟨x0, x1, x2, x3, x4, x5⟩ := boxE_cells (e := zE) HS
   refine bodyPost_ret (v := .tuple #[evV zE (.slice none 0 0), .int .i64 90]) (by simp [results, Tryz.results47, go_sem, x0, x1, x2, x3, x4, x5]; try rfl) rfl ?_
   exact refReadPost_no HBAD.out HS.tail

end
open Go.RowKit Go.Proofs.HL Go.Proofs.An
section
variable {w0 w : World} {L : List At} {v : Value}
theorem Ref.re_6 (hD : Doors w0) (H : HL w0 w L) (s : ByteArray) (hs : s.size ≤ 1000000000) {s0 : ByteArray} (hs0 : (wordsC 32 s)[0]? = some s0) (hb : ¬ (s0 = endW ∧ (wordsC 32 s).length = 4)) (hg : s0 = tickB) {n : List Int} (hnr : readV ((wordsC 32 s).drop 1) = some n) (hk : n.length = 1) :
  Calls Tryz.prog 47 #[.string s] w (RefReadPost w0 L s) := by
 have H1 := HL.bzE H
 have hcut := Ref.cut_ok H1 s hs 32
 rw [show ((32 : UInt8).toNat : Int) = 32 from rfl] at hcut
 have hws := wordsC_size 32 s
 have hwl := wordsC_most 32 s
 have hpos := wordsC_len 32 s
 have hhead : (wordsC 32 s).headD ⟨#[]⟩ = s0 := by
  generalize wordsC 32 s = W at *
  cases W with
  | nil => simp at hs0
  | cons x r => simpa using hs0
 have hnE : ¬ isE (wordsC 32 s) := fun h => hb ⟨by rw [← hhead]; exact h.1, h.2⟩
 have hre : refReadE s = match refCand (wordsC 32 s) with | none => (zE, 90) | some e => if right e = true ∧ evS e = s then (e, 0) else (zE, 90) := rfl
 have hcok : ∀ e, refCand (wordsC 32 s) = some e → EvOk e := fun e => refCand_ok hs
 have hcand : refCand (wordsC 32 s) = match readV ((wordsC 32 s).drop 1) with | none => none | some n => refEv s0 n 0 false := by unfold refCand; rw [if_neg hnE, hhead]; rfl
 clear hhead hnE
 generalize wordsC 32 s = W at *
 generalize hb2 : w.heap.size = b2 at *
 have HRE := Lib.hid hre; have HCOK := Lib.hid hcok; have HWS := Lib.hid hws; have HS0 := Lib.hid hs0; have HCAND := Lib.hid hcand; have HNB := Lib.hid hb; have HN := Lib.hid hnr; have HG := Lib.hid hg; have HK := Lib.hid hk
 clear hnr hg hk hre hcok hws hs0 hcand hb H
 go_enter Tryz.func47, Tryz.ntmps47
 go_upto_region 2 with (go_at_call 44; refine hcut.mono ?_; rintro e w2 ⟨v, rfl, H2⟩; clear hcut H1)
 have HB2 := Lib.hid hb2
 clear hb2
 generalize World.alloc w _ = Wx at *
 have H3 := HL.bzE H2
 obtain ⟨b1, o1, c1, rfl, d0⟩ := str_at (entRow _ H3.tail) HS0.out
 rw [Nat.add_zero] at d0
 obtain ⟨A1, c1', hv1, hc1, hc2⟩ := rd_shape (entRow _ H3.tail)
 simp only [Value.slice.injEq] at hv1
 obtain ⟨-, -, rfl⟩ := hv1
 unfold maxLen at hc2
 have h0W : 0 < W.length := by omega
 generalize hb5 : w2.heap.size = b5 at *
 go_upto_region 3 with (fail)
 have HB5 := Lib.hid hb5
 clear hb5 H2
 generalize World.alloc w2 _ = W3 at *
 obtain ⟨l1, hl1⟩ : ∃ l1, W.length = l1 + 1 := ⟨W.length - 1, by omega⟩
 obtain ⟨cc, rfl⟩ : ∃ cc, c1 = cc + 1 := ⟨c1 - 1, by omega⟩
 obtain ⟨A', hA'⟩ : ∃ A', (if cc = 0 then some (⟨b1, o1, none⟩ : Addr) else some ⟨b1, o1 + 1, none⟩) = A' := ⟨_, rfl⟩
 have hle : l1 ≤ cc := by omega
 have hwd : (W.drop 1).length = l1 := by rw [List.length_drop, hl1]; rfl
 have hRs : Strs w0 (boxE b5 zE (.slice none 0 0) :: strs w0.heap.size (.slice (some ⟨b1, o1, none⟩) W.length (cc + 1)) W :: boxE b2 zE (.slice none 0 0) :: L) (.slice A' l1 cc) (W.drop 1) := fun W' HW => by
  have h1 : Rd 1 _ W.length (strC W) W' := entRow _ HW.tail
  rw [hl1] at h1
  rw [hwd, strC, List.map_drop, ← hA']
  by_cases hz : cc = 0
  ·rw [if_pos hz]
   have := rd_suffix h1 1 (by omega) (a' := ⟨b1, o1, none⟩) (.inr (by omega))
   simpa using this
  ·rw [if_neg hz]
   have := rd_suffix h1 1 (by omega) (a' := ⟨b1, o1 + 1, none⟩) (.inl (by rw [add_plain]))
   simpa using this
 have hsz : ∀ x ∈ W.drop 1, x.size ≤ 1000000000 := fun x hx => by
  have := HWS.out x (List.mem_of_mem_drop hx)
  omega
 have hrd := Ref.read_ok H3 hRs hsz (by rw [hwd]; omega)
 clear hsz
 have hmin : min (1 : Int) ((l1 : Int) + 1) = 1 := by omega
 have hl0 : (0 : Int) < (l1 : Int) + 1 := by omega
 have HWD := Lib.hid hwd
 have HLL := Lib.hid (show l1 ≤ 1000000001 by omega)
 have HL1 := Lib.hid hl1
 rw [hl1]
 clear hwd hRs hl1 hwl hpos h0W
 rw [refReadsPost_some_eq HN.out] at hrd
 have hnl := readV_len _ _ HN.out
 rw [HWD.out] at hnl
 have hce : refCand W = refEv s0 n 0 false := by rw [HCAND.out, HN.out]
 have HCE := Lib.hid hce
 clear hce
 have q1 : (s0.toList == [115, 117, 98, 109, 105, 116]) = false := by rw [HG.out]; decide +kernel
 have q2 : (s0.toList == [115, 116, 97, 114, 116]) = false := by rw [HG.out]; decide +kernel
 have q4 : (s0.toList == [112, 105, 110]) = false := by rw [HG.out]; decide +kernel
 have q5 : (s0.toList == [112, 97, 115, 115]) = false := by rw [HG.out]; decide +kernel
 have q6 : (s0.toList == [116, 105, 99, 107]) = true := by rw [HG.out]; decide +kernel
 have q7 : (s0.toList == [100, 101, 99, 97, 121]) = false := by rw [HG.out]; decide +kernel
 have q3 : (s0.toList == [101, 110, 100]) = false := by rw [HG.out]; decide +kernel
 go_upto_region 12 with (go_at_call 46; refine hrd.mono ?_; rintro r w5 ⟨u, rfl, H5⟩; clear hrd H3)
 have H6 := H5.swap
 clear H5 hA'
 obtain ⟨An, cn, rfl, hn1, hn2⟩ := rd_shape (entRow _ H6.tail)
 unfold maxLen at hn2
 have hn := fun W' e' (HW : HL w0 W' (boxE b5 e' (.slice none 0 0) :: intsR w0.heap.size (.slice An n.length cn) n :: strs w0.heap.size (.slice (some ⟨b1, o1, none⟩) W.length (cc + 1)) W :: boxE b2 zE (.slice none 0 0) :: L)) => (entRow _ HW.tail : Rd 1 (.slice An n.length cn) n.length (intC n) W')
 clear d0
 obtain ⟨b', o', c', hv, d0⟩ := str_at (entRow _ H6.tail.tail) HS0.out
 simp only [Value.slice.injEq, Option.some.injEq, Addr.mk.injEq] at hv
 obtain ⟨⟨rfl, rfl, -⟩, -, -⟩ := hv
 rw [Nat.add_zero] at d0
 have HNL := Lib.hid hnl
 clear hnl
 obtain ⟨m0, m1, m2, m3, m4, m5⟩ := boxE_cells H6
 have hk := HK.out
 have hev := refEv_6 (n := n) (nd := 0)
 rw [← HG.out] at hev
 have HEVY := Lib.hid (show refEv s0 n 0 false = _ by rw [hev, if_pos hk])
 clear hev
 have hlk := hk
 have lk : ((n.length : Int) == 1) = true := by simp; omega
 obtain ⟨x0, hx0⟩ : ∃ x, n[0]? = some x := ⟨_, List.getElem?_eq_getElem (by omega)⟩
 obtain ⟨bn, on, cn', hv, g0⟩ := int_at (hn _ _ H6) hx0
 simp only [Value.slice.injEq] at hv
 obtain ⟨rfl, -, rfl⟩ := hv
 rw [Nat.add_zero] at g0
 have k0n : (0 : Int) < (n.length : Int) := by omega
 have kn0 : 0 < n.length := by omega
 have hy : refEv s0 n 0 false = some ⟨6, 0, x0, 0, 0, []⟩ := by rw [HEVY.out]; simp [List.getD_eq_getElem?_getD, hx0]
 have HY := Lib.hid hy
 clear hy hx0
 obtain ⟨n0, n1, n2, n3, n4, n5⟩ := boxE_cells H6
 obtain ⟨y0, y1, y2, y3, y4, y5⟩ := boxE_froz H6
 have HS := boxE_put (d := ⟨6, 0, x0, 0, 0, []⟩) (u := (.slice none 0 0)) H6
 try dsimp only at HS
 go_upto_region 29 with (fail)
 generalize World.setCell _ _ _ = W7 at *
 have hx : ∃ e A c, refEv s0 n 0 false = some e ∧ Ints w0 [intsR w0.heap.size (.slice (some ⟨bn, on, none⟩) n.length cn) n] (.slice A e.list.length c) e.list ∧ HL w0 W7 (boxE b5 e (.slice A e.list.length c) :: intsR w0.heap.size (.slice (some ⟨bn, on, none⟩) n.length cn) n :: strs w0.heap.size (.slice (some ⟨b1, o1, none⟩) W.length (cc + 1)) W :: boxE b2 zE (.slice none 0 0) :: L) := by
  exact ⟨_, none, 0, HY.out, fun W _ => rd_nil, HS⟩
 obtain ⟨e, A, c, he, hI, H7⟩ := hx
 clear HS n0 n1 n2 n3 n4 n5 y0 y1 y2 y3 y4 y5 H6 hn lk g0 m0 m1 m2 m3 m4 m5 d0 HY HEVY
 have hok : EvOk e := HCOK.out e (by rw [HCE.out]; exact he)
 have hfew : e.list.length ≤ 4294967200 := by
  have h1 := refEv_few he
  have h2 := HNL.out
  have h3 := HLL.out
  omega
 have hread : refReadE s = if right e = true ∧ evS e = s then (e, 0) else (zE, 90) := by rw [HRE.out, HCE.out, he]
 have HRD := Lib.hid hread; have HI := Lib.hid hI
 have hev := Ref.event_ok hD H7 e ((Ent.left hI).cons _) hok hfew
 obtain ⟨n0, n1, n2, n3, n4, n5⟩ := boxE_cells H7
 clear he hread hI hok hfew
 unfold evV at hev
 go_upto_region 30 with (go_at_call 35; refine hev.mono ?_; rintro r w7 ⟨rfl, H8⟩; clear hev H7 n0 n1 n2 n3 n4 n5)
 cases hrt : right e with
 | false =>
  have hn90 := (evN_no hrt).1
  have HBAD := Lib.hid (show refReadE s = (zE, 90) by rw [HRD.out, hrt]; simp)
  rw [hn90]
  have H9 := H8.sel 4 [3]
  clear hrt hn90
  obtain ⟨x0, x1, x2, x3, x4, x5⟩ := boxE_cells H9
  obtain ⟨y0, y1, y2, y3, y4, y5⟩ := boxE_froz H9
  have HS := boxE_put (d := zE) (u := .slice none 0 0) H9
  simp only [zE] at HS
  go_wp2
  clear x0 x1 x2 x3 x4 x5 y0 y1 y2 y3 y4 y5
  generalize World.setCell _ _ _ = W9 at *
  obtain ⟨x0, x1, x2, x3, x4, x5⟩ := boxE_cells (e := zE) HS
  refine bodyPost_ret (v := .tuple #[evV zE (.slice none 0 0), .int .i64 90]) (by simp [results, Tryz.results47, go_sem, x0, x1, x2, x3, x4, x5]; try rfl) rfl ?_
  exact refReadPost_no HBAD.out HS.tail

 | true =>
  have hn0 := (evN_yes hrt).1
  rw [hn0]
  clear hn0
  by_cases hes : evS e = s
  ·have HGOOD := Lib.hid (show refReadE s = (e, 0) by rw [HRD.out, hrt, hes]; simp)
   rw [hes]
   have hq : (s.toList == s.toList) = true := beq_self_eq_true _
   have H9 := H8.sel 4 [3, 1]
   obtain ⟨n0, n1, n2, n3, n4, n5⟩ := boxE_cells H8
   obtain ⟨x0, x1, x2, x3, x4, x5⟩ := boxE_cells H9
   obtain ⟨y0, y1, y2, y3, y4, y5⟩ := boxE_froz H9
   have HS := boxE_put (d := e) (u := .slice A e.list.length c) H9
   clear hrt hes H8
   go_wp2
   clear n0 n1 n2 n3 n4 n5 x0 x1 x2 x3 x4 x5 y0 y1 y2 y3 y4 y5 H9
   generalize World.setCell _ _ _ = W9 at *
   obtain ⟨x0, x1, x2, x3, x4, x5⟩ := boxE_cells HS
   refine bodyPost_ret (v := .tuple #[evV e (.slice A e.list.length c), .int .i64 0]) (by simp [results, Tryz.results47, go_sem, x0, x1, x2, x3, x4, x5]; try rfl) rfl ?_
   exact refReadPost_yes HGOOD.out HI.out HS.tail
  ·have HBAD := Lib.hid (show refReadE s = (zE, 90) by rw [HRD.out, hrt]; simp [hes])
   have hq : ((evS e).toList == s.toList) = false := by rw [beq_eq_false_iff_ne]; exact fun h => hes (bytesSame h)
   have H9 := H8.sel 4 [3]
   clear hrt hes
   generalize evS e = st at *
   obtain ⟨x0, x1, x2, x3, x4, x5⟩ := boxE_cells H9
   obtain ⟨y0, y1, y2, y3, y4, y5⟩ := boxE_froz H9
   have HS := boxE_put (d := zE) (u := .slice none 0 0) H9
   simp only [zE] at HS
   go_wp2
   clear x0 x1 x2 x3 x4 x5 y0 y1 y2 y3 y4 y5
   generalize World.setCell _ _ _ = W9 at *
   obtain ⟨x0, x1, x2, x3, x4, x5⟩ := boxE_cells (e := zE) HS
   refine bodyPost_ret (v := .tuple #[evV zE (.slice none 0 0), .int .i64 90]) (by simp [results, Tryz.results47, go_sem, x0, x1, x2, x3, x4, x5]; try rfl) rfl ?_
   exact refReadPost_no HBAD.out HS.tail

theorem Ref.re_7 (hD : Doors w0) (H : HL w0 w L) (s : ByteArray) (hs : s.size ≤ 1000000000) {s0 : ByteArray} (hs0 : (wordsC 32 s)[0]? = some s0) (hb : ¬ (s0 = endW ∧ (wordsC 32 s).length = 4)) (hg : s0 = decayB) {n : List Int} (hnr : readV ((wordsC 32 s).drop 1) = some n) (hk : n.length = 1) :
  Calls Tryz.prog 47 #[.string s] w (RefReadPost w0 L s) := by
 have H1 := HL.bzE H
 have hcut := Ref.cut_ok H1 s hs 32
 rw [show ((32 : UInt8).toNat : Int) = 32 from rfl] at hcut
 have hws := wordsC_size 32 s
 have hwl := wordsC_most 32 s
 have hpos := wordsC_len 32 s
 have hhead : (wordsC 32 s).headD ⟨#[]⟩ = s0 := by
  generalize wordsC 32 s = W at *
  cases W with
  | nil => simp at hs0
  | cons x r => simpa using hs0
 have hnE : ¬ isE (wordsC 32 s) := fun h => hb ⟨by rw [← hhead]; exact h.1, h.2⟩
 have hre : refReadE s = match refCand (wordsC 32 s) with | none => (zE, 90) | some e => if right e = true ∧ evS e = s then (e, 0) else (zE, 90) := rfl
 have hcok : ∀ e, refCand (wordsC 32 s) = some e → EvOk e := fun e => refCand_ok hs
 have hcand : refCand (wordsC 32 s) = match readV ((wordsC 32 s).drop 1) with | none => none | some n => refEv s0 n 0 false := by unfold refCand; rw [if_neg hnE, hhead]; rfl
 clear hhead hnE
 generalize wordsC 32 s = W at *
 generalize hb2 : w.heap.size = b2 at *
 have HRE := Lib.hid hre; have HCOK := Lib.hid hcok; have HWS := Lib.hid hws; have HS0 := Lib.hid hs0; have HCAND := Lib.hid hcand; have HNB := Lib.hid hb; have HN := Lib.hid hnr; have HG := Lib.hid hg; have HK := Lib.hid hk
 clear hnr hg hk hre hcok hws hs0 hcand hb H
 go_enter Tryz.func47, Tryz.ntmps47
 go_upto_region 2 with (go_at_call 44; refine hcut.mono ?_; rintro e w2 ⟨v, rfl, H2⟩; clear hcut H1)
 have HB2 := Lib.hid hb2
 clear hb2
 generalize World.alloc w _ = Wx at *
 have H3 := HL.bzE H2
 obtain ⟨b1, o1, c1, rfl, d0⟩ := str_at (entRow _ H3.tail) HS0.out
 rw [Nat.add_zero] at d0
 obtain ⟨A1, c1', hv1, hc1, hc2⟩ := rd_shape (entRow _ H3.tail)
 simp only [Value.slice.injEq] at hv1
 obtain ⟨-, -, rfl⟩ := hv1
 unfold maxLen at hc2
 have h0W : 0 < W.length := by omega
 generalize hb5 : w2.heap.size = b5 at *
 go_upto_region 3 with (fail)
 have HB5 := Lib.hid hb5
 clear hb5 H2
 generalize World.alloc w2 _ = W3 at *
 obtain ⟨l1, hl1⟩ : ∃ l1, W.length = l1 + 1 := ⟨W.length - 1, by omega⟩
 obtain ⟨cc, rfl⟩ : ∃ cc, c1 = cc + 1 := ⟨c1 - 1, by omega⟩
 obtain ⟨A', hA'⟩ : ∃ A', (if cc = 0 then some (⟨b1, o1, none⟩ : Addr) else some ⟨b1, o1 + 1, none⟩) = A' := ⟨_, rfl⟩
 have hle : l1 ≤ cc := by omega
 have hwd : (W.drop 1).length = l1 := by rw [List.length_drop, hl1]; rfl
 have hRs : Strs w0 (boxE b5 zE (.slice none 0 0) :: strs w0.heap.size (.slice (some ⟨b1, o1, none⟩) W.length (cc + 1)) W :: boxE b2 zE (.slice none 0 0) :: L) (.slice A' l1 cc) (W.drop 1) := fun W' HW => by
  have h1 : Rd 1 _ W.length (strC W) W' := entRow _ HW.tail
  rw [hl1] at h1
  rw [hwd, strC, List.map_drop, ← hA']
  by_cases hz : cc = 0
  ·rw [if_pos hz]
   have := rd_suffix h1 1 (by omega) (a' := ⟨b1, o1, none⟩) (.inr (by omega))
   simpa using this
  ·rw [if_neg hz]
   have := rd_suffix h1 1 (by omega) (a' := ⟨b1, o1 + 1, none⟩) (.inl (by rw [add_plain]))
   simpa using this
 have hsz : ∀ x ∈ W.drop 1, x.size ≤ 1000000000 := fun x hx => by
  have := HWS.out x (List.mem_of_mem_drop hx)
  omega
 have hrd := Ref.read_ok H3 hRs hsz (by rw [hwd]; omega)
 clear hsz
 have hmin : min (1 : Int) ((l1 : Int) + 1) = 1 := by omega
 have hl0 : (0 : Int) < (l1 : Int) + 1 := by omega
 have HWD := Lib.hid hwd
 have HLL := Lib.hid (show l1 ≤ 1000000001 by omega)
 have HL1 := Lib.hid hl1
 rw [hl1]
 clear hwd hRs hl1 hwl hpos h0W
 rw [refReadsPost_some_eq HN.out] at hrd
 have hnl := readV_len _ _ HN.out
 rw [HWD.out] at hnl
 have hce : refCand W = refEv s0 n 0 false := by rw [HCAND.out, HN.out]
 have HCE := Lib.hid hce
 clear hce
 have q1 : (s0.toList == [115, 117, 98, 109, 105, 116]) = false := by rw [HG.out]; decide +kernel
 have q2 : (s0.toList == [115, 116, 97, 114, 116]) = false := by rw [HG.out]; decide +kernel
 have q4 : (s0.toList == [112, 105, 110]) = false := by rw [HG.out]; decide +kernel
 have q5 : (s0.toList == [112, 97, 115, 115]) = false := by rw [HG.out]; decide +kernel
 have q6 : (s0.toList == [116, 105, 99, 107]) = false := by rw [HG.out]; decide +kernel
 have q7 : (s0.toList == [100, 101, 99, 97, 121]) = true := by rw [HG.out]; decide +kernel
 have q3 : (s0.toList == [101, 110, 100]) = false := by rw [HG.out]; decide +kernel
 go_upto_region 12 with (go_at_call 46; refine hrd.mono ?_; rintro r w5 ⟨u, rfl, H5⟩; clear hrd H3)
 have H6 := H5.swap
 clear H5 hA'
 obtain ⟨An, cn, rfl, hn1, hn2⟩ := rd_shape (entRow _ H6.tail)
 unfold maxLen at hn2
 have hn := fun W' e' (HW : HL w0 W' (boxE b5 e' (.slice none 0 0) :: intsR w0.heap.size (.slice An n.length cn) n :: strs w0.heap.size (.slice (some ⟨b1, o1, none⟩) W.length (cc + 1)) W :: boxE b2 zE (.slice none 0 0) :: L)) => (entRow _ HW.tail : Rd 1 (.slice An n.length cn) n.length (intC n) W')
 clear d0
 obtain ⟨b', o', c', hv, d0⟩ := str_at (entRow _ H6.tail.tail) HS0.out
 simp only [Value.slice.injEq, Option.some.injEq, Addr.mk.injEq] at hv
 obtain ⟨⟨rfl, rfl, -⟩, -, -⟩ := hv
 rw [Nat.add_zero] at d0
 have HNL := Lib.hid hnl
 clear hnl
 obtain ⟨m0, m1, m2, m3, m4, m5⟩ := boxE_cells H6
 have hk := HK.out
 have hev := refEv_7 (n := n) (nd := 0)
 rw [← HG.out] at hev
 have HEVY := Lib.hid (show refEv s0 n 0 false = _ by rw [hev, if_pos hk])
 clear hev
 have hlk := hk
 have lk : ((n.length : Int) == 1) = true := by simp; omega
 obtain ⟨x0, hx0⟩ : ∃ x, n[0]? = some x := ⟨_, List.getElem?_eq_getElem (by omega)⟩
 obtain ⟨bn, on, cn', hv, g0⟩ := int_at (hn _ _ H6) hx0
 simp only [Value.slice.injEq] at hv
 obtain ⟨rfl, -, rfl⟩ := hv
 rw [Nat.add_zero] at g0
 have k0n : (0 : Int) < (n.length : Int) := by omega
 have kn0 : 0 < n.length := by omega
 have hy : refEv s0 n 0 false = some ⟨7, 0, x0, 0, 0, []⟩ := by rw [HEVY.out]; simp [List.getD_eq_getElem?_getD, hx0]
 have HY := Lib.hid hy
 clear hy hx0
 obtain ⟨n0, n1, n2, n3, n4, n5⟩ := boxE_cells H6
 obtain ⟨y0, y1, y2, y3, y4, y5⟩ := boxE_froz H6
 have HS := boxE_put (d := ⟨7, 0, x0, 0, 0, []⟩) (u := (.slice none 0 0)) H6
 try dsimp only at HS
 go_upto_region 29 with (fail)
 generalize World.setCell _ _ _ = W7 at *
 have hx : ∃ e A c, refEv s0 n 0 false = some e ∧ Ints w0 [intsR w0.heap.size (.slice (some ⟨bn, on, none⟩) n.length cn) n] (.slice A e.list.length c) e.list ∧ HL w0 W7 (boxE b5 e (.slice A e.list.length c) :: intsR w0.heap.size (.slice (some ⟨bn, on, none⟩) n.length cn) n :: strs w0.heap.size (.slice (some ⟨b1, o1, none⟩) W.length (cc + 1)) W :: boxE b2 zE (.slice none 0 0) :: L) := by
  exact ⟨_, none, 0, HY.out, fun W _ => rd_nil, HS⟩
 obtain ⟨e, A, c, he, hI, H7⟩ := hx
 clear HS n0 n1 n2 n3 n4 n5 y0 y1 y2 y3 y4 y5 H6 hn lk g0 m0 m1 m2 m3 m4 m5 d0 HY HEVY
 have hok : EvOk e := HCOK.out e (by rw [HCE.out]; exact he)
 have hfew : e.list.length ≤ 4294967200 := by
  have h1 := refEv_few he
  have h2 := HNL.out
  have h3 := HLL.out
  omega
 have hread : refReadE s = if right e = true ∧ evS e = s then (e, 0) else (zE, 90) := by rw [HRE.out, HCE.out, he]
 have HRD := Lib.hid hread; have HI := Lib.hid hI
 have hev := Ref.event_ok hD H7 e ((Ent.left hI).cons _) hok hfew
 obtain ⟨n0, n1, n2, n3, n4, n5⟩ := boxE_cells H7
 clear he hread hI hok hfew
 unfold evV at hev
 go_upto_region 30 with (go_at_call 35; refine hev.mono ?_; rintro r w7 ⟨rfl, H8⟩; clear hev H7 n0 n1 n2 n3 n4 n5)
 cases hrt : right e with
 | false =>
  have hn90 := (evN_no hrt).1
  have HBAD := Lib.hid (show refReadE s = (zE, 90) by rw [HRD.out, hrt]; simp)
  rw [hn90]
  have H9 := H8.sel 4 [3]
  clear hrt hn90
  obtain ⟨x0, x1, x2, x3, x4, x5⟩ := boxE_cells H9
  obtain ⟨y0, y1, y2, y3, y4, y5⟩ := boxE_froz H9
  have HS := boxE_put (d := zE) (u := .slice none 0 0) H9
  simp only [zE] at HS
  go_wp2
  clear x0 x1 x2 x3 x4 x5 y0 y1 y2 y3 y4 y5
  generalize World.setCell _ _ _ = W9 at *
  obtain ⟨x0, x1, x2, x3, x4, x5⟩ := boxE_cells (e := zE) HS
  refine bodyPost_ret (v := .tuple #[evV zE (.slice none 0 0), .int .i64 90]) (by simp [results, Tryz.results47, go_sem, x0, x1, x2, x3, x4, x5]; try rfl) rfl ?_
  exact refReadPost_no HBAD.out HS.tail

 | true =>
  have hn0 := (evN_yes hrt).1
  rw [hn0]
  clear hn0
  by_cases hes : evS e = s
  ·have HGOOD := Lib.hid (show refReadE s = (e, 0) by rw [HRD.out, hrt, hes]; simp)
   rw [hes]
   have hq : (s.toList == s.toList) = true := beq_self_eq_true _
   have H9 := H8.sel 4 [3, 1]
   obtain ⟨n0, n1, n2, n3, n4, n5⟩ := boxE_cells H8
   obtain ⟨x0, x1, x2, x3, x4, x5⟩ := boxE_cells H9
   obtain ⟨y0, y1, y2, y3, y4, y5⟩ := boxE_froz H9
   have HS := boxE_put (d := e) (u := .slice A e.list.length c) H9
   clear hrt hes H8
   go_wp2
   clear n0 n1 n2 n3 n4 n5 x0 x1 x2 x3 x4 x5 y0 y1 y2 y3 y4 y5 H9
   generalize World.setCell _ _ _ = W9 at *
   obtain ⟨x0, x1, x2, x3, x4, x5⟩ := boxE_cells HS
   refine bodyPost_ret (v := .tuple #[evV e (.slice A e.list.length c), .int .i64 0]) (by simp [results, Tryz.results47, go_sem, x0, x1, x2, x3, x4, x5]; try rfl) rfl ?_
   exact refReadPost_yes HGOOD.out HI.out HS.tail
  ·have HBAD := Lib.hid (show refReadE s = (zE, 90) by rw [HRD.out, hrt]; simp [hes])
   have hq : ((evS e).toList == s.toList) = false := by rw [beq_eq_false_iff_ne]; exact fun h => hes (bytesSame h)
   have H9 := H8.sel 4 [3]
   clear hrt hes
   generalize evS e = st at *
   obtain ⟨x0, x1, x2, x3, x4, x5⟩ := boxE_cells H9
   obtain ⟨y0, y1, y2, y3, y4, y5⟩ := boxE_froz H9
   have HS := boxE_put (d := zE) (u := .slice none 0 0) H9
   simp only [zE] at HS
   go_wp2
   clear x0 x1 x2 x3 x4 x5 y0 y1 y2 y3 y4 y5
   generalize World.setCell _ _ _ = W9 at *
   obtain ⟨x0, x1, x2, x3, x4, x5⟩ := boxE_cells (e := zE) HS
   refine bodyPost_ret (v := .tuple #[evV zE (.slice none 0 0), .int .i64 90]) (by simp [results, Tryz.results47, go_sem, x0, x1, x2, x3, x4, x5]; try rfl) rfl ?_
   exact refReadPost_no HBAD.out HS.tail

theorem Ref.re_bad (hD : Doors w0) (H : HL w0 w L) (s : ByteArray) (hs : s.size ≤ 1000000000) {s0 : ByteArray} (hs0 : (wordsC 32 s)[0]? = some s0) (hb : ¬ (s0 = endW ∧ (wordsC 32 s).length = 4)) (hnr : readV ((wordsC 32 s).drop 1) = none) :
  Calls Tryz.prog 47 #[.string s] w (RefReadPost w0 L s) := by
 have H1 := HL.bzE H
 have hcut := Ref.cut_ok H1 s hs 32
 rw [show ((32 : UInt8).toNat : Int) = 32 from rfl] at hcut
 have hws := wordsC_size 32 s
 have hwl := wordsC_most 32 s
 have hpos := wordsC_len 32 s
 have hhead : (wordsC 32 s).headD ⟨#[]⟩ = s0 := by
  generalize wordsC 32 s = W at *
  cases W with
  | nil => simp at hs0
  | cons x r => simpa using hs0
 have hnE : ¬ isE (wordsC 32 s) := fun h => hb ⟨by rw [← hhead]; exact h.1, h.2⟩
 have hre : refReadE s = match refCand (wordsC 32 s) with | none => (zE, 90) | some e => if right e = true ∧ evS e = s then (e, 0) else (zE, 90) := rfl
 have hcok : ∀ e, refCand (wordsC 32 s) = some e → EvOk e := fun e => refCand_ok hs
 have hcand : refCand (wordsC 32 s) = match readV ((wordsC 32 s).drop 1) with | none => none | some n => refEv s0 n 0 false := by unfold refCand; rw [if_neg hnE, hhead]; rfl
 clear hhead hnE
 generalize wordsC 32 s = W at *
 generalize hb2 : w.heap.size = b2 at *
 have HRE := Lib.hid hre; have HCOK := Lib.hid hcok; have HWS := Lib.hid hws; have HS0 := Lib.hid hs0; have HCAND := Lib.hid hcand; have HNB := Lib.hid hb; have HN := Lib.hid hnr
 clear hnr hre hcok hws hs0 hcand hb H
 go_enter Tryz.func47, Tryz.ntmps47
 go_upto_region 2 with (go_at_call 44; refine hcut.mono ?_; rintro e w2 ⟨v, rfl, H2⟩; clear hcut H1)
 have HB2 := Lib.hid hb2
 clear hb2
 generalize World.alloc w _ = Wx at *
 have H3 := HL.bzE H2
 obtain ⟨b1, o1, c1, rfl, d0⟩ := str_at (entRow _ H3.tail) HS0.out
 rw [Nat.add_zero] at d0
 obtain ⟨A1, c1', hv1, hc1, hc2⟩ := rd_shape (entRow _ H3.tail)
 simp only [Value.slice.injEq] at hv1
 obtain ⟨-, -, rfl⟩ := hv1
 unfold maxLen at hc2
 have h0W : 0 < W.length := by omega
 generalize hb5 : w2.heap.size = b5 at *
 go_upto_region 3 with (fail)
 have HB5 := Lib.hid hb5
 clear hb5 H2
 generalize World.alloc w2 _ = W3 at *
 obtain ⟨l1, hl1⟩ : ∃ l1, W.length = l1 + 1 := ⟨W.length - 1, by omega⟩
 obtain ⟨cc, rfl⟩ : ∃ cc, c1 = cc + 1 := ⟨c1 - 1, by omega⟩
 obtain ⟨A', hA'⟩ : ∃ A', (if cc = 0 then some (⟨b1, o1, none⟩ : Addr) else some ⟨b1, o1 + 1, none⟩) = A' := ⟨_, rfl⟩
 have hle : l1 ≤ cc := by omega
 have hwd : (W.drop 1).length = l1 := by rw [List.length_drop, hl1]; rfl
 have hRs : Strs w0 (boxE b5 zE (.slice none 0 0) :: strs w0.heap.size (.slice (some ⟨b1, o1, none⟩) W.length (cc + 1)) W :: boxE b2 zE (.slice none 0 0) :: L) (.slice A' l1 cc) (W.drop 1) := fun W' HW => by
  have h1 : Rd 1 _ W.length (strC W) W' := entRow _ HW.tail
  rw [hl1] at h1
  rw [hwd, strC, List.map_drop, ← hA']
  by_cases hz : cc = 0
  ·rw [if_pos hz]
   have := rd_suffix h1 1 (by omega) (a' := ⟨b1, o1, none⟩) (.inr (by omega))
   simpa using this
  ·rw [if_neg hz]
   have := rd_suffix h1 1 (by omega) (a' := ⟨b1, o1 + 1, none⟩) (.inl (by rw [add_plain]))
   simpa using this
 have hsz : ∀ x ∈ W.drop 1, x.size ≤ 1000000000 := fun x hx => by
  have := HWS.out x (List.mem_of_mem_drop hx)
  omega
 have hrd := Ref.read_ok H3 hRs hsz (by rw [hwd]; omega)
 clear hsz
 have hmin : min (1 : Int) ((l1 : Int) + 1) = 1 := by omega
 have hl0 : (0 : Int) < (l1 : Int) + 1 := by omega
 have HWD := Lib.hid hwd
 have HLL := Lib.hid (show l1 ≤ 1000000001 by omega)
 have HL1 := Lib.hid hl1
 rw [hl1]
 clear hwd hRs hl1 hwl hpos h0W
 rw [refReadsPost_none_eq HN.out] at hrd
 have HBAD := Lib.hid (show refReadE s = (zE, 90) by rw [HRE.out, HCAND.out, HN.out])
 by_cases ge : s0 = endW
 ·have q3 : (s0.toList == [101, 110, 100]) = true := by rw [ge]; decide +kernel
  have l4 : ((l1 : Int) + 1 == 4) = false := by rw [beq_eq_false_iff_ne]; have h1 := HNB.out; have h2 := HL1.out; exact fun h => h1 ⟨ge, by omega⟩
  clear ge
  go_upto_region 12 with (go_at_call 46; refine hrd.mono ?_; rintro r w5 ⟨rfl, H5⟩; clear hrd H3)
  have H8 := H5.sel 3 [2]
  clear H5
  obtain ⟨x0, x1, x2, x3, x4, x5⟩ := boxE_cells H8
  obtain ⟨y0, y1, y2, y3, y4, y5⟩ := boxE_froz H8
  have HS := boxE_put (d := zE) (u := .slice none 0 0) H8
  simp only [zE] at HS
  go_wp2
  clear x0 x1 x2 x3 x4 x5 y0 y1 y2 y3 y4 y5
  generalize World.setCell _ _ _ = W9 at *
  obtain ⟨x0, x1, x2, x3, x4, x5⟩ := boxE_cells (e := zE) HS
  refine bodyPost_ret (v := .tuple #[evV zE (.slice none 0 0), .int .i64 90]) (by simp [results, Tryz.results47, go_sem, x0, x1, x2, x3, x4, x5]; try rfl) rfl ?_
  exact refReadPost_no HBAD.out HS.tail
 ·have q3 : (s0.toList == [101, 110, 100]) = false := by rw [beq_eq_false_iff_ne]; exact fun e => ge (bytesSame (e.trans (by decide +kernel)))
  clear ge
  go_upto_region 12 with (go_at_call 46; refine hrd.mono ?_; rintro r w5 ⟨rfl, H5⟩; clear hrd H3)
  have H8 := H5.sel 3 [2]
  clear H5
  obtain ⟨x0, x1, x2, x3, x4, x5⟩ := boxE_cells H8
  obtain ⟨y0, y1, y2, y3, y4, y5⟩ := boxE_froz H8
  have HS := boxE_put (d := zE) (u := .slice none 0 0) H8
  simp only [zE] at HS
  go_wp2
  clear x0 x1 x2 x3 x4 x5 y0 y1 y2 y3 y4 y5
  generalize World.setCell _ _ _ = W9 at *
  obtain ⟨x0, x1, x2, x3, x4, x5⟩ := boxE_cells (e := zE) HS
  refine bodyPost_ret (v := .tuple #[evV zE (.slice none 0 0), .int .i64 90]) (by simp [results, Tryz.results47, go_sem, x0, x1, x2, x3, x4, x5]; try rfl) rfl ?_
  exact refReadPost_no HBAD.out HS.tail
end
open Go.RowKit Go.Proofs.HL Go.Proofs.An
section
variable {w0 w : World} {L : List At} {v : Value}
theorem Ref.re_badE (hD : Doors w0) (H : HL w0 w L) (s : ByteArray) (hs : s.size ≤ 1000000000) {s0 : ByteArray} (hs0 : (wordsC 32 s)[0]? = some s0) (hb : s0 = endW ∧ (wordsC 32 s).length = 4) (hnr : readV (((wordsC 32 s).take 3).drop 1) = none) :
  Calls Tryz.prog 47 #[.string s] w (RefReadPost w0 L s) := by
 have H1 := HL.bzE H
 have hcut := Ref.cut_ok H1 s hs 32
 rw [show ((32 : UInt8).toNat : Int) = 32 from rfl] at hcut
 have hws := wordsC_size 32 s
 have hwl := wordsC_most 32 s
 have hpos := wordsC_len 32 s
 have hhead : (wordsC 32 s).headD ⟨#[]⟩ = s0 := by
  generalize wordsC 32 s = W at *
  cases W with
  | nil => simp at hs0
  | cons x r => simpa using hs0
 have hnE : isE (wordsC 32 s) := ⟨by rw [hhead]; exact hb.1, hb.2⟩
 obtain ⟨sl, hsl⟩ : ∃ x, (wordsC 32 s)[3]? = some x := ⟨_, List.getElem?_eq_getElem (by omega)⟩
 have hlast : (wordsC 32 s).getLastD ⟨#[]⟩ = sl := by rw [List.getLastD_eq_getLast?, List.getLast?_eq_getElem?, hb.2, hsl]; rfl
 have hre : refReadE s = match refCand (wordsC 32 s) with | none => (zE, 90) | some e => if right e = true ∧ evS e = s then (e, 0) else (zE, 90) := rfl
 have hcok : ∀ e, refCand (wordsC 32 s) = some e → EvOk e := fun e => refCand_ok hs
 have hcand : refCand (wordsC 32 s) = match readV (((wordsC 32 s).take 3).drop 1) with | none => none | some n => refEv s0 n (stE sl) true := by unfold refCand; rw [if_pos hnE, hhead, hlast]; rfl
 clear hhead hnE hlast
 generalize wordsC 32 s = W at *
 generalize hb2 : w.heap.size = b2 at *
 have HRE := Lib.hid hre; have HCOK := Lib.hid hcok; have HWS := Lib.hid hws; have HS0 := Lib.hid hs0; have HCAND := Lib.hid hcand; have HNB := Lib.hid hb; have HSL := Lib.hid hsl; have HN := Lib.hid hnr
 clear hsl hnr hre hcok hws hs0 hcand hb H
 go_enter Tryz.func47, Tryz.ntmps47
 go_upto_region 2 with (go_at_call 44; refine hcut.mono ?_; rintro e w2 ⟨v, rfl, H2⟩; clear hcut H1)
 have HB2 := Lib.hid hb2
 clear hb2
 generalize World.alloc w _ = Wx at *
 have H3 := HL.bzE H2
 obtain ⟨b1, o1, c1, rfl, d0⟩ := str_at (entRow _ H3.tail) HS0.out
 rw [Nat.add_zero] at d0
 obtain ⟨A1, c1', hv1, hc1, hc2⟩ := rd_shape (entRow _ H3.tail)
 simp only [Value.slice.injEq] at hv1
 obtain ⟨-, -, rfl⟩ := hv1
 unfold maxLen at hc2
 have h0W : 0 < W.length := by omega
 generalize hb5 : w2.heap.size = b5 at *
 go_upto_region 3 with (fail)
 have HB5 := Lib.hid hb5
 clear hb5 H2
 generalize World.alloc w2 _ = W3 at *
 have g4 := HNB.out.2
 have q3 : (s0.toList == [101, 110, 100]) = true := by rw [HNB.out.1]; decide +kernel
 have l4 : ((W.length : Int) == 4) = true := by simp; omega
 have i0W : (0 : Int) < (W.length : Int) := by omega
 have i3W : (3 : Int) < (W.length : Int) := by omega
 have i3c : (3 : Int) ≤ (c1 : Int) := by omega
 have n3c : 3 ≤ c1 := by omega
 have n4c : 4 ≤ c1 := by omega
 clear g4 hwl hpos
 have hS3 : ∀ W' e', HL w0 W' (boxE b5 e' (.slice none 0 0) :: strs w0.heap.size (.slice (some ⟨b1, o1, none⟩) W.length c1) W :: boxE b2 zE (.slice none 0 0) :: L) → W'.cell? ⟨b1, o1 + 3, none⟩ = some (.string sl) := fun W' e' HW => by
  obtain ⟨b', o', c', hv, g⟩ := str_at (entRow _ HW.tail) HSL.out
  simp only [Value.slice.injEq, Option.some.injEq, Addr.mk.injEq] at hv
  obtain ⟨⟨rfl, rfl, -⟩, -, -⟩ := hv
  exact g
 go_wp2
 go_loopg [6] 4 (fun g i wr => ∃ k : Nat, i = .int .i64 (3 + (k : Int)) ∧ k + g = 4 ∧ HL w0 wr (boxE b5 ⟨0, 0, 0, ndK sl k, 0, []⟩ (.slice none 0 0) :: strs w0.heap.size (.slice (some ⟨b1, o1, none⟩) W.length c1) W :: boxE b2 zE (.slice none 0 0) :: L))
 case atStart => exact ⟨0, rfl, rfl, by rw [ndK_0]; exact H3⟩
 case round =>
  obtain ⟨k, rfl, hk, HK⟩ := hrel
  clear H3
  by_cases hlt : k < 4
  ·have hg : 3 + (k : Int) ≤ 6 := by omega
   have hst := fun W => Ref.state_ok (3 + (k : Int)) W
   by_cases hs : stW (3 + (k : Int)) = sl
   ·have hq : ((stW (3 + (k : Int))).toList == sl.toList) = true := by rw [← hs]; exact beq_self_eq_true _
    have HN := Lib.hid (ndK_hit hlt hs)
    clear hs
    generalize stW (3 + (k : Int)) = S at *
    go_wp2
    refine wp_region_held_drew (S := fun w' => w'.cell? ⟨b1, o1 + 3, none⟩ = some (.string sl)) (by kernel_rfl) (hS3 _ _ HK.drew) (fun hHeld => ?_)
    have Hd := HK.drew
    clear HK
    generalize World.drew _ = Wd at *
    refine ztk 0 ?_
    simp only [Act.put, zp]
    refine ztk 2 ?_
    simp only [Act.put, zp]
    refine ztk 3 ?_
    simp only [Act.put, zp]
    refine ztk 4 ?_
    simp only [Act.put, zp]
    refine zry 1 (fun K' hK' => ?_)
    dsimp only [zg1, zg3, zg2]
    go_simp
    go_at_call 34
    refine (hst _).mono ?_
    rintro r w6 ⟨rfl, rfl⟩
    dsimp only
    go_simp
    refine hK'.out _ _ (hS3 _ _ Hd) (fun hHeld => ?_)
    clear hK' K'
    try simp only [Act.put, zp]
    refine ztk 5 ?_
    simp only [Act.put, zp]
    refine wpAnyH_done (by kernel_rfl) ?_ _
    have HS : HL w0 _ (boxE b5 ⟨0, 0, 0, 3 + (k : Int), 0, []⟩ (.slice none 0 0) :: strs w0.heap.size (.slice (some ⟨b1, o1, none⟩) W.length c1) W :: boxE b2 zE (.slice none 0 0) :: L) := HL.setCell Hd 3 (.int .i64 (3 + (k : Int)))
    obtain ⟨n0, n1, n2, n3, n4, n5⟩ := boxE_cells Hd
    obtain ⟨y0, y1, y2, y3, y4, y5⟩ := boxE_froz Hd
    go_wp2
    go_roundg (gk - 1)
    case measure => omega
    case rel => exact ⟨k + 1, by go_num, by omega, by rw [HN.out]; exact HS⟩
   ·have hq : ((stW (3 + (k : Int))).toList == sl.toList) = false := by rw [beq_eq_false_iff_ne]; exact fun e => hs (bytesSame e)
    have HN := Lib.hid (ndK_miss hlt hs)
    clear hs
    generalize stW (3 + (k : Int)) = S at *
    go_wp2
    refine wp_region_held_drew (S := fun w' => w'.cell? ⟨b1, o1 + 3, none⟩ = some (.string sl)) (by kernel_rfl) (hS3 _ _ HK.drew) (fun hHeld => ?_)
    have Hd := HK.drew
    clear HK
    generalize World.drew _ = Wd at *
    refine ztk 0 ?_
    simp only [Act.put, zp]
    refine ztk 2 ?_
    simp only [Act.put, zp]
    refine ztk 3 ?_
    simp only [Act.put, zp]
    refine ztk 4 ?_
    simp only [Act.put, zp]
    refine zry 1 (fun K' hK' => ?_)
    dsimp only [zg1, zg3, zg2]
    go_simp
    go_at_call 34
    refine (hst _).mono ?_
    rintro r w6 ⟨rfl, rfl⟩
    dsimp only
    go_simp
    refine hK'.out _ _ (hS3 _ _ Hd) (fun hHeld => ?_)
    clear hK' K'
    try simp only [Act.put, zp]
    refine ztk 5 ?_
    simp only [Act.put, zp]
    refine wpAnyH_done (by kernel_rfl) ?_ _
    go_wp2
    go_roundg (gk - 1)
    case measure => omega
    case rel => exact ⟨k + 1, by go_num, by omega, by rw [HN.out]; exact Hd⟩
  ·have hg : 6 < 3 + (k : Int) := by omega
   obtain rfl : k = 4 := by omega
   rw [ndK_4] at HK
   have HS : HL w0 _ (boxE b5 ⟨3, 0, 0, stE sl, 0, []⟩ (.slice none 0 0) :: strs w0.heap.size (.slice (some ⟨b1, o1, none⟩) W.length c1) W :: boxE b2 zE (.slice none 0 0) :: L) := HL.setCell HK 0 (.int .i64 3)
   obtain ⟨n0, n1, n2, n3, n4, n5⟩ := boxE_cells HK
   obtain ⟨y0, y1, y2, y3, y4, y5⟩ := boxE_froz HK
   go_upto_region 11 with (fail)
   clear n0 n1 n2 n3 n4 n5 y0 y1 y2 y3 y4 y5 HK
   have H4 := HS
   clear HS
   generalize World.setCell _ _ _ = W4 at *
   obtain ⟨cc, rfl⟩ : ∃ cc, c1 = cc + 1 := ⟨c1 - 1, by omega⟩
   have hcc : ¬ cc = 0 := by omega
   have hmin0 : min (1 : Int) 3 = 1 := by decide
   clear n4c n3c i3c i3W i0W
   have hwd : ((W.take 3).drop 1).length = 2 := by rw [List.length_drop, List.length_take, HNB.out.2]; rfl
   have hRs : Strs w0 (boxE b5 ⟨3, 0, 0, stE sl, 0, []⟩ (.slice none 0 0) :: strs w0.heap.size (.slice (some ⟨b1, o1, none⟩) W.length (cc + 1)) W :: boxE b2 zE (.slice none 0 0) :: L) (.slice (some ⟨b1, o1 + 1, none⟩) 2 cc) ((W.take 3).drop 1) := fun W' HW => by
    have h1 := rd_prefix (entRow _ HW.tail) 3 (by rw [HNB.out.2]; omega)
    rw [Nat.mul_one, strC, ← List.map_take] at h1
    rw [hwd, strC, List.map_drop]
    ·have := rd_suffix h1 1 (by omega) (a' := ⟨b1, o1 + 1, none⟩) (.inl (by rw [add_plain]))
     simpa using this
   have hsz : ∀ x ∈ (W.take 3).drop 1, x.size ≤ 1000000000 := fun x hx => by
    have := HWS.out x (List.mem_of_mem_take (List.mem_of_mem_drop hx))
    omega
   have hrd := Ref.read_ok H4 hRs hsz (by rw [hwd]; omega)
   clear hsz hRs
   have HWD := Lib.hid hwd
   clear hwd
   rw [refReadsPost_none_eq HN.out] at hrd
   have HBAD := Lib.hid (show refReadE s = (zE, 90) by rw [HRE.out, HCAND.out, HN.out])
   go_upto_region 12 with (go_at_call 46; refine hrd.mono ?_; rintro r w5 ⟨rfl, H5⟩; clear hrd H4)
   have H8 := H5.sel 3 [2]
   clear H5
   obtain ⟨x0, x1, x2, x3, x4, x5⟩ := boxE_cells H8
   obtain ⟨y0, y1, y2, y3, y4, y5⟩ := boxE_froz H8
   have HS := boxE_put (d := zE) (u := .slice none 0 0) H8
   simp only [zE] at HS
   go_wp2
   clear x0 x1 x2 x3 x4 x5 y0 y1 y2 y3 y4 y5
   generalize World.setCell _ _ _ = W9 at *
   obtain ⟨x0, x1, x2, x3, x4, x5⟩ := boxE_cells (e := zE) HS
   refine bodyPost_ret (v := .tuple #[evV zE (.slice none 0 0), .int .i64 90]) (by simp [results, Tryz.results47, go_sem, x0, x1, x2, x3, x4, x5]; try rfl) rfl ?_
   exact refReadPost_no HBAD.out HS.tail
theorem Ref.re_3 (hD : Doors w0) (H : HL w0 w L) (s : ByteArray) (hs : s.size ≤ 1000000000) {s0 : ByteArray} (hs0 : (wordsC 32 s)[0]? = some s0) (hb : s0 = endW ∧ (wordsC 32 s).length = 4) {n : List Int} (hnr : readV (((wordsC 32 s).take 3).drop 1) = some n) :
  Calls Tryz.prog 47 #[.string s] w (RefReadPost w0 L s) := by
 have H1 := HL.bzE H
 have hcut := Ref.cut_ok H1 s hs 32
 rw [show ((32 : UInt8).toNat : Int) = 32 from rfl] at hcut
 have hws := wordsC_size 32 s
 have hwl := wordsC_most 32 s
 have hpos := wordsC_len 32 s
 have hhead : (wordsC 32 s).headD ⟨#[]⟩ = s0 := by
  generalize wordsC 32 s = W at *
  cases W with
  | nil => simp at hs0
  | cons x r => simpa using hs0
 have hnE : isE (wordsC 32 s) := ⟨by rw [hhead]; exact hb.1, hb.2⟩
 obtain ⟨sl, hsl⟩ : ∃ x, (wordsC 32 s)[3]? = some x := ⟨_, List.getElem?_eq_getElem (by omega)⟩
 have hlast : (wordsC 32 s).getLastD ⟨#[]⟩ = sl := by rw [List.getLastD_eq_getLast?, List.getLast?_eq_getElem?, hb.2, hsl]; rfl
 have hre : refReadE s = match refCand (wordsC 32 s) with | none => (zE, 90) | some e => if right e = true ∧ evS e = s then (e, 0) else (zE, 90) := rfl
 have hcok : ∀ e, refCand (wordsC 32 s) = some e → EvOk e := fun e => refCand_ok hs
 have hcand : refCand (wordsC 32 s) = match readV (((wordsC 32 s).take 3).drop 1) with | none => none | some n => refEv s0 n (stE sl) true := by unfold refCand; rw [if_pos hnE, hhead, hlast]; rfl
 clear hhead hnE hlast
 generalize wordsC 32 s = W at *
 generalize hb2 : w.heap.size = b2 at *
 have HRE := Lib.hid hre; have HCOK := Lib.hid hcok; have HWS := Lib.hid hws; have HS0 := Lib.hid hs0; have HCAND := Lib.hid hcand; have HNB := Lib.hid hb; have HSL := Lib.hid hsl; have HN := Lib.hid hnr
 clear hsl hnr hre hcok hws hs0 hcand hb H
 go_enter Tryz.func47, Tryz.ntmps47
 go_upto_region 2 with (go_at_call 44; refine hcut.mono ?_; rintro e w2 ⟨v, rfl, H2⟩; clear hcut H1)
 have HB2 := Lib.hid hb2
 clear hb2
 generalize World.alloc w _ = Wx at *
 have H3 := HL.bzE H2
 obtain ⟨b1, o1, c1, rfl, d0⟩ := str_at (entRow _ H3.tail) HS0.out
 rw [Nat.add_zero] at d0
 obtain ⟨A1, c1', hv1, hc1, hc2⟩ := rd_shape (entRow _ H3.tail)
 simp only [Value.slice.injEq] at hv1
 obtain ⟨-, -, rfl⟩ := hv1
 unfold maxLen at hc2
 have h0W : 0 < W.length := by omega
 generalize hb5 : w2.heap.size = b5 at *
 go_upto_region 3 with (fail)
 have HB5 := Lib.hid hb5
 clear hb5 H2
 generalize World.alloc w2 _ = W3 at *
 have g4 := HNB.out.2
 have q3 : (s0.toList == [101, 110, 100]) = true := by rw [HNB.out.1]; decide +kernel
 have l4 : ((W.length : Int) == 4) = true := by simp; omega
 have i0W : (0 : Int) < (W.length : Int) := by omega
 have i3W : (3 : Int) < (W.length : Int) := by omega
 have i3c : (3 : Int) ≤ (c1 : Int) := by omega
 have n3c : 3 ≤ c1 := by omega
 have n4c : 4 ≤ c1 := by omega
 clear g4 hwl hpos
 have hS3 : ∀ W' e', HL w0 W' (boxE b5 e' (.slice none 0 0) :: strs w0.heap.size (.slice (some ⟨b1, o1, none⟩) W.length c1) W :: boxE b2 zE (.slice none 0 0) :: L) → W'.cell? ⟨b1, o1 + 3, none⟩ = some (.string sl) := fun W' e' HW => by
  obtain ⟨b', o', c', hv, g⟩ := str_at (entRow _ HW.tail) HSL.out
  simp only [Value.slice.injEq, Option.some.injEq, Addr.mk.injEq] at hv
  obtain ⟨⟨rfl, rfl, -⟩, -, -⟩ := hv
  exact g
 go_wp2
 go_loopg [6] 4 (fun g i wr => ∃ k : Nat, i = .int .i64 (3 + (k : Int)) ∧ k + g = 4 ∧ HL w0 wr (boxE b5 ⟨0, 0, 0, ndK sl k, 0, []⟩ (.slice none 0 0) :: strs w0.heap.size (.slice (some ⟨b1, o1, none⟩) W.length c1) W :: boxE b2 zE (.slice none 0 0) :: L))
 case atStart => exact ⟨0, rfl, rfl, by rw [ndK_0]; exact H3⟩
 case round =>
  obtain ⟨k, rfl, hk, HK⟩ := hrel
  clear H3
  by_cases hlt : k < 4
  ·have hg : 3 + (k : Int) ≤ 6 := by omega
   have hst := fun W => Ref.state_ok (3 + (k : Int)) W
   by_cases hs : stW (3 + (k : Int)) = sl
   ·have hq : ((stW (3 + (k : Int))).toList == sl.toList) = true := by rw [← hs]; exact beq_self_eq_true _
    have HN := Lib.hid (ndK_hit hlt hs)
    clear hs
    generalize stW (3 + (k : Int)) = S at *
    go_wp2
    refine wp_region_held_drew (S := fun w' => w'.cell? ⟨b1, o1 + 3, none⟩ = some (.string sl)) (by kernel_rfl) (hS3 _ _ HK.drew) (fun hHeld => ?_)
    have Hd := HK.drew
    clear HK
    generalize World.drew _ = Wd at *
    refine ztk 0 ?_
    simp only [Act.put, zp]
    refine ztk 2 ?_
    simp only [Act.put, zp]
    refine ztk 3 ?_
    simp only [Act.put, zp]
    refine ztk 4 ?_
    simp only [Act.put, zp]
    refine zry 1 (fun K' hK' => ?_)
    dsimp only [zg1, zg3, zg2]
    go_simp
    go_at_call 34
    refine (hst _).mono ?_
    rintro r w6 ⟨rfl, rfl⟩
    dsimp only
    go_simp
    refine hK'.out _ _ (hS3 _ _ Hd) (fun hHeld => ?_)
    clear hK' K'
    try simp only [Act.put, zp]
    refine ztk 5 ?_
    simp only [Act.put, zp]
    refine wpAnyH_done (by kernel_rfl) ?_ _
    have HS : HL w0 _ (boxE b5 ⟨0, 0, 0, 3 + (k : Int), 0, []⟩ (.slice none 0 0) :: strs w0.heap.size (.slice (some ⟨b1, o1, none⟩) W.length c1) W :: boxE b2 zE (.slice none 0 0) :: L) := HL.setCell Hd 3 (.int .i64 (3 + (k : Int)))
    obtain ⟨n0, n1, n2, n3, n4, n5⟩ := boxE_cells Hd
    obtain ⟨y0, y1, y2, y3, y4, y5⟩ := boxE_froz Hd
    go_wp2
    go_roundg (gk - 1)
    case measure => omega
    case rel => exact ⟨k + 1, by go_num, by omega, by rw [HN.out]; exact HS⟩
   ·have hq : ((stW (3 + (k : Int))).toList == sl.toList) = false := by rw [beq_eq_false_iff_ne]; exact fun e => hs (bytesSame e)
    have HN := Lib.hid (ndK_miss hlt hs)
    clear hs
    generalize stW (3 + (k : Int)) = S at *
    go_wp2
    refine wp_region_held_drew (S := fun w' => w'.cell? ⟨b1, o1 + 3, none⟩ = some (.string sl)) (by kernel_rfl) (hS3 _ _ HK.drew) (fun hHeld => ?_)
    have Hd := HK.drew
    clear HK
    generalize World.drew _ = Wd at *
    refine ztk 0 ?_
    simp only [Act.put, zp]
    refine ztk 2 ?_
    simp only [Act.put, zp]
    refine ztk 3 ?_
    simp only [Act.put, zp]
    refine ztk 4 ?_
    simp only [Act.put, zp]
    refine zry 1 (fun K' hK' => ?_)
    dsimp only [zg1, zg3, zg2]
    go_simp
    go_at_call 34
    refine (hst _).mono ?_
    rintro r w6 ⟨rfl, rfl⟩
    dsimp only
    go_simp
    refine hK'.out _ _ (hS3 _ _ Hd) (fun hHeld => ?_)
    clear hK' K'
    try simp only [Act.put, zp]
    refine ztk 5 ?_
    simp only [Act.put, zp]
    refine wpAnyH_done (by kernel_rfl) ?_ _
    go_wp2
    go_roundg (gk - 1)
    case measure => omega
    case rel => exact ⟨k + 1, by go_num, by omega, by rw [HN.out]; exact Hd⟩
  ·have hg : 6 < 3 + (k : Int) := by omega
   obtain rfl : k = 4 := by omega
   rw [ndK_4] at HK
   have HS : HL w0 _ (boxE b5 ⟨3, 0, 0, stE sl, 0, []⟩ (.slice none 0 0) :: strs w0.heap.size (.slice (some ⟨b1, o1, none⟩) W.length c1) W :: boxE b2 zE (.slice none 0 0) :: L) := HL.setCell HK 0 (.int .i64 3)
   obtain ⟨n0, n1, n2, n3, n4, n5⟩ := boxE_cells HK
   obtain ⟨y0, y1, y2, y3, y4, y5⟩ := boxE_froz HK
   go_upto_region 11 with (fail)
   clear n0 n1 n2 n3 n4 n5 y0 y1 y2 y3 y4 y5 HK
   have H4 := HS
   clear HS
   generalize World.setCell _ _ _ = W4 at *
   obtain ⟨cc, rfl⟩ : ∃ cc, c1 = cc + 1 := ⟨c1 - 1, by omega⟩
   have hcc : ¬ cc = 0 := by omega
   have hmin0 : min (1 : Int) 3 = 1 := by decide
   clear n4c n3c i3c i3W i0W
   have hwd : ((W.take 3).drop 1).length = 2 := by rw [List.length_drop, List.length_take, HNB.out.2]; rfl
   have hRs : Strs w0 (boxE b5 ⟨3, 0, 0, stE sl, 0, []⟩ (.slice none 0 0) :: strs w0.heap.size (.slice (some ⟨b1, o1, none⟩) W.length (cc + 1)) W :: boxE b2 zE (.slice none 0 0) :: L) (.slice (some ⟨b1, o1 + 1, none⟩) 2 cc) ((W.take 3).drop 1) := fun W' HW => by
    have h1 := rd_prefix (entRow _ HW.tail) 3 (by rw [HNB.out.2]; omega)
    rw [Nat.mul_one, strC, ← List.map_take] at h1
    rw [hwd, strC, List.map_drop]
    ·have := rd_suffix h1 1 (by omega) (a' := ⟨b1, o1 + 1, none⟩) (.inl (by rw [add_plain]))
     simpa using this
   have hsz : ∀ x ∈ (W.take 3).drop 1, x.size ≤ 1000000000 := fun x hx => by
    have := HWS.out x (List.mem_of_mem_take (List.mem_of_mem_drop hx))
    omega
   have hrd := Ref.read_ok H4 hRs hsz (by rw [hwd]; omega)
   clear hsz hRs
   have HWD := Lib.hid hwd
   clear hwd
   rw [refReadsPost_some_eq HN.out] at hrd
   have hnl := readV_len _ _ HN.out
   rw [HWD.out] at hnl
   have hce : refCand W = refEv s0 n (stE sl) true := by rw [HCAND.out, HN.out]
   have HCE := Lib.hid hce
   clear hce
   have HLL := Lib.hid (show 2 ≤ 1000000001 by omega)
   have q1 : (s0.toList == [115, 117, 98, 109, 105, 116]) = false := by rw [HNB.out.1]; decide +kernel
   have q2 : (s0.toList == [115, 116, 97, 114, 116]) = false := by rw [HNB.out.1]; decide +kernel
   have q4 : (s0.toList == [112, 105, 110]) = false := by rw [HNB.out.1]; decide +kernel
   have q5 : (s0.toList == [112, 97, 115, 115]) = false := by rw [HNB.out.1]; decide +kernel
   have q6 : (s0.toList == [116, 105, 99, 107]) = false := by rw [HNB.out.1]; decide +kernel
   have q7 : (s0.toList == [100, 101, 99, 97, 121]) = false := by rw [HNB.out.1]; decide +kernel
   go_upto_region 12 with (go_at_call 46; refine hrd.mono ?_; rintro r w5 ⟨u, rfl, H5⟩; clear hrd H4)
   have H6 := H5.swap
   clear H5
   obtain ⟨An, cn, rfl, hn1, hn2⟩ := rd_shape (entRow _ H6.tail)
   unfold maxLen at hn2
   have hn := fun W' e' (HW : HL w0 W' (boxE b5 e' (.slice none 0 0) :: intsR w0.heap.size (.slice An n.length cn) n :: strs w0.heap.size (.slice (some ⟨b1, o1, none⟩) W.length (cc + 1)) W :: boxE b2 zE (.slice none 0 0) :: L)) => (entRow _ HW.tail : Rd 1 (.slice An n.length cn) n.length (intC n) W')
   clear d0
   obtain ⟨b', o', c', hv, d0⟩ := str_at (entRow _ H6.tail.tail) HS0.out
   simp only [Value.slice.injEq, Option.some.injEq, Addr.mk.injEq] at hv
   obtain ⟨⟨rfl, rfl, -⟩, -, -⟩ := hv
   rw [Nat.add_zero] at d0
   have HNL := Lib.hid hnl
   clear hnl
   obtain ⟨m0, m1, m2, m3, m4, m5⟩ := boxE_cells H6
   have hk : n.length = 2 := HNL.out
   have hev := refEv_3 (n := n) (nd := stE sl)
   rw [← HNB.out.1] at hev
   have HEVY := Lib.hid (show refEv s0 n (stE sl) true = _ by rw [hev, if_pos hk])
   clear hev
   have HSE := stE_bounds sl
   generalize stE sl = nd at *
   have hlk := hk
   have lk : ((n.length : Int) == 2) = true := by simp; omega
   obtain ⟨x0, hx0⟩ : ∃ x, n[0]? = some x := ⟨_, List.getElem?_eq_getElem (by omega)⟩
   obtain ⟨x1, hx1⟩ : ∃ x, n[1]? = some x := ⟨_, List.getElem?_eq_getElem (by omega)⟩
   obtain ⟨bn, on, cn', hv, g0⟩ := int_at (hn _ _ H6) hx0
   simp only [Value.slice.injEq] at hv
   obtain ⟨rfl, -, rfl⟩ := hv
   rw [Nat.add_zero] at g0
   obtain ⟨b', o', c', hv, g1⟩ := int_at (hn _ _ H6) hx1
   simp only [Value.slice.injEq, Option.some.injEq, Addr.mk.injEq] at hv
   obtain ⟨⟨rfl, rfl, -⟩, -, -⟩ := hv
   have k0n : (0 : Int) < (n.length : Int) := by omega
   have k1n : (1 : Int) < (n.length : Int) := by omega
   have kn0 : 0 < n.length := by omega
   have HC2 : ∀ W' e', HL w0 W' (boxE b5 e' (.slice none 0 0) :: intsR w0.heap.size (.slice (some ⟨bn, on, none⟩) n.length cn) n :: strs w0.heap.size (.slice (some ⟨b1, o1, none⟩) W.length (cc + 1)) W :: boxE b2 zE (.slice none 0 0) :: L) → W'.cell? ⟨bn, on, none⟩ = some (.int .i64 x0) ∧ W'.cell? ⟨bn, on + 1, none⟩ = some (.int .i64 x1) := fun W' e' HW => by
    obtain ⟨b', o', c', hv, g1⟩ := int_at (entRow _ HW.tail) hx0
    simp only [Value.slice.injEq, Option.some.injEq, Addr.mk.injEq] at hv
    obtain ⟨⟨rfl, rfl, -⟩, -, -⟩ := hv
    obtain ⟨b', o', c', hv, g2⟩ := int_at (entRow _ HW.tail) hx1
    simp only [Value.slice.injEq, Option.some.injEq, Addr.mk.injEq] at hv
    obtain ⟨⟨rfl, rfl, -⟩, -, -⟩ := hv
    rw [Nat.add_zero] at g1
    exact ⟨g1, g2⟩
   have hy : refEv s0 n nd true = some ⟨3, x0, x1, nd, 0, []⟩ := by rw [HEVY.out]; simp [List.getD_eq_getElem?_getD, hx0, hx1]
   have HY := Lib.hid hy
   clear hy hx0 hx1
   have hS20 : ∀ W' e', HL w0 W' (boxE b5 e' (.slice none 0 0) :: intsR w0.heap.size (.slice (some ⟨bn, on, none⟩) n.length cn) n :: strs w0.heap.size (.slice (some ⟨b1, o1, none⟩) W.length (cc + 1)) W :: boxE b2 zE (.slice none 0 0) :: L) → W'.cell? ⟨bn, on, none⟩ = some (.int .i64 x0) ∧ W'.cell? ⟨bn, on + 1, none⟩ = some (.int .i64 x1) := fun W' e' HW => HC2 W' e' HW
   go_upto_region 20 with (fail)
   refine wp_region_held_drew (S := fun w' => w'.cell? ⟨bn, on, none⟩ = some (.int .i64 x0) ∧ w'.cell? ⟨bn, on + 1, none⟩ = some (.int .i64 x1)) (by kernel_rfl) (hS20 _ _ H6.drew) (fun hHeld => ?_)
   have Hd := H6.drew
   clear H6 g0 g1 d0
   generalize World.drew _ = Wd at *
   obtain ⟨n0, n1, n2, n3, n4, n5⟩ := boxE_cells Hd
   obtain ⟨y0, y1, y2, y3, y4, y5⟩ := boxE_froz Hd
   refine ztk 0 ?_
   simp only [Act.put, zp]
   refine ztk 1 ?_
   simp only [Act.put, zp]
   refine ztk 2 ?_
   simp only [Act.put, zp]
   refine ztk 3 ?_
   simp only [Act.put, zp]
   refine ztk 4 ?_
   simp only [Act.put, zp]
   refine ztk 5 ?_
   simp only [Act.put, zp]
   refine ztk 6 ?_
   simp only [Act.put, zp]
   refine zry 7 (fun K' hK' => ?_)
   dsimp only [zg1, zg3, zg2]
   go_simp
   have HS7 : HL w0 _ (boxE b5 ⟨3, x0, 0, nd, 0, []⟩ (.slice none 0 0) :: intsR w0.heap.size (.slice (some ⟨bn, on, none⟩) n.length cn) n :: strs w0.heap.size (.slice (some ⟨b1, o1, none⟩) W.length (cc + 1)) W :: boxE b2 zE (.slice none 0 0) :: L) := HL.setCell Hd 1 (.int .i64 x0)
   obtain ⟨m0, m1, m2, m3, m4, m5⟩ := boxE_cells HS7
   obtain ⟨z0, z1, z2, z3, z4, z5⟩ := boxE_froz HS7
   refine hK'.out _ _ (hS20 _ _ HS7) (fun hHeld => ?_)
   clear hK' K'
   try simp only [Act.put, zp]
   refine ztk 8 ?_
   simp only [Act.put, zp]
   refine zry 9 (fun K' hK' => ?_)
   dsimp only [zg1, zg3, zg2]
   go_simp
   have HS9 : HL w0 _ (boxE b5 ⟨3, x0, x1, nd, 0, []⟩ (.slice none 0 0) :: intsR w0.heap.size (.slice (some ⟨bn, on, none⟩) n.length cn) n :: strs w0.heap.size (.slice (some ⟨b1, o1, none⟩) W.length (cc + 1)) W :: boxE b2 zE (.slice none 0 0) :: L) := HL.setCell HS7 2 (.int .i64 x1)
   refine hK'.out _ _ (hS20 _ _ HS9) (fun hHeld => ?_)
   clear hK' K'
   try simp only [Act.put, zp]
   refine wpAnyH_done (by kernel_rfl) ?_ _
   have HS := HS9
   clear n0 n1 n2 n3 n4 n5 y0 y1 y2 y3 y4 y5 m0 m1 m2 m3 m4 m5 z0 z1 z2 z3 z4 z5 HS7 HS9 Hd hHeld
   go_upto_region 29 with (fail)
   generalize (World.setCell (World.setCell Wd _ _) _ _) = W7 at *
   have hx : ∃ e A c, refEv s0 n nd true = some e ∧ Ints w0 [intsR w0.heap.size (.slice (some ⟨bn, on, none⟩) n.length cn) n] (.slice A e.list.length c) e.list ∧ HL w0 W7 (boxE b5 e (.slice A e.list.length c) :: intsR w0.heap.size (.slice (some ⟨bn, on, none⟩) n.length cn) n :: strs w0.heap.size (.slice (some ⟨b1, o1, none⟩) W.length (cc + 1)) W :: boxE b2 zE (.slice none 0 0) :: L) := by
    exact ⟨_, none, 0, HY.out, fun W _ => rd_nil, HS⟩
   obtain ⟨e, A, c, he, hI, H7⟩ := hx
   clear HS hn lk HY HEVY HSE
   have hok : EvOk e := HCOK.out e (by rw [HCE.out]; exact he)
   have hfew : e.list.length ≤ 4294967200 := by
    have h1 := refEv_few he
    have h2 := HNL.out
    have h3 := HLL.out
    omega
   have hread : refReadE s = if right e = true ∧ evS e = s then (e, 0) else (zE, 90) := by rw [HRE.out, HCE.out, he]
   have HRD := Lib.hid hread; have HI := Lib.hid hI
   have hev := Ref.event_ok hD H7 e ((Ent.left hI).cons _) hok hfew
   obtain ⟨n0, n1, n2, n3, n4, n5⟩ := boxE_cells H7
   clear he hread hI hok hfew
   unfold evV at hev
   go_upto_region 30 with (go_at_call 35; refine hev.mono ?_; rintro r w7 ⟨rfl, H8⟩; clear hev H7 n0 n1 n2 n3 n4 n5)
   cases hrt : right e with
   | false =>
    have hn90 := (evN_no hrt).1
    have HBAD := Lib.hid (show refReadE s = (zE, 90) by rw [HRD.out, hrt]; simp)
    rw [hn90]
    have H9 := H8.sel 4 [3]
    clear hrt hn90
    obtain ⟨x0, x1, x2, x3, x4, x5⟩ := boxE_cells H9
    obtain ⟨y0, y1, y2, y3, y4, y5⟩ := boxE_froz H9
    have HS := boxE_put (d := zE) (u := .slice none 0 0) H9
    simp only [zE] at HS
    go_wp2
    clear x0 x1 x2 x3 x4 x5 y0 y1 y2 y3 y4 y5
    generalize World.setCell _ _ _ = W9 at *
    obtain ⟨x0, x1, x2, x3, x4, x5⟩ := boxE_cells (e := zE) HS
    refine bodyPost_ret (v := .tuple #[evV zE (.slice none 0 0), .int .i64 90]) (by simp [results, Tryz.results47, go_sem, x0, x1, x2, x3, x4, x5]; try rfl) rfl ?_
    exact refReadPost_no HBAD.out HS.tail

   | true =>
    have hn0 := (evN_yes hrt).1
    rw [hn0]
    clear hn0
    by_cases hes : evS e = s
    ·have HGOOD := Lib.hid (show refReadE s = (e, 0) by rw [HRD.out, hrt, hes]; simp)
     rw [hes]
     have hq : (s.toList == s.toList) = true := beq_self_eq_true _
     have H9 := H8.sel 4 [3, 1]
     obtain ⟨n0, n1, n2, n3, n4, n5⟩ := boxE_cells H8
     obtain ⟨x0, x1, x2, x3, x4, x5⟩ := boxE_cells H9
     obtain ⟨y0, y1, y2, y3, y4, y5⟩ := boxE_froz H9
     have HS := boxE_put (d := e) (u := .slice A e.list.length c) H9
     clear hrt hes H8
     go_wp2
     clear n0 n1 n2 n3 n4 n5 x0 x1 x2 x3 x4 x5 y0 y1 y2 y3 y4 y5 H9
     generalize World.setCell _ _ _ = W9 at *
     obtain ⟨x0, x1, x2, x3, x4, x5⟩ := boxE_cells HS
     refine bodyPost_ret (v := .tuple #[evV e (.slice A e.list.length c), .int .i64 0]) (by simp [results, Tryz.results47, go_sem, x0, x1, x2, x3, x4, x5]; try rfl) rfl ?_
     exact refReadPost_yes HGOOD.out HI.out HS.tail
    ·have HBAD := Lib.hid (show refReadE s = (zE, 90) by rw [HRD.out, hrt]; simp [hes])
     have hq : ((evS e).toList == s.toList) = false := by rw [beq_eq_false_iff_ne]; exact fun h => hes (bytesSame h)
     have H9 := H8.sel 4 [3]
     clear hrt hes
     generalize evS e = st at *
     obtain ⟨x0, x1, x2, x3, x4, x5⟩ := boxE_cells H9
     obtain ⟨y0, y1, y2, y3, y4, y5⟩ := boxE_froz H9
     have HS := boxE_put (d := zE) (u := .slice none 0 0) H9
     simp only [zE] at HS
     go_wp2
     clear x0 x1 x2 x3 x4 x5 y0 y1 y2 y3 y4 y5
     generalize World.setCell _ _ _ = W9 at *
     obtain ⟨x0, x1, x2, x3, x4, x5⟩ := boxE_cells (e := zE) HS
     refine bodyPost_ret (v := .tuple #[evV zE (.slice none 0 0), .int .i64 90]) (by simp [results, Tryz.results47, go_sem, x0, x1, x2, x3, x4, x5]; try rfl) rfl ?_
     exact refReadPost_no HBAD.out HS.tail
end
open Go.RowKit Go.Proofs.HL Go.Proofs.An
section
variable {w0 w : World} {L : List At} {v : Value}
theorem Ref.re_no0 (hD : Doors w0) (H : HL w0 w L) (s : ByteArray) (hs : s.size ≤ 1000000000) {s0 : ByteArray} (hs0 : (wordsC 32 s)[0]? = some s0) (hb : ¬ (s0 = endW ∧ (wordsC 32 s).length = 4)) (hg : s0 ≠ submitB ∧ s0 ≠ startB ∧ s0 ≠ pinB ∧ s0 ≠ passB ∧ s0 ≠ tickB ∧ s0 ≠ decayB) {n : List Int} (hnr : readV ((wordsC 32 s).drop 1) = some n) :
  Calls Tryz.prog 47 #[.string s] w (RefReadPost w0 L s) := by
 have H1 := HL.bzE H
 have hcut := Ref.cut_ok H1 s hs 32
 rw [show ((32 : UInt8).toNat : Int) = 32 from rfl] at hcut
 have hws := wordsC_size 32 s
 have hwl := wordsC_most 32 s
 have hpos := wordsC_len 32 s
 have hhead : (wordsC 32 s).headD ⟨#[]⟩ = s0 := by
  generalize wordsC 32 s = W at *
  cases W with
  | nil => simp at hs0
  | cons x r => simpa using hs0
 have hnE : ¬ isE (wordsC 32 s) := fun h => hb ⟨by rw [← hhead]; exact h.1, h.2⟩
 have hre : refReadE s = match refCand (wordsC 32 s) with | none => (zE, 90) | some e => if right e = true ∧ evS e = s then (e, 0) else (zE, 90) := rfl
 have hcok : ∀ e, refCand (wordsC 32 s) = some e → EvOk e := fun e => refCand_ok hs
 have hcand : refCand (wordsC 32 s) = match readV ((wordsC 32 s).drop 1) with | none => none | some n => refEv s0 n 0 false := by unfold refCand; rw [if_neg hnE, hhead]; rfl
 clear hhead hnE
 generalize wordsC 32 s = W at *
 generalize hb2 : w.heap.size = b2 at *
 have HRE := Lib.hid hre; have HCOK := Lib.hid hcok; have HWS := Lib.hid hws; have HS0 := Lib.hid hs0; have HCAND := Lib.hid hcand; have HNB := Lib.hid hb; have HN := Lib.hid hnr; have HG := Lib.hid hg
 clear hnr hg hre hcok hws hs0 hcand hb H
 go_enter Tryz.func47, Tryz.ntmps47
 go_upto_region 2 with (go_at_call 44; refine hcut.mono ?_; rintro e w2 ⟨v, rfl, H2⟩; clear hcut H1)
 have HB2 := Lib.hid hb2
 clear hb2
 generalize World.alloc w _ = Wx at *
 have H3 := HL.bzE H2
 obtain ⟨b1, o1, c1, rfl, d0⟩ := str_at (entRow _ H3.tail) HS0.out
 rw [Nat.add_zero] at d0
 obtain ⟨A1, c1', hv1, hc1, hc2⟩ := rd_shape (entRow _ H3.tail)
 simp only [Value.slice.injEq] at hv1
 obtain ⟨-, -, rfl⟩ := hv1
 unfold maxLen at hc2
 have h0W : 0 < W.length := by omega
 generalize hb5 : w2.heap.size = b5 at *
 go_upto_region 3 with (fail)
 have HB5 := Lib.hid hb5
 clear hb5 H2
 generalize World.alloc w2 _ = W3 at *
 obtain ⟨l1, hl1⟩ : ∃ l1, W.length = l1 + 1 := ⟨W.length - 1, by omega⟩
 obtain ⟨cc, rfl⟩ : ∃ cc, c1 = cc + 1 := ⟨c1 - 1, by omega⟩
 obtain ⟨A', hA'⟩ : ∃ A', (if cc = 0 then some (⟨b1, o1, none⟩ : Addr) else some ⟨b1, o1 + 1, none⟩) = A' := ⟨_, rfl⟩
 have hle : l1 ≤ cc := by omega
 have hwd : (W.drop 1).length = l1 := by rw [List.length_drop, hl1]; rfl
 have hRs : Strs w0 (boxE b5 zE (.slice none 0 0) :: strs w0.heap.size (.slice (some ⟨b1, o1, none⟩) W.length (cc + 1)) W :: boxE b2 zE (.slice none 0 0) :: L) (.slice A' l1 cc) (W.drop 1) := fun W' HW => by
  have h1 : Rd 1 _ W.length (strC W) W' := entRow _ HW.tail
  rw [hl1] at h1
  rw [hwd, strC, List.map_drop, ← hA']
  by_cases hz : cc = 0
  ·rw [if_pos hz]
   have := rd_suffix h1 1 (by omega) (a' := ⟨b1, o1, none⟩) (.inr (by omega))
   simpa using this
  ·rw [if_neg hz]
   have := rd_suffix h1 1 (by omega) (a' := ⟨b1, o1 + 1, none⟩) (.inl (by rw [add_plain]))
   simpa using this
 have hsz : ∀ x ∈ W.drop 1, x.size ≤ 1000000000 := fun x hx => by
  have := HWS.out x (List.mem_of_mem_drop hx)
  omega
 have hrd := Ref.read_ok H3 hRs hsz (by rw [hwd]; omega)
 clear hsz
 have hmin : min (1 : Int) ((l1 : Int) + 1) = 1 := by omega
 have hl0 : (0 : Int) < (l1 : Int) + 1 := by omega
 have HWD := Lib.hid hwd
 have HLL := Lib.hid (show l1 ≤ 1000000001 by omega)
 have HL1 := Lib.hid hl1
 rw [hl1]
 clear hwd hRs hl1 hwl hpos h0W
 rw [refReadsPost_some_eq HN.out] at hrd
 have hnl := readV_len _ _ HN.out
 rw [HWD.out] at hnl
 have hce : refCand W = refEv s0 n 0 false := by rw [HCAND.out, HN.out]
 have HCE := Lib.hid hce
 clear hce
 have q1 : (s0.toList == [115, 117, 98, 109, 105, 116]) = false := by rw [beq_eq_false_iff_ne]; exact fun e => HG.out.1 (bytesSame (e.trans (by decide +kernel)))
 have q2 : (s0.toList == [115, 116, 97, 114, 116]) = false := by rw [beq_eq_false_iff_ne]; exact fun e => HG.out.2.1 (bytesSame (e.trans (by decide +kernel)))
 have q4 : (s0.toList == [112, 105, 110]) = false := by rw [beq_eq_false_iff_ne]; exact fun e => HG.out.2.2.1 (bytesSame (e.trans (by decide +kernel)))
 have q5 : (s0.toList == [112, 97, 115, 115]) = false := by rw [beq_eq_false_iff_ne]; exact fun e => HG.out.2.2.2.1 (bytesSame (e.trans (by decide +kernel)))
 have q6 : (s0.toList == [116, 105, 99, 107]) = false := by rw [beq_eq_false_iff_ne]; exact fun e => HG.out.2.2.2.2.1 (bytesSame (e.trans (by decide +kernel)))
 have q7 : (s0.toList == [100, 101, 99, 97, 121]) = false := by rw [beq_eq_false_iff_ne]; exact fun e => HG.out.2.2.2.2.2 (bytesSame (e.trans (by decide +kernel)))
 have hev := refEv_no (n := n) (nd := 0) HG.out.1 HG.out.2.1 HG.out.2.2.1 HG.out.2.2.2.1 HG.out.2.2.2.2.1 HG.out.2.2.2.2.2
 have HBAD := Lib.hid (show refReadE s = (zE, 90) by rw [HRE.out, HCE.out, hev])
 clear hev
 by_cases ge : s0 = endW
 ·have q3 : (s0.toList == [101, 110, 100]) = true := by rw [ge]; decide +kernel
  have l4 : ((l1 : Int) + 1 == 4) = false := by rw [beq_eq_false_iff_ne]; have h1 := HNB.out; have h2 := HL1.out; exact fun h => h1 ⟨ge, by omega⟩
  clear ge
  go_upto_region 12 with (go_at_call 46; refine hrd.mono ?_; rintro r w5 ⟨u, rfl, H5⟩; clear hrd H3)
  have H6 := H5.swap
  clear H5 hA'
  obtain ⟨An, cn, rfl, hn1, hn2⟩ := rd_shape (entRow _ H6.tail)
  unfold maxLen at hn2
  have hn := fun W' e' (HW : HL w0 W' (boxE b5 e' (.slice none 0 0) :: intsR w0.heap.size (.slice An n.length cn) n :: strs w0.heap.size (.slice (some ⟨b1, o1, none⟩) W.length (cc + 1)) W :: boxE b2 zE (.slice none 0 0) :: L)) => (entRow _ HW.tail : Rd 1 (.slice An n.length cn) n.length (intC n) W')
  clear d0
  obtain ⟨b', o', c', hv, d0⟩ := str_at (entRow _ H6.tail.tail) HS0.out
  simp only [Value.slice.injEq, Option.some.injEq, Addr.mk.injEq] at hv
  obtain ⟨⟨rfl, rfl, -⟩, -, -⟩ := hv
  rw [Nat.add_zero] at d0
  have HNL := Lib.hid hnl
  clear hnl
  obtain ⟨m0, m1, m2, m3, m4, m5⟩ := boxE_cells H6
  have H8 := H6.sel 4 [3]
  obtain ⟨x0, x1, x2, x3, x4, x5⟩ := boxE_cells H8
  obtain ⟨y0, y1, y2, y3, y4, y5⟩ := boxE_froz H8
  have HS := boxE_put (d := zE) (u := .slice none 0 0) H8
  simp only [zE] at HS
  go_wp2
  clear x0 x1 x2 x3 x4 x5 y0 y1 y2 y3 y4 y5
  generalize World.setCell _ _ _ = W9 at *
  obtain ⟨x0, x1, x2, x3, x4, x5⟩ := boxE_cells (e := zE) HS
  refine bodyPost_ret (v := .tuple #[evV zE (.slice none 0 0), .int .i64 90]) (by simp [results, Tryz.results47, go_sem, x0, x1, x2, x3, x4, x5]; try rfl) rfl ?_
  exact refReadPost_no HBAD.out HS.tail
 ·have q3 : (s0.toList == [101, 110, 100]) = false := by rw [beq_eq_false_iff_ne]; exact fun e => ge (bytesSame (e.trans (by decide +kernel)))
  clear ge
  go_upto_region 12 with (go_at_call 46; refine hrd.mono ?_; rintro r w5 ⟨u, rfl, H5⟩; clear hrd H3)
  have H6 := H5.swap
  clear H5 hA'
  obtain ⟨An, cn, rfl, hn1, hn2⟩ := rd_shape (entRow _ H6.tail)
  unfold maxLen at hn2
  have hn := fun W' e' (HW : HL w0 W' (boxE b5 e' (.slice none 0 0) :: intsR w0.heap.size (.slice An n.length cn) n :: strs w0.heap.size (.slice (some ⟨b1, o1, none⟩) W.length (cc + 1)) W :: boxE b2 zE (.slice none 0 0) :: L)) => (entRow _ HW.tail : Rd 1 (.slice An n.length cn) n.length (intC n) W')
  clear d0
  obtain ⟨b', o', c', hv, d0⟩ := str_at (entRow _ H6.tail.tail) HS0.out
  simp only [Value.slice.injEq, Option.some.injEq, Addr.mk.injEq] at hv
  obtain ⟨⟨rfl, rfl, -⟩, -, -⟩ := hv
  rw [Nat.add_zero] at d0
  have HNL := Lib.hid hnl
  clear hnl
  obtain ⟨m0, m1, m2, m3, m4, m5⟩ := boxE_cells H6
  have H8 := H6.sel 4 [3]
  obtain ⟨x0, x1, x2, x3, x4, x5⟩ := boxE_cells H8
  obtain ⟨y0, y1, y2, y3, y4, y5⟩ := boxE_froz H8
  have HS := boxE_put (d := zE) (u := .slice none 0 0) H8
  simp only [zE] at HS
  go_wp2
  clear x0 x1 x2 x3 x4 x5 y0 y1 y2 y3 y4 y5
  generalize World.setCell _ _ _ = W9 at *
  obtain ⟨x0, x1, x2, x3, x4, x5⟩ := boxE_cells (e := zE) HS
  refine bodyPost_ret (v := .tuple #[evV zE (.slice none 0 0), .int .i64 90]) (by simp [results, Tryz.results47, go_sem, x0, x1, x2, x3, x4, x5]; try rfl) rfl ?_
  exact refReadPost_no HBAD.out HS.tail
theorem Ref.re_no1 (hD : Doors w0) (H : HL w0 w L) (s : ByteArray) (hs : s.size ≤ 1000000000) {s0 : ByteArray} (hs0 : (wordsC 32 s)[0]? = some s0) (hb : ¬ (s0 = endW ∧ (wordsC 32 s).length = 4)) (hg : s0 = submitB) {n : List Int} (hnr : readV ((wordsC 32 s).drop 1) = some n) (hk : ¬ n.length = 4) :
  Calls Tryz.prog 47 #[.string s] w (RefReadPost w0 L s) := by
 have H1 := HL.bzE H
 have hcut := Ref.cut_ok H1 s hs 32
 rw [show ((32 : UInt8).toNat : Int) = 32 from rfl] at hcut
 have hws := wordsC_size 32 s
 have hwl := wordsC_most 32 s
 have hpos := wordsC_len 32 s
 have hhead : (wordsC 32 s).headD ⟨#[]⟩ = s0 := by
  generalize wordsC 32 s = W at *
  cases W with
  | nil => simp at hs0
  | cons x r => simpa using hs0
 have hnE : ¬ isE (wordsC 32 s) := fun h => hb ⟨by rw [← hhead]; exact h.1, h.2⟩
 have hre : refReadE s = match refCand (wordsC 32 s) with | none => (zE, 90) | some e => if right e = true ∧ evS e = s then (e, 0) else (zE, 90) := rfl
 have hcok : ∀ e, refCand (wordsC 32 s) = some e → EvOk e := fun e => refCand_ok hs
 have hcand : refCand (wordsC 32 s) = match readV ((wordsC 32 s).drop 1) with | none => none | some n => refEv s0 n 0 false := by unfold refCand; rw [if_neg hnE, hhead]; rfl
 clear hhead hnE
 generalize wordsC 32 s = W at *
 generalize hb2 : w.heap.size = b2 at *
 have HRE := Lib.hid hre; have HCOK := Lib.hid hcok; have HWS := Lib.hid hws; have HS0 := Lib.hid hs0; have HCAND := Lib.hid hcand; have HNB := Lib.hid hb; have HN := Lib.hid hnr; have HG := Lib.hid hg; have HK := Lib.hid hk
 clear hnr hg hk hre hcok hws hs0 hcand hb H
 go_enter Tryz.func47, Tryz.ntmps47
 go_upto_region 2 with (go_at_call 44; refine hcut.mono ?_; rintro e w2 ⟨v, rfl, H2⟩; clear hcut H1)
 have HB2 := Lib.hid hb2
 clear hb2
 generalize World.alloc w _ = Wx at *
 have H3 := HL.bzE H2
 obtain ⟨b1, o1, c1, rfl, d0⟩ := str_at (entRow _ H3.tail) HS0.out
 rw [Nat.add_zero] at d0
 obtain ⟨A1, c1', hv1, hc1, hc2⟩ := rd_shape (entRow _ H3.tail)
 simp only [Value.slice.injEq] at hv1
 obtain ⟨-, -, rfl⟩ := hv1
 unfold maxLen at hc2
 have h0W : 0 < W.length := by omega
 generalize hb5 : w2.heap.size = b5 at *
 go_upto_region 3 with (fail)
 have HB5 := Lib.hid hb5
 clear hb5 H2
 generalize World.alloc w2 _ = W3 at *
 obtain ⟨l1, hl1⟩ : ∃ l1, W.length = l1 + 1 := ⟨W.length - 1, by omega⟩
 obtain ⟨cc, rfl⟩ : ∃ cc, c1 = cc + 1 := ⟨c1 - 1, by omega⟩
 obtain ⟨A', hA'⟩ : ∃ A', (if cc = 0 then some (⟨b1, o1, none⟩ : Addr) else some ⟨b1, o1 + 1, none⟩) = A' := ⟨_, rfl⟩
 have hle : l1 ≤ cc := by omega
 have hwd : (W.drop 1).length = l1 := by rw [List.length_drop, hl1]; rfl
 have hRs : Strs w0 (boxE b5 zE (.slice none 0 0) :: strs w0.heap.size (.slice (some ⟨b1, o1, none⟩) W.length (cc + 1)) W :: boxE b2 zE (.slice none 0 0) :: L) (.slice A' l1 cc) (W.drop 1) := fun W' HW => by
  have h1 : Rd 1 _ W.length (strC W) W' := entRow _ HW.tail
  rw [hl1] at h1
  rw [hwd, strC, List.map_drop, ← hA']
  by_cases hz : cc = 0
  ·rw [if_pos hz]
   have := rd_suffix h1 1 (by omega) (a' := ⟨b1, o1, none⟩) (.inr (by omega))
   simpa using this
  ·rw [if_neg hz]
   have := rd_suffix h1 1 (by omega) (a' := ⟨b1, o1 + 1, none⟩) (.inl (by rw [add_plain]))
   simpa using this
 have hsz : ∀ x ∈ W.drop 1, x.size ≤ 1000000000 := fun x hx => by
  have := HWS.out x (List.mem_of_mem_drop hx)
  omega
 have hrd := Ref.read_ok H3 hRs hsz (by rw [hwd]; omega)
 clear hsz
 have hmin : min (1 : Int) ((l1 : Int) + 1) = 1 := by omega
 have hl0 : (0 : Int) < (l1 : Int) + 1 := by omega
 have HWD := Lib.hid hwd
 have HLL := Lib.hid (show l1 ≤ 1000000001 by omega)
 have HL1 := Lib.hid hl1
 rw [hl1]
 clear hwd hRs hl1 hwl hpos h0W
 rw [refReadsPost_some_eq HN.out] at hrd
 have hnl := readV_len _ _ HN.out
 rw [HWD.out] at hnl
 have hce : refCand W = refEv s0 n 0 false := by rw [HCAND.out, HN.out]
 have HCE := Lib.hid hce
 clear hce
 have q1 : (s0.toList == [115, 117, 98, 109, 105, 116]) = true := by rw [HG.out]; decide +kernel
 have q2 : (s0.toList == [115, 116, 97, 114, 116]) = false := by rw [HG.out]; decide +kernel
 have q4 : (s0.toList == [112, 105, 110]) = false := by rw [HG.out]; decide +kernel
 have q5 : (s0.toList == [112, 97, 115, 115]) = false := by rw [HG.out]; decide +kernel
 have q6 : (s0.toList == [116, 105, 99, 107]) = false := by rw [HG.out]; decide +kernel
 have q7 : (s0.toList == [100, 101, 99, 97, 121]) = false := by rw [HG.out]; decide +kernel
 have q3 : (s0.toList == [101, 110, 100]) = false := by rw [HG.out]; decide +kernel
 have hk := HK.out
 have lk : ((n.length : Int) == 4) = false := by rw [beq_eq_false_iff_ne]; omega
 have hev := refEv_1 (n := n) (nd := 0)
 rw [← HG.out, if_neg hk] at hev
 have HBAD := Lib.hid (show refReadE s = (zE, 90) by rw [HRE.out, HCE.out, hev])
 clear hev hk
 go_upto_region 12 with (go_at_call 46; refine hrd.mono ?_; rintro r w5 ⟨u, rfl, H5⟩; clear hrd H3)
 have H6 := H5.swap
 clear H5 hA'
 obtain ⟨An, cn, rfl, hn1, hn2⟩ := rd_shape (entRow _ H6.tail)
 unfold maxLen at hn2
 have hn := fun W' e' (HW : HL w0 W' (boxE b5 e' (.slice none 0 0) :: intsR w0.heap.size (.slice An n.length cn) n :: strs w0.heap.size (.slice (some ⟨b1, o1, none⟩) W.length (cc + 1)) W :: boxE b2 zE (.slice none 0 0) :: L)) => (entRow _ HW.tail : Rd 1 (.slice An n.length cn) n.length (intC n) W')
 clear d0
 obtain ⟨b', o', c', hv, d0⟩ := str_at (entRow _ H6.tail.tail) HS0.out
 simp only [Value.slice.injEq, Option.some.injEq, Addr.mk.injEq] at hv
 obtain ⟨⟨rfl, rfl, -⟩, -, -⟩ := hv
 rw [Nat.add_zero] at d0
 have HNL := Lib.hid hnl
 clear hnl
 obtain ⟨m0, m1, m2, m3, m4, m5⟩ := boxE_cells H6
 have H8 := H6.sel 4 [3]
 obtain ⟨x0, x1, x2, x3, x4, x5⟩ := boxE_cells H8
 obtain ⟨y0, y1, y2, y3, y4, y5⟩ := boxE_froz H8
 have HS := boxE_put (d := zE) (u := .slice none 0 0) H8
 simp only [zE] at HS
 go_wp2
 clear x0 x1 x2 x3 x4 x5 y0 y1 y2 y3 y4 y5
 generalize World.setCell _ _ _ = W9 at *
 obtain ⟨x0, x1, x2, x3, x4, x5⟩ := boxE_cells (e := zE) HS
 refine bodyPost_ret (v := .tuple #[evV zE (.slice none 0 0), .int .i64 90]) (by simp [results, Tryz.results47, go_sem, x0, x1, x2, x3, x4, x5]; try rfl) rfl ?_
 exact refReadPost_no HBAD.out HS.tail
theorem Ref.re_no2 (hD : Doors w0) (H : HL w0 w L) (s : ByteArray) (hs : s.size ≤ 1000000000) {s0 : ByteArray} (hs0 : (wordsC 32 s)[0]? = some s0) (hb : ¬ (s0 = endW ∧ (wordsC 32 s).length = 4)) (hg : s0 = startB) {n : List Int} (hnr : readV ((wordsC 32 s).drop 1) = some n) (hk : ¬ 2 ≤ n.length) :
  Calls Tryz.prog 47 #[.string s] w (RefReadPost w0 L s) := by
 have H1 := HL.bzE H
 have hcut := Ref.cut_ok H1 s hs 32
 rw [show ((32 : UInt8).toNat : Int) = 32 from rfl] at hcut
 have hws := wordsC_size 32 s
 have hwl := wordsC_most 32 s
 have hpos := wordsC_len 32 s
 have hhead : (wordsC 32 s).headD ⟨#[]⟩ = s0 := by
  generalize wordsC 32 s = W at *
  cases W with
  | nil => simp at hs0
  | cons x r => simpa using hs0
 have hnE : ¬ isE (wordsC 32 s) := fun h => hb ⟨by rw [← hhead]; exact h.1, h.2⟩
 have hre : refReadE s = match refCand (wordsC 32 s) with | none => (zE, 90) | some e => if right e = true ∧ evS e = s then (e, 0) else (zE, 90) := rfl
 have hcok : ∀ e, refCand (wordsC 32 s) = some e → EvOk e := fun e => refCand_ok hs
 have hcand : refCand (wordsC 32 s) = match readV ((wordsC 32 s).drop 1) with | none => none | some n => refEv s0 n 0 false := by unfold refCand; rw [if_neg hnE, hhead]; rfl
 clear hhead hnE
 generalize wordsC 32 s = W at *
 generalize hb2 : w.heap.size = b2 at *
 have HRE := Lib.hid hre; have HCOK := Lib.hid hcok; have HWS := Lib.hid hws; have HS0 := Lib.hid hs0; have HCAND := Lib.hid hcand; have HNB := Lib.hid hb; have HN := Lib.hid hnr; have HG := Lib.hid hg; have HK := Lib.hid hk
 clear hnr hg hk hre hcok hws hs0 hcand hb H
 go_enter Tryz.func47, Tryz.ntmps47
 go_upto_region 2 with (go_at_call 44; refine hcut.mono ?_; rintro e w2 ⟨v, rfl, H2⟩; clear hcut H1)
 have HB2 := Lib.hid hb2
 clear hb2
 generalize World.alloc w _ = Wx at *
 have H3 := HL.bzE H2
 obtain ⟨b1, o1, c1, rfl, d0⟩ := str_at (entRow _ H3.tail) HS0.out
 rw [Nat.add_zero] at d0
 obtain ⟨A1, c1', hv1, hc1, hc2⟩ := rd_shape (entRow _ H3.tail)
 simp only [Value.slice.injEq] at hv1
 obtain ⟨-, -, rfl⟩ := hv1
 unfold maxLen at hc2
 have h0W : 0 < W.length := by omega
 generalize hb5 : w2.heap.size = b5 at *
 go_upto_region 3 with (fail)
 have HB5 := Lib.hid hb5
 clear hb5 H2
 generalize World.alloc w2 _ = W3 at *
 obtain ⟨l1, hl1⟩ : ∃ l1, W.length = l1 + 1 := ⟨W.length - 1, by omega⟩
 obtain ⟨cc, rfl⟩ : ∃ cc, c1 = cc + 1 := ⟨c1 - 1, by omega⟩
 obtain ⟨A', hA'⟩ : ∃ A', (if cc = 0 then some (⟨b1, o1, none⟩ : Addr) else some ⟨b1, o1 + 1, none⟩) = A' := ⟨_, rfl⟩
 have hle : l1 ≤ cc := by omega
 have hwd : (W.drop 1).length = l1 := by rw [List.length_drop, hl1]; rfl
 have hRs : Strs w0 (boxE b5 zE (.slice none 0 0) :: strs w0.heap.size (.slice (some ⟨b1, o1, none⟩) W.length (cc + 1)) W :: boxE b2 zE (.slice none 0 0) :: L) (.slice A' l1 cc) (W.drop 1) := fun W' HW => by
  have h1 : Rd 1 _ W.length (strC W) W' := entRow _ HW.tail
  rw [hl1] at h1
  rw [hwd, strC, List.map_drop, ← hA']
  by_cases hz : cc = 0
  ·rw [if_pos hz]
   have := rd_suffix h1 1 (by omega) (a' := ⟨b1, o1, none⟩) (.inr (by omega))
   simpa using this
  ·rw [if_neg hz]
   have := rd_suffix h1 1 (by omega) (a' := ⟨b1, o1 + 1, none⟩) (.inl (by rw [add_plain]))
   simpa using this
 have hsz : ∀ x ∈ W.drop 1, x.size ≤ 1000000000 := fun x hx => by
  have := HWS.out x (List.mem_of_mem_drop hx)
  omega
 have hrd := Ref.read_ok H3 hRs hsz (by rw [hwd]; omega)
 clear hsz
 have hmin : min (1 : Int) ((l1 : Int) + 1) = 1 := by omega
 have hl0 : (0 : Int) < (l1 : Int) + 1 := by omega
 have HWD := Lib.hid hwd
 have HLL := Lib.hid (show l1 ≤ 1000000001 by omega)
 have HL1 := Lib.hid hl1
 rw [hl1]
 clear hwd hRs hl1 hwl hpos h0W
 rw [refReadsPost_some_eq HN.out] at hrd
 have hnl := readV_len _ _ HN.out
 rw [HWD.out] at hnl
 have hce : refCand W = refEv s0 n 0 false := by rw [HCAND.out, HN.out]
 have HCE := Lib.hid hce
 clear hce
 have q1 : (s0.toList == [115, 117, 98, 109, 105, 116]) = false := by rw [HG.out]; decide +kernel
 have q2 : (s0.toList == [115, 116, 97, 114, 116]) = true := by rw [HG.out]; decide +kernel
 have q4 : (s0.toList == [112, 105, 110]) = false := by rw [HG.out]; decide +kernel
 have q5 : (s0.toList == [112, 97, 115, 115]) = false := by rw [HG.out]; decide +kernel
 have q6 : (s0.toList == [116, 105, 99, 107]) = false := by rw [HG.out]; decide +kernel
 have q7 : (s0.toList == [100, 101, 99, 97, 121]) = false := by rw [HG.out]; decide +kernel
 have q3 : (s0.toList == [101, 110, 100]) = false := by rw [HG.out]; decide +kernel
 have hk := HK.out
 have lk : decide ((2 : Int) ≤ (n.length : Int)) = false := by exact decide_eq_false (by omega)
 have hev := refEv_2 (n := n) (nd := 0)
 rw [← HG.out, if_neg hk] at hev
 have HBAD := Lib.hid (show refReadE s = (zE, 90) by rw [HRE.out, HCE.out, hev])
 clear hev hk
 go_upto_region 12 with (go_at_call 46; refine hrd.mono ?_; rintro r w5 ⟨u, rfl, H5⟩; clear hrd H3)
 have H6 := H5.swap
 clear H5 hA'
 obtain ⟨An, cn, rfl, hn1, hn2⟩ := rd_shape (entRow _ H6.tail)
 unfold maxLen at hn2
 have hn := fun W' e' (HW : HL w0 W' (boxE b5 e' (.slice none 0 0) :: intsR w0.heap.size (.slice An n.length cn) n :: strs w0.heap.size (.slice (some ⟨b1, o1, none⟩) W.length (cc + 1)) W :: boxE b2 zE (.slice none 0 0) :: L)) => (entRow _ HW.tail : Rd 1 (.slice An n.length cn) n.length (intC n) W')
 clear d0
 obtain ⟨b', o', c', hv, d0⟩ := str_at (entRow _ H6.tail.tail) HS0.out
 simp only [Value.slice.injEq, Option.some.injEq, Addr.mk.injEq] at hv
 obtain ⟨⟨rfl, rfl, -⟩, -, -⟩ := hv
 rw [Nat.add_zero] at d0
 have HNL := Lib.hid hnl
 clear hnl
 obtain ⟨m0, m1, m2, m3, m4, m5⟩ := boxE_cells H6
 have H8 := H6.sel 4 [3]
 obtain ⟨x0, x1, x2, x3, x4, x5⟩ := boxE_cells H8
 obtain ⟨y0, y1, y2, y3, y4, y5⟩ := boxE_froz H8
 have HS := boxE_put (d := zE) (u := .slice none 0 0) H8
 simp only [zE] at HS
 go_wp2
 clear x0 x1 x2 x3 x4 x5 y0 y1 y2 y3 y4 y5
 generalize World.setCell _ _ _ = W9 at *
 obtain ⟨x0, x1, x2, x3, x4, x5⟩ := boxE_cells (e := zE) HS
 refine bodyPost_ret (v := .tuple #[evV zE (.slice none 0 0), .int .i64 90]) (by simp [results, Tryz.results47, go_sem, x0, x1, x2, x3, x4, x5]; try rfl) rfl ?_
 exact refReadPost_no HBAD.out HS.tail
theorem Ref.re_no4 (hD : Doors w0) (H : HL w0 w L) (s : ByteArray) (hs : s.size ≤ 1000000000) {s0 : ByteArray} (hs0 : (wordsC 32 s)[0]? = some s0) (hb : ¬ (s0 = endW ∧ (wordsC 32 s).length = 4)) (hg : s0 = pinB) {n : List Int} (hnr : readV ((wordsC 32 s).drop 1) = some n) (hk : ¬ n.length = 2) :
  Calls Tryz.prog 47 #[.string s] w (RefReadPost w0 L s) := by
 have H1 := HL.bzE H
 have hcut := Ref.cut_ok H1 s hs 32
 rw [show ((32 : UInt8).toNat : Int) = 32 from rfl] at hcut
 have hws := wordsC_size 32 s
 have hwl := wordsC_most 32 s
 have hpos := wordsC_len 32 s
 have hhead : (wordsC 32 s).headD ⟨#[]⟩ = s0 := by
  generalize wordsC 32 s = W at *
  cases W with
  | nil => simp at hs0
  | cons x r => simpa using hs0
 have hnE : ¬ isE (wordsC 32 s) := fun h => hb ⟨by rw [← hhead]; exact h.1, h.2⟩
 have hre : refReadE s = match refCand (wordsC 32 s) with | none => (zE, 90) | some e => if right e = true ∧ evS e = s then (e, 0) else (zE, 90) := rfl
 have hcok : ∀ e, refCand (wordsC 32 s) = some e → EvOk e := fun e => refCand_ok hs
 have hcand : refCand (wordsC 32 s) = match readV ((wordsC 32 s).drop 1) with | none => none | some n => refEv s0 n 0 false := by unfold refCand; rw [if_neg hnE, hhead]; rfl
 clear hhead hnE
 generalize wordsC 32 s = W at *
 generalize hb2 : w.heap.size = b2 at *
 have HRE := Lib.hid hre; have HCOK := Lib.hid hcok; have HWS := Lib.hid hws; have HS0 := Lib.hid hs0; have HCAND := Lib.hid hcand; have HNB := Lib.hid hb; have HN := Lib.hid hnr; have HG := Lib.hid hg; have HK := Lib.hid hk
 clear hnr hg hk hre hcok hws hs0 hcand hb H
 go_enter Tryz.func47, Tryz.ntmps47
 go_upto_region 2 with (go_at_call 44; refine hcut.mono ?_; rintro e w2 ⟨v, rfl, H2⟩; clear hcut H1)
 have HB2 := Lib.hid hb2
 clear hb2
 generalize World.alloc w _ = Wx at *
 have H3 := HL.bzE H2
 obtain ⟨b1, o1, c1, rfl, d0⟩ := str_at (entRow _ H3.tail) HS0.out
 rw [Nat.add_zero] at d0
 obtain ⟨A1, c1', hv1, hc1, hc2⟩ := rd_shape (entRow _ H3.tail)
 simp only [Value.slice.injEq] at hv1
 obtain ⟨-, -, rfl⟩ := hv1
 unfold maxLen at hc2
 have h0W : 0 < W.length := by omega
 generalize hb5 : w2.heap.size = b5 at *
 go_upto_region 3 with (fail)
 have HB5 := Lib.hid hb5
 clear hb5 H2
 generalize World.alloc w2 _ = W3 at *
 obtain ⟨l1, hl1⟩ : ∃ l1, W.length = l1 + 1 := ⟨W.length - 1, by omega⟩
 obtain ⟨cc, rfl⟩ : ∃ cc, c1 = cc + 1 := ⟨c1 - 1, by omega⟩
 obtain ⟨A', hA'⟩ : ∃ A', (if cc = 0 then some (⟨b1, o1, none⟩ : Addr) else some ⟨b1, o1 + 1, none⟩) = A' := ⟨_, rfl⟩
 have hle : l1 ≤ cc := by omega
 have hwd : (W.drop 1).length = l1 := by rw [List.length_drop, hl1]; rfl
 have hRs : Strs w0 (boxE b5 zE (.slice none 0 0) :: strs w0.heap.size (.slice (some ⟨b1, o1, none⟩) W.length (cc + 1)) W :: boxE b2 zE (.slice none 0 0) :: L) (.slice A' l1 cc) (W.drop 1) := fun W' HW => by
  have h1 : Rd 1 _ W.length (strC W) W' := entRow _ HW.tail
  rw [hl1] at h1
  rw [hwd, strC, List.map_drop, ← hA']
  by_cases hz : cc = 0
  ·rw [if_pos hz]
   have := rd_suffix h1 1 (by omega) (a' := ⟨b1, o1, none⟩) (.inr (by omega))
   simpa using this
  ·rw [if_neg hz]
   have := rd_suffix h1 1 (by omega) (a' := ⟨b1, o1 + 1, none⟩) (.inl (by rw [add_plain]))
   simpa using this
 have hsz : ∀ x ∈ W.drop 1, x.size ≤ 1000000000 := fun x hx => by
  have := HWS.out x (List.mem_of_mem_drop hx)
  omega
 have hrd := Ref.read_ok H3 hRs hsz (by rw [hwd]; omega)
 clear hsz
 have hmin : min (1 : Int) ((l1 : Int) + 1) = 1 := by omega
 have hl0 : (0 : Int) < (l1 : Int) + 1 := by omega
 have HWD := Lib.hid hwd
 have HLL := Lib.hid (show l1 ≤ 1000000001 by omega)
 have HL1 := Lib.hid hl1
 rw [hl1]
 clear hwd hRs hl1 hwl hpos h0W
 rw [refReadsPost_some_eq HN.out] at hrd
 have hnl := readV_len _ _ HN.out
 rw [HWD.out] at hnl
 have hce : refCand W = refEv s0 n 0 false := by rw [HCAND.out, HN.out]
 have HCE := Lib.hid hce
 clear hce
 have q1 : (s0.toList == [115, 117, 98, 109, 105, 116]) = false := by rw [HG.out]; decide +kernel
 have q2 : (s0.toList == [115, 116, 97, 114, 116]) = false := by rw [HG.out]; decide +kernel
 have q4 : (s0.toList == [112, 105, 110]) = true := by rw [HG.out]; decide +kernel
 have q5 : (s0.toList == [112, 97, 115, 115]) = false := by rw [HG.out]; decide +kernel
 have q6 : (s0.toList == [116, 105, 99, 107]) = false := by rw [HG.out]; decide +kernel
 have q7 : (s0.toList == [100, 101, 99, 97, 121]) = false := by rw [HG.out]; decide +kernel
 have q3 : (s0.toList == [101, 110, 100]) = false := by rw [HG.out]; decide +kernel
 have hk := HK.out
 have lk : ((n.length : Int) == 2) = false := by rw [beq_eq_false_iff_ne]; omega
 have hev := refEv_4 (n := n) (nd := 0)
 rw [← HG.out, if_neg hk] at hev
 have HBAD := Lib.hid (show refReadE s = (zE, 90) by rw [HRE.out, HCE.out, hev])
 clear hev hk
 go_upto_region 12 with (go_at_call 46; refine hrd.mono ?_; rintro r w5 ⟨u, rfl, H5⟩; clear hrd H3)
 have H6 := H5.swap
 clear H5 hA'
 obtain ⟨An, cn, rfl, hn1, hn2⟩ := rd_shape (entRow _ H6.tail)
 unfold maxLen at hn2
 have hn := fun W' e' (HW : HL w0 W' (boxE b5 e' (.slice none 0 0) :: intsR w0.heap.size (.slice An n.length cn) n :: strs w0.heap.size (.slice (some ⟨b1, o1, none⟩) W.length (cc + 1)) W :: boxE b2 zE (.slice none 0 0) :: L)) => (entRow _ HW.tail : Rd 1 (.slice An n.length cn) n.length (intC n) W')
 clear d0
 obtain ⟨b', o', c', hv, d0⟩ := str_at (entRow _ H6.tail.tail) HS0.out
 simp only [Value.slice.injEq, Option.some.injEq, Addr.mk.injEq] at hv
 obtain ⟨⟨rfl, rfl, -⟩, -, -⟩ := hv
 rw [Nat.add_zero] at d0
 have HNL := Lib.hid hnl
 clear hnl
 obtain ⟨m0, m1, m2, m3, m4, m5⟩ := boxE_cells H6
 have H8 := H6.sel 4 [3]
 obtain ⟨x0, x1, x2, x3, x4, x5⟩ := boxE_cells H8
 obtain ⟨y0, y1, y2, y3, y4, y5⟩ := boxE_froz H8
 have HS := boxE_put (d := zE) (u := .slice none 0 0) H8
 simp only [zE] at HS
 go_wp2
 clear x0 x1 x2 x3 x4 x5 y0 y1 y2 y3 y4 y5
 generalize World.setCell _ _ _ = W9 at *
 obtain ⟨x0, x1, x2, x3, x4, x5⟩ := boxE_cells (e := zE) HS
 refine bodyPost_ret (v := .tuple #[evV zE (.slice none 0 0), .int .i64 90]) (by simp [results, Tryz.results47, go_sem, x0, x1, x2, x3, x4, x5]; try rfl) rfl ?_
 exact refReadPost_no HBAD.out HS.tail
end
open Go.RowKit Go.Proofs.HL Go.Proofs.An
section
variable {w0 w : World} {L : List At} {v : Value}
theorem Ref.re_no5 (hD : Doors w0) (H : HL w0 w L) (s : ByteArray) (hs : s.size ≤ 1000000000) {s0 : ByteArray} (hs0 : (wordsC 32 s)[0]? = some s0) (hb : ¬ (s0 = endW ∧ (wordsC 32 s).length = 4)) (hg : s0 = passB) {n : List Int} (hnr : readV ((wordsC 32 s).drop 1) = some n) (hk : ¬ 1 ≤ n.length) :
  Calls Tryz.prog 47 #[.string s] w (RefReadPost w0 L s) := by
 have H1 := HL.bzE H
 have hcut := Ref.cut_ok H1 s hs 32
 rw [show ((32 : UInt8).toNat : Int) = 32 from rfl] at hcut
 have hws := wordsC_size 32 s
 have hwl := wordsC_most 32 s
 have hpos := wordsC_len 32 s
 have hhead : (wordsC 32 s).headD ⟨#[]⟩ = s0 := by
  generalize wordsC 32 s = W at *
  cases W with
  | nil => simp at hs0
  | cons x r => simpa using hs0
 have hnE : ¬ isE (wordsC 32 s) := fun h => hb ⟨by rw [← hhead]; exact h.1, h.2⟩
 have hre : refReadE s = match refCand (wordsC 32 s) with | none => (zE, 90) | some e => if right e = true ∧ evS e = s then (e, 0) else (zE, 90) := rfl
 have hcok : ∀ e, refCand (wordsC 32 s) = some e → EvOk e := fun e => refCand_ok hs
 have hcand : refCand (wordsC 32 s) = match readV ((wordsC 32 s).drop 1) with | none => none | some n => refEv s0 n 0 false := by unfold refCand; rw [if_neg hnE, hhead]; rfl
 clear hhead hnE
 generalize wordsC 32 s = W at *
 generalize hb2 : w.heap.size = b2 at *
 have HRE := Lib.hid hre; have HCOK := Lib.hid hcok; have HWS := Lib.hid hws; have HS0 := Lib.hid hs0; have HCAND := Lib.hid hcand; have HNB := Lib.hid hb; have HN := Lib.hid hnr; have HG := Lib.hid hg; have HK := Lib.hid hk
 clear hnr hg hk hre hcok hws hs0 hcand hb H
 go_enter Tryz.func47, Tryz.ntmps47
 go_upto_region 2 with (go_at_call 44; refine hcut.mono ?_; rintro e w2 ⟨v, rfl, H2⟩; clear hcut H1)
 have HB2 := Lib.hid hb2
 clear hb2
 generalize World.alloc w _ = Wx at *
 have H3 := HL.bzE H2
 obtain ⟨b1, o1, c1, rfl, d0⟩ := str_at (entRow _ H3.tail) HS0.out
 rw [Nat.add_zero] at d0
 obtain ⟨A1, c1', hv1, hc1, hc2⟩ := rd_shape (entRow _ H3.tail)
 simp only [Value.slice.injEq] at hv1
 obtain ⟨-, -, rfl⟩ := hv1
 unfold maxLen at hc2
 have h0W : 0 < W.length := by omega
 generalize hb5 : w2.heap.size = b5 at *
 go_upto_region 3 with (fail)
 have HB5 := Lib.hid hb5
 clear hb5 H2
 generalize World.alloc w2 _ = W3 at *
 obtain ⟨l1, hl1⟩ : ∃ l1, W.length = l1 + 1 := ⟨W.length - 1, by omega⟩
 obtain ⟨cc, rfl⟩ : ∃ cc, c1 = cc + 1 := ⟨c1 - 1, by omega⟩
 obtain ⟨A', hA'⟩ : ∃ A', (if cc = 0 then some (⟨b1, o1, none⟩ : Addr) else some ⟨b1, o1 + 1, none⟩) = A' := ⟨_, rfl⟩
 have hle : l1 ≤ cc := by omega
 have hwd : (W.drop 1).length = l1 := by rw [List.length_drop, hl1]; rfl
 have hRs : Strs w0 (boxE b5 zE (.slice none 0 0) :: strs w0.heap.size (.slice (some ⟨b1, o1, none⟩) W.length (cc + 1)) W :: boxE b2 zE (.slice none 0 0) :: L) (.slice A' l1 cc) (W.drop 1) := fun W' HW => by
  have h1 : Rd 1 _ W.length (strC W) W' := entRow _ HW.tail
  rw [hl1] at h1
  rw [hwd, strC, List.map_drop, ← hA']
  by_cases hz : cc = 0
  ·rw [if_pos hz]
   have := rd_suffix h1 1 (by omega) (a' := ⟨b1, o1, none⟩) (.inr (by omega))
   simpa using this
  ·rw [if_neg hz]
   have := rd_suffix h1 1 (by omega) (a' := ⟨b1, o1 + 1, none⟩) (.inl (by rw [add_plain]))
   simpa using this
 have hsz : ∀ x ∈ W.drop 1, x.size ≤ 1000000000 := fun x hx => by
  have := HWS.out x (List.mem_of_mem_drop hx)
  omega
 have hrd := Ref.read_ok H3 hRs hsz (by rw [hwd]; omega)
 clear hsz
 have hmin : min (1 : Int) ((l1 : Int) + 1) = 1 := by omega
 have hl0 : (0 : Int) < (l1 : Int) + 1 := by omega
 have HWD := Lib.hid hwd
 have HLL := Lib.hid (show l1 ≤ 1000000001 by omega)
 have HL1 := Lib.hid hl1
 rw [hl1]
 clear hwd hRs hl1 hwl hpos h0W
 rw [refReadsPost_some_eq HN.out] at hrd
 have hnl := readV_len _ _ HN.out
 rw [HWD.out] at hnl
 have hce : refCand W = refEv s0 n 0 false := by rw [HCAND.out, HN.out]
 have HCE := Lib.hid hce
 clear hce
 have q1 : (s0.toList == [115, 117, 98, 109, 105, 116]) = false := by rw [HG.out]; decide +kernel
 have q2 : (s0.toList == [115, 116, 97, 114, 116]) = false := by rw [HG.out]; decide +kernel
 have q4 : (s0.toList == [112, 105, 110]) = false := by rw [HG.out]; decide +kernel
 have q5 : (s0.toList == [112, 97, 115, 115]) = true := by rw [HG.out]; decide +kernel
 have q6 : (s0.toList == [116, 105, 99, 107]) = false := by rw [HG.out]; decide +kernel
 have q7 : (s0.toList == [100, 101, 99, 97, 121]) = false := by rw [HG.out]; decide +kernel
 have q3 : (s0.toList == [101, 110, 100]) = false := by rw [HG.out]; decide +kernel
 have hk := HK.out
 have lk : decide ((1 : Int) ≤ (n.length : Int)) = false := by exact decide_eq_false (by omega)
 have hev := refEv_5 (n := n) (nd := 0)
 rw [← HG.out, if_neg hk] at hev
 have HBAD := Lib.hid (show refReadE s = (zE, 90) by rw [HRE.out, HCE.out, hev])
 clear hev hk
 go_upto_region 12 with (go_at_call 46; refine hrd.mono ?_; rintro r w5 ⟨u, rfl, H5⟩; clear hrd H3)
 have H6 := H5.swap
 clear H5 hA'
 obtain ⟨An, cn, rfl, hn1, hn2⟩ := rd_shape (entRow _ H6.tail)
 unfold maxLen at hn2
 have hn := fun W' e' (HW : HL w0 W' (boxE b5 e' (.slice none 0 0) :: intsR w0.heap.size (.slice An n.length cn) n :: strs w0.heap.size (.slice (some ⟨b1, o1, none⟩) W.length (cc + 1)) W :: boxE b2 zE (.slice none 0 0) :: L)) => (entRow _ HW.tail : Rd 1 (.slice An n.length cn) n.length (intC n) W')
 clear d0
 obtain ⟨b', o', c', hv, d0⟩ := str_at (entRow _ H6.tail.tail) HS0.out
 simp only [Value.slice.injEq, Option.some.injEq, Addr.mk.injEq] at hv
 obtain ⟨⟨rfl, rfl, -⟩, -, -⟩ := hv
 rw [Nat.add_zero] at d0
 have HNL := Lib.hid hnl
 clear hnl
 obtain ⟨m0, m1, m2, m3, m4, m5⟩ := boxE_cells H6
 have H8 := H6.sel 4 [3]
 obtain ⟨x0, x1, x2, x3, x4, x5⟩ := boxE_cells H8
 obtain ⟨y0, y1, y2, y3, y4, y5⟩ := boxE_froz H8
 have HS := boxE_put (d := zE) (u := .slice none 0 0) H8
 simp only [zE] at HS
 go_wp2
 clear x0 x1 x2 x3 x4 x5 y0 y1 y2 y3 y4 y5
 generalize World.setCell _ _ _ = W9 at *
 obtain ⟨x0, x1, x2, x3, x4, x5⟩ := boxE_cells (e := zE) HS
 refine bodyPost_ret (v := .tuple #[evV zE (.slice none 0 0), .int .i64 90]) (by simp [results, Tryz.results47, go_sem, x0, x1, x2, x3, x4, x5]; try rfl) rfl ?_
 exact refReadPost_no HBAD.out HS.tail
theorem Ref.re_no6 (hD : Doors w0) (H : HL w0 w L) (s : ByteArray) (hs : s.size ≤ 1000000000) {s0 : ByteArray} (hs0 : (wordsC 32 s)[0]? = some s0) (hb : ¬ (s0 = endW ∧ (wordsC 32 s).length = 4)) (hg : s0 = tickB) {n : List Int} (hnr : readV ((wordsC 32 s).drop 1) = some n) (hk : ¬ n.length = 1) :
  Calls Tryz.prog 47 #[.string s] w (RefReadPost w0 L s) := by
 have H1 := HL.bzE H
 have hcut := Ref.cut_ok H1 s hs 32
 rw [show ((32 : UInt8).toNat : Int) = 32 from rfl] at hcut
 have hws := wordsC_size 32 s
 have hwl := wordsC_most 32 s
 have hpos := wordsC_len 32 s
 have hhead : (wordsC 32 s).headD ⟨#[]⟩ = s0 := by
  generalize wordsC 32 s = W at *
  cases W with
  | nil => simp at hs0
  | cons x r => simpa using hs0
 have hnE : ¬ isE (wordsC 32 s) := fun h => hb ⟨by rw [← hhead]; exact h.1, h.2⟩
 have hre : refReadE s = match refCand (wordsC 32 s) with | none => (zE, 90) | some e => if right e = true ∧ evS e = s then (e, 0) else (zE, 90) := rfl
 have hcok : ∀ e, refCand (wordsC 32 s) = some e → EvOk e := fun e => refCand_ok hs
 have hcand : refCand (wordsC 32 s) = match readV ((wordsC 32 s).drop 1) with | none => none | some n => refEv s0 n 0 false := by unfold refCand; rw [if_neg hnE, hhead]; rfl
 clear hhead hnE
 generalize wordsC 32 s = W at *
 generalize hb2 : w.heap.size = b2 at *
 have HRE := Lib.hid hre; have HCOK := Lib.hid hcok; have HWS := Lib.hid hws; have HS0 := Lib.hid hs0; have HCAND := Lib.hid hcand; have HNB := Lib.hid hb; have HN := Lib.hid hnr; have HG := Lib.hid hg; have HK := Lib.hid hk
 clear hnr hg hk hre hcok hws hs0 hcand hb H
 go_enter Tryz.func47, Tryz.ntmps47
 go_upto_region 2 with (go_at_call 44; refine hcut.mono ?_; rintro e w2 ⟨v, rfl, H2⟩; clear hcut H1)
 have HB2 := Lib.hid hb2
 clear hb2
 generalize World.alloc w _ = Wx at *
 have H3 := HL.bzE H2
 obtain ⟨b1, o1, c1, rfl, d0⟩ := str_at (entRow _ H3.tail) HS0.out
 rw [Nat.add_zero] at d0
 obtain ⟨A1, c1', hv1, hc1, hc2⟩ := rd_shape (entRow _ H3.tail)
 simp only [Value.slice.injEq] at hv1
 obtain ⟨-, -, rfl⟩ := hv1
 unfold maxLen at hc2
 have h0W : 0 < W.length := by omega
 generalize hb5 : w2.heap.size = b5 at *
 go_upto_region 3 with (fail)
 have HB5 := Lib.hid hb5
 clear hb5 H2
 generalize World.alloc w2 _ = W3 at *
 obtain ⟨l1, hl1⟩ : ∃ l1, W.length = l1 + 1 := ⟨W.length - 1, by omega⟩
 obtain ⟨cc, rfl⟩ : ∃ cc, c1 = cc + 1 := ⟨c1 - 1, by omega⟩
 obtain ⟨A', hA'⟩ : ∃ A', (if cc = 0 then some (⟨b1, o1, none⟩ : Addr) else some ⟨b1, o1 + 1, none⟩) = A' := ⟨_, rfl⟩
 have hle : l1 ≤ cc := by omega
 have hwd : (W.drop 1).length = l1 := by rw [List.length_drop, hl1]; rfl
 have hRs : Strs w0 (boxE b5 zE (.slice none 0 0) :: strs w0.heap.size (.slice (some ⟨b1, o1, none⟩) W.length (cc + 1)) W :: boxE b2 zE (.slice none 0 0) :: L) (.slice A' l1 cc) (W.drop 1) := fun W' HW => by
  have h1 : Rd 1 _ W.length (strC W) W' := entRow _ HW.tail
  rw [hl1] at h1
  rw [hwd, strC, List.map_drop, ← hA']
  by_cases hz : cc = 0
  ·rw [if_pos hz]
   have := rd_suffix h1 1 (by omega) (a' := ⟨b1, o1, none⟩) (.inr (by omega))
   simpa using this
  ·rw [if_neg hz]
   have := rd_suffix h1 1 (by omega) (a' := ⟨b1, o1 + 1, none⟩) (.inl (by rw [add_plain]))
   simpa using this
 have hsz : ∀ x ∈ W.drop 1, x.size ≤ 1000000000 := fun x hx => by
  have := HWS.out x (List.mem_of_mem_drop hx)
  omega
 have hrd := Ref.read_ok H3 hRs hsz (by rw [hwd]; omega)
 clear hsz
 have hmin : min (1 : Int) ((l1 : Int) + 1) = 1 := by omega
 have hl0 : (0 : Int) < (l1 : Int) + 1 := by omega
 have HWD := Lib.hid hwd
 have HLL := Lib.hid (show l1 ≤ 1000000001 by omega)
 have HL1 := Lib.hid hl1
 rw [hl1]
 clear hwd hRs hl1 hwl hpos h0W
 rw [refReadsPost_some_eq HN.out] at hrd
 have hnl := readV_len _ _ HN.out
 rw [HWD.out] at hnl
 have hce : refCand W = refEv s0 n 0 false := by rw [HCAND.out, HN.out]
 have HCE := Lib.hid hce
 clear hce
 have q1 : (s0.toList == [115, 117, 98, 109, 105, 116]) = false := by rw [HG.out]; decide +kernel
 have q2 : (s0.toList == [115, 116, 97, 114, 116]) = false := by rw [HG.out]; decide +kernel
 have q4 : (s0.toList == [112, 105, 110]) = false := by rw [HG.out]; decide +kernel
 have q5 : (s0.toList == [112, 97, 115, 115]) = false := by rw [HG.out]; decide +kernel
 have q6 : (s0.toList == [116, 105, 99, 107]) = true := by rw [HG.out]; decide +kernel
 have q7 : (s0.toList == [100, 101, 99, 97, 121]) = false := by rw [HG.out]; decide +kernel
 have q3 : (s0.toList == [101, 110, 100]) = false := by rw [HG.out]; decide +kernel
 have hk := HK.out
 have lk : ((n.length : Int) == 1) = false := by rw [beq_eq_false_iff_ne]; omega
 have hev := refEv_6 (n := n) (nd := 0)
 rw [← HG.out, if_neg hk] at hev
 have HBAD := Lib.hid (show refReadE s = (zE, 90) by rw [HRE.out, HCE.out, hev])
 clear hev hk
 go_upto_region 12 with (go_at_call 46; refine hrd.mono ?_; rintro r w5 ⟨u, rfl, H5⟩; clear hrd H3)
 have H6 := H5.swap
 clear H5 hA'
 obtain ⟨An, cn, rfl, hn1, hn2⟩ := rd_shape (entRow _ H6.tail)
 unfold maxLen at hn2
 have hn := fun W' e' (HW : HL w0 W' (boxE b5 e' (.slice none 0 0) :: intsR w0.heap.size (.slice An n.length cn) n :: strs w0.heap.size (.slice (some ⟨b1, o1, none⟩) W.length (cc + 1)) W :: boxE b2 zE (.slice none 0 0) :: L)) => (entRow _ HW.tail : Rd 1 (.slice An n.length cn) n.length (intC n) W')
 clear d0
 obtain ⟨b', o', c', hv, d0⟩ := str_at (entRow _ H6.tail.tail) HS0.out
 simp only [Value.slice.injEq, Option.some.injEq, Addr.mk.injEq] at hv
 obtain ⟨⟨rfl, rfl, -⟩, -, -⟩ := hv
 rw [Nat.add_zero] at d0
 have HNL := Lib.hid hnl
 clear hnl
 obtain ⟨m0, m1, m2, m3, m4, m5⟩ := boxE_cells H6
 have H8 := H6.sel 4 [3]
 obtain ⟨x0, x1, x2, x3, x4, x5⟩ := boxE_cells H8
 obtain ⟨y0, y1, y2, y3, y4, y5⟩ := boxE_froz H8
 have HS := boxE_put (d := zE) (u := .slice none 0 0) H8
 simp only [zE] at HS
 go_wp2
 clear x0 x1 x2 x3 x4 x5 y0 y1 y2 y3 y4 y5
 generalize World.setCell _ _ _ = W9 at *
 obtain ⟨x0, x1, x2, x3, x4, x5⟩ := boxE_cells (e := zE) HS
 refine bodyPost_ret (v := .tuple #[evV zE (.slice none 0 0), .int .i64 90]) (by simp [results, Tryz.results47, go_sem, x0, x1, x2, x3, x4, x5]; try rfl) rfl ?_
 exact refReadPost_no HBAD.out HS.tail
theorem Ref.re_no7 (hD : Doors w0) (H : HL w0 w L) (s : ByteArray) (hs : s.size ≤ 1000000000) {s0 : ByteArray} (hs0 : (wordsC 32 s)[0]? = some s0) (hb : ¬ (s0 = endW ∧ (wordsC 32 s).length = 4)) (hg : s0 = decayB) {n : List Int} (hnr : readV ((wordsC 32 s).drop 1) = some n) (hk : ¬ n.length = 1) :
  Calls Tryz.prog 47 #[.string s] w (RefReadPost w0 L s) := by
 have H1 := HL.bzE H
 have hcut := Ref.cut_ok H1 s hs 32
 rw [show ((32 : UInt8).toNat : Int) = 32 from rfl] at hcut
 have hws := wordsC_size 32 s
 have hwl := wordsC_most 32 s
 have hpos := wordsC_len 32 s
 have hhead : (wordsC 32 s).headD ⟨#[]⟩ = s0 := by
  generalize wordsC 32 s = W at *
  cases W with
  | nil => simp at hs0
  | cons x r => simpa using hs0
 have hnE : ¬ isE (wordsC 32 s) := fun h => hb ⟨by rw [← hhead]; exact h.1, h.2⟩
 have hre : refReadE s = match refCand (wordsC 32 s) with | none => (zE, 90) | some e => if right e = true ∧ evS e = s then (e, 0) else (zE, 90) := rfl
 have hcok : ∀ e, refCand (wordsC 32 s) = some e → EvOk e := fun e => refCand_ok hs
 have hcand : refCand (wordsC 32 s) = match readV ((wordsC 32 s).drop 1) with | none => none | some n => refEv s0 n 0 false := by unfold refCand; rw [if_neg hnE, hhead]; rfl
 clear hhead hnE
 generalize wordsC 32 s = W at *
 generalize hb2 : w.heap.size = b2 at *
 have HRE := Lib.hid hre; have HCOK := Lib.hid hcok; have HWS := Lib.hid hws; have HS0 := Lib.hid hs0; have HCAND := Lib.hid hcand; have HNB := Lib.hid hb; have HN := Lib.hid hnr; have HG := Lib.hid hg; have HK := Lib.hid hk
 clear hnr hg hk hre hcok hws hs0 hcand hb H
 go_enter Tryz.func47, Tryz.ntmps47
 go_upto_region 2 with (go_at_call 44; refine hcut.mono ?_; rintro e w2 ⟨v, rfl, H2⟩; clear hcut H1)
 have HB2 := Lib.hid hb2
 clear hb2
 generalize World.alloc w _ = Wx at *
 have H3 := HL.bzE H2
 obtain ⟨b1, o1, c1, rfl, d0⟩ := str_at (entRow _ H3.tail) HS0.out
 rw [Nat.add_zero] at d0
 obtain ⟨A1, c1', hv1, hc1, hc2⟩ := rd_shape (entRow _ H3.tail)
 simp only [Value.slice.injEq] at hv1
 obtain ⟨-, -, rfl⟩ := hv1
 unfold maxLen at hc2
 have h0W : 0 < W.length := by omega
 generalize hb5 : w2.heap.size = b5 at *
 go_upto_region 3 with (fail)
 have HB5 := Lib.hid hb5
 clear hb5 H2
 generalize World.alloc w2 _ = W3 at *
 obtain ⟨l1, hl1⟩ : ∃ l1, W.length = l1 + 1 := ⟨W.length - 1, by omega⟩
 obtain ⟨cc, rfl⟩ : ∃ cc, c1 = cc + 1 := ⟨c1 - 1, by omega⟩
 obtain ⟨A', hA'⟩ : ∃ A', (if cc = 0 then some (⟨b1, o1, none⟩ : Addr) else some ⟨b1, o1 + 1, none⟩) = A' := ⟨_, rfl⟩
 have hle : l1 ≤ cc := by omega
 have hwd : (W.drop 1).length = l1 := by rw [List.length_drop, hl1]; rfl
 have hRs : Strs w0 (boxE b5 zE (.slice none 0 0) :: strs w0.heap.size (.slice (some ⟨b1, o1, none⟩) W.length (cc + 1)) W :: boxE b2 zE (.slice none 0 0) :: L) (.slice A' l1 cc) (W.drop 1) := fun W' HW => by
  have h1 : Rd 1 _ W.length (strC W) W' := entRow _ HW.tail
  rw [hl1] at h1
  rw [hwd, strC, List.map_drop, ← hA']
  by_cases hz : cc = 0
  ·rw [if_pos hz]
   have := rd_suffix h1 1 (by omega) (a' := ⟨b1, o1, none⟩) (.inr (by omega))
   simpa using this
  ·rw [if_neg hz]
   have := rd_suffix h1 1 (by omega) (a' := ⟨b1, o1 + 1, none⟩) (.inl (by rw [add_plain]))
   simpa using this
 have hsz : ∀ x ∈ W.drop 1, x.size ≤ 1000000000 := fun x hx => by
  have := HWS.out x (List.mem_of_mem_drop hx)
  omega
 have hrd := Ref.read_ok H3 hRs hsz (by rw [hwd]; omega)
 clear hsz
 have hmin : min (1 : Int) ((l1 : Int) + 1) = 1 := by omega
 have hl0 : (0 : Int) < (l1 : Int) + 1 := by omega
 have HWD := Lib.hid hwd
 have HLL := Lib.hid (show l1 ≤ 1000000001 by omega)
 have HL1 := Lib.hid hl1
 rw [hl1]
 clear hwd hRs hl1 hwl hpos h0W
 rw [refReadsPost_some_eq HN.out] at hrd
 have hnl := readV_len _ _ HN.out
 rw [HWD.out] at hnl
 have hce : refCand W = refEv s0 n 0 false := by rw [HCAND.out, HN.out]
 have HCE := Lib.hid hce
 clear hce
 have q1 : (s0.toList == [115, 117, 98, 109, 105, 116]) = false := by rw [HG.out]; decide +kernel
 have q2 : (s0.toList == [115, 116, 97, 114, 116]) = false := by rw [HG.out]; decide +kernel
 have q4 : (s0.toList == [112, 105, 110]) = false := by rw [HG.out]; decide +kernel
 have q5 : (s0.toList == [112, 97, 115, 115]) = false := by rw [HG.out]; decide +kernel
 have q6 : (s0.toList == [116, 105, 99, 107]) = false := by rw [HG.out]; decide +kernel
 have q7 : (s0.toList == [100, 101, 99, 97, 121]) = true := by rw [HG.out]; decide +kernel
 have q3 : (s0.toList == [101, 110, 100]) = false := by rw [HG.out]; decide +kernel
 have hk := HK.out
 have lk : ((n.length : Int) == 1) = false := by rw [beq_eq_false_iff_ne]; omega
 have hev := refEv_7 (n := n) (nd := 0)
 rw [← HG.out, if_neg hk] at hev
 have HBAD := Lib.hid (show refReadE s = (zE, 90) by rw [HRE.out, HCE.out, hev])
 clear hev hk
 go_upto_region 12 with (go_at_call 46; refine hrd.mono ?_; rintro r w5 ⟨u, rfl, H5⟩; clear hrd H3)
 have H6 := H5.swap
 clear H5 hA'
 obtain ⟨An, cn, rfl, hn1, hn2⟩ := rd_shape (entRow _ H6.tail)
 unfold maxLen at hn2
 have hn := fun W' e' (HW : HL w0 W' (boxE b5 e' (.slice none 0 0) :: intsR w0.heap.size (.slice An n.length cn) n :: strs w0.heap.size (.slice (some ⟨b1, o1, none⟩) W.length (cc + 1)) W :: boxE b2 zE (.slice none 0 0) :: L)) => (entRow _ HW.tail : Rd 1 (.slice An n.length cn) n.length (intC n) W')
 clear d0
 obtain ⟨b', o', c', hv, d0⟩ := str_at (entRow _ H6.tail.tail) HS0.out
 simp only [Value.slice.injEq, Option.some.injEq, Addr.mk.injEq] at hv
 obtain ⟨⟨rfl, rfl, -⟩, -, -⟩ := hv
 rw [Nat.add_zero] at d0
 have HNL := Lib.hid hnl
 clear hnl
 obtain ⟨m0, m1, m2, m3, m4, m5⟩ := boxE_cells H6
 have H8 := H6.sel 4 [3]
 obtain ⟨x0, x1, x2, x3, x4, x5⟩ := boxE_cells H8
 obtain ⟨y0, y1, y2, y3, y4, y5⟩ := boxE_froz H8
 have HS := boxE_put (d := zE) (u := .slice none 0 0) H8
 simp only [zE] at HS
 go_wp2
 clear x0 x1 x2 x3 x4 x5 y0 y1 y2 y3 y4 y5
 generalize World.setCell _ _ _ = W9 at *
 obtain ⟨x0, x1, x2, x3, x4, x5⟩ := boxE_cells (e := zE) HS
 refine bodyPost_ret (v := .tuple #[evV zE (.slice none 0 0), .int .i64 90]) (by simp [results, Tryz.results47, go_sem, x0, x1, x2, x3, x4, x5]; try rfl) rfl ?_
 exact refReadPost_no HBAD.out HS.tail
end
end Go.Proofs.YtdekbbffoaphhaaGreatDoor
namespace Go.Proofs.An
theorem refReadE_eq {s : ByteArray} (hs : s.size ≤ 1000000000) : refReadE s = readE s := by
 rcases readE_cases s with h | ⟨h1, h2, h3⟩
 ·rw [h]
  unfold refReadE
  cases hc : refCand (wordsC 32 s) with
  | none => rfl
  | some e =>
   simp only
   split
   ·rename_i hh
    have := read_back hh.1 (refCand_ok hs hc)
    rw [hh.2, h] at this
    simp at this
   ·rfl
 ·have hok : EvOk (readE s).1 := readE_ok hs
  obtain ⟨e, he⟩ : ∃ e, readE s = (e, 0) := ⟨(readE s).1, Prod.ext rfl h3⟩
  rw [he] at h1 h2 hok
  simp only at h1 h2 hok
  have hc : refCand (wordsC 32 s) = some e := by rw [← h2, evS_cut h1, refCand_back h1 hok]
  rw [he]
  unfold refReadE
  rw [hc]
  simp only
  rw [if_pos ⟨h1, h2⟩]
end Go.Proofs.An
namespace Go.Proofs.YtdekbbffoaphhaaGreatDoor
open Go.RowKit Go.Proofs.HL Go.Proofs.An
section
variable {w0 w : World} {L : List At}
theorem Ref.readEvent_ok (hD : Doors w0) (H : HL w0 w L) (s : ByteArray) (hs : s.size ≤ 1000000000) :
  Calls Tryz.prog 47 #[.string s] w (ReadPost w0 L s) := by
 have hp : RefReadPost w0 L s = ReadPost w0 L s := by
  funext r w'
  unfold RefReadPost ReadPost
  rw [refReadE_eq hs]
 rw [← hp]
 have hpos := wordsC_len 32 s
 obtain ⟨s0, hs0⟩ : ∃ x, (wordsC 32 s)[0]? = some x := ⟨_, List.getElem?_eq_getElem (by omega)⟩
 by_cases hb : s0 = endW ∧ (wordsC 32 s).length = 4
 ·cases hnr : readV (((wordsC 32 s).take 3).drop 1) with
  | none => exact Ref.re_badE hD H s hs hs0 hb hnr
  | some n => exact Ref.re_3 hD H s hs hs0 hb hnr
 ·cases hnr : readV ((wordsC 32 s).drop 1) with
  | none => exact Ref.re_bad hD H s hs hs0 hb hnr
  | some n =>
   by_cases h1 : s0 = submitB
   ·by_cases hk : n.length = 4
    ·exact Ref.re_1 hD H s hs hs0 hb h1 hnr hk
    ·exact Ref.re_no1 hD H s hs hs0 hb h1 hnr hk
   by_cases h2 : s0 = startB
   ·by_cases hk : 2 ≤ n.length
    ·exact Ref.re_2 hD H s hs hs0 hb h2 hnr hk
    ·exact Ref.re_no2 hD H s hs hs0 hb h2 hnr hk
   by_cases h4 : s0 = pinB
   ·by_cases hk : n.length = 2
    ·exact Ref.re_4 hD H s hs hs0 hb h4 hnr hk
    ·exact Ref.re_no4 hD H s hs hs0 hb h4 hnr hk
   by_cases h5 : s0 = passB
   ·by_cases hk : 1 ≤ n.length
    ·exact Ref.re_5 hD H s hs hs0 hb h5 hnr hk
    ·exact Ref.re_no5 hD H s hs hs0 hb h5 hnr hk
   by_cases h6 : s0 = tickB
   ·by_cases hk : n.length = 1
    ·exact Ref.re_6 hD H s hs hs0 hb h6 hnr hk
    ·exact Ref.re_no6 hD H s hs hs0 hb h6 hnr hk
   by_cases h7 : s0 = decayB
   ·by_cases hk : n.length = 1
    ·exact Ref.re_7 hD H s hs hs0 hb h7 hnr hk
    ·exact Ref.re_no7 hD H s hs hs0 hb h7 hnr hk
   exact Ref.re_no0 hD H s hs hs0 hb ⟨h1, h2, h4, h5, h6, h7⟩ hnr
end
end Go.Proofs.YtdekbbffoaphhaaGreatDoor

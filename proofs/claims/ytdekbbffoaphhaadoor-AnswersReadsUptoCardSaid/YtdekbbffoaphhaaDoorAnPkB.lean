/- The reference reads an event's line. -/
import Derived.Test.YtdekbbffoaphhaaDoorAnPkA
import Derived.Test.YtdekbbffoaphhaaDoorAnRefEv
import Derived.Test.YtdekbbffoaphhaaDoorAnParse
import Derived.OrdersHeld
set_option linter.unusedVariables false
set_option linter.unusedSimpArgs false
namespace Go.Proofs.YtdekbbffoaphhaaDoor
open Go.RowKit Go.Proofs.HL Go.Proofs.An
section
variable {w0 w : World} {L : List At} {v : Value}
def RefReadPost (w0 : World) (L : List At) (s : ByteArray) (r : Ending) (w' : World) : Prop := ∃ u K, r = .returned (.tuple #[evV (refReadE s).1 u, .int .i64 (refReadE s).2]) ∧ Ints w0 K u (refReadE s).1.list ∧ HL w0 w' (K ++ L)
theorem refReadPost_no {s : ByteArray} (h : refReadE s = (zE, 90)) {w' : World} (H : HL w0 w' L) : RefReadPost w0 L s (.returned (.tuple #[evV zE (.slice none 0 0), .int .i64 90])) w' := by
  refine ⟨.slice none 0 0, [], by rw [h], ?_, H⟩
  rw [h]
  exact fun W _ => rd_nil
theorem refReadPost_yes {s : ByteArray} {e : Ev} (h : refReadE s = (e, 0)) {u : Value} {K : List At} (hu : Ints w0 K u e.list) {w' : World} (H : HL w0 w' (K ++ L)) : RefReadPost w0 L s (.returned (.tuple #[evV e u, .int .i64 0])) w' := by
  refine ⟨u, K, by rw [h], ?_, H⟩
  rw [h]
  exact hu
theorem refReadsPost_some_eq {ws : List ByteArray} {l : List Int} (h : readV ws = some l) : RefReadsPost w0 L ws = fun e w' => ∃ u, e = .returned (.tuple #[u, .bool true]) ∧ HL w0 w' (intsR w0.heap.size u l :: L) := by
  funext e w'; unfold RefReadsPost; rw [h]
theorem refReadsPost_none_eq {ws : List ByteArray} (h : readV ws = none) : RefReadsPost w0 L ws = fun e w' => e = .returned (.tuple #[.slice none 0 0, .bool false]) ∧ HL w0 w' L := by
  funext e w'; unfold RefReadsPost; rw [h]
end
end Go.Proofs.YtdekbbffoaphhaaDoor
/- The reference reads an event's line. -/
set_option linter.unusedVariables false
set_option linter.unusedSimpArgs false
namespace Go.Proofs.YtdekbbffoaphhaaDoor
open Go.RowKit Go.Proofs.HL Go.Proofs.An
section
variable {w0 w : World} {L : List At} {v : Value}
set_option maxRecDepth 100000 in
set_option maxHeartbeats 8000000 in
theorem Ref.re_1 (hD : Doors w0) (H : HL w0 w L) (s : ByteArray) (hs : s.size ≤ 1000000000) {s0 : ByteArray} (hs0 : (wordsC 32 s)[0]? = some s0) (hb : ¬ (s0 = endW ∧ (wordsC 32 s).length = 4)) (hg : s0 = submitB) {n : List Int} (hnr : readV ((wordsC 32 s).drop 1) = some n) (hk : n.length = 4) :
    Calls Tryd.prog 24 #[.string s] w (RefReadPost w0 L s) := by
  have H1 : HL w0 (w.alloc (.cells #[.int .i64 0, .int .i64 0, .int .i64 0, .int .i64 0, .int .i64 0, .slice none 0 0] 36)) (boxE w.heap.size zE (.slice none 0 0) :: L) := HL.allocE H zE (.slice none 0 0)
  have hcut := Ref.cut_ok H1 s hs 32
  rw [show ((32 : UInt8).toNat : Int) = 32 from rfl] at hcut
  have hws := wordsC_size 32 s
  have hwl := wordsC_most 32 s
  have hpos := wordsC_len 32 s
  have hhead : (wordsC 32 s).headD ⟨#[]⟩ = s0 := by
    generalize wordsC 32 s = W at *
    cases W with
    | nil => simp at hs0
    | cons x r => simpa using hs0
  have hnE : ¬ isE (wordsC 32 s) := fun h => hb ⟨by rw [← hhead]; exact h.1, h.2⟩
  have hre : refReadE s = match refCand (wordsC 32 s) with | none => (zE, 90) | some e => if right e = true ∧ evS e = s then (e, 0) else (zE, 90) := rfl
  have hcok : ∀ e, refCand (wordsC 32 s) = some e → EvOk e := fun e => refCand_ok hs
  have hcand : refCand (wordsC 32 s) = match readV ((wordsC 32 s).drop 1) with | none => none | some n => refEv s0 n 0 false := by unfold refCand; rw [if_neg hnE, hhead]; rfl
  clear hhead hnE
  generalize wordsC 32 s = W at *
  generalize hb2 : w.heap.size = b2 at *
  have HRE := Lib.hid hre; have HCOK := Lib.hid hcok; have HWS := Lib.hid hws; have HS0 := Lib.hid hs0; have HCAND := Lib.hid hcand; have HNB := Lib.hid hb; have HN := Lib.hid hnr; have HG := Lib.hid hg; have HK := Lib.hid hk
  clear hnr hg hk hre hcok hws hs0 hcand hb H
  go_enter Tryd.func24, Tryd.ntmps24
  go_upto_region 2 with (go_at_call 54; refine hcut.mono ?_; rintro e w2 ⟨v, rfl, H2⟩; clear hcut H1)
  have HB2 := Lib.hid hb2
  clear hb2
  generalize World.alloc w _ = Wx at *
  have H3 : HL w0 (w2.alloc (.cells #[.int .i64 0, .int .i64 0, .int .i64 0, .int .i64 0, .int .i64 0, .slice none 0 0] 36)) (boxE w2.heap.size zE (.slice none 0 0) :: _) := HL.allocE H2 zE (.slice none 0 0)
  obtain ⟨b1, o1, c1, rfl, d0⟩ := str_at (entRow _ H3.tail) HS0.out
  rw [Nat.add_zero] at d0
  obtain ⟨A1, c1', hv1, hc1, hc2⟩ := rd_shape (entRow _ H3.tail)
  simp only [Value.slice.injEq] at hv1
  obtain ⟨-, -, rfl⟩ := hv1
  unfold maxLen at hc2
  have h0W : 0 < W.length := by omega
  generalize hb5 : w2.heap.size = b5 at *
  go_upto_region 3 with (fail)
  have HB5 := Lib.hid hb5
  clear hb5 H2
  generalize World.alloc w2 _ = W3 at *
  obtain ⟨l1, hl1⟩ : ∃ l1, W.length = l1 + 1 := ⟨W.length - 1, by omega⟩
  obtain ⟨cc, rfl⟩ : ∃ cc, c1 = cc + 1 := ⟨c1 - 1, by omega⟩
  obtain ⟨A', hA'⟩ : ∃ A', (if cc = 0 then some (⟨b1, o1, none⟩ : Addr) else some ⟨b1, o1 + 1, none⟩) = A' := ⟨_, rfl⟩
  have hle : l1 ≤ cc := by omega
  have hwd : (W.drop 1).length = l1 := by rw [List.length_drop, hl1]; rfl
  have hRs : Strs w0 (boxE b5 zE (.slice none 0 0) :: strs w0.heap.size (.slice (some ⟨b1, o1, none⟩) W.length (cc + 1)) W :: boxE b2 zE (.slice none 0 0) :: L) (.slice A' l1 cc) (W.drop 1) := fun W' HW => by
    have h1 : Rd 1 _ W.length (strC W) W' := entRow _ HW.tail
    rw [hl1] at h1
    rw [hwd, strC, List.map_drop, ← hA']
    by_cases hz : cc = 0
    · rw [if_pos hz]
      have := rd_suffix h1 1 (by omega) (a' := ⟨b1, o1, none⟩) (.inr (by omega))
      simpa using this
    · rw [if_neg hz]
      have := rd_suffix h1 1 (by omega) (a' := ⟨b1, o1 + 1, none⟩) (.inl (by rw [add_plain]))
      simpa using this
  have hsz : ∀ x ∈ W.drop 1, x.size ≤ 1000000000 := fun x hx => by
    have := HWS.out x (List.mem_of_mem_drop hx)
    omega
  have hrd := Ref.read_ok H3 hRs hsz (by rw [hwd]; omega)
  clear hsz
  have hmin : min (1 : Int) ((l1 : Int) + 1) = 1 := by omega
  have hl0 : (0 : Int) < (l1 : Int) + 1 := by omega
  have HWD := Lib.hid hwd
  have HLL := Lib.hid (show l1 ≤ 1000000001 by omega)
  have HL1 := Lib.hid hl1
  rw [hl1]
  clear hwd hRs hl1 hwl hpos h0W
  rw [refReadsPost_some_eq HN.out] at hrd
  have hnl := readV_len _ _ HN.out
  rw [HWD.out] at hnl
  have hce : refCand W = refEv s0 n 0 false := by rw [HCAND.out, HN.out]
  have HCE := Lib.hid hce
  clear hce
  have q1 : (s0.toList == [115, 117, 98, 109, 105, 116]) = true := by rw [HG.out]; decide +kernel
  have q2 : (s0.toList == [115, 116, 97, 114, 116]) = false := by rw [HG.out]; decide +kernel
  have q4 : (s0.toList == [112, 105, 110]) = false := by rw [HG.out]; decide +kernel
  have q5 : (s0.toList == [112, 97, 115, 115]) = false := by rw [HG.out]; decide +kernel
  have q6 : (s0.toList == [116, 105, 99, 107]) = false := by rw [HG.out]; decide +kernel
  have q7 : (s0.toList == [100, 101, 99, 97, 121]) = false := by rw [HG.out]; decide +kernel
  have q3 : (s0.toList == [101, 110, 100]) = false := by rw [HG.out]; decide +kernel
  go_upto_region 12 with (go_at_call 56; refine hrd.mono ?_; rintro r w5 ⟨u, rfl, H5⟩; clear hrd H3)
  have H6 := H5.swap
  clear H5 hA'
  obtain ⟨An, cn, rfl, hn1, hn2⟩ := rd_shape (entRow _ H6.tail)
  unfold maxLen at hn2
  have hn := fun W' e' (HW : HL w0 W' (boxE b5 e' (.slice none 0 0) :: intsR w0.heap.size (.slice An n.length cn) n :: strs w0.heap.size (.slice (some ⟨b1, o1, none⟩) W.length (cc + 1)) W :: boxE b2 zE (.slice none 0 0) :: L)) => (entRow _ HW.tail : Rd 1 (.slice An n.length cn) n.length (intC n) W')
  clear d0
  obtain ⟨b', o', c', hv, d0⟩ := str_at (entRow _ H6.tail.tail) HS0.out
  simp only [Value.slice.injEq, Option.some.injEq, Addr.mk.injEq] at hv
  obtain ⟨⟨rfl, rfl, -⟩, -, -⟩ := hv
  rw [Nat.add_zero] at d0
  have HNL := Lib.hid hnl
  clear hnl
  obtain ⟨m0, m1, m2, m3, m4, m5⟩ := boxE_cells H6
  have hk := HK.out
  have hev := refEv_1 (n := n) (nd := 0)
  rw [← HG.out] at hev
  have HEVY := Lib.hid (show refEv s0 n 0 false = _ by rw [hev, if_pos hk])
  clear hev
  have hlk := hk
  have lk : ((n.length : Int) == 4) = true := by simp; omega
  obtain ⟨x0, hx0⟩ : ∃ x, n[0]? = some x := ⟨_, List.getElem?_eq_getElem (by omega)⟩
  obtain ⟨x1, hx1⟩ : ∃ x, n[1]? = some x := ⟨_, List.getElem?_eq_getElem (by omega)⟩
  obtain ⟨x2, hx2⟩ : ∃ x, n[2]? = some x := ⟨_, List.getElem?_eq_getElem (by omega)⟩
  obtain ⟨x3, hx3⟩ : ∃ x, n[3]? = some x := ⟨_, List.getElem?_eq_getElem (by omega)⟩
  obtain ⟨bn, on, cn', hv, g0⟩ := int_at (hn _ _ H6) hx0
  simp only [Value.slice.injEq] at hv
  obtain ⟨rfl, -, rfl⟩ := hv
  rw [Nat.add_zero] at g0
  obtain ⟨b', o', c', hv, g1⟩ := int_at (hn _ _ H6) hx1
  simp only [Value.slice.injEq, Option.some.injEq, Addr.mk.injEq] at hv
  obtain ⟨⟨rfl, rfl, -⟩, -, -⟩ := hv
  obtain ⟨b', o', c', hv, g2⟩ := int_at (hn _ _ H6) hx2
  simp only [Value.slice.injEq, Option.some.injEq, Addr.mk.injEq] at hv
  obtain ⟨⟨rfl, rfl, -⟩, -, -⟩ := hv
  obtain ⟨b', o', c', hv, g3⟩ := int_at (hn _ _ H6) hx3
  simp only [Value.slice.injEq, Option.some.injEq, Addr.mk.injEq] at hv
  obtain ⟨⟨rfl, rfl, -⟩, -, -⟩ := hv
  have k0n : (0 : Int) < (n.length : Int) := by omega
  have k1n : (1 : Int) < (n.length : Int) := by omega
  have k2n : (2 : Int) < (n.length : Int) := by omega
  have k3n : (3 : Int) < (n.length : Int) := by omega
  have kn0 : 0 < n.length := by omega
  have hy : refEv s0 n 0 false = some ⟨1, x0, x1, x2, x3, []⟩ := by rw [HEVY.out]; simp [List.getD_eq_getElem?_getD, hx0, hx1, hx2, hx3]
  have HY := Lib.hid hy
  clear hy hx0 hx1 hx2 hx3
  go_upto_region 16 with (fail)
  refine wp_region_cut 13 (by kernel_rfl) (by kernel_rfl) ?_
  simp only [List.take_succ_cons, List.take_zero, List.drop_succ_cons, List.drop_zero]
  repeat (go_big_quiet_step ((fail)))
  refine wpQuiet_nil ?_
  intro nq
  have Hd := H6.drewN nq
  generalize World.drewN _ nq = Wd at *
  obtain ⟨n0, n1, n2, n3, n4, n5⟩ := boxE_cells Hd
  obtain ⟨y0, y1, y2, y3, y4, y5⟩ := boxE_froz Hd
  have HS := boxE_put (d := ⟨1, x0, x1, x2, x3, []⟩) (u := (.slice none 0 0)) Hd
  try dsimp only at HS
  go_upto_region 29 with (fail)
  generalize World.setCell _ _ _ = W7 at *
  have hx : ∃ e A c, refEv s0 n 0 false = some e ∧ Ints w0 [intsR w0.heap.size (.slice (some ⟨bn, on, none⟩) n.length cn) n] (.slice A e.list.length c) e.list ∧ HL w0 W7 (boxE b5 e (.slice A e.list.length c) :: intsR w0.heap.size (.slice (some ⟨bn, on, none⟩) n.length cn) n :: strs w0.heap.size (.slice (some ⟨b1, o1, none⟩) W.length (cc + 1)) W :: boxE b2 zE (.slice none 0 0) :: L) := by
    exact ⟨_, none, 0, HY.out, fun W _ => rd_nil, HS⟩
  obtain ⟨e, A, c, he, hI, H7⟩ := hx
  clear HS n0 n1 n2 n3 n4 n5 y0 y1 y2 y3 y4 y5 H6 hn lk g0 g1 g2 g3 m0 m1 m2 m3 m4 m5 d0 HY HEVY
  have hok : EvOk e := HCOK.out e (by rw [HCE.out]; exact he)
  have hfew : e.list.length ≤ 4294967200 := by
    have h1 := refEv_few he
    have h2 := HNL.out
    have h3 := HLL.out
    omega
  have hread : refReadE s = if right e = true ∧ evS e = s then (e, 0) else (zE, 90) := by rw [HRE.out, HCE.out, he]
  have HRD := Lib.hid hread; have HI := Lib.hid hI
  have hev := Ref.event_ok hD H7 e ((Ent.left hI).cons _) hok hfew
  obtain ⟨n0, n1, n2, n3, n4, n5⟩ := boxE_cells H7
  clear he hread hI hok hfew
  unfold evV at hev
  go_upto_region 30 with (go_at_call 21; refine hev.mono ?_; rintro r w7 ⟨rfl, H8⟩; clear hev H7 n0 n1 n2 n3 n4 n5)
  cases hrt : right e with
  | false =>
    have hn90 := (evN_no hrt).1
    have HBAD := Lib.hid (show refReadE s = (zE, 90) by rw [HRD.out, hrt]; simp)
    rw [hn90]
    have H9 := H8.sel 4 [3]
    clear hrt hn90
    obtain ⟨x0, x1, x2, x3, x4, x5⟩ := boxE_cells H9
    obtain ⟨y0, y1, y2, y3, y4, y5⟩ := boxE_froz H9
    have HS := boxE_put (d := zE) (u := .slice none 0 0) H9
    simp only [zE] at HS
    go_wp2
    clear x0 x1 x2 x3 x4 x5 y0 y1 y2 y3 y4 y5
    generalize World.setCell _ _ _ = W9 at *
    obtain ⟨x0, x1, x2, x3, x4, x5⟩ := boxE_cells (e := zE) HS
    refine bodyPost_ret (v := .tuple #[evV zE (.slice none 0 0), .int .i64 90]) (by simp [results, Tryd.results24, go_sem, x0, x1, x2, x3, x4, x5]; try rfl) rfl ?_
    exact refReadPost_no HBAD.out HS.tail

  | true =>
    have hn0 := (evN_yes hrt).1
    rw [hn0]
    clear hn0
    by_cases hes : evS e = s
    · have HGOOD := Lib.hid (show refReadE s = (e, 0) by rw [HRD.out, hrt, hes]; simp)
      rw [hes]
      have hq : (s.toList == s.toList) = true := beq_self_eq_true _
      have H9 := H8.sel 4 [3, 1]
      obtain ⟨n0, n1, n2, n3, n4, n5⟩ := boxE_cells H8
      obtain ⟨x0, x1, x2, x3, x4, x5⟩ := boxE_cells H9
      obtain ⟨y0, y1, y2, y3, y4, y5⟩ := boxE_froz H9
      have HS := boxE_put (d := e) (u := .slice A e.list.length c) H9
      clear hrt hes H8
      go_wp2
      clear n0 n1 n2 n3 n4 n5 x0 x1 x2 x3 x4 x5 y0 y1 y2 y3 y4 y5 H9
      generalize World.setCell _ _ _ = W9 at *
      obtain ⟨x0, x1, x2, x3, x4, x5⟩ := boxE_cells HS
      refine bodyPost_ret (v := .tuple #[evV e (.slice A e.list.length c), .int .i64 0]) (by simp [results, Tryd.results24, go_sem, x0, x1, x2, x3, x4, x5]; try rfl) rfl ?_
      exact refReadPost_yes HGOOD.out HI.out HS.tail
    · have HBAD := Lib.hid (show refReadE s = (zE, 90) by rw [HRD.out, hrt]; simp [hes])
      have hq : ((evS e).toList == s.toList) = false := by rw [beq_eq_false_iff_ne]; exact fun h => hes (bytesSame h)
      have H9 := H8.sel 4 [3]
      clear hrt hes
      generalize evS e = st at *
      obtain ⟨x0, x1, x2, x3, x4, x5⟩ := boxE_cells H9
      obtain ⟨y0, y1, y2, y3, y4, y5⟩ := boxE_froz H9
      have HS := boxE_put (d := zE) (u := .slice none 0 0) H9
      simp only [zE] at HS
      go_wp2
      clear x0 x1 x2 x3 x4 x5 y0 y1 y2 y3 y4 y5
      generalize World.setCell _ _ _ = W9 at *
      obtain ⟨x0, x1, x2, x3, x4, x5⟩ := boxE_cells (e := zE) HS
      refine bodyPost_ret (v := .tuple #[evV zE (.slice none 0 0), .int .i64 90]) (by simp [results, Tryd.results24, go_sem, x0, x1, x2, x3, x4, x5]; try rfl) rfl ?_
      exact refReadPost_no HBAD.out HS.tail

set_option maxRecDepth 100000 in
set_option maxHeartbeats 8000000 in
theorem Ref.re_2 (hD : Doors w0) (H : HL w0 w L) (s : ByteArray) (hs : s.size ≤ 1000000000) {s0 : ByteArray} (hs0 : (wordsC 32 s)[0]? = some s0) (hb : ¬ (s0 = endW ∧ (wordsC 32 s).length = 4)) (hg : s0 = startB) {n : List Int} (hnr : readV ((wordsC 32 s).drop 1) = some n) (hk : 2 ≤ n.length) :
    Calls Tryd.prog 24 #[.string s] w (RefReadPost w0 L s) := by
  have H1 : HL w0 (w.alloc (.cells #[.int .i64 0, .int .i64 0, .int .i64 0, .int .i64 0, .int .i64 0, .slice none 0 0] 36)) (boxE w.heap.size zE (.slice none 0 0) :: L) := HL.allocE H zE (.slice none 0 0)
  have hcut := Ref.cut_ok H1 s hs 32
  rw [show ((32 : UInt8).toNat : Int) = 32 from rfl] at hcut
  have hws := wordsC_size 32 s
  have hwl := wordsC_most 32 s
  have hpos := wordsC_len 32 s
  have hhead : (wordsC 32 s).headD ⟨#[]⟩ = s0 := by
    generalize wordsC 32 s = W at *
    cases W with
    | nil => simp at hs0
    | cons x r => simpa using hs0
  have hnE : ¬ isE (wordsC 32 s) := fun h => hb ⟨by rw [← hhead]; exact h.1, h.2⟩
  have hre : refReadE s = match refCand (wordsC 32 s) with | none => (zE, 90) | some e => if right e = true ∧ evS e = s then (e, 0) else (zE, 90) := rfl
  have hcok : ∀ e, refCand (wordsC 32 s) = some e → EvOk e := fun e => refCand_ok hs
  have hcand : refCand (wordsC 32 s) = match readV ((wordsC 32 s).drop 1) with | none => none | some n => refEv s0 n 0 false := by unfold refCand; rw [if_neg hnE, hhead]; rfl
  clear hhead hnE
  generalize wordsC 32 s = W at *
  generalize hb2 : w.heap.size = b2 at *
  have HRE := Lib.hid hre; have HCOK := Lib.hid hcok; have HWS := Lib.hid hws; have HS0 := Lib.hid hs0; have HCAND := Lib.hid hcand; have HNB := Lib.hid hb; have HN := Lib.hid hnr; have HG := Lib.hid hg; have HK := Lib.hid hk
  clear hnr hg hk hre hcok hws hs0 hcand hb H
  go_enter Tryd.func24, Tryd.ntmps24
  go_upto_region 2 with (go_at_call 54; refine hcut.mono ?_; rintro e w2 ⟨v, rfl, H2⟩; clear hcut H1)
  have HB2 := Lib.hid hb2
  clear hb2
  generalize World.alloc w _ = Wx at *
  have H3 : HL w0 (w2.alloc (.cells #[.int .i64 0, .int .i64 0, .int .i64 0, .int .i64 0, .int .i64 0, .slice none 0 0] 36)) (boxE w2.heap.size zE (.slice none 0 0) :: _) := HL.allocE H2 zE (.slice none 0 0)
  obtain ⟨b1, o1, c1, rfl, d0⟩ := str_at (entRow _ H3.tail) HS0.out
  rw [Nat.add_zero] at d0
  obtain ⟨A1, c1', hv1, hc1, hc2⟩ := rd_shape (entRow _ H3.tail)
  simp only [Value.slice.injEq] at hv1
  obtain ⟨-, -, rfl⟩ := hv1
  unfold maxLen at hc2
  have h0W : 0 < W.length := by omega
  generalize hb5 : w2.heap.size = b5 at *
  go_upto_region 3 with (fail)
  have HB5 := Lib.hid hb5
  clear hb5 H2
  generalize World.alloc w2 _ = W3 at *
  obtain ⟨l1, hl1⟩ : ∃ l1, W.length = l1 + 1 := ⟨W.length - 1, by omega⟩
  obtain ⟨cc, rfl⟩ : ∃ cc, c1 = cc + 1 := ⟨c1 - 1, by omega⟩
  obtain ⟨A', hA'⟩ : ∃ A', (if cc = 0 then some (⟨b1, o1, none⟩ : Addr) else some ⟨b1, o1 + 1, none⟩) = A' := ⟨_, rfl⟩
  have hle : l1 ≤ cc := by omega
  have hwd : (W.drop 1).length = l1 := by rw [List.length_drop, hl1]; rfl
  have hRs : Strs w0 (boxE b5 zE (.slice none 0 0) :: strs w0.heap.size (.slice (some ⟨b1, o1, none⟩) W.length (cc + 1)) W :: boxE b2 zE (.slice none 0 0) :: L) (.slice A' l1 cc) (W.drop 1) := fun W' HW => by
    have h1 : Rd 1 _ W.length (strC W) W' := entRow _ HW.tail
    rw [hl1] at h1
    rw [hwd, strC, List.map_drop, ← hA']
    by_cases hz : cc = 0
    · rw [if_pos hz]
      have := rd_suffix h1 1 (by omega) (a' := ⟨b1, o1, none⟩) (.inr (by omega))
      simpa using this
    · rw [if_neg hz]
      have := rd_suffix h1 1 (by omega) (a' := ⟨b1, o1 + 1, none⟩) (.inl (by rw [add_plain]))
      simpa using this
  have hsz : ∀ x ∈ W.drop 1, x.size ≤ 1000000000 := fun x hx => by
    have := HWS.out x (List.mem_of_mem_drop hx)
    omega
  have hrd := Ref.read_ok H3 hRs hsz (by rw [hwd]; omega)
  clear hsz
  have hmin : min (1 : Int) ((l1 : Int) + 1) = 1 := by omega
  have hl0 : (0 : Int) < (l1 : Int) + 1 := by omega
  have HWD := Lib.hid hwd
  have HLL := Lib.hid (show l1 ≤ 1000000001 by omega)
  have HL1 := Lib.hid hl1
  rw [hl1]
  clear hwd hRs hl1 hwl hpos h0W
  rw [refReadsPost_some_eq HN.out] at hrd
  have hnl := readV_len _ _ HN.out
  rw [HWD.out] at hnl
  have hce : refCand W = refEv s0 n 0 false := by rw [HCAND.out, HN.out]
  have HCE := Lib.hid hce
  clear hce
  have q1 : (s0.toList == [115, 117, 98, 109, 105, 116]) = false := by rw [HG.out]; decide +kernel
  have q2 : (s0.toList == [115, 116, 97, 114, 116]) = true := by rw [HG.out]; decide +kernel
  have q4 : (s0.toList == [112, 105, 110]) = false := by rw [HG.out]; decide +kernel
  have q5 : (s0.toList == [112, 97, 115, 115]) = false := by rw [HG.out]; decide +kernel
  have q6 : (s0.toList == [116, 105, 99, 107]) = false := by rw [HG.out]; decide +kernel
  have q7 : (s0.toList == [100, 101, 99, 97, 121]) = false := by rw [HG.out]; decide +kernel
  have q3 : (s0.toList == [101, 110, 100]) = false := by rw [HG.out]; decide +kernel
  go_upto_region 12 with (go_at_call 56; refine hrd.mono ?_; rintro r w5 ⟨u, rfl, H5⟩; clear hrd H3)
  have H6 := H5.swap
  clear H5 hA'
  obtain ⟨An, cn, rfl, hn1, hn2⟩ := rd_shape (entRow _ H6.tail)
  unfold maxLen at hn2
  have hn := fun W' e' (HW : HL w0 W' (boxE b5 e' (.slice none 0 0) :: intsR w0.heap.size (.slice An n.length cn) n :: strs w0.heap.size (.slice (some ⟨b1, o1, none⟩) W.length (cc + 1)) W :: boxE b2 zE (.slice none 0 0) :: L)) => (entRow _ HW.tail : Rd 1 (.slice An n.length cn) n.length (intC n) W')
  clear d0
  obtain ⟨b', o', c', hv, d0⟩ := str_at (entRow _ H6.tail.tail) HS0.out
  simp only [Value.slice.injEq, Option.some.injEq, Addr.mk.injEq] at hv
  obtain ⟨⟨rfl, rfl, -⟩, -, -⟩ := hv
  rw [Nat.add_zero] at d0
  have HNL := Lib.hid hnl
  clear hnl
  obtain ⟨m0, m1, m2, m3, m4, m5⟩ := boxE_cells H6
  have hk := HK.out
  have hev := refEv_2 (n := n) (nd := 0)
  rw [← HG.out] at hev
  have HEVY := Lib.hid (show refEv s0 n 0 false = _ by rw [hev, if_pos hk])
  clear hev
  have hlk := hk
  have lk : decide ((2 : Int) ≤ (n.length : Int)) = true := by exact decide_eq_true (by omega)
  obtain ⟨x0, hx0⟩ : ∃ x, n[0]? = some x := ⟨_, List.getElem?_eq_getElem (by omega)⟩
  obtain ⟨x1, hx1⟩ : ∃ x, n[1]? = some x := ⟨_, List.getElem?_eq_getElem (by omega)⟩
  obtain ⟨bn, on, cn', hv, g0⟩ := int_at (hn _ _ H6) hx0
  simp only [Value.slice.injEq] at hv
  obtain ⟨rfl, -, rfl⟩ := hv
  rw [Nat.add_zero] at g0
  obtain ⟨b', o', c', hv, g1⟩ := int_at (hn _ _ H6) hx1
  simp only [Value.slice.injEq, Option.some.injEq, Addr.mk.injEq] at hv
  obtain ⟨⟨rfl, rfl, -⟩, -, -⟩ := hv
  have k0n : (0 : Int) < (n.length : Int) := by omega
  have k1n : (1 : Int) < (n.length : Int) := by omega
  have kn0 : 0 < n.length := by omega
  have hy : refEv s0 n 0 false = some ⟨2, x0, x1, 0, 0, n.drop 2⟩ := by rw [HEVY.out]; simp [List.getD_eq_getElem?_getD, hx0, hx1]
  have HY := Lib.hid hy
  clear hy hx0 hx1
  obtain ⟨A2, hUU⟩ : ∃ A', (if cn = 2 then (some ⟨bn, on, none⟩ : Option Addr) else some ⟨bn, on + 2, none⟩) = A' := ⟨_, rfl⟩
  have hle2 : 2 ≤ n.length := by omega
  have hlc2 : 2 ≤ cn := by omega
  have hmn2 : min (2 : Int) (n.length : Int) = 2 := by omega
  have hU : Ints w0 [intsR w0.heap.size (.slice (some ⟨bn, on, none⟩) n.length cn) n] (.slice A2 (n.length - 2) (cn - 2)) (n.drop 2) := fun W' HW => by
    have hh : Rd 1 (.slice (some ⟨bn, on, none⟩) n.length cn) n.length (intC n) W' := entRow _ HW
    rw [← hUU, List.length_drop, intC, List.map_drop]
    by_cases hcap : cn = 2
    · rw [if_pos hcap]
      have := rd_suffix hh 2 hle2 (a' := ⟨bn, on, none⟩) (.inr (by omega))
      simpa using this
    · rw [if_neg hcap]
      have := rd_suffix hh 2 hle2 (a' := ⟨bn, on + 2, none⟩) (.inl (by rw [Nat.mul_one, add_plain]))
      simpa using this
  have HU := Lib.hid hU
  clear hU
  go_upto_region 18 with (fail)
  refine wp_region_cut 9 (by kernel_rfl) (by kernel_rfl) ?_
  simp only [List.take_succ_cons, List.take_zero, List.drop_succ_cons, List.drop_zero]
  repeat (go_big_quiet_step ((fail)))
  refine wpQuiet_nil ?_
  intro nq
  have Hd := H6.drewN nq
  generalize World.drewN _ nq = Wd at *
  obtain ⟨n0, n1, n2, n3, n4, n5⟩ := boxE_cells Hd
  obtain ⟨y0, y1, y2, y3, y4, y5⟩ := boxE_froz Hd
  have HS := boxE_put (d := ⟨2, x0, x1, 0, 0, n.drop 2⟩) (u := (.slice A2 (n.length - 2) (cn - 2))) Hd
  try dsimp only at HS
  go_upto_region 29 with (fail)
  generalize World.setCell _ _ _ = W7 at *
  have hx : ∃ e A c, refEv s0 n 0 false = some e ∧ Ints w0 [intsR w0.heap.size (.slice (some ⟨bn, on, none⟩) n.length cn) n] (.slice A e.list.length c) e.list ∧ HL w0 W7 (boxE b5 e (.slice A e.list.length c) :: intsR w0.heap.size (.slice (some ⟨bn, on, none⟩) n.length cn) n :: strs w0.heap.size (.slice (some ⟨b1, o1, none⟩) W.length (cc + 1)) W :: boxE b2 zE (.slice none 0 0) :: L) := by
    exact ⟨_, A2, cn - 2, HY.out, by rw [List.length_drop]; exact HU.out, by have h := HS; rw [← List.length_drop (i := 2) (l := n)] at h; exact h⟩
  obtain ⟨e, A, c, he, hI, H7⟩ := hx
  clear HS n0 n1 n2 n3 n4 n5 y0 y1 y2 y3 y4 y5 H6 hn lk g0 g1 m0 m1 m2 m3 m4 m5 d0 HY HEVY
  have hok : EvOk e := HCOK.out e (by rw [HCE.out]; exact he)
  have hfew : e.list.length ≤ 4294967200 := by
    have h1 := refEv_few he
    have h2 := HNL.out
    have h3 := HLL.out
    omega
  have hread : refReadE s = if right e = true ∧ evS e = s then (e, 0) else (zE, 90) := by rw [HRE.out, HCE.out, he]
  have HRD := Lib.hid hread; have HI := Lib.hid hI
  have hev := Ref.event_ok hD H7 e ((Ent.left hI).cons _) hok hfew
  obtain ⟨n0, n1, n2, n3, n4, n5⟩ := boxE_cells H7
  clear he hread hI hok hfew
  unfold evV at hev
  go_upto_region 30 with (go_at_call 21; refine hev.mono ?_; rintro r w7 ⟨rfl, H8⟩; clear hev H7 n0 n1 n2 n3 n4 n5)
  cases hrt : right e with
  | false =>
    have hn90 := (evN_no hrt).1
    have HBAD := Lib.hid (show refReadE s = (zE, 90) by rw [HRD.out, hrt]; simp)
    rw [hn90]
    have H9 := H8.sel 4 [3]
    clear hrt hn90
    obtain ⟨x0, x1, x2, x3, x4, x5⟩ := boxE_cells H9
    obtain ⟨y0, y1, y2, y3, y4, y5⟩ := boxE_froz H9
    have HS := boxE_put (d := zE) (u := .slice none 0 0) H9
    simp only [zE] at HS
    go_wp2
    clear x0 x1 x2 x3 x4 x5 y0 y1 y2 y3 y4 y5
    generalize World.setCell _ _ _ = W9 at *
    obtain ⟨x0, x1, x2, x3, x4, x5⟩ := boxE_cells (e := zE) HS
    refine bodyPost_ret (v := .tuple #[evV zE (.slice none 0 0), .int .i64 90]) (by simp [results, Tryd.results24, go_sem, x0, x1, x2, x3, x4, x5]; try rfl) rfl ?_
    exact refReadPost_no HBAD.out HS.tail

  | true =>
    have hn0 := (evN_yes hrt).1
    rw [hn0]
    clear hn0
    by_cases hes : evS e = s
    · have HGOOD := Lib.hid (show refReadE s = (e, 0) by rw [HRD.out, hrt, hes]; simp)
      rw [hes]
      have hq : (s.toList == s.toList) = true := beq_self_eq_true _
      have H9 := H8.sel 4 [3, 1]
      obtain ⟨n0, n1, n2, n3, n4, n5⟩ := boxE_cells H8
      obtain ⟨x0, x1, x2, x3, x4, x5⟩ := boxE_cells H9
      obtain ⟨y0, y1, y2, y3, y4, y5⟩ := boxE_froz H9
      have HS := boxE_put (d := e) (u := .slice A e.list.length c) H9
      clear hrt hes H8
      go_wp2
      clear n0 n1 n2 n3 n4 n5 x0 x1 x2 x3 x4 x5 y0 y1 y2 y3 y4 y5 H9
      generalize World.setCell _ _ _ = W9 at *
      obtain ⟨x0, x1, x2, x3, x4, x5⟩ := boxE_cells HS
      refine bodyPost_ret (v := .tuple #[evV e (.slice A e.list.length c), .int .i64 0]) (by simp [results, Tryd.results24, go_sem, x0, x1, x2, x3, x4, x5]; try rfl) rfl ?_
      exact refReadPost_yes HGOOD.out HI.out HS.tail
    · have HBAD := Lib.hid (show refReadE s = (zE, 90) by rw [HRD.out, hrt]; simp [hes])
      have hq : ((evS e).toList == s.toList) = false := by rw [beq_eq_false_iff_ne]; exact fun h => hes (bytesSame h)
      have H9 := H8.sel 4 [3]
      clear hrt hes
      generalize evS e = st at *
      obtain ⟨x0, x1, x2, x3, x4, x5⟩ := boxE_cells H9
      obtain ⟨y0, y1, y2, y3, y4, y5⟩ := boxE_froz H9
      have HS := boxE_put (d := zE) (u := .slice none 0 0) H9
      simp only [zE] at HS
      go_wp2
      clear x0 x1 x2 x3 x4 x5 y0 y1 y2 y3 y4 y5
      generalize World.setCell _ _ _ = W9 at *
      obtain ⟨x0, x1, x2, x3, x4, x5⟩ := boxE_cells (e := zE) HS
      refine bodyPost_ret (v := .tuple #[evV zE (.slice none 0 0), .int .i64 90]) (by simp [results, Tryd.results24, go_sem, x0, x1, x2, x3, x4, x5]; try rfl) rfl ?_
      exact refReadPost_no HBAD.out HS.tail

end
end Go.Proofs.YtdekbbffoaphhaaDoor
/- The reference reads an event's line. -/
set_option linter.unusedVariables false
set_option linter.unusedSimpArgs false
namespace Go.Proofs.YtdekbbffoaphhaaDoor
open Go.RowKit Go.Proofs.HL Go.Proofs.An
section
variable {w0 w : World} {L : List At} {v : Value}
set_option maxRecDepth 100000 in
set_option maxHeartbeats 8000000 in
theorem Ref.re_4 (hD : Doors w0) (H : HL w0 w L) (s : ByteArray) (hs : s.size ≤ 1000000000) {s0 : ByteArray} (hs0 : (wordsC 32 s)[0]? = some s0) (hb : ¬ (s0 = endW ∧ (wordsC 32 s).length = 4)) (hg : s0 = pinB) {n : List Int} (hnr : readV ((wordsC 32 s).drop 1) = some n) (hk : n.length = 2) :
    Calls Tryd.prog 24 #[.string s] w (RefReadPost w0 L s) := by
  have H1 : HL w0 (w.alloc (.cells #[.int .i64 0, .int .i64 0, .int .i64 0, .int .i64 0, .int .i64 0, .slice none 0 0] 36)) (boxE w.heap.size zE (.slice none 0 0) :: L) := HL.allocE H zE (.slice none 0 0)
  have hcut := Ref.cut_ok H1 s hs 32
  rw [show ((32 : UInt8).toNat : Int) = 32 from rfl] at hcut
  have hws := wordsC_size 32 s
  have hwl := wordsC_most 32 s
  have hpos := wordsC_len 32 s
  have hhead : (wordsC 32 s).headD ⟨#[]⟩ = s0 := by
    generalize wordsC 32 s = W at *
    cases W with
    | nil => simp at hs0
    | cons x r => simpa using hs0
  have hnE : ¬ isE (wordsC 32 s) := fun h => hb ⟨by rw [← hhead]; exact h.1, h.2⟩
  have hre : refReadE s = match refCand (wordsC 32 s) with | none => (zE, 90) | some e => if right e = true ∧ evS e = s then (e, 0) else (zE, 90) := rfl
  have hcok : ∀ e, refCand (wordsC 32 s) = some e → EvOk e := fun e => refCand_ok hs
  have hcand : refCand (wordsC 32 s) = match readV ((wordsC 32 s).drop 1) with | none => none | some n => refEv s0 n 0 false := by unfold refCand; rw [if_neg hnE, hhead]; rfl
  clear hhead hnE
  generalize wordsC 32 s = W at *
  generalize hb2 : w.heap.size = b2 at *
  have HRE := Lib.hid hre; have HCOK := Lib.hid hcok; have HWS := Lib.hid hws; have HS0 := Lib.hid hs0; have HCAND := Lib.hid hcand; have HNB := Lib.hid hb; have HN := Lib.hid hnr; have HG := Lib.hid hg; have HK := Lib.hid hk
  clear hnr hg hk hre hcok hws hs0 hcand hb H
  go_enter Tryd.func24, Tryd.ntmps24
  go_upto_region 2 with (go_at_call 54; refine hcut.mono ?_; rintro e w2 ⟨v, rfl, H2⟩; clear hcut H1)
  have HB2 := Lib.hid hb2
  clear hb2
  generalize World.alloc w _ = Wx at *
  have H3 : HL w0 (w2.alloc (.cells #[.int .i64 0, .int .i64 0, .int .i64 0, .int .i64 0, .int .i64 0, .slice none 0 0] 36)) (boxE w2.heap.size zE (.slice none 0 0) :: _) := HL.allocE H2 zE (.slice none 0 0)
  obtain ⟨b1, o1, c1, rfl, d0⟩ := str_at (entRow _ H3.tail) HS0.out
  rw [Nat.add_zero] at d0
  obtain ⟨A1, c1', hv1, hc1, hc2⟩ := rd_shape (entRow _ H3.tail)
  simp only [Value.slice.injEq] at hv1
  obtain ⟨-, -, rfl⟩ := hv1
  unfold maxLen at hc2
  have h0W : 0 < W.length := by omega
  generalize hb5 : w2.heap.size = b5 at *
  go_upto_region 3 with (fail)
  have HB5 := Lib.hid hb5
  clear hb5 H2
  generalize World.alloc w2 _ = W3 at *
  obtain ⟨l1, hl1⟩ : ∃ l1, W.length = l1 + 1 := ⟨W.length - 1, by omega⟩
  obtain ⟨cc, rfl⟩ : ∃ cc, c1 = cc + 1 := ⟨c1 - 1, by omega⟩
  obtain ⟨A', hA'⟩ : ∃ A', (if cc = 0 then some (⟨b1, o1, none⟩ : Addr) else some ⟨b1, o1 + 1, none⟩) = A' := ⟨_, rfl⟩
  have hle : l1 ≤ cc := by omega
  have hwd : (W.drop 1).length = l1 := by rw [List.length_drop, hl1]; rfl
  have hRs : Strs w0 (boxE b5 zE (.slice none 0 0) :: strs w0.heap.size (.slice (some ⟨b1, o1, none⟩) W.length (cc + 1)) W :: boxE b2 zE (.slice none 0 0) :: L) (.slice A' l1 cc) (W.drop 1) := fun W' HW => by
    have h1 : Rd 1 _ W.length (strC W) W' := entRow _ HW.tail
    rw [hl1] at h1
    rw [hwd, strC, List.map_drop, ← hA']
    by_cases hz : cc = 0
    · rw [if_pos hz]
      have := rd_suffix h1 1 (by omega) (a' := ⟨b1, o1, none⟩) (.inr (by omega))
      simpa using this
    · rw [if_neg hz]
      have := rd_suffix h1 1 (by omega) (a' := ⟨b1, o1 + 1, none⟩) (.inl (by rw [add_plain]))
      simpa using this
  have hsz : ∀ x ∈ W.drop 1, x.size ≤ 1000000000 := fun x hx => by
    have := HWS.out x (List.mem_of_mem_drop hx)
    omega
  have hrd := Ref.read_ok H3 hRs hsz (by rw [hwd]; omega)
  clear hsz
  have hmin : min (1 : Int) ((l1 : Int) + 1) = 1 := by omega
  have hl0 : (0 : Int) < (l1 : Int) + 1 := by omega
  have HWD := Lib.hid hwd
  have HLL := Lib.hid (show l1 ≤ 1000000001 by omega)
  have HL1 := Lib.hid hl1
  rw [hl1]
  clear hwd hRs hl1 hwl hpos h0W
  rw [refReadsPost_some_eq HN.out] at hrd
  have hnl := readV_len _ _ HN.out
  rw [HWD.out] at hnl
  have hce : refCand W = refEv s0 n 0 false := by rw [HCAND.out, HN.out]
  have HCE := Lib.hid hce
  clear hce
  have q1 : (s0.toList == [115, 117, 98, 109, 105, 116]) = false := by rw [HG.out]; decide +kernel
  have q2 : (s0.toList == [115, 116, 97, 114, 116]) = false := by rw [HG.out]; decide +kernel
  have q4 : (s0.toList == [112, 105, 110]) = true := by rw [HG.out]; decide +kernel
  have q5 : (s0.toList == [112, 97, 115, 115]) = false := by rw [HG.out]; decide +kernel
  have q6 : (s0.toList == [116, 105, 99, 107]) = false := by rw [HG.out]; decide +kernel
  have q7 : (s0.toList == [100, 101, 99, 97, 121]) = false := by rw [HG.out]; decide +kernel
  have q3 : (s0.toList == [101, 110, 100]) = false := by rw [HG.out]; decide +kernel
  go_upto_region 12 with (go_at_call 56; refine hrd.mono ?_; rintro r w5 ⟨u, rfl, H5⟩; clear hrd H3)
  have H6 := H5.swap
  clear H5 hA'
  obtain ⟨An, cn, rfl, hn1, hn2⟩ := rd_shape (entRow _ H6.tail)
  unfold maxLen at hn2
  have hn := fun W' e' (HW : HL w0 W' (boxE b5 e' (.slice none 0 0) :: intsR w0.heap.size (.slice An n.length cn) n :: strs w0.heap.size (.slice (some ⟨b1, o1, none⟩) W.length (cc + 1)) W :: boxE b2 zE (.slice none 0 0) :: L)) => (entRow _ HW.tail : Rd 1 (.slice An n.length cn) n.length (intC n) W')
  clear d0
  obtain ⟨b', o', c', hv, d0⟩ := str_at (entRow _ H6.tail.tail) HS0.out
  simp only [Value.slice.injEq, Option.some.injEq, Addr.mk.injEq] at hv
  obtain ⟨⟨rfl, rfl, -⟩, -, -⟩ := hv
  rw [Nat.add_zero] at d0
  have HNL := Lib.hid hnl
  clear hnl
  obtain ⟨m0, m1, m2, m3, m4, m5⟩ := boxE_cells H6
  have hk := HK.out
  have hev := refEv_4 (n := n) (nd := 0)
  rw [← HG.out] at hev
  have HEVY := Lib.hid (show refEv s0 n 0 false = _ by rw [hev, if_pos hk])
  clear hev
  have hlk := hk
  have lk : ((n.length : Int) == 2) = true := by simp; omega
  obtain ⟨x0, hx0⟩ : ∃ x, n[0]? = some x := ⟨_, List.getElem?_eq_getElem (by omega)⟩
  obtain ⟨x1, hx1⟩ : ∃ x, n[1]? = some x := ⟨_, List.getElem?_eq_getElem (by omega)⟩
  obtain ⟨bn, on, cn', hv, g0⟩ := int_at (hn _ _ H6) hx0
  simp only [Value.slice.injEq] at hv
  obtain ⟨rfl, -, rfl⟩ := hv
  rw [Nat.add_zero] at g0
  obtain ⟨b', o', c', hv, g1⟩ := int_at (hn _ _ H6) hx1
  simp only [Value.slice.injEq, Option.some.injEq, Addr.mk.injEq] at hv
  obtain ⟨⟨rfl, rfl, -⟩, -, -⟩ := hv
  have k0n : (0 : Int) < (n.length : Int) := by omega
  have k1n : (1 : Int) < (n.length : Int) := by omega
  have kn0 : 0 < n.length := by omega
  have hy : refEv s0 n 0 false = some ⟨4, x0, x1, 0, 0, []⟩ := by rw [HEVY.out]; simp [List.getD_eq_getElem?_getD, hx0, hx1]
  have HY := Lib.hid hy
  clear hy hx0 hx1
  go_upto_region 22 with (fail)
  refine wp_region_cut 7 (by kernel_rfl) (by kernel_rfl) ?_
  simp only [List.take_succ_cons, List.take_zero, List.drop_succ_cons, List.drop_zero]
  repeat (go_big_quiet_step ((fail)))
  refine wpQuiet_nil ?_
  intro nq
  have Hd := H6.drewN nq
  generalize World.drewN _ nq = Wd at *
  obtain ⟨n0, n1, n2, n3, n4, n5⟩ := boxE_cells Hd
  obtain ⟨y0, y1, y2, y3, y4, y5⟩ := boxE_froz Hd
  have HS := boxE_put (d := ⟨4, x0, x1, 0, 0, []⟩) (u := (.slice none 0 0)) Hd
  try dsimp only at HS
  go_upto_region 29 with (fail)
  generalize World.setCell _ _ _ = W7 at *
  have hx : ∃ e A c, refEv s0 n 0 false = some e ∧ Ints w0 [intsR w0.heap.size (.slice (some ⟨bn, on, none⟩) n.length cn) n] (.slice A e.list.length c) e.list ∧ HL w0 W7 (boxE b5 e (.slice A e.list.length c) :: intsR w0.heap.size (.slice (some ⟨bn, on, none⟩) n.length cn) n :: strs w0.heap.size (.slice (some ⟨b1, o1, none⟩) W.length (cc + 1)) W :: boxE b2 zE (.slice none 0 0) :: L) := by
    exact ⟨_, none, 0, HY.out, fun W _ => rd_nil, HS⟩
  obtain ⟨e, A, c, he, hI, H7⟩ := hx
  clear HS n0 n1 n2 n3 n4 n5 y0 y1 y2 y3 y4 y5 H6 hn lk g0 g1 m0 m1 m2 m3 m4 m5 d0 HY HEVY
  have hok : EvOk e := HCOK.out e (by rw [HCE.out]; exact he)
  have hfew : e.list.length ≤ 4294967200 := by
    have h1 := refEv_few he
    have h2 := HNL.out
    have h3 := HLL.out
    omega
  have hread : refReadE s = if right e = true ∧ evS e = s then (e, 0) else (zE, 90) := by rw [HRE.out, HCE.out, he]
  have HRD := Lib.hid hread; have HI := Lib.hid hI
  have hev := Ref.event_ok hD H7 e ((Ent.left hI).cons _) hok hfew
  obtain ⟨n0, n1, n2, n3, n4, n5⟩ := boxE_cells H7
  clear he hread hI hok hfew
  unfold evV at hev
  go_upto_region 30 with (go_at_call 21; refine hev.mono ?_; rintro r w7 ⟨rfl, H8⟩; clear hev H7 n0 n1 n2 n3 n4 n5)
  cases hrt : right e with
  | false =>
    have hn90 := (evN_no hrt).1
    have HBAD := Lib.hid (show refReadE s = (zE, 90) by rw [HRD.out, hrt]; simp)
    rw [hn90]
    have H9 := H8.sel 4 [3]
    clear hrt hn90
    obtain ⟨x0, x1, x2, x3, x4, x5⟩ := boxE_cells H9
    obtain ⟨y0, y1, y2, y3, y4, y5⟩ := boxE_froz H9
    have HS := boxE_put (d := zE) (u := .slice none 0 0) H9
    simp only [zE] at HS
    go_wp2
    clear x0 x1 x2 x3 x4 x5 y0 y1 y2 y3 y4 y5
    generalize World.setCell _ _ _ = W9 at *
    obtain ⟨x0, x1, x2, x3, x4, x5⟩ := boxE_cells (e := zE) HS
    refine bodyPost_ret (v := .tuple #[evV zE (.slice none 0 0), .int .i64 90]) (by simp [results, Tryd.results24, go_sem, x0, x1, x2, x3, x4, x5]; try rfl) rfl ?_
    exact refReadPost_no HBAD.out HS.tail

  | true =>
    have hn0 := (evN_yes hrt).1
    rw [hn0]
    clear hn0
    by_cases hes : evS e = s
    · have HGOOD := Lib.hid (show refReadE s = (e, 0) by rw [HRD.out, hrt, hes]; simp)
      rw [hes]
      have hq : (s.toList == s.toList) = true := beq_self_eq_true _
      have H9 := H8.sel 4 [3, 1]
      obtain ⟨n0, n1, n2, n3, n4, n5⟩ := boxE_cells H8
      obtain ⟨x0, x1, x2, x3, x4, x5⟩ := boxE_cells H9
      obtain ⟨y0, y1, y2, y3, y4, y5⟩ := boxE_froz H9
      have HS := boxE_put (d := e) (u := .slice A e.list.length c) H9
      clear hrt hes H8
      go_wp2
      clear n0 n1 n2 n3 n4 n5 x0 x1 x2 x3 x4 x5 y0 y1 y2 y3 y4 y5 H9
      generalize World.setCell _ _ _ = W9 at *
      obtain ⟨x0, x1, x2, x3, x4, x5⟩ := boxE_cells HS
      refine bodyPost_ret (v := .tuple #[evV e (.slice A e.list.length c), .int .i64 0]) (by simp [results, Tryd.results24, go_sem, x0, x1, x2, x3, x4, x5]; try rfl) rfl ?_
      exact refReadPost_yes HGOOD.out HI.out HS.tail
    · have HBAD := Lib.hid (show refReadE s = (zE, 90) by rw [HRD.out, hrt]; simp [hes])
      have hq : ((evS e).toList == s.toList) = false := by rw [beq_eq_false_iff_ne]; exact fun h => hes (bytesSame h)
      have H9 := H8.sel 4 [3]
      clear hrt hes
      generalize evS e = st at *
      obtain ⟨x0, x1, x2, x3, x4, x5⟩ := boxE_cells H9
      obtain ⟨y0, y1, y2, y3, y4, y5⟩ := boxE_froz H9
      have HS := boxE_put (d := zE) (u := .slice none 0 0) H9
      simp only [zE] at HS
      go_wp2
      clear x0 x1 x2 x3 x4 x5 y0 y1 y2 y3 y4 y5
      generalize World.setCell _ _ _ = W9 at *
      obtain ⟨x0, x1, x2, x3, x4, x5⟩ := boxE_cells (e := zE) HS
      refine bodyPost_ret (v := .tuple #[evV zE (.slice none 0 0), .int .i64 90]) (by simp [results, Tryd.results24, go_sem, x0, x1, x2, x3, x4, x5]; try rfl) rfl ?_
      exact refReadPost_no HBAD.out HS.tail

set_option maxRecDepth 100000 in
set_option maxHeartbeats 8000000 in
theorem Ref.re_5 (hD : Doors w0) (H : HL w0 w L) (s : ByteArray) (hs : s.size ≤ 1000000000) {s0 : ByteArray} (hs0 : (wordsC 32 s)[0]? = some s0) (hb : ¬ (s0 = endW ∧ (wordsC 32 s).length = 4)) (hg : s0 = passB) {n : List Int} (hnr : readV ((wordsC 32 s).drop 1) = some n) (hk : 1 ≤ n.length) :
    Calls Tryd.prog 24 #[.string s] w (RefReadPost w0 L s) := by
  have H1 : HL w0 (w.alloc (.cells #[.int .i64 0, .int .i64 0, .int .i64 0, .int .i64 0, .int .i64 0, .slice none 0 0] 36)) (boxE w.heap.size zE (.slice none 0 0) :: L) := HL.allocE H zE (.slice none 0 0)
  have hcut := Ref.cut_ok H1 s hs 32
  rw [show ((32 : UInt8).toNat : Int) = 32 from rfl] at hcut
  have hws := wordsC_size 32 s
  have hwl := wordsC_most 32 s
  have hpos := wordsC_len 32 s
  have hhead : (wordsC 32 s).headD ⟨#[]⟩ = s0 := by
    generalize wordsC 32 s = W at *
    cases W with
    | nil => simp at hs0
    | cons x r => simpa using hs0
  have hnE : ¬ isE (wordsC 32 s) := fun h => hb ⟨by rw [← hhead]; exact h.1, h.2⟩
  have hre : refReadE s = match refCand (wordsC 32 s) with | none => (zE, 90) | some e => if right e = true ∧ evS e = s then (e, 0) else (zE, 90) := rfl
  have hcok : ∀ e, refCand (wordsC 32 s) = some e → EvOk e := fun e => refCand_ok hs
  have hcand : refCand (wordsC 32 s) = match readV ((wordsC 32 s).drop 1) with | none => none | some n => refEv s0 n 0 false := by unfold refCand; rw [if_neg hnE, hhead]; rfl
  clear hhead hnE
  generalize wordsC 32 s = W at *
  generalize hb2 : w.heap.size = b2 at *
  have HRE := Lib.hid hre; have HCOK := Lib.hid hcok; have HWS := Lib.hid hws; have HS0 := Lib.hid hs0; have HCAND := Lib.hid hcand; have HNB := Lib.hid hb; have HN := Lib.hid hnr; have HG := Lib.hid hg; have HK := Lib.hid hk
  clear hnr hg hk hre hcok hws hs0 hcand hb H
  go_enter Tryd.func24, Tryd.ntmps24
  go_upto_region 2 with (go_at_call 54; refine hcut.mono ?_; rintro e w2 ⟨v, rfl, H2⟩; clear hcut H1)
  have HB2 := Lib.hid hb2
  clear hb2
  generalize World.alloc w _ = Wx at *
  have H3 : HL w0 (w2.alloc (.cells #[.int .i64 0, .int .i64 0, .int .i64 0, .int .i64 0, .int .i64 0, .slice none 0 0] 36)) (boxE w2.heap.size zE (.slice none 0 0) :: _) := HL.allocE H2 zE (.slice none 0 0)
  obtain ⟨b1, o1, c1, rfl, d0⟩ := str_at (entRow _ H3.tail) HS0.out
  rw [Nat.add_zero] at d0
  obtain ⟨A1, c1', hv1, hc1, hc2⟩ := rd_shape (entRow _ H3.tail)
  simp only [Value.slice.injEq] at hv1
  obtain ⟨-, -, rfl⟩ := hv1
  unfold maxLen at hc2
  have h0W : 0 < W.length := by omega
  generalize hb5 : w2.heap.size = b5 at *
  go_upto_region 3 with (fail)
  have HB5 := Lib.hid hb5
  clear hb5 H2
  generalize World.alloc w2 _ = W3 at *
  obtain ⟨l1, hl1⟩ : ∃ l1, W.length = l1 + 1 := ⟨W.length - 1, by omega⟩
  obtain ⟨cc, rfl⟩ : ∃ cc, c1 = cc + 1 := ⟨c1 - 1, by omega⟩
  obtain ⟨A', hA'⟩ : ∃ A', (if cc = 0 then some (⟨b1, o1, none⟩ : Addr) else some ⟨b1, o1 + 1, none⟩) = A' := ⟨_, rfl⟩
  have hle : l1 ≤ cc := by omega
  have hwd : (W.drop 1).length = l1 := by rw [List.length_drop, hl1]; rfl
  have hRs : Strs w0 (boxE b5 zE (.slice none 0 0) :: strs w0.heap.size (.slice (some ⟨b1, o1, none⟩) W.length (cc + 1)) W :: boxE b2 zE (.slice none 0 0) :: L) (.slice A' l1 cc) (W.drop 1) := fun W' HW => by
    have h1 : Rd 1 _ W.length (strC W) W' := entRow _ HW.tail
    rw [hl1] at h1
    rw [hwd, strC, List.map_drop, ← hA']
    by_cases hz : cc = 0
    · rw [if_pos hz]
      have := rd_suffix h1 1 (by omega) (a' := ⟨b1, o1, none⟩) (.inr (by omega))
      simpa using this
    · rw [if_neg hz]
      have := rd_suffix h1 1 (by omega) (a' := ⟨b1, o1 + 1, none⟩) (.inl (by rw [add_plain]))
      simpa using this
  have hsz : ∀ x ∈ W.drop 1, x.size ≤ 1000000000 := fun x hx => by
    have := HWS.out x (List.mem_of_mem_drop hx)
    omega
  have hrd := Ref.read_ok H3 hRs hsz (by rw [hwd]; omega)
  clear hsz
  have hmin : min (1 : Int) ((l1 : Int) + 1) = 1 := by omega
  have hl0 : (0 : Int) < (l1 : Int) + 1 := by omega
  have HWD := Lib.hid hwd
  have HLL := Lib.hid (show l1 ≤ 1000000001 by omega)
  have HL1 := Lib.hid hl1
  rw [hl1]
  clear hwd hRs hl1 hwl hpos h0W
  rw [refReadsPost_some_eq HN.out] at hrd
  have hnl := readV_len _ _ HN.out
  rw [HWD.out] at hnl
  have hce : refCand W = refEv s0 n 0 false := by rw [HCAND.out, HN.out]
  have HCE := Lib.hid hce
  clear hce
  have q1 : (s0.toList == [115, 117, 98, 109, 105, 116]) = false := by rw [HG.out]; decide +kernel
  have q2 : (s0.toList == [115, 116, 97, 114, 116]) = false := by rw [HG.out]; decide +kernel
  have q4 : (s0.toList == [112, 105, 110]) = false := by rw [HG.out]; decide +kernel
  have q5 : (s0.toList == [112, 97, 115, 115]) = true := by rw [HG.out]; decide +kernel
  have q6 : (s0.toList == [116, 105, 99, 107]) = false := by rw [HG.out]; decide +kernel
  have q7 : (s0.toList == [100, 101, 99, 97, 121]) = false := by rw [HG.out]; decide +kernel
  have q3 : (s0.toList == [101, 110, 100]) = false := by rw [HG.out]; decide +kernel
  go_upto_region 12 with (go_at_call 56; refine hrd.mono ?_; rintro r w5 ⟨u, rfl, H5⟩; clear hrd H3)
  have H6 := H5.swap
  clear H5 hA'
  obtain ⟨An, cn, rfl, hn1, hn2⟩ := rd_shape (entRow _ H6.tail)
  unfold maxLen at hn2
  have hn := fun W' e' (HW : HL w0 W' (boxE b5 e' (.slice none 0 0) :: intsR w0.heap.size (.slice An n.length cn) n :: strs w0.heap.size (.slice (some ⟨b1, o1, none⟩) W.length (cc + 1)) W :: boxE b2 zE (.slice none 0 0) :: L)) => (entRow _ HW.tail : Rd 1 (.slice An n.length cn) n.length (intC n) W')
  clear d0
  obtain ⟨b', o', c', hv, d0⟩ := str_at (entRow _ H6.tail.tail) HS0.out
  simp only [Value.slice.injEq, Option.some.injEq, Addr.mk.injEq] at hv
  obtain ⟨⟨rfl, rfl, -⟩, -, -⟩ := hv
  rw [Nat.add_zero] at d0
  have HNL := Lib.hid hnl
  clear hnl
  obtain ⟨m0, m1, m2, m3, m4, m5⟩ := boxE_cells H6
  have hk := HK.out
  have hev := refEv_5 (n := n) (nd := 0)
  rw [← HG.out] at hev
  have HEVY := Lib.hid (show refEv s0 n 0 false = _ by rw [hev, if_pos hk])
  clear hev
  have hlk := hk
  have lk : decide ((1 : Int) ≤ (n.length : Int)) = true := by exact decide_eq_true (by omega)
  obtain ⟨x0, hx0⟩ : ∃ x, n[0]? = some x := ⟨_, List.getElem?_eq_getElem (by omega)⟩
  obtain ⟨bn, on, cn', hv, g0⟩ := int_at (hn _ _ H6) hx0
  simp only [Value.slice.injEq] at hv
  obtain ⟨rfl, -, rfl⟩ := hv
  rw [Nat.add_zero] at g0
  have k0n : (0 : Int) < (n.length : Int) := by omega
  have kn0 : 0 < n.length := by omega
  have hy : refEv s0 n 0 false = some ⟨5, 0, x0, 0, 0, n.drop 1⟩ := by rw [HEVY.out]; simp [List.getD_eq_getElem?_getD, hx0]
  have HY := Lib.hid hy
  clear hy hx0
  obtain ⟨A2, hUU⟩ : ∃ A', (if cn = 1 then (some ⟨bn, on, none⟩ : Option Addr) else some ⟨bn, on + 1, none⟩) = A' := ⟨_, rfl⟩
  have hle2 : 1 ≤ n.length := by omega
  have hlc2 : 1 ≤ cn := by omega
  have hmn2 : min (1 : Int) (n.length : Int) = 1 := by omega
  have hU : Ints w0 [intsR w0.heap.size (.slice (some ⟨bn, on, none⟩) n.length cn) n] (.slice A2 (n.length - 1) (cn - 1)) (n.drop 1) := fun W' HW => by
    have hh : Rd 1 (.slice (some ⟨bn, on, none⟩) n.length cn) n.length (intC n) W' := entRow _ HW
    rw [← hUU, List.length_drop, intC, List.map_drop]
    by_cases hcap : cn = 1
    · rw [if_pos hcap]
      have := rd_suffix hh 1 hle2 (a' := ⟨bn, on, none⟩) (.inr (by omega))
      simpa using this
    · rw [if_neg hcap]
      have := rd_suffix hh 1 hle2 (a' := ⟨bn, on + 1, none⟩) (.inl (by rw [Nat.mul_one, add_plain]))
      simpa using this
  have HU := Lib.hid hU
  clear hU
  go_upto_region 24 with (fail)
  refine wp_region_cut 6 (by kernel_rfl) (by kernel_rfl) ?_
  simp only [List.take_succ_cons, List.take_zero, List.drop_succ_cons, List.drop_zero]
  repeat (go_big_quiet_step ((fail)))
  refine wpQuiet_nil ?_
  intro nq
  have Hd := H6.drewN nq
  generalize World.drewN _ nq = Wd at *
  obtain ⟨n0, n1, n2, n3, n4, n5⟩ := boxE_cells Hd
  obtain ⟨y0, y1, y2, y3, y4, y5⟩ := boxE_froz Hd
  have HS := boxE_put (d := ⟨5, 0, x0, 0, 0, n.drop 1⟩) (u := (.slice A2 (n.length - 1) (cn - 1))) Hd
  try dsimp only at HS
  go_upto_region 29 with (fail)
  generalize World.setCell _ _ _ = W7 at *
  have hx : ∃ e A c, refEv s0 n 0 false = some e ∧ Ints w0 [intsR w0.heap.size (.slice (some ⟨bn, on, none⟩) n.length cn) n] (.slice A e.list.length c) e.list ∧ HL w0 W7 (boxE b5 e (.slice A e.list.length c) :: intsR w0.heap.size (.slice (some ⟨bn, on, none⟩) n.length cn) n :: strs w0.heap.size (.slice (some ⟨b1, o1, none⟩) W.length (cc + 1)) W :: boxE b2 zE (.slice none 0 0) :: L) := by
    exact ⟨_, A2, cn - 1, HY.out, by rw [List.length_drop]; exact HU.out, by have h := HS; rw [← List.length_drop (i := 1) (l := n)] at h; exact h⟩
  obtain ⟨e, A, c, he, hI, H7⟩ := hx
  clear HS n0 n1 n2 n3 n4 n5 y0 y1 y2 y3 y4 y5 H6 hn lk g0 m0 m1 m2 m3 m4 m5 d0 HY HEVY
  have hok : EvOk e := HCOK.out e (by rw [HCE.out]; exact he)
  have hfew : e.list.length ≤ 4294967200 := by
    have h1 := refEv_few he
    have h2 := HNL.out
    have h3 := HLL.out
    omega
  have hread : refReadE s = if right e = true ∧ evS e = s then (e, 0) else (zE, 90) := by rw [HRE.out, HCE.out, he]
  have HRD := Lib.hid hread; have HI := Lib.hid hI
  have hev := Ref.event_ok hD H7 e ((Ent.left hI).cons _) hok hfew
  obtain ⟨n0, n1, n2, n3, n4, n5⟩ := boxE_cells H7
  clear he hread hI hok hfew
  unfold evV at hev
  go_upto_region 30 with (go_at_call 21; refine hev.mono ?_; rintro r w7 ⟨rfl, H8⟩; clear hev H7 n0 n1 n2 n3 n4 n5)
  cases hrt : right e with
  | false =>
    have hn90 := (evN_no hrt).1
    have HBAD := Lib.hid (show refReadE s = (zE, 90) by rw [HRD.out, hrt]; simp)
    rw [hn90]
    have H9 := H8.sel 4 [3]
    clear hrt hn90
    obtain ⟨x0, x1, x2, x3, x4, x5⟩ := boxE_cells H9
    obtain ⟨y0, y1, y2, y3, y4, y5⟩ := boxE_froz H9
    have HS := boxE_put (d := zE) (u := .slice none 0 0) H9
    simp only [zE] at HS
    go_wp2
    clear x0 x1 x2 x3 x4 x5 y0 y1 y2 y3 y4 y5
    generalize World.setCell _ _ _ = W9 at *
    obtain ⟨x0, x1, x2, x3, x4, x5⟩ := boxE_cells (e := zE) HS
    refine bodyPost_ret (v := .tuple #[evV zE (.slice none 0 0), .int .i64 90]) (by simp [results, Tryd.results24, go_sem, x0, x1, x2, x3, x4, x5]; try rfl) rfl ?_
    exact refReadPost_no HBAD.out HS.tail

  | true =>
    have hn0 := (evN_yes hrt).1
    rw [hn0]
    clear hn0
    by_cases hes : evS e = s
    · have HGOOD := Lib.hid (show refReadE s = (e, 0) by rw [HRD.out, hrt, hes]; simp)
      rw [hes]
      have hq : (s.toList == s.toList) = true := beq_self_eq_true _
      have H9 := H8.sel 4 [3, 1]
      obtain ⟨n0, n1, n2, n3, n4, n5⟩ := boxE_cells H8
      obtain ⟨x0, x1, x2, x3, x4, x5⟩ := boxE_cells H9
      obtain ⟨y0, y1, y2, y3, y4, y5⟩ := boxE_froz H9
      have HS := boxE_put (d := e) (u := .slice A e.list.length c) H9
      clear hrt hes H8
      go_wp2
      clear n0 n1 n2 n3 n4 n5 x0 x1 x2 x3 x4 x5 y0 y1 y2 y3 y4 y5 H9
      generalize World.setCell _ _ _ = W9 at *
      obtain ⟨x0, x1, x2, x3, x4, x5⟩ := boxE_cells HS
      refine bodyPost_ret (v := .tuple #[evV e (.slice A e.list.length c), .int .i64 0]) (by simp [results, Tryd.results24, go_sem, x0, x1, x2, x3, x4, x5]; try rfl) rfl ?_
      exact refReadPost_yes HGOOD.out HI.out HS.tail
    · have HBAD := Lib.hid (show refReadE s = (zE, 90) by rw [HRD.out, hrt]; simp [hes])
      have hq : ((evS e).toList == s.toList) = false := by rw [beq_eq_false_iff_ne]; exact fun h => hes (bytesSame h)
      have H9 := H8.sel 4 [3]
      clear hrt hes
      generalize evS e = st at *
      obtain ⟨x0, x1, x2, x3, x4, x5⟩ := boxE_cells H9
      obtain ⟨y0, y1, y2, y3, y4, y5⟩ := boxE_froz H9
      have HS := boxE_put (d := zE) (u := .slice none 0 0) H9
      simp only [zE] at HS
      go_wp2
      clear x0 x1 x2 x3 x4 x5 y0 y1 y2 y3 y4 y5
      generalize World.setCell _ _ _ = W9 at *
      obtain ⟨x0, x1, x2, x3, x4, x5⟩ := boxE_cells (e := zE) HS
      refine bodyPost_ret (v := .tuple #[evV zE (.slice none 0 0), .int .i64 90]) (by simp [results, Tryd.results24, go_sem, x0, x1, x2, x3, x4, x5]; try rfl) rfl ?_
      exact refReadPost_no HBAD.out HS.tail

end
end Go.Proofs.YtdekbbffoaphhaaDoor
/- The reference reads an event's line. -/
set_option linter.unusedVariables false
set_option linter.unusedSimpArgs false
namespace Go.Proofs.YtdekbbffoaphhaaDoor
open Go.RowKit Go.Proofs.HL Go.Proofs.An
section
variable {w0 w : World} {L : List At} {v : Value}
set_option maxRecDepth 100000 in
set_option maxHeartbeats 8000000 in
theorem Ref.re_6 (hD : Doors w0) (H : HL w0 w L) (s : ByteArray) (hs : s.size ≤ 1000000000) {s0 : ByteArray} (hs0 : (wordsC 32 s)[0]? = some s0) (hb : ¬ (s0 = endW ∧ (wordsC 32 s).length = 4)) (hg : s0 = tickB) {n : List Int} (hnr : readV ((wordsC 32 s).drop 1) = some n) (hk : n.length = 1) :
    Calls Tryd.prog 24 #[.string s] w (RefReadPost w0 L s) := by
  have H1 : HL w0 (w.alloc (.cells #[.int .i64 0, .int .i64 0, .int .i64 0, .int .i64 0, .int .i64 0, .slice none 0 0] 36)) (boxE w.heap.size zE (.slice none 0 0) :: L) := HL.allocE H zE (.slice none 0 0)
  have hcut := Ref.cut_ok H1 s hs 32
  rw [show ((32 : UInt8).toNat : Int) = 32 from rfl] at hcut
  have hws := wordsC_size 32 s
  have hwl := wordsC_most 32 s
  have hpos := wordsC_len 32 s
  have hhead : (wordsC 32 s).headD ⟨#[]⟩ = s0 := by
    generalize wordsC 32 s = W at *
    cases W with
    | nil => simp at hs0
    | cons x r => simpa using hs0
  have hnE : ¬ isE (wordsC 32 s) := fun h => hb ⟨by rw [← hhead]; exact h.1, h.2⟩
  have hre : refReadE s = match refCand (wordsC 32 s) with | none => (zE, 90) | some e => if right e = true ∧ evS e = s then (e, 0) else (zE, 90) := rfl
  have hcok : ∀ e, refCand (wordsC 32 s) = some e → EvOk e := fun e => refCand_ok hs
  have hcand : refCand (wordsC 32 s) = match readV ((wordsC 32 s).drop 1) with | none => none | some n => refEv s0 n 0 false := by unfold refCand; rw [if_neg hnE, hhead]; rfl
  clear hhead hnE
  generalize wordsC 32 s = W at *
  generalize hb2 : w.heap.size = b2 at *
  have HRE := Lib.hid hre; have HCOK := Lib.hid hcok; have HWS := Lib.hid hws; have HS0 := Lib.hid hs0; have HCAND := Lib.hid hcand; have HNB := Lib.hid hb; have HN := Lib.hid hnr; have HG := Lib.hid hg; have HK := Lib.hid hk
  clear hnr hg hk hre hcok hws hs0 hcand hb H
  go_enter Tryd.func24, Tryd.ntmps24
  go_upto_region 2 with (go_at_call 54; refine hcut.mono ?_; rintro e w2 ⟨v, rfl, H2⟩; clear hcut H1)
  have HB2 := Lib.hid hb2
  clear hb2
  generalize World.alloc w _ = Wx at *
  have H3 : HL w0 (w2.alloc (.cells #[.int .i64 0, .int .i64 0, .int .i64 0, .int .i64 0, .int .i64 0, .slice none 0 0] 36)) (boxE w2.heap.size zE (.slice none 0 0) :: _) := HL.allocE H2 zE (.slice none 0 0)
  obtain ⟨b1, o1, c1, rfl, d0⟩ := str_at (entRow _ H3.tail) HS0.out
  rw [Nat.add_zero] at d0
  obtain ⟨A1, c1', hv1, hc1, hc2⟩ := rd_shape (entRow _ H3.tail)
  simp only [Value.slice.injEq] at hv1
  obtain ⟨-, -, rfl⟩ := hv1
  unfold maxLen at hc2
  have h0W : 0 < W.length := by omega
  generalize hb5 : w2.heap.size = b5 at *
  go_upto_region 3 with (fail)
  have HB5 := Lib.hid hb5
  clear hb5 H2
  generalize World.alloc w2 _ = W3 at *
  obtain ⟨l1, hl1⟩ : ∃ l1, W.length = l1 + 1 := ⟨W.length - 1, by omega⟩
  obtain ⟨cc, rfl⟩ : ∃ cc, c1 = cc + 1 := ⟨c1 - 1, by omega⟩
  obtain ⟨A', hA'⟩ : ∃ A', (if cc = 0 then some (⟨b1, o1, none⟩ : Addr) else some ⟨b1, o1 + 1, none⟩) = A' := ⟨_, rfl⟩
  have hle : l1 ≤ cc := by omega
  have hwd : (W.drop 1).length = l1 := by rw [List.length_drop, hl1]; rfl
  have hRs : Strs w0 (boxE b5 zE (.slice none 0 0) :: strs w0.heap.size (.slice (some ⟨b1, o1, none⟩) W.length (cc + 1)) W :: boxE b2 zE (.slice none 0 0) :: L) (.slice A' l1 cc) (W.drop 1) := fun W' HW => by
    have h1 : Rd 1 _ W.length (strC W) W' := entRow _ HW.tail
    rw [hl1] at h1
    rw [hwd, strC, List.map_drop, ← hA']
    by_cases hz : cc = 0
    · rw [if_pos hz]
      have := rd_suffix h1 1 (by omega) (a' := ⟨b1, o1, none⟩) (.inr (by omega))
      simpa using this
    · rw [if_neg hz]
      have := rd_suffix h1 1 (by omega) (a' := ⟨b1, o1 + 1, none⟩) (.inl (by rw [add_plain]))
      simpa using this
  have hsz : ∀ x ∈ W.drop 1, x.size ≤ 1000000000 := fun x hx => by
    have := HWS.out x (List.mem_of_mem_drop hx)
    omega
  have hrd := Ref.read_ok H3 hRs hsz (by rw [hwd]; omega)
  clear hsz
  have hmin : min (1 : Int) ((l1 : Int) + 1) = 1 := by omega
  have hl0 : (0 : Int) < (l1 : Int) + 1 := by omega
  have HWD := Lib.hid hwd
  have HLL := Lib.hid (show l1 ≤ 1000000001 by omega)
  have HL1 := Lib.hid hl1
  rw [hl1]
  clear hwd hRs hl1 hwl hpos h0W
  rw [refReadsPost_some_eq HN.out] at hrd
  have hnl := readV_len _ _ HN.out
  rw [HWD.out] at hnl
  have hce : refCand W = refEv s0 n 0 false := by rw [HCAND.out, HN.out]
  have HCE := Lib.hid hce
  clear hce
  have q1 : (s0.toList == [115, 117, 98, 109, 105, 116]) = false := by rw [HG.out]; decide +kernel
  have q2 : (s0.toList == [115, 116, 97, 114, 116]) = false := by rw [HG.out]; decide +kernel
  have q4 : (s0.toList == [112, 105, 110]) = false := by rw [HG.out]; decide +kernel
  have q5 : (s0.toList == [112, 97, 115, 115]) = false := by rw [HG.out]; decide +kernel
  have q6 : (s0.toList == [116, 105, 99, 107]) = true := by rw [HG.out]; decide +kernel
  have q7 : (s0.toList == [100, 101, 99, 97, 121]) = false := by rw [HG.out]; decide +kernel
  have q3 : (s0.toList == [101, 110, 100]) = false := by rw [HG.out]; decide +kernel
  go_upto_region 12 with (go_at_call 56; refine hrd.mono ?_; rintro r w5 ⟨u, rfl, H5⟩; clear hrd H3)
  have H6 := H5.swap
  clear H5 hA'
  obtain ⟨An, cn, rfl, hn1, hn2⟩ := rd_shape (entRow _ H6.tail)
  unfold maxLen at hn2
  have hn := fun W' e' (HW : HL w0 W' (boxE b5 e' (.slice none 0 0) :: intsR w0.heap.size (.slice An n.length cn) n :: strs w0.heap.size (.slice (some ⟨b1, o1, none⟩) W.length (cc + 1)) W :: boxE b2 zE (.slice none 0 0) :: L)) => (entRow _ HW.tail : Rd 1 (.slice An n.length cn) n.length (intC n) W')
  clear d0
  obtain ⟨b', o', c', hv, d0⟩ := str_at (entRow _ H6.tail.tail) HS0.out
  simp only [Value.slice.injEq, Option.some.injEq, Addr.mk.injEq] at hv
  obtain ⟨⟨rfl, rfl, -⟩, -, -⟩ := hv
  rw [Nat.add_zero] at d0
  have HNL := Lib.hid hnl
  clear hnl
  obtain ⟨m0, m1, m2, m3, m4, m5⟩ := boxE_cells H6
  have hk := HK.out
  have hev := refEv_6 (n := n) (nd := 0)
  rw [← HG.out] at hev
  have HEVY := Lib.hid (show refEv s0 n 0 false = _ by rw [hev, if_pos hk])
  clear hev
  have hlk := hk
  have lk : ((n.length : Int) == 1) = true := by simp; omega
  obtain ⟨x0, hx0⟩ : ∃ x, n[0]? = some x := ⟨_, List.getElem?_eq_getElem (by omega)⟩
  obtain ⟨bn, on, cn', hv, g0⟩ := int_at (hn _ _ H6) hx0
  simp only [Value.slice.injEq] at hv
  obtain ⟨rfl, -, rfl⟩ := hv
  rw [Nat.add_zero] at g0
  have k0n : (0 : Int) < (n.length : Int) := by omega
  have kn0 : 0 < n.length := by omega
  have hy : refEv s0 n 0 false = some ⟨6, 0, x0, 0, 0, []⟩ := by rw [HEVY.out]; simp [List.getD_eq_getElem?_getD, hx0]
  have HY := Lib.hid hy
  clear hy hx0
  obtain ⟨n0, n1, n2, n3, n4, n5⟩ := boxE_cells H6
  obtain ⟨y0, y1, y2, y3, y4, y5⟩ := boxE_froz H6
  have HS := boxE_put (d := ⟨6, 0, x0, 0, 0, []⟩) (u := (.slice none 0 0)) H6
  try dsimp only at HS
  go_upto_region 29 with (fail)
  generalize World.setCell _ _ _ = W7 at *
  have hx : ∃ e A c, refEv s0 n 0 false = some e ∧ Ints w0 [intsR w0.heap.size (.slice (some ⟨bn, on, none⟩) n.length cn) n] (.slice A e.list.length c) e.list ∧ HL w0 W7 (boxE b5 e (.slice A e.list.length c) :: intsR w0.heap.size (.slice (some ⟨bn, on, none⟩) n.length cn) n :: strs w0.heap.size (.slice (some ⟨b1, o1, none⟩) W.length (cc + 1)) W :: boxE b2 zE (.slice none 0 0) :: L) := by
    exact ⟨_, none, 0, HY.out, fun W _ => rd_nil, HS⟩
  obtain ⟨e, A, c, he, hI, H7⟩ := hx
  clear HS n0 n1 n2 n3 n4 n5 y0 y1 y2 y3 y4 y5 H6 hn lk g0 m0 m1 m2 m3 m4 m5 d0 HY HEVY
  have hok : EvOk e := HCOK.out e (by rw [HCE.out]; exact he)
  have hfew : e.list.length ≤ 4294967200 := by
    have h1 := refEv_few he
    have h2 := HNL.out
    have h3 := HLL.out
    omega
  have hread : refReadE s = if right e = true ∧ evS e = s then (e, 0) else (zE, 90) := by rw [HRE.out, HCE.out, he]
  have HRD := Lib.hid hread; have HI := Lib.hid hI
  have hev := Ref.event_ok hD H7 e ((Ent.left hI).cons _) hok hfew
  obtain ⟨n0, n1, n2, n3, n4, n5⟩ := boxE_cells H7
  clear he hread hI hok hfew
  unfold evV at hev
  go_upto_region 30 with (go_at_call 21; refine hev.mono ?_; rintro r w7 ⟨rfl, H8⟩; clear hev H7 n0 n1 n2 n3 n4 n5)
  cases hrt : right e with
  | false =>
    have hn90 := (evN_no hrt).1
    have HBAD := Lib.hid (show refReadE s = (zE, 90) by rw [HRD.out, hrt]; simp)
    rw [hn90]
    have H9 := H8.sel 4 [3]
    clear hrt hn90
    obtain ⟨x0, x1, x2, x3, x4, x5⟩ := boxE_cells H9
    obtain ⟨y0, y1, y2, y3, y4, y5⟩ := boxE_froz H9
    have HS := boxE_put (d := zE) (u := .slice none 0 0) H9
    simp only [zE] at HS
    go_wp2
    clear x0 x1 x2 x3 x4 x5 y0 y1 y2 y3 y4 y5
    generalize World.setCell _ _ _ = W9 at *
    obtain ⟨x0, x1, x2, x3, x4, x5⟩ := boxE_cells (e := zE) HS
    refine bodyPost_ret (v := .tuple #[evV zE (.slice none 0 0), .int .i64 90]) (by simp [results, Tryd.results24, go_sem, x0, x1, x2, x3, x4, x5]; try rfl) rfl ?_
    exact refReadPost_no HBAD.out HS.tail

  | true =>
    have hn0 := (evN_yes hrt).1
    rw [hn0]
    clear hn0
    by_cases hes : evS e = s
    · have HGOOD := Lib.hid (show refReadE s = (e, 0) by rw [HRD.out, hrt, hes]; simp)
      rw [hes]
      have hq : (s.toList == s.toList) = true := beq_self_eq_true _
      have H9 := H8.sel 4 [3, 1]
      obtain ⟨n0, n1, n2, n3, n4, n5⟩ := boxE_cells H8
      obtain ⟨x0, x1, x2, x3, x4, x5⟩ := boxE_cells H9
      obtain ⟨y0, y1, y2, y3, y4, y5⟩ := boxE_froz H9
      have HS := boxE_put (d := e) (u := .slice A e.list.length c) H9
      clear hrt hes H8
      go_wp2
      clear n0 n1 n2 n3 n4 n5 x0 x1 x2 x3 x4 x5 y0 y1 y2 y3 y4 y5 H9
      generalize World.setCell _ _ _ = W9 at *
      obtain ⟨x0, x1, x2, x3, x4, x5⟩ := boxE_cells HS
      refine bodyPost_ret (v := .tuple #[evV e (.slice A e.list.length c), .int .i64 0]) (by simp [results, Tryd.results24, go_sem, x0, x1, x2, x3, x4, x5]; try rfl) rfl ?_
      exact refReadPost_yes HGOOD.out HI.out HS.tail
    · have HBAD := Lib.hid (show refReadE s = (zE, 90) by rw [HRD.out, hrt]; simp [hes])
      have hq : ((evS e).toList == s.toList) = false := by rw [beq_eq_false_iff_ne]; exact fun h => hes (bytesSame h)
      have H9 := H8.sel 4 [3]
      clear hrt hes
      generalize evS e = st at *
      obtain ⟨x0, x1, x2, x3, x4, x5⟩ := boxE_cells H9
      obtain ⟨y0, y1, y2, y3, y4, y5⟩ := boxE_froz H9
      have HS := boxE_put (d := zE) (u := .slice none 0 0) H9
      simp only [zE] at HS
      go_wp2
      clear x0 x1 x2 x3 x4 x5 y0 y1 y2 y3 y4 y5
      generalize World.setCell _ _ _ = W9 at *
      obtain ⟨x0, x1, x2, x3, x4, x5⟩ := boxE_cells (e := zE) HS
      refine bodyPost_ret (v := .tuple #[evV zE (.slice none 0 0), .int .i64 90]) (by simp [results, Tryd.results24, go_sem, x0, x1, x2, x3, x4, x5]; try rfl) rfl ?_
      exact refReadPost_no HBAD.out HS.tail

set_option maxRecDepth 100000 in
set_option maxHeartbeats 8000000 in
theorem Ref.re_7 (hD : Doors w0) (H : HL w0 w L) (s : ByteArray) (hs : s.size ≤ 1000000000) {s0 : ByteArray} (hs0 : (wordsC 32 s)[0]? = some s0) (hb : ¬ (s0 = endW ∧ (wordsC 32 s).length = 4)) (hg : s0 = decayB) {n : List Int} (hnr : readV ((wordsC 32 s).drop 1) = some n) (hk : n.length = 1) :
    Calls Tryd.prog 24 #[.string s] w (RefReadPost w0 L s) := by
  have H1 : HL w0 (w.alloc (.cells #[.int .i64 0, .int .i64 0, .int .i64 0, .int .i64 0, .int .i64 0, .slice none 0 0] 36)) (boxE w.heap.size zE (.slice none 0 0) :: L) := HL.allocE H zE (.slice none 0 0)
  have hcut := Ref.cut_ok H1 s hs 32
  rw [show ((32 : UInt8).toNat : Int) = 32 from rfl] at hcut
  have hws := wordsC_size 32 s
  have hwl := wordsC_most 32 s
  have hpos := wordsC_len 32 s
  have hhead : (wordsC 32 s).headD ⟨#[]⟩ = s0 := by
    generalize wordsC 32 s = W at *
    cases W with
    | nil => simp at hs0
    | cons x r => simpa using hs0
  have hnE : ¬ isE (wordsC 32 s) := fun h => hb ⟨by rw [← hhead]; exact h.1, h.2⟩
  have hre : refReadE s = match refCand (wordsC 32 s) with | none => (zE, 90) | some e => if right e = true ∧ evS e = s then (e, 0) else (zE, 90) := rfl
  have hcok : ∀ e, refCand (wordsC 32 s) = some e → EvOk e := fun e => refCand_ok hs
  have hcand : refCand (wordsC 32 s) = match readV ((wordsC 32 s).drop 1) with | none => none | some n => refEv s0 n 0 false := by unfold refCand; rw [if_neg hnE, hhead]; rfl
  clear hhead hnE
  generalize wordsC 32 s = W at *
  generalize hb2 : w.heap.size = b2 at *
  have HRE := Lib.hid hre; have HCOK := Lib.hid hcok; have HWS := Lib.hid hws; have HS0 := Lib.hid hs0; have HCAND := Lib.hid hcand; have HNB := Lib.hid hb; have HN := Lib.hid hnr; have HG := Lib.hid hg; have HK := Lib.hid hk
  clear hnr hg hk hre hcok hws hs0 hcand hb H
  go_enter Tryd.func24, Tryd.ntmps24
  go_upto_region 2 with (go_at_call 54; refine hcut.mono ?_; rintro e w2 ⟨v, rfl, H2⟩; clear hcut H1)
  have HB2 := Lib.hid hb2
  clear hb2
  generalize World.alloc w _ = Wx at *
  have H3 : HL w0 (w2.alloc (.cells #[.int .i64 0, .int .i64 0, .int .i64 0, .int .i64 0, .int .i64 0, .slice none 0 0] 36)) (boxE w2.heap.size zE (.slice none 0 0) :: _) := HL.allocE H2 zE (.slice none 0 0)
  obtain ⟨b1, o1, c1, rfl, d0⟩ := str_at (entRow _ H3.tail) HS0.out
  rw [Nat.add_zero] at d0
  obtain ⟨A1, c1', hv1, hc1, hc2⟩ := rd_shape (entRow _ H3.tail)
  simp only [Value.slice.injEq] at hv1
  obtain ⟨-, -, rfl⟩ := hv1
  unfold maxLen at hc2
  have h0W : 0 < W.length := by omega
  generalize hb5 : w2.heap.size = b5 at *
  go_upto_region 3 with (fail)
  have HB5 := Lib.hid hb5
  clear hb5 H2
  generalize World.alloc w2 _ = W3 at *
  obtain ⟨l1, hl1⟩ : ∃ l1, W.length = l1 + 1 := ⟨W.length - 1, by omega⟩
  obtain ⟨cc, rfl⟩ : ∃ cc, c1 = cc + 1 := ⟨c1 - 1, by omega⟩
  obtain ⟨A', hA'⟩ : ∃ A', (if cc = 0 then some (⟨b1, o1, none⟩ : Addr) else some ⟨b1, o1 + 1, none⟩) = A' := ⟨_, rfl⟩
  have hle : l1 ≤ cc := by omega
  have hwd : (W.drop 1).length = l1 := by rw [List.length_drop, hl1]; rfl
  have hRs : Strs w0 (boxE b5 zE (.slice none 0 0) :: strs w0.heap.size (.slice (some ⟨b1, o1, none⟩) W.length (cc + 1)) W :: boxE b2 zE (.slice none 0 0) :: L) (.slice A' l1 cc) (W.drop 1) := fun W' HW => by
    have h1 : Rd 1 _ W.length (strC W) W' := entRow _ HW.tail
    rw [hl1] at h1
    rw [hwd, strC, List.map_drop, ← hA']
    by_cases hz : cc = 0
    · rw [if_pos hz]
      have := rd_suffix h1 1 (by omega) (a' := ⟨b1, o1, none⟩) (.inr (by omega))
      simpa using this
    · rw [if_neg hz]
      have := rd_suffix h1 1 (by omega) (a' := ⟨b1, o1 + 1, none⟩) (.inl (by rw [add_plain]))
      simpa using this
  have hsz : ∀ x ∈ W.drop 1, x.size ≤ 1000000000 := fun x hx => by
    have := HWS.out x (List.mem_of_mem_drop hx)
    omega
  have hrd := Ref.read_ok H3 hRs hsz (by rw [hwd]; omega)
  clear hsz
  have hmin : min (1 : Int) ((l1 : Int) + 1) = 1 := by omega
  have hl0 : (0 : Int) < (l1 : Int) + 1 := by omega
  have HWD := Lib.hid hwd
  have HLL := Lib.hid (show l1 ≤ 1000000001 by omega)
  have HL1 := Lib.hid hl1
  rw [hl1]
  clear hwd hRs hl1 hwl hpos h0W
  rw [refReadsPost_some_eq HN.out] at hrd
  have hnl := readV_len _ _ HN.out
  rw [HWD.out] at hnl
  have hce : refCand W = refEv s0 n 0 false := by rw [HCAND.out, HN.out]
  have HCE := Lib.hid hce
  clear hce
  have q1 : (s0.toList == [115, 117, 98, 109, 105, 116]) = false := by rw [HG.out]; decide +kernel
  have q2 : (s0.toList == [115, 116, 97, 114, 116]) = false := by rw [HG.out]; decide +kernel
  have q4 : (s0.toList == [112, 105, 110]) = false := by rw [HG.out]; decide +kernel
  have q5 : (s0.toList == [112, 97, 115, 115]) = false := by rw [HG.out]; decide +kernel
  have q6 : (s0.toList == [116, 105, 99, 107]) = false := by rw [HG.out]; decide +kernel
  have q7 : (s0.toList == [100, 101, 99, 97, 121]) = true := by rw [HG.out]; decide +kernel
  have q3 : (s0.toList == [101, 110, 100]) = false := by rw [HG.out]; decide +kernel
  go_upto_region 12 with (go_at_call 56; refine hrd.mono ?_; rintro r w5 ⟨u, rfl, H5⟩; clear hrd H3)
  have H6 := H5.swap
  clear H5 hA'
  obtain ⟨An, cn, rfl, hn1, hn2⟩ := rd_shape (entRow _ H6.tail)
  unfold maxLen at hn2
  have hn := fun W' e' (HW : HL w0 W' (boxE b5 e' (.slice none 0 0) :: intsR w0.heap.size (.slice An n.length cn) n :: strs w0.heap.size (.slice (some ⟨b1, o1, none⟩) W.length (cc + 1)) W :: boxE b2 zE (.slice none 0 0) :: L)) => (entRow _ HW.tail : Rd 1 (.slice An n.length cn) n.length (intC n) W')
  clear d0
  obtain ⟨b', o', c', hv, d0⟩ := str_at (entRow _ H6.tail.tail) HS0.out
  simp only [Value.slice.injEq, Option.some.injEq, Addr.mk.injEq] at hv
  obtain ⟨⟨rfl, rfl, -⟩, -, -⟩ := hv
  rw [Nat.add_zero] at d0
  have HNL := Lib.hid hnl
  clear hnl
  obtain ⟨m0, m1, m2, m3, m4, m5⟩ := boxE_cells H6
  have hk := HK.out
  have hev := refEv_7 (n := n) (nd := 0)
  rw [← HG.out] at hev
  have HEVY := Lib.hid (show refEv s0 n 0 false = _ by rw [hev, if_pos hk])
  clear hev
  have hlk := hk
  have lk : ((n.length : Int) == 1) = true := by simp; omega
  obtain ⟨x0, hx0⟩ : ∃ x, n[0]? = some x := ⟨_, List.getElem?_eq_getElem (by omega)⟩
  obtain ⟨bn, on, cn', hv, g0⟩ := int_at (hn _ _ H6) hx0
  simp only [Value.slice.injEq] at hv
  obtain ⟨rfl, -, rfl⟩ := hv
  rw [Nat.add_zero] at g0
  have k0n : (0 : Int) < (n.length : Int) := by omega
  have kn0 : 0 < n.length := by omega
  have hy : refEv s0 n 0 false = some ⟨7, 0, x0, 0, 0, []⟩ := by rw [HEVY.out]; simp [List.getD_eq_getElem?_getD, hx0]
  have HY := Lib.hid hy
  clear hy hx0
  obtain ⟨n0, n1, n2, n3, n4, n5⟩ := boxE_cells H6
  obtain ⟨y0, y1, y2, y3, y4, y5⟩ := boxE_froz H6
  have HS := boxE_put (d := ⟨7, 0, x0, 0, 0, []⟩) (u := (.slice none 0 0)) H6
  try dsimp only at HS
  go_upto_region 29 with (fail)
  generalize World.setCell _ _ _ = W7 at *
  have hx : ∃ e A c, refEv s0 n 0 false = some e ∧ Ints w0 [intsR w0.heap.size (.slice (some ⟨bn, on, none⟩) n.length cn) n] (.slice A e.list.length c) e.list ∧ HL w0 W7 (boxE b5 e (.slice A e.list.length c) :: intsR w0.heap.size (.slice (some ⟨bn, on, none⟩) n.length cn) n :: strs w0.heap.size (.slice (some ⟨b1, o1, none⟩) W.length (cc + 1)) W :: boxE b2 zE (.slice none 0 0) :: L) := by
    exact ⟨_, none, 0, HY.out, fun W _ => rd_nil, HS⟩
  obtain ⟨e, A, c, he, hI, H7⟩ := hx
  clear HS n0 n1 n2 n3 n4 n5 y0 y1 y2 y3 y4 y5 H6 hn lk g0 m0 m1 m2 m3 m4 m5 d0 HY HEVY
  have hok : EvOk e := HCOK.out e (by rw [HCE.out]; exact he)
  have hfew : e.list.length ≤ 4294967200 := by
    have h1 := refEv_few he
    have h2 := HNL.out
    have h3 := HLL.out
    omega
  have hread : refReadE s = if right e = true ∧ evS e = s then (e, 0) else (zE, 90) := by rw [HRE.out, HCE.out, he]
  have HRD := Lib.hid hread; have HI := Lib.hid hI
  have hev := Ref.event_ok hD H7 e ((Ent.left hI).cons _) hok hfew
  obtain ⟨n0, n1, n2, n3, n4, n5⟩ := boxE_cells H7
  clear he hread hI hok hfew
  unfold evV at hev
  go_upto_region 30 with (go_at_call 21; refine hev.mono ?_; rintro r w7 ⟨rfl, H8⟩; clear hev H7 n0 n1 n2 n3 n4 n5)
  cases hrt : right e with
  | false =>
    have hn90 := (evN_no hrt).1
    have HBAD := Lib.hid (show refReadE s = (zE, 90) by rw [HRD.out, hrt]; simp)
    rw [hn90]
    have H9 := H8.sel 4 [3]
    clear hrt hn90
    obtain ⟨x0, x1, x2, x3, x4, x5⟩ := boxE_cells H9
    obtain ⟨y0, y1, y2, y3, y4, y5⟩ := boxE_froz H9
    have HS := boxE_put (d := zE) (u := .slice none 0 0) H9
    simp only [zE] at HS
    go_wp2
    clear x0 x1 x2 x3 x4 x5 y0 y1 y2 y3 y4 y5
    generalize World.setCell _ _ _ = W9 at *
    obtain ⟨x0, x1, x2, x3, x4, x5⟩ := boxE_cells (e := zE) HS
    refine bodyPost_ret (v := .tuple #[evV zE (.slice none 0 0), .int .i64 90]) (by simp [results, Tryd.results24, go_sem, x0, x1, x2, x3, x4, x5]; try rfl) rfl ?_
    exact refReadPost_no HBAD.out HS.tail

  | true =>
    have hn0 := (evN_yes hrt).1
    rw [hn0]
    clear hn0
    by_cases hes : evS e = s
    · have HGOOD := Lib.hid (show refReadE s = (e, 0) by rw [HRD.out, hrt, hes]; simp)
      rw [hes]
      have hq : (s.toList == s.toList) = true := beq_self_eq_true _
      have H9 := H8.sel 4 [3, 1]
      obtain ⟨n0, n1, n2, n3, n4, n5⟩ := boxE_cells H8
      obtain ⟨x0, x1, x2, x3, x4, x5⟩ := boxE_cells H9
      obtain ⟨y0, y1, y2, y3, y4, y5⟩ := boxE_froz H9
      have HS := boxE_put (d := e) (u := .slice A e.list.length c) H9
      clear hrt hes H8
      go_wp2
      clear n0 n1 n2 n3 n4 n5 x0 x1 x2 x3 x4 x5 y0 y1 y2 y3 y4 y5 H9
      generalize World.setCell _ _ _ = W9 at *
      obtain ⟨x0, x1, x2, x3, x4, x5⟩ := boxE_cells HS
      refine bodyPost_ret (v := .tuple #[evV e (.slice A e.list.length c), .int .i64 0]) (by simp [results, Tryd.results24, go_sem, x0, x1, x2, x3, x4, x5]; try rfl) rfl ?_
      exact refReadPost_yes HGOOD.out HI.out HS.tail
    · have HBAD := Lib.hid (show refReadE s = (zE, 90) by rw [HRD.out, hrt]; simp [hes])
      have hq : ((evS e).toList == s.toList) = false := by rw [beq_eq_false_iff_ne]; exact fun h => hes (bytesSame h)
      have H9 := H8.sel 4 [3]
      clear hrt hes
      generalize evS e = st at *
      obtain ⟨x0, x1, x2, x3, x4, x5⟩ := boxE_cells H9
      obtain ⟨y0, y1, y2, y3, y4, y5⟩ := boxE_froz H9
      have HS := boxE_put (d := zE) (u := .slice none 0 0) H9
      simp only [zE] at HS
      go_wp2
      clear x0 x1 x2 x3 x4 x5 y0 y1 y2 y3 y4 y5
      generalize World.setCell _ _ _ = W9 at *
      obtain ⟨x0, x1, x2, x3, x4, x5⟩ := boxE_cells (e := zE) HS
      refine bodyPost_ret (v := .tuple #[evV zE (.slice none 0 0), .int .i64 90]) (by simp [results, Tryd.results24, go_sem, x0, x1, x2, x3, x4, x5]; try rfl) rfl ?_
      exact refReadPost_no HBAD.out HS.tail

set_option maxRecDepth 100000 in
set_option maxHeartbeats 8000000 in
theorem Ref.re_bad (hD : Doors w0) (H : HL w0 w L) (s : ByteArray) (hs : s.size ≤ 1000000000) {s0 : ByteArray} (hs0 : (wordsC 32 s)[0]? = some s0) (hb : ¬ (s0 = endW ∧ (wordsC 32 s).length = 4)) (hnr : readV ((wordsC 32 s).drop 1) = none) :
    Calls Tryd.prog 24 #[.string s] w (RefReadPost w0 L s) := by
  have H1 : HL w0 (w.alloc (.cells #[.int .i64 0, .int .i64 0, .int .i64 0, .int .i64 0, .int .i64 0, .slice none 0 0] 36)) (boxE w.heap.size zE (.slice none 0 0) :: L) := HL.allocE H zE (.slice none 0 0)
  have hcut := Ref.cut_ok H1 s hs 32
  rw [show ((32 : UInt8).toNat : Int) = 32 from rfl] at hcut
  have hws := wordsC_size 32 s
  have hwl := wordsC_most 32 s
  have hpos := wordsC_len 32 s
  have hhead : (wordsC 32 s).headD ⟨#[]⟩ = s0 := by
    generalize wordsC 32 s = W at *
    cases W with
    | nil => simp at hs0
    | cons x r => simpa using hs0
  have hnE : ¬ isE (wordsC 32 s) := fun h => hb ⟨by rw [← hhead]; exact h.1, h.2⟩
  have hre : refReadE s = match refCand (wordsC 32 s) with | none => (zE, 90) | some e => if right e = true ∧ evS e = s then (e, 0) else (zE, 90) := rfl
  have hcok : ∀ e, refCand (wordsC 32 s) = some e → EvOk e := fun e => refCand_ok hs
  have hcand : refCand (wordsC 32 s) = match readV ((wordsC 32 s).drop 1) with | none => none | some n => refEv s0 n 0 false := by unfold refCand; rw [if_neg hnE, hhead]; rfl
  clear hhead hnE
  generalize wordsC 32 s = W at *
  generalize hb2 : w.heap.size = b2 at *
  have HRE := Lib.hid hre; have HCOK := Lib.hid hcok; have HWS := Lib.hid hws; have HS0 := Lib.hid hs0; have HCAND := Lib.hid hcand; have HNB := Lib.hid hb; have HN := Lib.hid hnr
  clear hnr hre hcok hws hs0 hcand hb H
  go_enter Tryd.func24, Tryd.ntmps24
  go_upto_region 2 with (go_at_call 54; refine hcut.mono ?_; rintro e w2 ⟨v, rfl, H2⟩; clear hcut H1)
  have HB2 := Lib.hid hb2
  clear hb2
  generalize World.alloc w _ = Wx at *
  have H3 : HL w0 (w2.alloc (.cells #[.int .i64 0, .int .i64 0, .int .i64 0, .int .i64 0, .int .i64 0, .slice none 0 0] 36)) (boxE w2.heap.size zE (.slice none 0 0) :: _) := HL.allocE H2 zE (.slice none 0 0)
  obtain ⟨b1, o1, c1, rfl, d0⟩ := str_at (entRow _ H3.tail) HS0.out
  rw [Nat.add_zero] at d0
  obtain ⟨A1, c1', hv1, hc1, hc2⟩ := rd_shape (entRow _ H3.tail)
  simp only [Value.slice.injEq] at hv1
  obtain ⟨-, -, rfl⟩ := hv1
  unfold maxLen at hc2
  have h0W : 0 < W.length := by omega
  generalize hb5 : w2.heap.size = b5 at *
  go_upto_region 3 with (fail)
  have HB5 := Lib.hid hb5
  clear hb5 H2
  generalize World.alloc w2 _ = W3 at *
  obtain ⟨l1, hl1⟩ : ∃ l1, W.length = l1 + 1 := ⟨W.length - 1, by omega⟩
  obtain ⟨cc, rfl⟩ : ∃ cc, c1 = cc + 1 := ⟨c1 - 1, by omega⟩
  obtain ⟨A', hA'⟩ : ∃ A', (if cc = 0 then some (⟨b1, o1, none⟩ : Addr) else some ⟨b1, o1 + 1, none⟩) = A' := ⟨_, rfl⟩
  have hle : l1 ≤ cc := by omega
  have hwd : (W.drop 1).length = l1 := by rw [List.length_drop, hl1]; rfl
  have hRs : Strs w0 (boxE b5 zE (.slice none 0 0) :: strs w0.heap.size (.slice (some ⟨b1, o1, none⟩) W.length (cc + 1)) W :: boxE b2 zE (.slice none 0 0) :: L) (.slice A' l1 cc) (W.drop 1) := fun W' HW => by
    have h1 : Rd 1 _ W.length (strC W) W' := entRow _ HW.tail
    rw [hl1] at h1
    rw [hwd, strC, List.map_drop, ← hA']
    by_cases hz : cc = 0
    · rw [if_pos hz]
      have := rd_suffix h1 1 (by omega) (a' := ⟨b1, o1, none⟩) (.inr (by omega))
      simpa using this
    · rw [if_neg hz]
      have := rd_suffix h1 1 (by omega) (a' := ⟨b1, o1 + 1, none⟩) (.inl (by rw [add_plain]))
      simpa using this
  have hsz : ∀ x ∈ W.drop 1, x.size ≤ 1000000000 := fun x hx => by
    have := HWS.out x (List.mem_of_mem_drop hx)
    omega
  have hrd := Ref.read_ok H3 hRs hsz (by rw [hwd]; omega)
  clear hsz
  have hmin : min (1 : Int) ((l1 : Int) + 1) = 1 := by omega
  have hl0 : (0 : Int) < (l1 : Int) + 1 := by omega
  have HWD := Lib.hid hwd
  have HLL := Lib.hid (show l1 ≤ 1000000001 by omega)
  have HL1 := Lib.hid hl1
  rw [hl1]
  clear hwd hRs hl1 hwl hpos h0W
  rw [refReadsPost_none_eq HN.out] at hrd
  have HBAD := Lib.hid (show refReadE s = (zE, 90) by rw [HRE.out, HCAND.out, HN.out])
  by_cases ge : s0 = endW
  · have q3 : (s0.toList == [101, 110, 100]) = true := by rw [ge]; decide +kernel
    have l4 : ((l1 : Int) + 1 == 4) = false := by rw [beq_eq_false_iff_ne]; have h1 := HNB.out; have h2 := HL1.out; exact fun h => h1 ⟨ge, by omega⟩
    clear ge
    go_upto_region 12 with (go_at_call 56; refine hrd.mono ?_; rintro r w5 ⟨rfl, H5⟩; clear hrd H3)
    have H8 := H5.sel 3 [2]
    clear H5
    obtain ⟨x0, x1, x2, x3, x4, x5⟩ := boxE_cells H8
    obtain ⟨y0, y1, y2, y3, y4, y5⟩ := boxE_froz H8
    have HS := boxE_put (d := zE) (u := .slice none 0 0) H8
    simp only [zE] at HS
    go_wp2
    clear x0 x1 x2 x3 x4 x5 y0 y1 y2 y3 y4 y5
    generalize World.setCell _ _ _ = W9 at *
    obtain ⟨x0, x1, x2, x3, x4, x5⟩ := boxE_cells (e := zE) HS
    refine bodyPost_ret (v := .tuple #[evV zE (.slice none 0 0), .int .i64 90]) (by simp [results, Tryd.results24, go_sem, x0, x1, x2, x3, x4, x5]; try rfl) rfl ?_
    exact refReadPost_no HBAD.out HS.tail
  · have q3 : (s0.toList == [101, 110, 100]) = false := by rw [beq_eq_false_iff_ne]; exact fun e => ge (bytesSame (e.trans (by decide +kernel)))
    clear ge
    go_upto_region 12 with (go_at_call 56; refine hrd.mono ?_; rintro r w5 ⟨rfl, H5⟩; clear hrd H3)
    have H8 := H5.sel 3 [2]
    clear H5
    obtain ⟨x0, x1, x2, x3, x4, x5⟩ := boxE_cells H8
    obtain ⟨y0, y1, y2, y3, y4, y5⟩ := boxE_froz H8
    have HS := boxE_put (d := zE) (u := .slice none 0 0) H8
    simp only [zE] at HS
    go_wp2
    clear x0 x1 x2 x3 x4 x5 y0 y1 y2 y3 y4 y5
    generalize World.setCell _ _ _ = W9 at *
    obtain ⟨x0, x1, x2, x3, x4, x5⟩ := boxE_cells (e := zE) HS
    refine bodyPost_ret (v := .tuple #[evV zE (.slice none 0 0), .int .i64 90]) (by simp [results, Tryd.results24, go_sem, x0, x1, x2, x3, x4, x5]; try rfl) rfl ?_
    exact refReadPost_no HBAD.out HS.tail
end
end Go.Proofs.YtdekbbffoaphhaaDoor

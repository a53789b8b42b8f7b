/- An event of words, as far as they may be one. -/
import Derived.Test.YtdekbbffoaphhaaGreatDoorAnZip
import Derived.Test.YtdekbbffoaphhaaGreatDoorAnEvent
set_option linter.unusedVariables false
set_option linter.unusedSimpArgs false
set_option maxRecDepth 100000
set_option maxHeartbeats 8000000
namespace Go.Proofs.An
def zE : Ev := ⟨0, 0, 0, 0, 0, []⟩
/-- Of the first word: the kind, how many numbers it wants, the state at the end. -/
def hdOf (s : ByteArray) (ended : Int) : Int × Nat × Int :=
 if s = ⟨#[115, 117, 98, 109, 105, 116]⟩ then (1, 4, 0) else if s = ⟨#[115, 116, 97, 114, 116]⟩ then (2, 2, 0) else if s = ⟨#[101, 110, 100]⟩ then (3, 2, ended)
 else if s = ⟨#[112, 105, 110]⟩ then (4, 2, 0) else if s = ⟨#[112, 97, 115, 115]⟩ then (5, 1, 0) else if s = ⟨#[116, 105, 99, 107]⟩ then (6, 1, 0) else if s = ⟨#[100, 101, 99, 97, 121]⟩ then (7, 1, 0) else (0, 2, 0)
def bodyOf (k : Int) (want : Nat) (nd : Int) (n : List Int) : Ev :=
 if want = 4 then ⟨k, n.getD 0 0, n.getD 1 0, n.getD 2 0, n.getD 3 0, []⟩ else if want = 2 then ⟨k, n.getD 0 0, n.getD 1 0, nd, 0, []⟩ else ⟨k, 0, n.getD 0 0, nd, 0, []⟩
def evOf (ws : List ByteArray) (n : List Int) (ended : Int) : Ev :=
 match ws with
 | [] => zE
 | s :: _ => if n.length < (hdOf s ended).2.1 then zE else
  { bodyOf (hdOf s ended).1 (hdOf s ended).2.1 (hdOf s ended).2.2 n with list := if (hdOf s ended).1 = 2 ∨ (hdOf s ended).1 = 5 then n.drop (hdOf s ended).2.1 else [] }
theorem hdOf_want (s : ByteArray) (ended : Int) : (hdOf s ended).2.1 = 4 ∨ (hdOf s ended).2.1 = 2 ∨ (hdOf s ended).2.1 = 1 := by
 unfold hdOf
 repeat' split
 all_goals simp
theorem hdOf_1 {s : ByteArray} {ended : Int} (h : s = ⟨#[115, 117, 98, 109, 105, 116]⟩) : hdOf s ended = (1, 4, 0) := by subst h; rfl
theorem hdOf_2 {s : ByteArray} {ended : Int} (h : s = ⟨#[115, 116, 97, 114, 116]⟩) : hdOf s ended = (2, 2, 0) := by subst h; rfl
theorem hdOf_3 {s : ByteArray} {ended : Int} (h : s = ⟨#[101, 110, 100]⟩) : hdOf s ended = (3, 2, ended) := by subst h; rfl
theorem hdOf_4 {s : ByteArray} {ended : Int} (h : s = ⟨#[112, 105, 110]⟩) : hdOf s ended = (4, 2, 0) := by subst h; rfl
theorem hdOf_5 {s : ByteArray} {ended : Int} (h : s = ⟨#[112, 97, 115, 115]⟩) : hdOf s ended = (5, 1, 0) := by subst h; rfl
theorem hdOf_6 {s : ByteArray} {ended : Int} (h : s = ⟨#[116, 105, 99, 107]⟩) : hdOf s ended = (6, 1, 0) := by subst h; rfl
theorem hdOf_7 {s : ByteArray} {ended : Int} (h : s = ⟨#[100, 101, 99, 97, 121]⟩) : hdOf s ended = (7, 1, 0) := by subst h; rfl
theorem hdOf_no {s : ByteArray} {ended : Int} (h1 : ¬ s = ⟨#[115, 117, 98, 109, 105, 116]⟩) (h2 : ¬ s = ⟨#[115, 116, 97, 114, 116]⟩) (h3 : ¬ s = ⟨#[101, 110, 100]⟩) (h4 : ¬ s = ⟨#[112, 105, 110]⟩) (h5 : ¬ s = ⟨#[112, 97, 115, 115]⟩) (h6 : ¬ s = ⟨#[116, 105, 99, 107]⟩) (h7 : ¬ s = ⟨#[100, 101, 99, 97, 121]⟩) : hdOf s ended = (0, 2, 0) := by
 unfold hdOf
 rw [if_neg h1, if_neg h2, if_neg h3, if_neg h4, if_neg h5, if_neg h6, if_neg h7]
theorem bodyOf_kind (k : Int) (want : Nat) (nd : Int) (n : List Int) : (bodyOf k want nd n).kind = k := by
 unfold bodyOf
 repeat' split
 all_goals rfl
end Go.Proofs.An
namespace Go.Proofs.YtdekbbffoaphhaaGreatDoor
open Go.RowKit Go.Proofs.HL Go.Proofs.An
section
variable {w0 w : World} {L : List At} {vW vN : Value}
theorem boxE_put {b : Nat} {e d : Ev} {v u : Value} (H : HL w0 w (boxE b e v :: L)) : HL w0 ((((((w.setCell ⟨b, 0, none⟩ (.int .i64 d.kind)).setCell ⟨b, 1, none⟩ (.int .i64 d.job)).setCell ⟨b, 2, none⟩ (.int .i64 d.tm)).setCell ⟨b, 3, none⟩ (.int .i64 d.nd)).setCell ⟨b, 4, none⟩ (.int .i64 d.lm)).setCell ⟨b, 5, none⟩ u) (boxE b d u :: L) := by
 have h0 : HL w0 _ (boxE b ⟨d.kind, e.job, e.tm, e.nd, e.lm, []⟩ v :: L) := HL.setCell H 0 (.int .i64 d.kind)
 have h1 : HL w0 _ (boxE b ⟨d.kind, d.job, e.tm, e.nd, e.lm, []⟩ v :: L) := HL.setCell h0 1 (.int .i64 d.job)
 have h2 : HL w0 _ (boxE b ⟨d.kind, d.job, d.tm, e.nd, e.lm, []⟩ v :: L) := HL.setCell h1 2 (.int .i64 d.tm)
 have h3 : HL w0 _ (boxE b ⟨d.kind, d.job, d.tm, d.nd, e.lm, []⟩ v :: L) := HL.setCell h2 3 (.int .i64 d.nd)
 have h4 : HL w0 _ (boxE b ⟨d.kind, d.job, d.tm, d.nd, d.lm, []⟩ v :: L) := HL.setCell h3 4 (.int .i64 d.lm)
 exact HL.setCell h4 5 u
/-- A list value that is nil, or a suffix of what vN shows. -/
def Part (u vN : Value) : Prop := u = .slice none 0 0 ∨ ∃ (b o n c k : Nat), vN = .slice (some ⟨b, o, none⟩) n c ∧ k ≤ n ∧ u = .slice (if c = k then some ⟨b, o, none⟩ else some ⟨b, o + k, none⟩) (n - k) (c - k)
def OfPost (w0 : World) (L : List At) (vN : Value) (n : List Int) (e : Ev) (r : Ending) (w' : World) : Prop := ∃ u, r = .returned (evV e u) ∧ Part u vN ∧ (∀ L', Ints w0 L' vN n → Ints w0 L' u e.list) ∧ HL w0 w' L
theorem of_ok (H : HL w0 w L) {ws : List ByteArray} {n : List Int} (hw : Strs w0 L vW ws) (hn : Ints w0 L vN n) (ended : Int) (hne : 0 < ws.length) :
  Calls Tryz.prog 49 #[vW, vN, .int .i64 ended] w (OfPost w0 L vN n (evOf ws n ended)) := by
 obtain ⟨AW, cW, rfl, hW1, hW2⟩ := rd_shape (hw w H)
 obtain ⟨AN, cN, rfl, hN1, hN2⟩ := rd_shape (hn w H)
 unfold maxLen at hW2 hN2
 have H1 : HL w0 (w.alloc (.cells #[.int .i64 0, .int .i64 0, .int .i64 0, .int .i64 0, .int .i64 0, .slice none 0 0] 46)) (boxE w.heap.size zE (.slice none 0 0) :: L) := HL.allocE H zE (.slice none 0 0)
 have H2 : HL w0 ((w.alloc (.cells #[.int .i64 0, .int .i64 0, .int .i64 0, .int .i64 0, .int .i64 0, .slice none 0 0] 46)).alloc (.cells #[.int .i64 0, .int .i64 0, .int .i64 0, .int .i64 0, .int .i64 0, .slice none 0 0] 46)) (boxE (w.alloc (.cells #[.int .i64 0, .int .i64 0, .int .i64 0, .int .i64 0, .int .i64 0, .slice none 0 0] 46)).heap.size zE (.slice none 0 0) :: boxE w.heap.size zE (.slice none 0 0) :: L) := HL.allocE H1 zE (.slice none 0 0)
 rw [World.size_alloc] at H2
 obtain ⟨s0, hs0⟩ : ∃ s, ws[0]? = some s := ⟨_, List.getElem?_eq_getElem hne⟩
 have hev : evOf ws n ended = if n.length < (hdOf s0 ended).2.1 then zE else { bodyOf (hdOf s0 ended).1 (hdOf s0 ended).2.1 (hdOf s0 ended).2.2 n with list := if (hdOf s0 ended).1 = 2 ∨ (hdOf s0 ended).1 = 5 then n.drop (hdOf s0 ended).2.1 else [] } := by
  cases ws with
  | nil => simp at hne
  | cons x r =>
   obtain rfl : x = s0 := by simpa using hs0
   rfl
 have hev2 := hev
 obtain ⟨bw, ow, cw, hv, d0⟩ := str_at (hw.cons _ |>.cons _ |> fun h => h _ H2) hs0
 simp only [Value.slice.injEq] at hv
 obtain ⟨rfl, -, rfl⟩ := hv
 rw [Nat.add_zero] at d0
 generalize hb6 : w.heap.size = b6 at *
 clear H H1 hev hs0
 go_enter Tryz.func49, Tryz.ntmps49
 go_upto_block 0 with (fail)
 clear d0
 have HB6 := Lib.hid hb6
 clear hb6
 generalize World.alloc (World.alloc _ _) _ = W at *
 obtain ⟨kd, want, nd, hHD⟩ : ∃ kd want nd, hdOf s0 ended = (kd, want, nd) := ⟨_, _, _, rfl⟩
 have hwant := hdOf_want s0 ended
 rw [hHD] at hev2 hwant
 replace hwant : want = 4 ∨ want = 2 ∨ want = 1 := hwant
 have HEV := Lib.hid hev2
 clear hev2
 go_cut [8] (fun t8 wc => t8 = .int .i64 (want : Int) ∧ HL w0 wc (boxE (b6 + 1) ⟨kd, 0, 0, nd, 0, []⟩ (.slice none 0 0) :: boxE b6 zE (.slice none 0 0) :: L))
 case first =>
  obtain ⟨n0, n1, n2, n3, n4, n5⟩ := boxE_cells H2
  obtain ⟨y0, y1, y2, y3, y4, y5⟩ := boxE_froz H2
  by_cases g1 : s0 = ⟨#[115, 117, 98, 109, 105, 116]⟩
  ·rw [hdOf_1 g1] at hHD
   simp only [Prod.mk.injEq] at hHD
   obtain ⟨rfl, rfl, rfl⟩ := hHD
   have q1 : (s0.toList == [115, 117, 98, 109, 105, 116]) = true := by rw [g1]; decide +kernel
   have HX := Lib.hid g1
   clear g1 hwant
   have HS : HL w0 _ (boxE (b6 + 1) ⟨1, 0, 0, 0, 0, []⟩ (.slice none 0 0) :: boxE b6 zE (.slice none 0 0) :: L) := HL.setCell H2 0 (.int .i64 1)
   go_wp2
   go_meet
   exact ⟨rfl, HS⟩
  have q1 : (s0.toList == [115, 117, 98, 109, 105, 116]) = false := by rw [beq_eq_false_iff_ne]; exact fun e => g1 (bytesSame (e.trans (by decide +kernel)))
  by_cases g2 : s0 = ⟨#[115, 116, 97, 114, 116]⟩
  ·rw [hdOf_2 g2] at hHD
   simp only [Prod.mk.injEq] at hHD
   obtain ⟨rfl, rfl, rfl⟩ := hHD
   have q2 : (s0.toList == [115, 116, 97, 114, 116]) = true := by rw [g2]; decide +kernel
   have HX := Lib.hid g2
   clear g2 hwant
   have HS : HL w0 _ (boxE (b6 + 1) ⟨2, 0, 0, 0, 0, []⟩ (.slice none 0 0) :: boxE b6 zE (.slice none 0 0) :: L) := HL.setCell H2 0 (.int .i64 2)
   go_wp2
   go_meet
   exact ⟨rfl, HS⟩
  have q2 : (s0.toList == [115, 116, 97, 114, 116]) = false := by rw [beq_eq_false_iff_ne]; exact fun e => g2 (bytesSame (e.trans (by decide +kernel)))
  by_cases g3 : s0 = ⟨#[101, 110, 100]⟩
  ·rw [hdOf_3 g3] at hHD
   simp only [Prod.mk.injEq] at hHD
   obtain ⟨rfl, rfl, rfl⟩ := hHD
   have q3 : (s0.toList == [101, 110, 100]) = true := by rw [g3]; decide +kernel
   have HX := Lib.hid g3
   clear g3 hwant
   have HS : HL w0 _ (boxE (b6 + 1) ⟨3, 0, 0, ended, 0, []⟩ (.slice none 0 0) :: boxE b6 zE (.slice none 0 0) :: L) := HL.setCell (HL.setCell H2 0 (.int .i64 3)) 3 (.int .i64 ended)
   go_wp2
   go_meet
   exact ⟨rfl, HS⟩
  have q3 : (s0.toList == [101, 110, 100]) = false := by rw [beq_eq_false_iff_ne]; exact fun e => g3 (bytesSame (e.trans (by decide +kernel)))
  by_cases g4 : s0 = ⟨#[112, 105, 110]⟩
  ·rw [hdOf_4 g4] at hHD
   simp only [Prod.mk.injEq] at hHD
   obtain ⟨rfl, rfl, rfl⟩ := hHD
   have q4 : (s0.toList == [112, 105, 110]) = true := by rw [g4]; decide +kernel
   have HX := Lib.hid g4
   clear g4 hwant
   have HS : HL w0 _ (boxE (b6 + 1) ⟨4, 0, 0, 0, 0, []⟩ (.slice none 0 0) :: boxE b6 zE (.slice none 0 0) :: L) := HL.setCell H2 0 (.int .i64 4)
   go_wp2
   go_meet
   exact ⟨rfl, HS⟩
  have q4 : (s0.toList == [112, 105, 110]) = false := by rw [beq_eq_false_iff_ne]; exact fun e => g4 (bytesSame (e.trans (by decide +kernel)))
  by_cases g5 : s0 = ⟨#[112, 97, 115, 115]⟩
  ·rw [hdOf_5 g5] at hHD
   simp only [Prod.mk.injEq] at hHD
   obtain ⟨rfl, rfl, rfl⟩ := hHD
   have q5 : (s0.toList == [112, 97, 115, 115]) = true := by rw [g5]; decide +kernel
   have HX := Lib.hid g5
   clear g5 hwant
   have HS : HL w0 _ (boxE (b6 + 1) ⟨5, 0, 0, 0, 0, []⟩ (.slice none 0 0) :: boxE b6 zE (.slice none 0 0) :: L) := HL.setCell H2 0 (.int .i64 5)
   go_wp2
   go_meet
   exact ⟨rfl, HS⟩
  have q5 : (s0.toList == [112, 97, 115, 115]) = false := by rw [beq_eq_false_iff_ne]; exact fun e => g5 (bytesSame (e.trans (by decide +kernel)))
  by_cases g6 : s0 = ⟨#[116, 105, 99, 107]⟩
  ·rw [hdOf_6 g6] at hHD
   simp only [Prod.mk.injEq] at hHD
   obtain ⟨rfl, rfl, rfl⟩ := hHD
   have q6 : (s0.toList == [116, 105, 99, 107]) = true := by rw [g6]; decide +kernel
   have HX := Lib.hid g6
   clear g6 hwant
   have HS : HL w0 _ (boxE (b6 + 1) ⟨6, 0, 0, 0, 0, []⟩ (.slice none 0 0) :: boxE b6 zE (.slice none 0 0) :: L) := HL.setCell H2 0 (.int .i64 6)
   go_wp2
   go_meet
   exact ⟨rfl, HS⟩
  have q6 : (s0.toList == [116, 105, 99, 107]) = false := by rw [beq_eq_false_iff_ne]; exact fun e => g6 (bytesSame (e.trans (by decide +kernel)))
  by_cases g7 : s0 = ⟨#[100, 101, 99, 97, 121]⟩
  ·rw [hdOf_7 g7] at hHD
   simp only [Prod.mk.injEq] at hHD
   obtain ⟨rfl, rfl, rfl⟩ := hHD
   have q7 : (s0.toList == [100, 101, 99, 97, 121]) = true := by rw [g7]; decide +kernel
   have HX := Lib.hid g7
   clear g7 hwant
   have HS : HL w0 _ (boxE (b6 + 1) ⟨7, 0, 0, 0, 0, []⟩ (.slice none 0 0) :: boxE b6 zE (.slice none 0 0) :: L) := HL.setCell H2 0 (.int .i64 7)
   go_wp2
   go_meet
   exact ⟨rfl, HS⟩
  have q7 : (s0.toList == [100, 101, 99, 97, 121]) = false := by rw [beq_eq_false_iff_ne]; exact fun e => g7 (bytesSame (e.trans (by decide +kernel)))
  rw [hdOf_no g1 g2 g3 g4 g5 g6 g7] at hHD
  simp only [Prod.mk.injEq] at hHD
  obtain ⟨rfl, rfl, rfl⟩ := hHD
  clear g1 g2 g3 g4 g5 g6 g7 hwant
  go_wp2
  go_meet
  exact ⟨rfl, H2⟩
 case rest =>
  obtain ⟨rfl, H3⟩ := hcut
  have HHD := Lib.hid hHD
  clear H2 hHD
  obtain ⟨n0, n1, n2, n3, n4, n5⟩ := boxE_cells H3
  by_cases hlt : n.length < want
  ·have hz : evOf ws n ended = zE := by rw [HEV.out, if_pos hlt]
   have HZ := Lib.hid hz
   obtain ⟨n0, n1, n2, n3, n4, n5⟩ := boxE_cells H3.tail
   obtain ⟨y0, y1, y2, y3, y4, y5⟩ := boxE_froz H3.tail
   have HS := boxE_put (d := zE) (u := .slice none 0 0) H3.tail
   simp only [zE] at HS
   clear hz
   go_wp2
   clear n0 n1 n2 n3 n4 n5 y0 y1 y2 y3 y4 y5
   generalize World.setCell _ _ _ = W9 at *
   obtain ⟨n0, n1, n2, n3, n4, n5⟩ := boxE_cells (e := zE) HS
   refine bodyPost_ret (v := evV zE (.slice none 0 0)) (by simp [results, Tryz.results49, go_sem, n0, n1, n2, n3, n4, n5]; try rfl) rfl ?_
   rw [HZ.out]
   exact ⟨_, rfl, .inl rfl, fun _ _ W _ => rd_nil, HS.tail⟩
  ·have hle : want ≤ n.length := by omega
   have hev3 := HEV.out
   rw [if_neg hlt] at hev3
   have HEV3 := Lib.hid hev3
   clear hev3 hlt
   go_upto_block 1 with (fail)
   go_cut [] (fun wc => HL w0 wc (boxE (b6 + 1) (bodyOf kd want nd n) (.slice none 0 0) :: boxE b6 zE (.slice none 0 0) :: L))
   case first =>
    obtain ⟨y0, y1, y2, y3, y4, y5⟩ := boxE_froz H3
    rcases hwant with rfl | rfl | rfl
    ·skip
     obtain ⟨x0, hx0⟩ : ∃ x, n[0]? = some x := ⟨_, List.getElem?_eq_getElem (by omega)⟩
     obtain ⟨x1, hx1⟩ : ∃ x, n[1]? = some x := ⟨_, List.getElem?_eq_getElem (by omega)⟩
     obtain ⟨x2, hx2⟩ : ∃ x, n[2]? = some x := ⟨_, List.getElem?_eq_getElem (by omega)⟩
     obtain ⟨x3, hx3⟩ : ∃ x, n[3]? = some x := ⟨_, List.getElem?_eq_getElem (by omega)⟩
     obtain ⟨bn, on, cn, hv, -⟩ := int_at (hn _ H3.tail.tail) hx0
     simp only [Value.slice.injEq] at hv
     obtain ⟨rfl, -, rfl⟩ := hv
     have hb : bodyOf kd 4 nd n = ⟨kd, x0, x1, x2, x3, []⟩ := by simp [bodyOf, List.getD_eq_getElem?_getD, hx0, hx1, hx2, hx3]
     have hS26 : ∀ W' e', HL w0 W' (boxE (b6 + 1) e' (.slice none 0 0) :: boxE b6 zE (.slice none 0 0) :: L) → W'.cell? ⟨bn, on + 2, none⟩ = some (.int .i64 x2) ∧ W'.cell? ⟨bn, on + 3, none⟩ = some (.int .i64 x3) := fun W' e' HW => by
      have hr := hn W' HW.tail.tail
      obtain ⟨b', o', c', hv, g1⟩ := int_at hr hx2
      simp only [Value.slice.injEq, Option.some.injEq, Addr.mk.injEq] at hv
      obtain ⟨⟨rfl, rfl, -⟩, -, -⟩ := hv
      obtain ⟨b', o', c', hv, g2⟩ := int_at hr hx3
      simp only [Value.slice.injEq, Option.some.injEq, Addr.mk.injEq] at hv
      obtain ⟨⟨rfl, rfl, -⟩, -, -⟩ := hv
      try simp only [Nat.add_zero] at g1 g2 ⊢
      exact ⟨g1, g2⟩
     have hS27 : ∀ W' e', HL w0 W' (boxE (b6 + 1) e' (.slice none 0 0) :: boxE b6 zE (.slice none 0 0) :: L) → W'.cell? ⟨bn, on, none⟩ = some (.int .i64 x0) ∧ W'.cell? ⟨bn, on + 1, none⟩ = some (.int .i64 x1) := fun W' e' HW => by
      have hr := hn W' HW.tail.tail
      obtain ⟨b', o', c', hv, g1⟩ := int_at hr hx0
      simp only [Value.slice.injEq, Option.some.injEq, Addr.mk.injEq] at hv
      obtain ⟨⟨rfl, rfl, -⟩, -, -⟩ := hv
      obtain ⟨b', o', c', hv, g2⟩ := int_at hr hx1
      simp only [Value.slice.injEq, Option.some.injEq, Addr.mk.injEq] at hv
      obtain ⟨⟨rfl, rfl, -⟩, -, -⟩ := hv
      try simp only [Nat.add_zero] at g1 g2 ⊢
      exact ⟨g1, g2⟩
     have HB := Lib.hid hb
     have l4 : (4 : Int) ≤ (n.length : Int) := by omega
     clear hb hx0 hx1 hx2 hx3 n0 n1 n2 n3 n4 n5 y0 y1 y2 y3 y4 y5
     have h0n : 0 < n.length := by omega
     have h1n : (1 : Int) < (n.length : Int) := by omega
     have h2n : (2 : Int) < (n.length : Int) := by omega
     have h3n : (3 : Int) < (n.length : Int) := by omega
     go_wp2
     refine wp_region_held_drew (S := fun w' => w'.cell? ⟨bn, on + 2, none⟩ = some (.int .i64 x2) ∧ w'.cell? ⟨bn, on + 3, none⟩ = some (.int .i64 x3)) (by kernel_rfl) (hS26 _ _ H3.drew) (fun hHeld => ?_)
     have Hd := H3.drew
     clear H3
     generalize wc.drew = Wd at *
     obtain ⟨n0, n1, n2, n3, n4, n5⟩ := boxE_cells Hd
     obtain ⟨y0, y1, y2, y3, y4, y5⟩ := boxE_froz Hd
     refine ztk 0 ?_
     simp only [Act.put, zp]
     refine ztk 1 ?_
     simp only [Act.put, zp]
     refine ztk 2 ?_
     simp only [Act.put, zp]
     refine ztk 3 ?_
     simp only [Act.put, zp]
     refine ztk 4 ?_
     simp only [Act.put, zp]
     refine ztk 5 ?_
     simp only [Act.put, zp]
     refine ztk 6 ?_
     simp only [Act.put, zp]
     refine zry 7 (fun K' hK' => ?_)
     dsimp only [zg1, zg3, zg2]
     go_simp
     have HS7 : HL w0 _ (boxE (b6 + 1) ⟨kd, 0, 0, x2, 0, []⟩ (.slice none 0 0) :: boxE b6 zE (.slice none 0 0) :: L) := HL.setCell Hd 3 (.int .i64 x2)
     obtain ⟨m0, m1, m2, m3, m4, m5⟩ := boxE_cells HS7
     obtain ⟨z0, z1, z2, z3, z4, z5⟩ := boxE_froz HS7
     refine hK'.out _ _ (hS26 _ _ HS7) (fun hHeld => ?_)
     clear hK' K'
     try simp only [Act.put, zp]
     refine ztk 8 ?_
     simp only [Act.put, zp]
     refine zry 9 (fun K' hK' => ?_)
     dsimp only [zg1, zg3, zg2]
     go_simp
     have HS9 : HL w0 _ (boxE (b6 + 1) ⟨kd, 0, 0, x2, x3, []⟩ (.slice none 0 0) :: boxE b6 zE (.slice none 0 0) :: L) := HL.setCell HS7 4 (.int .i64 x3)
     refine hK'.out _ _ (hS26 _ _ HS9) (fun hHeld => ?_)
     clear hK' K'
     try simp only [Act.put, zp]
     refine wpAnyH_done (by kernel_rfl) ?_ _
     have H4 := HS9
     clear n0 n1 n2 n3 n4 n5 y0 y1 y2 y3 y4 y5 m0 m1 m2 m3 m4 m5 z0 z1 z2 z3 z4 z5 HS7 HS9 Hd hHeld
     generalize World.setCell (World.setCell _ _ _) _ _ = W26 at *
     go_wp2
     refine wp_region_held_drew (S := fun w' => w'.cell? ⟨bn, on, none⟩ = some (.int .i64 x0) ∧ w'.cell? ⟨bn, on + 1, none⟩ = some (.int .i64 x1)) (by kernel_rfl) (hS27 _ _ H4.drew) (fun hHeld => ?_)
     have Hd := H4.drew
     clear H4
     generalize W26.drew = Wd at *
     obtain ⟨n0, n1, n2, n3, n4, n5⟩ := boxE_cells Hd
     obtain ⟨y0, y1, y2, y3, y4, y5⟩ := boxE_froz Hd
     refine ztk 0 ?_
     simp only [Act.put, zp]
     refine ztk 1 ?_
     simp only [Act.put, zp]
     refine ztk 2 ?_
     simp only [Act.put, zp]
     refine ztk 3 ?_
     simp only [Act.put, zp]
     refine ztk 4 ?_
     simp only [Act.put, zp]
     refine ztk 5 ?_
     simp only [Act.put, zp]
     refine ztk 6 ?_
     simp only [Act.put, zp]
     refine zry 7 (fun K' hK' => ?_)
     dsimp only [zg1, zg3, zg2]
     go_simp
     have HS7 : HL w0 _ (boxE (b6 + 1) ⟨kd, x0, 0, x2, x3, []⟩ (.slice none 0 0) :: boxE b6 zE (.slice none 0 0) :: L) := HL.setCell Hd 1 (.int .i64 x0)
     obtain ⟨m0, m1, m2, m3, m4, m5⟩ := boxE_cells HS7
     obtain ⟨z0, z1, z2, z3, z4, z5⟩ := boxE_froz HS7
     refine hK'.out _ _ (hS27 _ _ HS7) (fun hHeld => ?_)
     clear hK' K'
     try simp only [Act.put, zp]
     refine ztk 8 ?_
     simp only [Act.put, zp]
     refine zry 9 (fun K' hK' => ?_)
     dsimp only [zg1, zg3, zg2]
     go_simp
     have HS9 : HL w0 _ (boxE (b6 + 1) ⟨kd, x0, x1, x2, x3, []⟩ (.slice none 0 0) :: boxE b6 zE (.slice none 0 0) :: L) := HL.setCell HS7 2 (.int .i64 x1)
     refine hK'.out _ _ (hS27 _ _ HS9) (fun hHeld => ?_)
     clear hK' K'
     try simp only [Act.put, zp]
     refine wpAnyH_done (by kernel_rfl) ?_ _
     have H5 := HS9
     clear n0 n1 n2 n3 n4 n5 y0 y1 y2 y3 y4 y5 m0 m1 m2 m3 m4 m5 z0 z1 z2 z3 z4 z5 HS7 HS9 Hd hHeld
     generalize World.setCell (World.setCell _ _ _) _ _ = W27 at *
     go_wp2
     go_meet
     rw [HB.out]
     exact H5
    ·skip
     obtain ⟨x0, hx0⟩ : ∃ x, n[0]? = some x := ⟨_, List.getElem?_eq_getElem (by omega)⟩
     obtain ⟨x1, hx1⟩ : ∃ x, n[1]? = some x := ⟨_, List.getElem?_eq_getElem (by omega)⟩
     obtain ⟨bn, on, cn, hv, -⟩ := int_at (hn _ H3.tail.tail) hx0
     simp only [Value.slice.injEq] at hv
     obtain ⟨rfl, -, rfl⟩ := hv
     have hb : bodyOf kd 2 nd n = ⟨kd, x0, x1, nd, 0, []⟩ := by simp [bodyOf, List.getD_eq_getElem?_getD, hx0, hx1]
     have hS27 : ∀ W' e', HL w0 W' (boxE (b6 + 1) e' (.slice none 0 0) :: boxE b6 zE (.slice none 0 0) :: L) → W'.cell? ⟨bn, on, none⟩ = some (.int .i64 x0) ∧ W'.cell? ⟨bn, on + 1, none⟩ = some (.int .i64 x1) := fun W' e' HW => by
      have hr := hn W' HW.tail.tail
      obtain ⟨b', o', c', hv, g1⟩ := int_at hr hx0
      simp only [Value.slice.injEq, Option.some.injEq, Addr.mk.injEq] at hv
      obtain ⟨⟨rfl, rfl, -⟩, -, -⟩ := hv
      obtain ⟨b', o', c', hv, g2⟩ := int_at hr hx1
      simp only [Value.slice.injEq, Option.some.injEq, Addr.mk.injEq] at hv
      obtain ⟨⟨rfl, rfl, -⟩, -, -⟩ := hv
      try simp only [Nat.add_zero] at g1 g2 ⊢
      exact ⟨g1, g2⟩
     have HB := Lib.hid hb
     clear hb hx0 hx1 n0 n1 n2 n3 n4 n5 y0 y1 y2 y3 y4 y5
     have h0n : 0 < n.length := by omega
     have h1n : (1 : Int) < (n.length : Int) := by omega
     go_wp2
     refine wp_region_held_drew (S := fun w' => w'.cell? ⟨bn, on, none⟩ = some (.int .i64 x0) ∧ w'.cell? ⟨bn, on + 1, none⟩ = some (.int .i64 x1)) (by kernel_rfl) (hS27 _ _ H3.drew) (fun hHeld => ?_)
     have Hd := H3.drew
     clear H3
     generalize wc.drew = Wd at *
     obtain ⟨n0, n1, n2, n3, n4, n5⟩ := boxE_cells Hd
     obtain ⟨y0, y1, y2, y3, y4, y5⟩ := boxE_froz Hd
     refine ztk 0 ?_
     simp only [Act.put, zp]
     refine ztk 1 ?_
     simp only [Act.put, zp]
     refine ztk 2 ?_
     simp only [Act.put, zp]
     refine ztk 3 ?_
     simp only [Act.put, zp]
     refine ztk 4 ?_
     simp only [Act.put, zp]
     refine ztk 5 ?_
     simp only [Act.put, zp]
     refine ztk 6 ?_
     simp only [Act.put, zp]
     refine zry 7 (fun K' hK' => ?_)
     dsimp only [zg1, zg3, zg2]
     go_simp
     have HS7 : HL w0 _ (boxE (b6 + 1) ⟨kd, x0, 0, nd, 0, []⟩ (.slice none 0 0) :: boxE b6 zE (.slice none 0 0) :: L) := HL.setCell Hd 1 (.int .i64 x0)
     obtain ⟨m0, m1, m2, m3, m4, m5⟩ := boxE_cells HS7
     obtain ⟨z0, z1, z2, z3, z4, z5⟩ := boxE_froz HS7
     refine hK'.out _ _ (hS27 _ _ HS7) (fun hHeld => ?_)
     clear hK' K'
     try simp only [Act.put, zp]
     refine ztk 8 ?_
     simp only [Act.put, zp]
     refine zry 9 (fun K' hK' => ?_)
     dsimp only [zg1, zg3, zg2]
     go_simp
     have HS9 : HL w0 _ (boxE (b6 + 1) ⟨kd, x0, x1, nd, 0, []⟩ (.slice none 0 0) :: boxE b6 zE (.slice none 0 0) :: L) := HL.setCell HS7 2 (.int .i64 x1)
     refine hK'.out _ _ (hS27 _ _ HS9) (fun hHeld => ?_)
     clear hK' K'
     try simp only [Act.put, zp]
     refine wpAnyH_done (by kernel_rfl) ?_ _
     have H5 := HS9
     clear n0 n1 n2 n3 n4 n5 y0 y1 y2 y3 y4 y5 m0 m1 m2 m3 m4 m5 z0 z1 z2 z3 z4 z5 HS7 HS9 Hd hHeld
     generalize World.setCell (World.setCell _ _ _) _ _ = W27 at *
     go_wp2
     go_meet
     rw [HB.out]
     exact H5
    ·skip
     obtain ⟨x0, hx0⟩ : ∃ x, n[0]? = some x := ⟨_, List.getElem?_eq_getElem (by omega)⟩
     obtain ⟨bn, on, cn, hv, -⟩ := int_at (hn _ H3.tail.tail) hx0
     simp only [Value.slice.injEq] at hv
     obtain ⟨rfl, -, rfl⟩ := hv
     have hb : bodyOf kd 1 nd n = ⟨kd, 0, x0, nd, 0, []⟩ := by simp [bodyOf, List.getD_eq_getElem?_getD, hx0]
     have HB := Lib.hid hb
     obtain ⟨b', o', c', hv, g1⟩ := int_at (hn _ H3.tail.tail) hx0
     simp only [Value.slice.injEq, Option.some.injEq, Addr.mk.injEq] at hv
     obtain ⟨⟨rfl, rfl, -⟩, -, -⟩ := hv
     rw [Nat.add_zero] at g1
     have h0n : 0 < n.length := by omega
     have HS : HL w0 _ (boxE (b6 + 1) ⟨kd, 0, x0, nd, 0, []⟩ (.slice none 0 0) :: boxE b6 zE (.slice none 0 0) :: L) := HL.setCell H3 2 (.int .i64 x0)
     clear hb hx0
     go_wp2
     go_meet
     rw [HB.out]
     exact HS
   case rest =>
    have H4 := hcut
    clear H3 n0 n1 n2 n3 n4 n5 hcut
    obtain ⟨k1, j1, t1, d1, m1, l1, hB⟩ : ∃ k1 j1 t1 d1 m1 l1, bodyOf kd want nd n = ⟨k1, j1, t1, d1, m1, l1⟩ := ⟨_, _, _, _, _, _, rfl⟩
    obtain rfl : k1 = kd := by have := bodyOf_kind kd want nd n; rw [hB] at this; exact this
    have hev4 := HEV3.out
    rw [hB] at hev4 H4
    have hlen1 : 0 < n.length := by omega
    obtain ⟨x0, hx0⟩ : ∃ x, n[0]? = some x := ⟨_, List.getElem?_eq_getElem hlen1⟩
    obtain ⟨bn, on, cn, hv, -⟩ := int_at (hn _ H4.tail.tail) hx0
    simp only [Value.slice.injEq] at hv
    obtain ⟨rfl, -, rfl⟩ := hv
    obtain ⟨n0, n1, n2, n3, n4, n5⟩ := boxE_cells H4
    obtain ⟨y0, y1, y2, y3, y4, y5⟩ := boxE_froz H4
    clear hx0 hB
    by_cases hk : k1 = 2 ∨ k1 = 5
    ·rw [if_pos hk] at hev4
     have HEV4 := Lib.hid hev4
     clear hev4
     obtain ⟨A', hUU⟩ : ∃ A', (if cN = want then some (⟨bn, on, none⟩ : Addr) else some ⟨bn, on + want, none⟩) = A' := ⟨_, rfl⟩
     have hP : Part (.slice A' (n.length - want) (cN - want)) (.slice (some ⟨bn, on, none⟩) n.length cN) := .inr ⟨bn, on, n.length, cN, want, rfl, by omega, by rw [← hUU]⟩
     have HPP := Lib.hid hP
     clear hP
     have hU : ∀ L', Ints w0 L' (.slice (some ⟨bn, on, none⟩) n.length cN) n → Ints w0 L' (.slice A' (n.length - want) (cN - want)) (n.drop want) := fun L' hn W' HW => by
      rw [← hUU, List.length_drop, intC, List.map_drop]
      by_cases hcap : cN = want
      ·rw [if_pos hcap]
       have := rd_suffix (hn W' HW) want hle (a' := ⟨bn, on, none⟩) (.inr (by omega))
       rwa [Nat.mul_one] at this
      ·rw [if_neg hcap]
       have := rd_suffix (hn W' HW) want hle (a' := ⟨bn, on + want, none⟩) (.inl (by rw [Nat.mul_one, add_plain]))
       rwa [Nat.mul_one] at this
     have HS5 : HL w0 _ (boxE (b6 + 1) ⟨k1, j1, t1, d1, m1, l1⟩ (.slice A' (n.length - want) (cN - want)) :: boxE b6 zE (.slice none 0 0) :: L) := HL.setCell H4 5 _
     rcases hk with hk | hk
     ·have q2 : (k1 == 2) = true := by simp [hk]
      have HK := Lib.hid hk
      clear hk
      go_upto_region 31 with (fail)
      clear n0 n1 n2 n3 n4 n5 y0 y1 y2 y3 y4 y5 H4
      generalize World.setCell _ _ _ = W5 at *
      have H5 := HS5
      clear HS5 hUU
      obtain ⟨n0, n1, n2, n3, n4, n5⟩ := boxE_cells H5
      obtain ⟨x0, x1, x2, x3, x4, x5⟩ := boxE_cells H5.tail
      obtain ⟨y0, y1, y2, y3, y4, y5⟩ := boxE_froz H5.tail
      have HS := boxE_put (d := ⟨k1, j1, t1, d1, m1, n.drop want⟩) (u := .slice A' (n.length - want) (cN - want)) H5.tail
      go_wp2
      clear n0 n1 n2 n3 n4 n5 x0 x1 x2 x3 x4 x5 y0 y1 y2 y3 y4 y5 H5
      generalize World.setCell _ _ _ = W9 at *
      obtain ⟨n0, n1, n2, n3, n4, n5⟩ := boxE_cells HS
      refine bodyPost_ret (v := evV ⟨k1, j1, t1, d1, m1, n.drop want⟩ (.slice A' (n.length - want) (cN - want))) (by simp [results, Tryz.results49, go_sem, n0, n1, n2, n3, n4, n5]; try rfl) rfl ?_
      rw [HEV4.out]
      exact ⟨_, rfl, HPP.out, hU, HS.tail⟩
     ·have q2 : (k1 == 2) = false := by simp [hk]
      have q5 : (k1 == 5) = true := by simp [hk]
      have HK := Lib.hid hk
      clear hk
      go_upto_region 31 with (fail)
      clear n0 n1 n2 n3 n4 n5 y0 y1 y2 y3 y4 y5 H4
      generalize World.setCell _ _ _ = W5 at *
      have H5 := HS5
      clear HS5 hUU
      obtain ⟨n0, n1, n2, n3, n4, n5⟩ := boxE_cells H5
      obtain ⟨x0, x1, x2, x3, x4, x5⟩ := boxE_cells H5.tail
      obtain ⟨y0, y1, y2, y3, y4, y5⟩ := boxE_froz H5.tail
      have HS := boxE_put (d := ⟨k1, j1, t1, d1, m1, n.drop want⟩) (u := .slice A' (n.length - want) (cN - want)) H5.tail
      go_wp2
      clear n0 n1 n2 n3 n4 n5 x0 x1 x2 x3 x4 x5 y0 y1 y2 y3 y4 y5 H5
      generalize World.setCell _ _ _ = W9 at *
      obtain ⟨n0, n1, n2, n3, n4, n5⟩ := boxE_cells HS
      refine bodyPost_ret (v := evV ⟨k1, j1, t1, d1, m1, n.drop want⟩ (.slice A' (n.length - want) (cN - want))) (by simp [results, Tryz.results49, go_sem, n0, n1, n2, n3, n4, n5]; try rfl) rfl ?_
      rw [HEV4.out]
      exact ⟨_, rfl, HPP.out, hU, HS.tail⟩
    ·rw [if_neg hk] at hev4
     have HEV4 := Lib.hid hev4
     clear hev4
     have q2 : (k1 == 2) = false := by simp; exact fun e => hk (.inl e)
     have q5 : (k1 == 5) = false := by simp; exact fun e => hk (.inr e)
     have hU : ∀ L', Ints w0 L' (.slice (some ⟨bn, on, none⟩) n.length cN) n → Ints w0 L' (.slice none 0 0) [] := fun L' _ W' HW => rd_nil
     have H5 := H4
     clear hk n0 n1 n2 n3 n4 n5 y0 y1 y2 y3 y4 y5 H4
     obtain ⟨n0, n1, n2, n3, n4, n5⟩ := boxE_cells H5
     obtain ⟨x0, x1, x2, x3, x4, x5⟩ := boxE_cells H5.tail
     obtain ⟨y0, y1, y2, y3, y4, y5⟩ := boxE_froz H5.tail
     have HS := boxE_put (d := ⟨k1, j1, t1, d1, m1, []⟩) (u := .slice none 0 0) H5.tail
     go_wp2
     clear n0 n1 n2 n3 n4 n5 x0 x1 x2 x3 x4 x5 y0 y1 y2 y3 y4 y5 H5
     generalize World.setCell _ _ _ = W9 at *
     obtain ⟨n0, n1, n2, n3, n4, n5⟩ := boxE_cells HS
     refine bodyPost_ret (v := evV ⟨k1, j1, t1, d1, m1, []⟩ (.slice none 0 0)) (by simp [results, Tryz.results49, go_sem, n0, n1, n2, n3, n4, n5]; try rfl) rfl ?_
     rw [HEV4.out]
     exact ⟨_, rfl, .inl rfl, hU, HS.tail⟩
end
end Go.Proofs.YtdekbbffoaphhaaGreatDoor

/- A line read as an event. -/
import Derived.Test.YtdekbbffoaphhaaDoorAnOf
import Derived.Lib.SplitLaws
import Derived.WalkLawsBesides
set_option linter.unusedVariables false
set_option linter.unusedSimpArgs false
namespace Go.Proofs.An
def blankS : ByteArray := ⟨#[32]⟩
def wordsOf (line : ByteArray) : List ByteArray := Lib.splitB blankS 0 (Lib.countB line blankS) line
theorem words_length (line : ByteArray) : (wordsOf line).length = Lib.countB line blankS + 1 := Lib.splitB_all blankS (by decide) 0 _ _ rfl
theorem split_size (sep : ByteArray) : ∀ (k : Nat) (s x : ByteArray), x ∈ Lib.splitB sep 0 k s → x.size ≤ s.size
  | 0, s, x, h => by rw [Lib.splitB_zero] at h; rw [List.mem_singleton.1 h]; exact Nat.le_refl _
  | k + 1, s, x, h => by
    unfold Lib.splitB at h
    split at h
    · rw [List.mem_singleton.1 h]; exact Nat.le_refl _
    · rcases List.mem_cons.1 h with rfl | h
      · rw [ByteArray.size_extract]; omega
      · have := split_size sep k _ x h
        rw [ByteArray.size_extract] at this
        omega
def endW : ByteArray := ⟨#[101, 110, 100]⟩
/-- The words without the state at the end, and that state. -/
def cutEnd (W : List ByteArray) : List ByteArray × Int := if W.headD ⟨#[]⟩ = endW then (W.take (W.length - 1), stN (W.getLastD ⟨#[]⟩)) else (W, 0)
/-- An event of a line, as far as it may be one. -/
def candW (W : List ByteArray) : Option Ev := match numsW ((cutEnd W).1.drop 1) with | none => none | some n => some (evOf (cutEnd W).1 n (cutEnd W).2)
def readE (s : ByteArray) : Ev × Int := match candW (wordsOf s) with | none => (zE, 90) | some e => if right e = true ∧ evS e = s then (e, 0) else (zE, 90)
theorem stN_bounds (s : ByteArray) : 0 ≤ stN s ∧ stN s ≤ 6 := by
  unfold stN
  repeat' split
  all_goals decide
theorem hdOf_nd (s : ByteArray) {ended : Int} (h0 : 0 ≤ ended) (h1 : ended ≤ 6) : 0 ≤ (hdOf s ended).2.2 ∧ (hdOf s ended).2.2 ≤ 6 := by
  unfold hdOf
  repeat' split
  all_goals exact ⟨by simp <;> omega, by simp <;> omega⟩
theorem evOk_zero : EvOk zE := by
  refine ⟨?_, ?_, ?_, ?_, fun n hn => by simp [zE] at hn, ?_⟩ <;> simp [zE]
theorem fits_getD {n : List Int} (h : Fits n) (k : Nat) : -9223372036854775808 ≤ n.getD k 0 ∧ n.getD k 0 ≤ 9223372036854775807 := by
  rw [List.getD_eq_getElem?_getD]
  cases hk : n[k]? with
  | none => simp
  | some x => exact h x (List.mem_of_getElem? hk)
theorem evOk_of {ws : List ByteArray} {n : List Int} {ended : Int} (hn : Fits n) (hl : n.length ≤ 4294967296) (h0 : 0 ≤ ended) (h1 : ended ≤ 6) : EvOk (evOf ws n ended) := by
  unfold evOf
  cases ws with
  | nil => exact evOk_zero
  | cons s r =>
    simp only
    split
    · exact evOk_zero
    · have hd := hdOf_nd s h0 h1
      have hb : EvOk (bodyOf (hdOf s ended).1 (hdOf s ended).2.1 (hdOf s ended).2.2 n) := by
        unfold bodyOf
        split
        · exact ⟨fits_getD hn 0, fits_getD hn 1, fits_getD hn 2, fits_getD hn 3, fun n hn => by simp at hn, by simp⟩
        · split
          · exact ⟨fits_getD hn 0, fits_getD hn 1, by simp only; omega, by simp, fun n hn => by simp at hn, by simp⟩
          · exact ⟨by simp, fits_getD hn 0, by simp only; omega, by simp, fun n hn => by simp at hn, by simp⟩
      obtain ⟨b1, b2, b3, b4, -, -⟩ := hb
      refine ⟨b1, b2, b3, b4, ?_, ?_⟩
      · simp only
        split
        · exact fun m hm => hn m (List.mem_of_mem_drop hm)
        · exact fun m hm => by simp at hm
      · simp only
        split
        · rw [List.length_drop]; omega
        · simp
theorem right_zero : right zE = false := by decide
end Go.Proofs.An
namespace Go.Proofs.YtdekbbffoaphhaaDoor
open Go.RowKit Go.Proofs.HL Go.Proofs.An
section
variable {w0 w : World} {L : List At} {vW vN : Value}
set_option maxRecDepth 100000 in
set_option maxHeartbeats 2000000 in
theorem of_nil (H : HL w0 w L) {n : List Int} (ended : Int) (AW : Option Addr) (cW : Nat) :
    Calls Tryd.prog 53 #[.slice AW 0 cW, vN, .int .i64 ended] w fun r w' => r = .returned (evV zE (.slice none 0 0)) ∧ HL w0 w' L := by
  have H1 : HL w0 (w.alloc (.cells #[.int .i64 0, .int .i64 0, .int .i64 0, .int .i64 0, .int .i64 0, .slice none 0 0] 36)) (boxE w.heap.size zE (.slice none 0 0) :: L) := HL.allocE H zE (.slice none 0 0)
  have H2 : HL w0 ((w.alloc (.cells #[.int .i64 0, .int .i64 0, .int .i64 0, .int .i64 0, .int .i64 0, .slice none 0 0] 36)).alloc (.cells #[.int .i64 0, .int .i64 0, .int .i64 0, .int .i64 0, .int .i64 0, .slice none 0 0] 36)) (boxE (w.alloc (.cells #[.int .i64 0, .int .i64 0, .int .i64 0, .int .i64 0, .int .i64 0, .slice none 0 0] 36)).heap.size zE (.slice none 0 0) :: boxE w.heap.size zE (.slice none 0 0) :: L) := HL.allocE H1 zE (.slice none 0 0)
  rw [World.size_alloc] at H2
  generalize hb6 : w.heap.size = b6 at *
  clear H H1
  go_enter Tryd.func53, Tryd.ntmps53
  go_upto_region 3 with (fail)
  generalize World.alloc (World.alloc _ _) _ = W at *
  have HB6 := Lib.hid hb6
  clear hb6
  obtain ⟨n0, n1, n2, n3, n4, n5⟩ := boxE_cells H2
  obtain ⟨x0, x1, x2, x3, x4, x5⟩ := boxE_cells H2.tail
  obtain ⟨y0, y1, y2, y3, y4, y5⟩ := boxE_froz H2.tail
  have HS := boxE_put (d := zE) (u := .slice none 0 0) H2.tail
  simp only [zE] at n0 n1 n2 n3 n4 HS
  go_wp2
  clear n0 n1 n2 n3 n4 n5 x0 x1 x2 x3 x4 x5 y0 y1 y2 y3 y4 y5 H2
  generalize World.setCell _ _ _ = W9 at *
  obtain ⟨n0, n1, n2, n3, n4, n5⟩ := boxE_cells (e := zE) HS
  refine bodyPost_ret (v := evV zE (.slice none 0 0)) (by simp [results, Tryd.results53, go_sem, n0, n1, n2, n3, n4, n5]; try rfl) rfl ?_
  exact ⟨rfl, HS.tail⟩
theorem readsPost_none_eq {ws : List ByteArray} (h : numsW ws = none) : ReadsPost w0 L ws = fun e w' => e = .returned (.tuple #[.slice none 0 0, .bool false]) ∧ HL w0 w' L := by
  funext e w'
  unfold ReadsPost
  rw [h]
theorem readsPost_some_eq {ws : List ByteArray} {l : List Int} (h : numsW ws = some l) : ReadsPost w0 L ws = fun e w' => ∃ u, e = .returned (.tuple #[u, .bool true]) ∧ HL w0 w' (intsR w0.heap.size u l :: L) := by
  funext e w'
  unfold ReadsPost
  rw [h]
def ReadPost (w0 : World) (L : List At) (s : ByteArray) (r : Ending) (w' : World) : Prop := ∃ u K, r = .returned (.tuple #[evV (readE s).1 u, .int .i64 (readE s).2]) ∧ Ints w0 K u (readE s).1.list ∧ HL w0 w' (K ++ L)
theorem readPost_no {s : ByteArray} (h : readE s = (zE, 90)) {w' : World} (H : HL w0 w' L) : ReadPost w0 L s (.returned (.tuple #[evV zE (.slice none 0 0), .int .i64 90])) w' := by
  refine ⟨.slice none 0 0, [], by rw [h], ?_, H⟩
  rw [h]
  exact fun W _ => rd_nil
theorem readPost_yes {s : ByteArray} {e : Ev} (h : readE s = (e, 0)) {u : Value} {K : List At} (hu : Ints w0 K u e.list) {w' : World} (H : HL w0 w' (K ++ L)) : ReadPost w0 L s (.returned (.tuple #[evV e u, .int .i64 0])) w' := by
  refine ⟨u, K, by rw [h], ?_, H⟩
  rw [h]
  exact hu
set_option maxRecDepth 100000 in
set_option maxHeartbeats 8000000 in
theorem read_ok (hD : Doors w0) (H : HL w0 w L) (s : ByteArray) (hs : s.size ≤ 1000000000) :
    Calls Tryd.prog 22 #[.string s] w (ReadPost w0 L s) := by
  have H1 : HL w0 (w.alloc (.cells #[.int .i64 0, .int .i64 0, .int .i64 0, .int .i64 0, .int .i64 0, .slice none 0 0] 36)) (boxE w.heap.size zE (.slice none 0 0) :: L) := HL.allocE H zE (.slice none 0 0)
  generalize hb2 : w.heap.size = b2 at *
  obtain ⟨-, -, -, -, m, hm⟩ := hD.keep H1
  have hsp := Tryd.strings_Split s blankS m _ (by omega) hm (by decide)
  rw [← words_length s, show Lib.splitB blankS 0 (Lib.countB s blankS) s = wordsOf s from rfl] at hsp
  have hws : ∀ x ∈ wordsOf s, x.size ≤ 140737488351232 := fun x hx => by have := split_size _ _ _ _ hx; omega
  have hwl : (wordsOf s).length ≤ 1000000001 := by
    have : Lib.countB s blankS ≤ s.size := Lib.countB_le blankS (by decide) _ _ (Nat.le_refl _)
    rw [words_length]; omega
  have hpos : 0 < (wordsOf s).length := by rw [words_length]; omega
  have hre : readE s = match candW (wordsOf s) with | none => (zE, 90) | some e => if right e = true ∧ evS e = s then (e, 0) else (zE, 90) := rfl
  have HRE := Lib.hid hre
  clear hre
  generalize wordsOf s = W at *
  have H2 := (H1.alloc (.cells (W.map Value.string).toArray 9)).rowOf (k := 1) (n := W.length) (cs := strC W) (by simp) (by unfold maxLen; omega)
  rw [World.size_alloc, hb2] at H2
  obtain ⟨la, hla⟩ : ∃ la, W.length = la + 1 := ⟨W.length - 1, by omega⟩
  rw [hla] at hsp H2 hwl
  have HWS := Lib.hid hws; have HLA := Lib.hid hla
  obtain ⟨s0, hs0⟩ : ∃ s, W[0]? = some s := ⟨_, List.getElem?_eq_getElem hpos⟩
  obtain ⟨sl, hsl⟩ : ∃ s, W[la]? = some s := ⟨_, List.getElem?_eq_getElem (by omega)⟩
  have hhead : W.headD ⟨#[]⟩ = s0 := by cases W with
    | nil => simp at hs0
    | cons x r => simpa using hs0
  have hlastd : W.getLastD ⟨#[]⟩ = sl := by
    rw [List.getLastD_eq_getLast?, List.getLast?_eq_getElem?, hla, Nat.add_sub_cancel, hsl]
    rfl
  have H3 : HL w0 ((w.alloc (.cells #[.int .i64 0, .int .i64 0, .int .i64 0, .int .i64 0, .int .i64 0, .slice none 0 0] 36)).alloc (.cells (W.map Value.string).toArray 9)) (strs w0.heap.size (.slice (some ⟨b2 + 1, 0, none⟩) W.length W.length) W :: boxE b2 zE (.slice none 0 0) :: L) := by rw [hla]; unfold strs; rw [hla]; exact H2
  have e0 := H3.rowCell (E := 9) (k := 1) (List.mem_cons_self ..) 0 (.string s0) (by rw [List.getElem?_map, hs0]; rfl)
  have el := H3.rowCell (E := 9) (k := 1) (List.mem_cons_self ..) la (.string sl) (by rw [List.getElem?_map, hsl]; rfl)
  have hst := fun W => stateOf_ok sl W
  have hcut : cutEnd W = if s0 = endW then (W.take la, stN sl) else (W, 0) := by unfold cutEnd; rw [hhead, hlastd, hla, Nat.add_sub_cancel]
  have hWr := fun W' HW => entRow (w0 := w0) (L := boxE b2 zE (.slice none 0 0) :: L) (base := w0.heap.size) (k := 1) (E := 9) (n := W.length) (v := .slice (some ⟨b2 + 1, 0, none⟩) W.length W.length) (cs := strC W) W' HW
  rw [hla] at hWr
  obtain ⟨W1, ended, hce⟩ : ∃ W1 ended, cutEnd W = (W1, ended) := ⟨_, _, rfl⟩
  rw [hce] at hcut
  have hcand : candW W = match numsW (W1.drop 1) with | none => none | some n => some (evOf W1 n ended) := by unfold candW; rw [hce]
  have HC := Lib.hid hcut; have HCA := Lib.hid hcand; have HWR := Lib.hid hWr
  have hqt : s0 = endW → (s0.toList == [101, 110, 100]) = true := fun g => by rw [g]; decide +kernel
  have hqf : s0 ≠ endW → (s0.toList == [101, 110, 100]) = false := fun g => by rw [beq_eq_false_iff_ne]; exact fun e => g (bytesSame (e.trans (by decide +kernel)))
  obtain ⟨B, hB⟩ : ∃ B, (s0.toList == [101, 110, 100]) = B := ⟨_, rfl⟩
  rw [hB] at hqt hqf
  have HQT := Lib.hid hqt; have HQF := Lib.hid hqf
  clear hqt hqf hws hm H hla hs0 hsl hhead hlastd H2 hcut hpos hWr hce hcand H1
  go_enter Tryd.func22, Tryd.ntmps22
  go_upto_if 20 with (go_at_call 27; refine hsp.mono ?_; rintro e w2 ⟨rfl, rfl⟩)
  have HB2 := Lib.hid hb2; have HBB := Lib.hid hB
  clear hb2 hsp hB
  rw [show (W.map Value.string) = strC W from rfl] at *
  generalize World.alloc (World.alloc _ _) _ = W2 at *
  go_cut [4, 6] (fun t4 t6 wc => t4 = .slice (some ⟨b2 + 1, 0, none⟩) W1.length (la + 1) ∧ t6 = .int .i64 ended ∧ W2 = wc)
  case first =>
    by_cases g : s0 = endW
    · have h := HC.out
      rw [if_pos g] at h
      simp only [Prod.mk.injEq] at h
      obtain ⟨rfl, rfl⟩ := h
      obtain rfl := HQT.out g
      have hl : (W.take la).length = la := by rw [List.length_take, HLA.out]; omega
      have HL1 := Lib.hid hl; have HG := Lib.hid g
      clear hl g
      go_wp2_with (go_at_call 51; refine (hst _).mono ?_; rintro r w3 ⟨rfl, rfl⟩)
      go_meet
      exact ⟨by rw [HL1.out], rfl, rfl⟩
    · have h := HC.out
      rw [if_neg g] at h
      simp only [Prod.mk.injEq] at h
      obtain ⟨rfl, rfl⟩ := h
      obtain rfl := HQF.out g
      have HL1 := Lib.hid HLA.out
      clear g
      go_wp2
      go_meet
      exact ⟨by rw [HL1.out], rfl, rfl⟩
  case rest =>
    obtain ⟨rfl, rfl, rfl⟩ := hcut
    have hW1 : W1 = W.take W1.length ∧ W1.length ≤ la + 1 := by
      have h := HC.out
      have hl := HLA.out
      split at h
      · simp only [Prod.mk.injEq] at h
        rw [h.1, List.length_take, hl]
        exact ⟨by congr 1; omega, by omega⟩
      · simp only [Prod.mk.injEq] at h
        rw [h.1, hl]
        exact ⟨by rw [← hl, List.take_length], by omega⟩
    have hR1 : ∀ W' L', HL w0 W' (strs w0.heap.size (.slice (some ⟨b2 + 1, 0, none⟩) (la + 1) (la + 1)) W :: L') → Rd 1 (.slice (some ⟨b2 + 1, 0, none⟩) W1.length (la + 1)) W1.length (strC W1) W' := fun W' L' HW => by
      have h1 : Rd 1 (.slice (some ⟨b2 + 1, 0, none⟩) (la + 1) (la + 1)) (la + 1) (strC W) W' := by have := entRow W' HW; rwa [HLA.out] at this
      have h2 := rd_prefix h1 W1.length hW1.2
      rw [Nat.mul_one] at h2
      rwa [strC, ← List.map_take, ← hW1.1] at h2
    have HR1 := Lib.hid hR1
    rw [HLA.out] at H3
    clear hR1 hst e0 el
    rcases Nat.eq_zero_or_pos W1.length with h0 | h0
    · obtain rfl : W1 = [] := List.eq_nil_of_length_eq_zero h0
      have hrd := reads_any hD H3 (v := .slice (some ⟨b2 + 1, 0, none⟩) 0 (la + 1)) (ws := []) (fun W' HW => by have := HR1.out W' _ HW; simpa using this) (fun s hs => by simp at hs) (by simp)
      rw [readsPost_some_eq (l := []) rfl] at hrd
      have hbad : readE s = (zE, 90) := by rw [HRE.out, HCA.out]; simp [numsW, evOf, right_zero]
      have HBAD := Lib.hid hbad
      have hmin0 : min (1 : Int) 0 = 0 := by decide
      have hez : evS zE = ⟨#[]⟩ := by decide +kernel
      have henz : evN zE = 90 := by decide +kernel
      clear h0 hW1 hbad
      try simp only [List.length_nil]
      go_upto_region 11 with (first
        | (go_at_call 52; refine hrd.mono ?_; rintro r w3 ⟨u, rfl, H4⟩; clear hrd H3)
        | (go_at_call 53; refine (of_nil (n := []) H4 _ _ _).mono ?_; rintro r w5 ⟨rfl, H5⟩; clear H4; simp only [evV, zE]))
      have H6 : HL w0 (w5.alloc (.cells #[.int .i64 0, .int .i64 0, .int .i64 0, .int .i64 0, .int .i64 0, .slice none 0 0] 36)) (boxE w5.heap.size zE (.slice none 0 0) :: _) := HL.allocE H5 zE (.slice none 0 0)
      have hev := event_ok hD H6 zE (fun W' _ => rd_nil) evOk_zero
      rw [hez, henz] at hev
      simp only [evV, zE] at hev
      obtain ⟨n0, n1, n2, n3, n4, n5⟩ := boxE_cells H6
      simp only [zE] at n0 n1 n2 n3 n4
      have Hez := Lib.hid hez; have Henz := Lib.hid henz
      clear H5 hez henz
      go_upto_region 12 with (go_at_call 20; refine hev.mono ?_; rintro r w7 ⟨rfl, H7⟩; clear hev H6 n0 n1 n2 n3 n4 n5)
      have H8 := H7.sel 4 [3]
      obtain ⟨x0, x1, x2, x3, x4, x5⟩ := boxE_cells H8
      obtain ⟨y0, y1, y2, y3, y4, y5⟩ := boxE_froz H8
      have HS := boxE_put (d := zE) (u := .slice none 0 0) H8
      simp only [zE] at HS
      go_wp2
      clear x0 x1 x2 x3 x4 x5 y0 y1 y2 y3 y4 y5
      generalize World.setCell _ _ _ = W9 at *
      obtain ⟨x0, x1, x2, x3, x4, x5⟩ := boxE_cells (e := zE) HS
      refine bodyPost_ret (v := .tuple #[evV zE (.slice none 0 0), .int .i64 90]) (by simp [results, Tryd.results22, go_sem, x0, x1, x2, x3, x4, x5]; try rfl) rfl ?_
      exact readPost_no HBAD.out HS.tail
    · obtain ⟨l1, hl1⟩ : ∃ l1, W1.length = l1 + 1 := ⟨W1.length - 1, by omega⟩
      rw [hl1]
      have HL1 := Lib.hid hl1
      have hle1 : l1 ≤ la := by omega
      have hmin : min (1 : Int) ((l1 : Int) + 1) = 1 := by omega
      obtain ⟨A', hA'⟩ : ∃ A', (if la = 0 then some (⟨b2 + 1, 0, none⟩ : Addr) else some ⟨b2 + 1, 1, none⟩) = A' := ⟨_, rfl⟩
      have hwd : (W1.drop 1).length = l1 := by rw [List.length_drop, hl1]; rfl
      have hRs : Strs w0 (strs w0.heap.size (.slice (some ⟨b2 + 1, 0, none⟩) (la + 1) (la + 1)) W :: boxE b2 zE (.slice none 0 0) :: L) (.slice A' l1 la) (W1.drop 1) := fun W' HW => by
        have h1 := HR1.out W' _ HW
        rw [hl1] at h1
        rw [hwd, strC, List.map_drop, ← hA']
        by_cases hz : la = 0
        · rw [if_pos hz]
          have := rd_suffix h1 1 (by omega) (a' := ⟨b2 + 1, 0, none⟩) (.inr (by omega))
          simpa using this
        · rw [if_neg hz]
          have := rd_suffix h1 1 (by omega) (a' := ⟨b2 + 1, 1, none⟩) (.inl (by rw [add_plain]))
          simpa using this
      have hVW : ∀ W' L', HL w0 W' (strs w0.heap.size (.slice (some ⟨b2 + 1, 0, none⟩) (la + 1) (la + 1)) W :: L') → Rd 1 (.slice (some ⟨b2 + 1, 0, none⟩) (l1 + 1) (la + 1)) W1.length (strC W1) W' := fun W' L' HW => by
        have := HR1.out W' L' HW
        rw [show Value.slice (some ⟨b2 + 1, 0, none⟩) W1.length (la + 1) = .slice (some ⟨b2 + 1, 0, none⟩) (l1 + 1) (la + 1) from by rw [hl1]] at this
        exact this
      have hrd := reads_any hD H3 hRs (fun x hx => HWS.out x (by rw [hW1.1] at hx; exact List.mem_of_mem_take (List.mem_of_mem_drop hx))) (by rw [hwd]; omega)
      have HVW := Lib.hid hVW; have HWD := Lib.hid hwd
      clear hl1 h0 hW1 hwd hRs hVW
      cases hnw : numsW (W1.drop 1) with
      | none =>
        rw [readsPost_none_eq hnw] at hrd
        have hbad : readE s = (zE, 90) := by rw [HRE.out, HCA.out, hnw]
        have HBAD := Lib.hid hbad
        clear hbad hnw
        go_upto_region 8 with (go_at_call 52; refine hrd.mono ?_; rintro r w3 ⟨rfl, H4⟩; clear hrd H3)
        have H8 := H4.tail
        obtain ⟨x0, x1, x2, x3, x4, x5⟩ := boxE_cells H8
        obtain ⟨y0, y1, y2, y3, y4, y5⟩ := boxE_froz H8
        have HS := boxE_put (d := zE) (u := .slice none 0 0) H8
        simp only [zE] at HS
        go_wp2
        clear x0 x1 x2 x3 x4 x5 y0 y1 y2 y3 y4 y5
        generalize World.setCell _ _ _ = W9 at *
        obtain ⟨x0, x1, x2, x3, x4, x5⟩ := boxE_cells (e := zE) HS
        refine bodyPost_ret (v := .tuple #[evV zE (.slice none 0 0), .int .i64 90]) (by simp [results, Tryd.results22, go_sem, x0, x1, x2, x3, x4, x5]; try rfl) rfl ?_
        exact readPost_no HBAD.out HS.tail
      | some n =>
        rw [readsPost_some_eq hnw] at hrd
        have hfit := numsW_fits _ _ hnw
        have hnl := numsW_len _ _ hnw
        rw [HWD.out] at hnl
        have hce : candW W = some (evOf W1 n ended) := by rw [HCA.out, hnw]
        have hend : 0 ≤ ended ∧ ended ≤ 6 := by
          have h := HC.out
          split at h
          · simp only [Prod.mk.injEq] at h; rw [h.2]; exact stN_bounds _
          · simp only [Prod.mk.injEq] at h; rw [h.2]; exact ⟨by decide, by decide⟩
        have hok : EvOk (evOf W1 n ended) := evOk_of hfit (by omega) hend.1 hend.2
        have HNL := Lib.hid hnl; have HCE := Lib.hid hce
        clear hnw hfit hnl hce hend
        go_upto_region 10 with (go_at_call 52; refine hrd.mono ?_; rintro r w3 ⟨u, rfl, H4⟩; clear hrd H3)
        obtain ⟨AN, cN, hun, -, -⟩ := rd_shape (entRow _ H4)
        have hof := of_ok H4 (vN := u) (vW := .slice (some ⟨b2 + 1, 0, none⟩) (l1 + 1) (la + 1)) (ws := W1) (n := n) (fun W' HW => HVW.out W' _ HW.tail) entRow ended (by rw [HL1.out]; omega)
        have hKu : Ints w0 [intsR w0.heap.size u n] u n := entRow
        have HKU := Lib.hid hKu
        clear hKu hun
        generalize evOf W1 n ended = e at *
        go_upto_region 11 with (go_at_call 53; refine hof.mono ?_; rintro r w5 ⟨u2, rfl, hu2, H5⟩; obtain ⟨A2, c2, rfl, -, -⟩ := rd_shape (hu2 _ entRow _ H5); clear hof H4; simp only [evV])
        have H6 := HL.allocE H5 e (.slice A2 e.list.length c2)
        have hI2 := hu2 _ (fun W' (HW : HL w0 W' (boxE w5.heap.size e (.slice A2 e.list.length c2) :: intsR w0.heap.size u n :: strs w0.heap.size (.slice (some ⟨b2 + 1, 0, none⟩) (la + 1) (la + 1)) W :: boxE b2 zE (.slice none 0 0) :: L)) => entRow W' HW.tail)
        have hev := event_ok hD H6 e hI2 hok
        obtain ⟨n0, n1, n2, n3, n4, n5⟩ := boxE_cells H6
        have HI := Lib.hid (hu2 _ HKU.out)
        have hread : readE s = if right e = true ∧ evS e = s then (e, 0) else (zE, 90) := by rw [HRE.out, HCE.out]
        have HRD := Lib.hid hread
        clear H5 hu2 hI2 hread
        unfold evV at hev
        go_upto_region 12 with (go_at_call 20; refine hev.mono ?_; rintro r w7 ⟨rfl, H7⟩; clear hev H6 n0 n1 n2 n3 n4 n5)
        cases hrt : right e with
        | false =>
          have hn90 : evN e = 90 := by unfold evN; rw [hrt]; rfl
          have HBAD := Lib.hid (show readE s = (zE, 90) by rw [HRD.out, hrt]; simp)
          rw [hn90]
          have H8 := H7.sel 4 [3]
          have HN := Lib.hid hn90
          clear hrt hn90
          obtain ⟨x0, x1, x2, x3, x4, x5⟩ := boxE_cells H8
          obtain ⟨y0, y1, y2, y3, y4, y5⟩ := boxE_froz H8
          have HS := boxE_put (d := zE) (u := .slice none 0 0) H8
          simp only [zE] at HS
          go_wp2
          clear x0 x1 x2 x3 x4 x5 y0 y1 y2 y3 y4 y5
          generalize World.setCell _ _ _ = W9 at *
          obtain ⟨x0, x1, x2, x3, x4, x5⟩ := boxE_cells (e := zE) HS
          refine bodyPost_ret (v := .tuple #[evV zE (.slice none 0 0), .int .i64 90]) (by simp [results, Tryd.results22, go_sem, x0, x1, x2, x3, x4, x5]; try rfl) rfl ?_
          exact readPost_no HBAD.out HS.tail
        | true =>
          have hn0 : evN e = 0 := by unfold evN; rw [hrt]; rfl
          rw [hn0]
          have HN := Lib.hid hn0
          clear hn0
          by_cases hes : evS e = s
          · have HGOOD := Lib.hid (show readE s = (e, 0) by rw [HRD.out, hrt, hes]; simp)
            rw [hes]
            have hq : (s.toList == s.toList) = true := beq_self_eq_true _
            have HE := Lib.hid hes
            have H9 := H7.sel 4 [3, 1]
            obtain ⟨n0, n1, n2, n3, n4, n5⟩ := boxE_cells H7
            obtain ⟨x0, x1, x2, x3, x4, x5⟩ := boxE_cells H9
            obtain ⟨y0, y1, y2, y3, y4, y5⟩ := boxE_froz H9
            have HS := boxE_put (d := e) (u := .slice A2 e.list.length c2) H9
            clear hrt hes H7
            go_wp2
            clear n0 n1 n2 n3 n4 n5 x0 x1 x2 x3 x4 x5 y0 y1 y2 y3 y4 y5 H9
            generalize World.setCell _ _ _ = W9 at *
            obtain ⟨x0, x1, x2, x3, x4, x5⟩ := boxE_cells HS
            refine bodyPost_ret (v := .tuple #[evV e (.slice A2 e.list.length c2), .int .i64 0]) (by simp [results, Tryd.results22, go_sem, x0, x1, x2, x3, x4, x5]; try rfl) rfl ?_
            exact readPost_yes HGOOD.out HI.out HS.tail
          · have HBAD := Lib.hid (show readE s = (zE, 90) by rw [HRD.out, hrt]; simp [hes])
            have hq : ((evS e).toList == s.toList) = false := by rw [beq_eq_false_iff_ne]; exact fun h => hes (bytesSame h)
            have H8 := H7.sel 4 [3]
            clear hrt hes
            generalize evS e = st at *
            obtain ⟨x0, x1, x2, x3, x4, x5⟩ := boxE_cells H8
            obtain ⟨y0, y1, y2, y3, y4, y5⟩ := boxE_froz H8
            have HS := boxE_put (d := zE) (u := .slice none 0 0) H8
            simp only [zE] at HS
            go_wp2
            clear x0 x1 x2 x3 x4 x5 y0 y1 y2 y3 y4 y5
            generalize World.setCell _ _ _ = W9 at *
            obtain ⟨x0, x1, x2, x3, x4, x5⟩ := boxE_cells (e := zE) HS
            refine bodyPost_ret (v := .tuple #[evV zE (.slice none 0 0), .int .i64 90]) (by simp [results, Tryd.results22, go_sem, x0, x1, x2, x3, x4, x5]; try rfl) rfl ?_
            exact readPost_no HBAD.out HS.tail
end
end Go.Proofs.YtdekbbffoaphhaaDoor

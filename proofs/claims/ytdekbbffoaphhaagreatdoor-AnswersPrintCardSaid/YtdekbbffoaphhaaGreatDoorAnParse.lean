/- A text read as an answer (answers.Parse). -/
import Derived.Test.YtdekbbffoaphhaaGreatDoorAnZipB
import Derived.Test.YtdekbbffoaphhaaGreatDoorAnZip
import Derived.Test.YtdekbbffoaphhaaGreatDoorAnPkB
import Derived.Test.YtdekbbffoaphhaaGreatDoorAnHeadC
import Derived.Test.YtdekbbffoaphhaaGreatDoorAnPkH
import Derived.Test.YtdekbbffoaphhaaGreatDoorAnPrint
import Derived.Test.YtdekbbffoaphhaaGreatDoorAnPkA
import Derived.Test.YtdekbbffoaphhaaGreatDoorAnFmt
set_option linter.unusedVariables false
set_option linter.unusedSimpArgs false
set_option maxRecDepth 100000
set_option maxHeartbeats 8000000
namespace Go.Proofs.HL
open Go.RowKit
theorem HL.left {w0 w : World} {K M : List At} (h : HL w0 w (K ++ M)) : HL w0 w K := ⟨h.below, fun A hA => h.all A (List.mem_append_left _ hA), (List.pairwise_append.1 h.sep).1⟩
theorem Ent.left {w0 : World} {K M : List At} {P : World → Prop} (h : Ent w0 K P) : Ent w0 (K ++ M) P := fun w H => h w H.left
theorem Ent.right {w0 : World} {K M : List At} {P : World → Prop} (h : Ent w0 M P) : Ent w0 (K ++ M) P := fun w H => h w H.drops
theorem perm_two {α : Type} (x y : α) (K V M : List α) : (K ++ (x :: y :: (V ++ M))).Perm (x :: y :: ((K ++ V) ++ M)) := by
 rw [List.append_assoc]
 exact (List.perm_middle).trans ((List.Perm.cons x (List.perm_middle)))
theorem HL.dropMid {w0 w : World} {A : At} {X Y : List At} (h : HL w0 w (X ++ A :: Y)) : HL w0 w (X ++ Y) := (h.perm List.perm_middle).tail
theorem results_two {P : Program} {fn : Func} {p q : Tmp} {ty : TypeId} (h : fn.results = #[.cell p ty, .tmp q]) (tmps : Array Value) (w : World) (g : Nat) (t : TypeId) (cs : Array Value) (fr : Nat × Nat) (d : TypeDesc) (v : Value)
  (hp : tmps.getD p undef = .pointer (some ⟨g, 0, none⟩)) (hq : tmps.getD q undef = v) (hg : w.heap[g]? = some (.cells cs t fr))
  (hu : P.underlying ty = some d) (hd : (match d with | .struct _ | .array _ _ => true | _ => false) = true) (hi : (P.info? ty).map (·.size) = some cs.size) :
  (results fn tmps).run P w = .ok (.tuple #[.agg cs, v]) w := by
 have hp' : tmps[p]?.getD undef = .pointer (some ⟨g, 0, none⟩) := by simpa using hp
 have hq' : tmps[q]?.getD undef = v := by simpa using hq
 simp [results, h, hp', hq', asAddr, run_loadVar_row w g t ty cs fr d hg hu hd hi]
end Go.Proofs.HL
namespace Go.Proofs.YtdekbbffoaphhaaGreatDoor
open Go.RowKit Go.Proofs.HL Go.Proofs.An
section
variable {w0 w : World} {L : List At}
theorem sliceE : SliceOf Tryz.prog 23 46 6 64 := sliceOf (z := .agg #[.int .i64 0, .int .i64 0, .int .i64 0, .int .i64 0, .int .i64 0, .slice none 0 0]) Tryz.underlying23 (by kernel_rfl) rfl (by decide)
theorem sliceR : SliceOf Tryz.prog 27 62 2 16 := sliceOf (z := .agg #[.int .i64 0, .int .i64 0]) Tryz.underlying27 (by kernel_rfl) rfl (by decide)
theorem split_ok (hD : Doors w0) (H : HL w0 w L) (s : ByteArray) (hs : s.size ≤ 1000000000) :
  Calls Tryz.prog 40 #[.string s, .string ⟨#[32]⟩] w fun e w' => ∃ b s0 wr, wordsOf s = s0 :: wr ∧ e = .returned (.slice (some ⟨b, 0, none⟩) (wr.length + 1) (wr.length + 1)) ∧ HL w0 w' (strs w0.heap.size (.slice (some ⟨b, 0, none⟩) (wr.length + 1) (wr.length + 1)) (s0 :: wr) :: L) := by
 obtain ⟨-, -, -, -, m, hm⟩ := hD.keep H
 have hsp := Tryz.strings_Split s blankS m _ (by omega) hm (by decide)
 rw [← words_length s, show Lib.splitB blankS 0 (Lib.countB s blankS) s = wordsOf s from rfl] at hsp
 have hle : (wordsOf s).length ≤ s.size + 1 := by rw [wordsOf_eq]; exact wordsC_most 32 s
 refine Calls.mono hsp ?_
 rintro e w' ⟨rfl, rfl⟩
 have hne : (wordsOf s).length ≠ 0 := by rw [words_length]; omega
 have H2 := (H.alloc (.cells ((wordsOf s).map Value.string).toArray 9)).rowOf (k := 1) (n := (wordsOf s).length) (cs := strC (wordsOf s)) (by simp) (by unfold maxLen; omega)
 cases hw : wordsOf s with
 | nil => rw [hw] at hne; exact absurd rfl hne
 | cons s0 wr =>
  rw [hw] at H2
  exact ⟨w.heap.size, s0, wr, rfl, rfl, H2⟩
theorem words_size {s s0 : ByteArray} {wr : List ByteArray} (h : wordsOf s = s0 :: wr) : (∀ x ∈ s0 :: wr, x.size ≤ s.size) ∧ wr.length ≤ s.size := by
 rw [wordsOf_eq] at h
 have h1 := wordsC_size 32 s
 have h2 := wordsC_most 32 s
 rw [h] at h1 h2
 exact ⟨h1, by simp at h2; exact h2⟩
/-- Where the lists of an answer read lie: in rows of K. -/
structure Wrs (base : Nat) (K : List At) (ve vs vr : Value) (ps : List (Ev × Value)) : Prop where
 ev : ve = .slice none 0 0 ∨ row base 46 6 ve ps.length (ps.flatMap evC2) ∈ K
 own : ∀ p ∈ ps, Lies base K p.2
 set : Lies base K vs
 rk : vr = .slice none 0 0 ∨ ∃ rs : List Rk, row base 62 2 vr rs.length (rs.flatMap rkC) ∈ K
theorem Lies.mono {base : Nat} {K M : List At} {u : Value} (h : Lies base K u) (hs : ∀ A ∈ K, A ∈ M) : Lies base M u := h.imp id fun ⟨v, xs, h1, h2⟩ => ⟨v, xs, hs _ h1, h2⟩
def ParsePost2 (w0 : World) (L : List At) (r : Ans) (code : Int) (e : Ending) (w' : World) : Prop := ∃ (K : List At) (Ae As Ar : Option Addr) (ce cs cr : Nat) (ps : List (Ev × Value)),
 e = .returned (.tuple #[ansV r (.slice Ae r.events.length ce) (.slice As r.job.set.length cs) (.slice Ar r.ranks.length cr), .int .i64 code]) ∧ r.events = ps.map (·.1) ∧ Evs w0 K (.slice Ae r.events.length ce) ps ∧ Ints w0 K (.slice As r.job.set.length cs) r.job.set ∧ Rks w0 K (.slice Ar r.ranks.length cr) r.ranks ∧ Wrs w0.heap.size K (.slice Ae r.events.length ce) (.slice As r.job.set.length cs) (.slice Ar r.ranks.length cr) ps ∧ HL w0 w' (K ++ L)
theorem Evs.left {v : Value} {ps : List (Ev × Value)} {K M : List At} (h : Evs w0 K v ps) : Evs w0 (K ++ M) v ps := ⟨Ent.left h.rd, fun p hp => Ent.left (h.own p hp)⟩
theorem parsePost2_no {w' : World} (H : HL w0 w' L) : ParsePost2 w0 L zA 90 (.returned (.tuple #[ansV zA (.slice none 0 0) (.slice none 0 0) (.slice none 0 0), .int .i64 90])) w' :=
 ⟨[], none, none, none, 0, 0, 0, [], rfl, rfl, ⟨fun W _ => rd_nil, fun p hp => by simp at hp⟩, fun W _ => rd_nil, fun W _ => rd_nil, ⟨.inl rfl, fun p hp => by simp at hp, .inl rfl, .inl rfl⟩, H⟩
abbrev evRow (base : Nat) (v : Value) (ps : List (Ev × Value)) : At := row base 46 6 v ps.length (ps.flatMap evC2)
abbrev rkRow (base : Nat) (v : Value) (rs : List Rk) : At := row base 62 2 v rs.length (rs.flatMap rkC)
theorem parse_none (hD : Doors w0) (H : HL w0 w L) (k : Int) (t : ByteArray) (ht : t.size ≤ 1000000000) (hlb : linesB t = false) :
  Calls Tryz.prog 13 #[.int .i64 k, .string t] w (ParsePost2 w0 L (parseA k t).1 (parseA k t).2) := by
 have hx : parseA k t = (zA, 90) := by unfold parseA; rw [hlb]; simp
 rw [hx]
 have H1 := HL.bzA H
 have hln := lines_ok H1 t ht
 rw [hlb] at hln
 generalize hb4 : w.heap.size = b4 at *
 clear H hx
 go_enter Tryz.func13, Tryz.ntmps13
 go_upto_region 3 with (go_at_call 38; refine hln.mono ?_; rintro e w2 ⟨lv, rfl, H2⟩; clear hln H1)
 have HB4 := Lib.hid hb4
 clear hb4
 have G3 : _ = some (Obj.cells _ 32 (0, 0)) := H2.tail.head
 have HS := HL.setWhole (cells := ansA zA (.slice none 0 0) (.slice none 0 0) (.slice none 0 0)) H2.tail
 go_wp2_with (refine wpList_store_row rfl 32 _ _ rfl b4 (ansA zA (.slice none 0 0) (.slice none 0 0) (.slice none 0 0)) rfl rfl 32 _ G3 (ansA_size _ _ _ _) rfl (ansA_one _ _ _ _ _ _ _ _ _ _) ?_)
 have G5 := HS.head
 refine bodyPost_ret (results_two (by rfl) _ _ b4 32 _ (0, 0) _ _ (by rfl) (by rfl) G5 Tryz.underlying32 rfl (ansA_size _ _ _ _)) rfl ?_
 exact parsePost2_no HS.tail
/-- What the lines behind the first have made of the answer in the box. -/
def CutPost (w0 : World) (L : List At) (b4 b8 : Nat) (c : Ans) (wc : World) : Prop := ∃ (K : List At) (Ae As Ar : Option Addr) (ce cs cr : Nat) (ps : List (Ev × Value)),
 c.events = ps.map (·.1) ∧ Evs w0 K (.slice Ae c.events.length ce) ps ∧ Ints w0 K (.slice As c.job.set.length cs) c.job.set ∧ Rks w0 K (.slice Ar c.ranks.length cr) c.ranks ∧ Wrs w0.heap.size K (.slice Ae c.events.length ce) (.slice none 0 0) (.slice Ar c.ranks.length cr) ps ∧
  HL w0 wc (boxA b8 c (.slice Ae c.events.length ce) (.slice As c.job.set.length cs) (.slice Ar c.ranks.length cr) :: (K ++ bxz b4 :: L))
theorem parse_some (hD : Doors w0) (H : HL w0 w L) (k : Int) (t : ByteArray) (ht : t.size ≤ 1000000000) (hlb : linesB t = true) :
  Calls Tryz.prog 13 #[.int .i64 k, .string t] w (ParsePost2 w0 L (parseA k t).1 (parseA k t).2) := by
 have H1 := HL.bzA H
 have hln := lines_ok H1 t ht
 rw [hlb] at hln
 have hlm : (linesW t).length ≤ t.size + 1 := by have := lines_sum t; omega
 have hlz := lines_size t
 obtain ⟨l0, lr, hls⟩ : ∃ l0 lr, linesW t = l0 :: lr := by
  cases h : linesW t with
  | nil => unfold linesB at hlb; rw [h] at hlb; simp at hlb
  | cons a r => exact ⟨a, r, rfl⟩
 have hcand : candA k t = { headA k (wordsOf l0) with events := evsOf k lr, ranks := rksOf k lr } := by unfold candA; rw [hls]; rfl
 rw [hls] at hln hlm hlz
 have hrl : lr.length ≤ 1000000000 := by simp at hlm; omega
 have hz0 : l0.size ≤ 1000000000 := by have := hlz l0 (by simp); omega
 have hzr : ∀ s ∈ lr, s.size ≤ 1000000000 := fun s hs => by have := hlz s (by simp [hs]); omega
 have HC := Lib.hid hcand; have HLB := Lib.hid hlb; have HZR := Lib.hid hzr
 generalize hb4 : w.heap.size = b4 at *
 clear H hlb hls hcand hlm hlz hzr
 go_enter Tryz.func13, Tryz.ntmps13
 go_upto_region 4 with (go_at_call 38; refine hln.mono ?_; rintro e w2 ⟨lv, rfl, H2⟩; clear hln H1)
 have HB4 := Lib.hid hb4
 clear hb4
 obtain ⟨bl, cl, rfl, hcl1, hcl2⟩ : ∃ bl cl, lv = .slice (some ⟨bl, 0, none⟩) (lr.length + 1) cl ∧ lr.length + 1 ≤ cl ∧ cl ≤ 9223372036854775807 := by
  have h : w2.ownsRow w0.heap.size 9 1 lv (lr.length + 1) (strC (l0 :: lr)) := H2.head
  rcases h.2 with ⟨rfl, e⟩ | ⟨g, cap, cur, rfl, h1, h2, h3, h4, -⟩
  ·omega
  ·unfold maxLen at h4
   exact ⟨g, cap, rfl, h3, by omega⟩
 have e0 : w2.cell? ⟨bl, 0, none⟩ = some (.string l0) := H2.rowCell (E := 9) (k := 1) (xs := strC (l0 :: lr)) (List.mem_cons_self ..) 0 _ rfl
 have hsp := split_ok hD H2 l0 hz0
 obtain ⟨A', hA'⟩ : ∃ A', (if cl = 1 then some (⟨bl, 0, none⟩ : Addr) else some ⟨bl, 1, none⟩) = A' := ⟨_, rfl⟩
 go_upto_block 0 with (first
  | (go_at_call 40; refine hsp.mono ?_; rintro e w3 ⟨bw, s0, wr, hw, rfl, H3⟩; clear hsp e0; have hws := words_size hw; have hhd := head_ok hD k H3 (fun s hs => by have := hws.1 s hs; omega) (by omega))
  | (go_at_call 39; refine hhd.mono ?_; rintro e w4 ⟨Kh, As, cs, rfl, hI, H4⟩; clear hhd H3; have H5 := HL.bzA H4; have G5 : _ = some (Obj.cells _ 32 (0, 0)) := H5.head; have H6 : HL w0 _ (boxA w4.heap.size (headA k (s0 :: wr)) (.slice none 0 0) (.slice As (headA k (s0 :: wr)).job.set.length cs) (.slice none 0 0) :: _) := HL.setWhole (cells := ansA (headA k (s0 :: wr)) (.slice none 0 0) (.slice As (headA k (s0 :: wr)).job.set.length cs) (.slice none 0 0)) H5)
  | (refine wpList_store_row rfl 32 _ _ rfl w4.heap.size (ansA (headA k (s0 :: wr)) (.slice none 0 0) (.slice As (headA k (s0 :: wr)).job.set.length cs) (.slice none 0 0)) rfl rfl 32 _ G5 (ansA_size _ _ _ _) rfl (ansA_one _ _ _ _ _ _ _ _ _ _) ?_; clear G5 H5 H4))
 rw [hw] at HC
 generalize World.setRow _ _ _ = W6 at *
 generalize w4.heap.size = b8 at *
 obtain ⟨hd, hhd⟩ : ∃ hd, headA k (s0 :: wr) = hd := ⟨_, rfl⟩
 rw [hhd] at HC hI H6
 have HHD := Lib.hid hhd
 clear hhd hw hws
 go_cut [] (fun wc => CutPost w0 L b4 b8 (candA k t) wc)
 case first =>
  have hha := fun W => has_ok k W
  cases hh : hasB k with
  | true =>
   have hev : evsOf k lr = lr.map (fun s => (readE s).1) := by unfold evsOf; rw [hh]; rfl
   have hrk : rksOf k lr = [] := by unfold rksOf; rw [hh]; rfl
   have hcd : candA k t = { hd with events := lr.map (fun s => (readE s).1), ranks := [] } := by rw [HC.out, hev, hrk]
   rw [hh] at hha
   have HCD := Lib.hid hcd
   have H7 : HL w0 W6 (boxA b8 hd (.slice none 0 0) (.slice As hd.job.set.length cs) (.slice none 0 0) :: evRow w0.heap.size (.slice none 0 0) [] :: ([] ++ (Kh ++ (strs w0.heap.size (.slice (some ⟨bl, 0, none⟩) (lr.length + 1) cl) (l0 :: lr) :: bxz b4 :: L)))) := (H6.nilRow w0.heap.size 46 6).swap
   clear hev hrk hcd H6 hh
   go_wp2
   go_loopg [34] lr.length (fun g i wr => ∃ (n : Nat) (ps : List (Ev × Value)) (ve : Value) (Kv : List At), i = .int .i64 n ∧ n + g = lr.length ∧ ps.map (·.1) = (lr.take n).map (fun s => (readE s).1) ∧ (∀ p ∈ ps, Ints w0 Kv p.2 p.1.list) ∧ (∀ p ∈ ps, Lies w0.heap.size Kv p.2) ∧ HL w0 wr (boxA b8 hd ve (.slice As hd.job.set.length cs) (.slice none 0 0) :: evRow w0.heap.size ve ps :: (Kv ++ (Kh ++ (strs w0.heap.size (.slice (some ⟨bl, 0, none⟩) (lr.length + 1) cl) (l0 :: lr) :: bxz b4 :: L)))))
   case atStart => exact ⟨0, [], _, [], rfl, by omega, rfl, (fun p hp => by simp at hp), (fun p hp => by simp at hp), H7⟩
   case round =>
    obtain ⟨n, ps, ve, Kv, rfl, hn, hps, hown, hlies, HK⟩ := hrel
    have HLS := Lib.hid hlies
    clear hlies
    clear H7
    have hpl : ps.length ≤ lr.length := by
     have := congrArg List.length hps
     simp only [List.length_map, List.length_take] at this
     omega
    have HPS := Lib.hid hps; have HOWN := Lib.hid hown
    clear hps hown
    by_cases hlt : n < lr.length
    ·obtain ⟨s, hs⟩ : ∃ s, lr[n]? = some s := ⟨_, List.getElem?_eq_getElem hlt⟩
     have hrd : Rd 1 (.slice A' lr.length (cl - 1)) lr.length (strC lr) wr := strs_behind hA' (entRow wr (HL.drops (K := Kh) (HL.drops (K := Kv) HK.tail.tail)))
     obtain ⟨b1, o1, c1, hv, d0⟩ := str_at hrd hs
     simp only [Value.slice.injEq] at hv
     obtain ⟨rfl, -, rfl⟩ := hv
     have hre := read_ok2 hD HK s (HZR.out s (List.mem_of_getElem? hs))
     unfold ReadPost2 at hre
     have hnx : (lr.take (n + 1)).map (fun s => (readE s).1) = (lr.take n).map (fun s => (readE s).1) ++ [(readE s).1] := by rw [List.take_add_one, hs]; simp
     obtain ⟨e, he⟩ : ∃ e, (readE s).1 = e := ⟨_, rfl⟩
     rw [he] at hnx hre
     have HNX := Lib.hid hnx; have HHA := Lib.hid hA'
     obtain ⟨Ae, ce, rfl, hce1, hce2⟩ := row_shape (show wr.ownsRow w0.heap.size 46 6 ve ps.length (ps.flatMap evC2) from HK.tail.head)
     clear hnx hs he hA' hrd
     go_upto_region 10 with (first
      | (go_at_call 41; refine (hha _).mono ?_; rintro e9 w7 ⟨rfl, rfl⟩)
      | (go_at_call 17; refine hre.mono ?_; rintro r w8 ⟨u, K, rfl, hl8, hu, H8⟩; have HL8 := Lib.hid hl8; clear hl8; clear hre HK d0; obtain ⟨Au, cu, rfl, hcu1, hcu2⟩ := rd_shape (hu w8 H8.left); have HA := HL.allocE H8 e (.slice Au e.list.length cu); unfold evV))
     have HB : HL w0 _ (boxE w8.heap.size e (.slice Au e.list.length cu) :: boxA b8 hd (.slice Ae ps.length ce) (.slice As hd.job.set.length cs) (.slice none 0 0) :: evRow w0.heap.size (.slice Ae ps.length ce) ps :: ((K ++ Kv) ++ (Kh ++ (strs w0.heap.size (.slice (some ⟨bl, 0, none⟩) (lr.length + 1) cl) (l0 :: lr) :: bxz b4 :: L)))) := HA.perm ((perm_two _ _ _ _ _).cons _)
     clear HA
     generalize World.alloc w8 _ = W9 at *
     generalize w8.heap.size = b9 at *
     obtain ⟨m0, m1, m2, m3, m4, m5⟩ := boxE_cells HB
     have c2 : W9.cell? ⟨b8, 2, none⟩ = some (.slice Ae ps.length ce) := HL.cell HB.tail 2
     have HBk := HB.alloc (.cells (evC2 (e, .slice Au e.list.length cu)).toArray 46)
     have hr := entBlk (k := 6) (n := 1) (cs := evC2 (e, .slice Au e.list.length cu)) rfl (by unfold maxLen; simp) _ HBk
     have HR := HBk.tail.tail.swap
     have HU := Lib.hid hu
     clear HB HBk H8 hu
     go_wp2_with (at_builtin; refine wpList_append_hl sliceE rfl _ _ rfl (n := ps.length) (m := 1) (xs := ps.flatMap evC2) (news := evC2 (e, .slice Au e.list.length cu)) (v := .slice Ae ps.length ce) HR rfl rfl hr (by simp [evC2, Value.oneCell']) (by unfold maxLen; omega) (by omega) ?_; intro z5 w10 H10 hnil; clear hr HR hnil m0 m1 m2 m3 m4 m5 c2; obtain ⟨A5, c5, rfl, -⟩ := row_shape (show w10.ownsRow w0.heap.size 46 6 z5 (ps.length + 1) (ps.flatMap evC2 ++ evC2 (e, .slice Au e.list.length cu)) from H10.head); have H10s := H10.swap; have c2 := HL.cell H10s 2; have y2 := HL.frozen H10s 2; have H11 := HL.setCell H10s 2 (.slice A5 (ps.length + 1) c5); clear H10 H10s)
     go_roundg (gk - 1)
     case measure => omega
     case rel =>
      refine ⟨n + 1, ps ++ [(e, .slice Au e.list.length cu)], .slice A5 (ps.length + 1) c5, K ++ Kv, by go_num, by omega, by rw [HNX.out, List.map_append, HPS.out]; rfl, fun p hp => ?_, fun p hp => ?_, ?_⟩
      ·rcases List.mem_append.1 hp with h | h
       ·exact Ent.right (HOWN.out p h)
       ·rw [List.mem_singleton.1 h]; exact Ent.left HU.out
      ·rcases List.mem_append.1 hp with h | h
       ·exact (HLS.out p h).mono fun A hA => List.mem_append_right _ hA
       ·rw [List.mem_singleton.1 h]; exact HL8.out.mono fun A hA => List.mem_append_left _ hA
      ·have e1 : [(e, Value.slice Au e.list.length cu)].flatMap evC2 = evC2 (e, .slice Au e.list.length cu) := by simp
       unfold evRow
       rw [List.length_append, List.flatMap_append, e1]
       exact H11
    ·have hpsl : ps.map (·.1) = lr.map (fun s => (readE s).1) := by rw [HPS.out, List.take_of_length_le (by omega)]
     have HPL := Lib.hid hpsl
     obtain ⟨Ae, ce, rfl, hce1, hce2⟩ := row_shape (show wr.ownsRow w0.heap.size 46 6 ve ps.length (ps.flatMap evC2) from HK.tail.head)
     have hpl2 : ps.length = lr.length := by have := congrArg List.length hpsl; simpa using this
     have HPL2 := Lib.hid hpl2
     clear hpsl hpl2
     go_wp2
     go_meet
     have hcd2 : candA k t = { hd with events := ps.map (·.1), ranks := [] } := by rw [HCD.out, HPL.out]
     rw [hcd2]
     have H9 : HL w0 wr ((boxA b8 hd (.slice Ae ps.length ce) (.slice As hd.job.set.length cs) (.slice none 0 0) :: evRow w0.heap.size (.slice Ae ps.length ce) ps :: (Kv ++ Kh)) ++ (strs w0.heap.size (.slice (some ⟨bl, 0, none⟩) (lr.length + 1) cl) (l0 :: lr) :: bxz b4 :: L)) := by
      have := HK
      rw [← List.append_assoc] at this
      exact this
     refine ⟨evRow w0.heap.size (.slice Ae ps.length ce) ps :: (Kv ++ Kh), Ae, As, none, ce, cs, 0, ps, rfl, ?_, ?_, ?_, ⟨.inr (by simp only [List.length_map]; exact List.mem_cons_self ..), fun p hp => (HLS.out p hp).mono fun A hA => List.mem_cons_of_mem _ (List.mem_append_left _ hA), .inl rfl, .inl rfl⟩, ?_⟩
     ·simp only [List.length_map]
      exact ⟨entRow, fun p hp => Ent.cons (Ent.left (HOWN.out p hp)) _⟩
     ·exact Ent.cons (Ent.right hI) _
     ·exact fun W _ => rd_nil
     ·simp only [List.length_map]
      exact H9.dropMid
  | false =>
   have hev : evsOf k lr = [] := by unfold evsOf; rw [hh]; rfl
   rw [hh] at hha
   by_cases h10 : k = 10
   ·have hrk : rksOf k lr = lr.map rankOf := by unfold rksOf; rw [hh, if_pos h10]; rfl
    have hcd : candA k t = { hd with events := [], ranks := lr.map rankOf } := by rw [HC.out, hev, hrk]
    have HCD := Lib.hid hcd
    have q10 : (k == 10) = true := by simp [h10]
    have H7 : HL w0 W6 (boxA b8 hd (.slice none 0 0) (.slice As hd.job.set.length cs) (.slice none 0 0) :: rkRow w0.heap.size (.slice none 0 0) [] :: (Kh ++ (strs w0.heap.size (.slice (some ⟨bl, 0, none⟩) (lr.length + 1) cl) (l0 :: lr) :: bxz b4 :: L))) := (H6.nilRow w0.heap.size 62 2).swap
    clear hev hrk hcd H6 hh h10
    go_wp2
    go_loopg [34] lr.length (fun g i wr => ∃ (n : Nat) (rs : List Rk) (ve : Value), i = .int .i64 n ∧ n + g = lr.length ∧ rs = (lr.take n).map rankOf ∧ HL w0 wr (boxA b8 hd (.slice none 0 0) (.slice As hd.job.set.length cs) ve :: rkRow w0.heap.size ve rs :: (Kh ++ (strs w0.heap.size (.slice (some ⟨bl, 0, none⟩) (lr.length + 1) cl) (l0 :: lr) :: bxz b4 :: L))))
    case atStart => exact ⟨0, [], _, rfl, by omega, rfl, H7⟩
    case round =>
     obtain ⟨n, rs, ve, rfl, hn, hrs, HK⟩ := hrel
     clear H7
     have hpl : rs.length ≤ lr.length := by
      have := congrArg List.length hrs
      simp only [List.length_map, List.length_take] at this
      omega
     have HRS := Lib.hid hrs
     clear hrs
     obtain ⟨Ae, ce, rfl, hce1, hce2⟩ := row_shape (show wr.ownsRow w0.heap.size 62 2 ve rs.length (rs.flatMap rkC) from HK.tail.head)
     by_cases hlt : n < lr.length
     ·obtain ⟨s, hs⟩ : ∃ s, lr[n]? = some s := ⟨_, List.getElem?_eq_getElem hlt⟩
      have hrd : Rd 1 (.slice A' lr.length (cl - 1)) lr.length (strC lr) wr := strs_behind hA' (entRow wr (HL.drops (K := Kh) HK.tail.tail))
      obtain ⟨b1, o1, c1, hv, d0⟩ := str_at hrd hs
      simp only [Value.slice.injEq] at hv
      obtain ⟨rfl, -, rfl⟩ := hv
      have hsz := HZR.out s (List.mem_of_getElem? hs)
      have hsp := split_ok hD HK s hsz
      have hnx : (lr.take (n + 1)).map rankOf = (lr.take n).map rankOf ++ [rankOf s] := by rw [List.take_add_one, hs]; simp
      have HNX := Lib.hid hnx; have HHA := Lib.hid hA'
      clear hnx hs hA' hrd
      go_upto_region 13 with (first
       | (go_at_call 41; refine (hha _).mono ?_; rintro e9 w7 ⟨rfl, rfl⟩)
       | (go_at_call 40; refine hsp.mono ?_; rintro e w8 ⟨bw, s0, wr9, hw, rfl, H8⟩; clear hsp d0 HK; have hws := words_size hw; have hrd := reads_num hD H8 (v := .slice (some ⟨bw, 0, none⟩) (wr9.length + 1) (wr9.length + 1)) (ws := s0 :: wr9) entRow (fun x hx => by have := hws.1 x hx; omega) (by simp only [List.length_cons]; omega))
       | (go_at_call 42; refine hrd.mono ?_; rintro e w9 ⟨u, rfl, H9⟩; clear hrd H8))
      have hnl := (nums_ok (s0 :: wr9)).2
      simp only [List.length_cons] at hnl
      have hrko : rankOf s = ⟨((numsW (s0 :: wr9)).getD [] ++ [-1, -1]).getD 0 0, ((numsW (s0 :: wr9)).getD [] ++ [-1, -1]).getD 1 0⟩ := by unfold rankOf; rw [hw]
      generalize (numsW (s0 :: wr9)).getD [] = nm at *
      obtain ⟨Au, cu, rfl, hcu1, hcu2⟩ := row_shape (show w9.ownsRow w0.heap.size 3 1 u nm.length (intC nm) from H9.head)
      have HB := H9.alloc (.cells (intC [-1, -1]).toArray 3)
      have hr := entBlk (k := 1) (n := 2) (cs := intC [-1, -1]) rfl (by unfold maxLen; simp) _ HB
      have HR := HB.tail
      have HRKO := Lib.hid hrko
      clear HB H9 hrko hw
      go_upto_region 14 with (at_builtin; refine wpList_append_hl sliceI rfl _ _ rfl (n := nm.length) (m := 2) (xs := intC nm) (news := intC [-1, -1]) (v := .slice Au nm.length cu) HR rfl rfl hr (by simp [Value.oneCell']) (by unfold maxLen; omega) (by omega) ?_; intro z5 w10 H10 hnil; clear hr HR hnil)
      have H11 : HL w0 w10 (intsR w0.heap.size z5 (nm ++ [-1, -1]) :: strs w0.heap.size (.slice (some ⟨bw, 0, none⟩) (wr9.length + 1) (wr9.length + 1)) (s0 :: wr9) :: boxA b8 hd (.slice none 0 0) (.slice As hd.job.set.length cs) (.slice Ae rs.length ce) :: rkRow w0.heap.size (.slice Ae rs.length ce) rs :: (Kh ++ (strs w0.heap.size (.slice (some ⟨bl, 0, none⟩) (lr.length + 1) cl) (l0 :: lr) :: bxz b4 :: L))) := by
       have e1 : intC (nm ++ [-1, -1]) = intC nm ++ intC [-1, -1] := by simp [List.map_append]
       unfold intsR
       rw [List.length_append, e1]
       exact H10
      clear H10
      obtain ⟨x0, hx0⟩ : ∃ x, (nm ++ [-1, -1])[0]? = some x := ⟨_, List.getElem?_eq_getElem (by simp)⟩
      obtain ⟨x1, hx1⟩ : ∃ x, (nm ++ [-1, -1])[1]? = some x := ⟨_, List.getElem?_eq_getElem (by simp)⟩
      have hrk : rankOf s = ⟨x0, x1⟩ := by rw [HRKO.out, List.getD_eq_getElem?_getD, List.getD_eq_getElem?_getD, hx0, hx1]; rfl
      obtain ⟨g, og, cg, hv, d0⟩ := int_at (rd_row H11.head) hx0
      subst hv
      obtain ⟨g', og', cg', hv, d1⟩ := int_at (rd_row H11.head) hx1
      simp only [Value.slice.injEq, Option.some.injEq, Addr.mk.injEq] at hv
      obtain ⟨⟨rfl, rfl, -⟩, -, -⟩ := hv
      rw [Nat.add_zero] at d0
      have i0 : (0 : Int) < (nm.length : Int) + 2 := by omega
      have i1 : (1 : Int) < (nm.length : Int) + 2 := by omega
      have HK2 : HL w0 w10 (boxA b8 hd (.slice none 0 0) (.slice As hd.job.set.length cs) (.slice Ae rs.length ce) :: intsR w0.heap.size (.slice (some ⟨g, og, none⟩) (nm ++ [-1, -1]).length cg) (nm ++ [-1, -1]) :: rkRow w0.heap.size (.slice Ae rs.length ce) rs :: (Kh ++ (strs w0.heap.size (.slice (some ⟨bl, 0, none⟩) (lr.length + 1) cl) (l0 :: lr) :: bxz b4 :: L))) := H11.sel 4 [2, 0, 3]
      have hSS : ∀ W' v' M', HL w0 W' (boxA b8 hd (.slice none 0 0) (.slice As hd.job.set.length cs) v' :: intsR w0.heap.size (.slice (some ⟨g, og, none⟩) (nm ++ [-1, -1]).length cg) (nm ++ [-1, -1]) :: M') → W'.cell? ⟨g, og, none⟩ = some (.int .i64 x0) ∧ W'.cell? ⟨g, og + 1, none⟩ = some (.int .i64 x1) := fun W' v' M' HW => by
       obtain ⟨b', o', c', hv, g1⟩ := int_at (rd_row HW.tail.head) hx0
       simp only [Value.slice.injEq, Option.some.injEq, Addr.mk.injEq] at hv
       obtain ⟨⟨rfl, rfl, -⟩, -, -⟩ := hv
       obtain ⟨b', o', c', hv, g2⟩ := int_at (rd_row HW.tail.head) hx1
       simp only [Value.slice.injEq, Option.some.injEq, Addr.mk.injEq] at hv
       obtain ⟨⟨rfl, rfl, -⟩, -, -⟩ := hv
       rw [Nat.add_zero] at g1
       exact ⟨g1, g2⟩
      have HRK := Lib.hid hrk
      clear H11 hx0 hx1 hrk hws d0 d1
      simp only [List.length_append, List.length_cons, List.length_nil, Nat.zero_add] at HK2 hSS ⊢
      refine wp_region_held_drew (S := fun w' => w'.cell? ⟨g, og, none⟩ = some (.int .i64 x0) ∧ w'.cell? ⟨g, og + 1, none⟩ = some (.int .i64 x1)) (by kernel_rfl) (hSS _ _ _ HK2.drew) (fun hHeld => ?_)
      have Hd := HK2.drew
      clear HK2
      generalize World.drew _ = Wd at *
      refine ztk 0 ?_
      simp only [Act.put, zp]
      refine ztk 2 ?_
      simp only [Act.put, zp]
      refine ztk 3 ?_
      simp only [Act.put, zp]
      refine ztk 4 ?_
      simp only [Act.put, zp]
      refine ztk 5 ?_
      simp only [Act.put, zp]
      refine ztk 6 ?_
      simp only [Act.put, zp]
      refine ztk 7 ?_
      simp only [Act.put, zp]
      refine ztk 8 ?_
      simp only [Act.put, zp]
      refine wpAnyH_ready (rs := [1, 9]) (by kernel_rfl) (by simp) ?_
      refine AllReadyH.cons rfl (fun K' hK' => ?_) (AllReadyH.cons rfl (fun K' hK' => ?_) AllReadyH.nil)
      ·skip
       dsimp only [zg1, zg3, zg2]
       have c11 : (Wd).cell? ⟨b8, 11, none⟩ = some (.slice Ae rs.length ce) := HL.cell Hd 11
       go_simp
       refine hK'.out _ _ (hSS _ _ _ Hd) (fun hHeld => ?_)
       clear hK' K'
       try simp only [Act.put, zp]
       refine zry 9 (fun K' hK' => ?_)
       dsimp only [zg1, zg3, zg2]
       go_simp
       have HBk := Hd.alloc (.cells (rkC ⟨x0, x1⟩).toArray 62)
       refine hK'.out _ _ (hSS _ _ _ HBk.tail) (fun hHeld => ?_)
       clear hK' K'
       try simp only [Act.put, zp]
       refine zry 10 (fun K' hK' => ?_)
       have hr := entBlk (k := 2) (n := 1) (cs := rkC ⟨x0, x1⟩) rfl (by unfold maxLen; simp) _ HBk
       have HR := HBk.tail.sel 3 [2, 0, 1]
       refine step_append_hl (ys := #[]) sliceR rfl _ _ rfl (v := .slice Ae rs.length ce) (xv := .slice (some ⟨Wd.heap.size, 0, none⟩) 1 1) (n := rs.length) (m := 1) (xs := rs.flatMap rkC) (news := rkC ⟨x0, x1⟩) HR rfl rfl hr (by simp [rkC, Value.oneCell']) (by unfold maxLen; omega) (by omega) ?_
       intro z6 w11 H12
       obtain ⟨A6, c6, rfl, -⟩ := row_shape (show w11.ownsRow w0.heap.size 62 2 z6 (rs.length + 1) (rs.flatMap rkC ++ rkC ⟨x0, x1⟩) from H12.head)
       have H12s := H12.swap
       have c11b := HL.cell H12s 11
       have y11 := HL.frozen H12s 11
       refine hK'.out _ _ (hSS _ _ _ H12.tail) (fun hHeld => ?_)
       clear hK' K'
       try simp only [Act.put, zp]
       refine ztk 11 ?_
       simp only [Act.put, zp]
       refine zry 12 (fun K' hK' => ?_)
       dsimp only [zg1, zg3, zg2]
       go_simp
       have H13 := HL.setCell H12s 11 (.slice A6 (rs.length + 1) c6)
       refine hK'.out _ _ (hSS _ _ _ (H13.sel 3 [0, 2])) (fun hHeld => ?_)
       clear hK' K'
       try simp only [Act.put, zp]
       refine wpAnyH_done (by kernel_rfl) ?_ _
       go_wp2
       go_roundg (gk - 1)
       case measure => omega
       case rel =>
        refine ⟨n + 1, rs ++ [⟨x0, x1⟩], .slice A6 (rs.length + 1) c6, by go_num, by omega, by rw [HNX.out, HRS.out, HRK.out], ?_⟩
        have e1 : [(⟨x0, x1⟩ : Rk)].flatMap rkC = rkC ⟨x0, x1⟩ := by simp
        unfold rkRow
        rw [List.length_append, List.flatMap_append, e1]
        exact H13.sel 3 [0, 1]
      ·skip
       dsimp only [zg1, zg3, zg2]
       go_simp
       have HBk := Hd.alloc (.cells (rkC ⟨x0, x1⟩).toArray 62)
       refine hK'.out _ _ (hSS _ _ _ HBk.tail) (fun hHeld => ?_)
       clear hK' K'
       try simp only [Act.put, zp]
       refine zry 1 (fun K' hK' => ?_)
       dsimp only [zg1, zg3, zg2]
       have c11 : (Wd.alloc (.cells #[.int .i64 x0, .int .i64 x1] 62)).cell? ⟨b8, 11, none⟩ = some (.slice Ae rs.length ce) := HL.cell HBk.tail 11
       go_simp
       refine hK'.out _ _ (hSS _ _ _ HBk.tail) (fun hHeld => ?_)
       clear hK' K'
       try simp only [Act.put, zp]
       refine zry 10 (fun K' hK' => ?_)
       have hr := entBlk (k := 2) (n := 1) (cs := rkC ⟨x0, x1⟩) rfl (by unfold maxLen; simp) _ HBk
       have HR := HBk.tail.sel 3 [2, 0, 1]
       refine step_append_hl (ys := #[]) sliceR rfl _ _ rfl (v := .slice Ae rs.length ce) (xv := .slice (some ⟨Wd.heap.size, 0, none⟩) 1 1) (n := rs.length) (m := 1) (xs := rs.flatMap rkC) (news := rkC ⟨x0, x1⟩) HR rfl rfl hr (by simp [rkC, Value.oneCell']) (by unfold maxLen; omega) (by omega) ?_
       intro z6 w11 H12
       obtain ⟨A6, c6, rfl, -⟩ := row_shape (show w11.ownsRow w0.heap.size 62 2 z6 (rs.length + 1) (rs.flatMap rkC ++ rkC ⟨x0, x1⟩) from H12.head)
       have H12s := H12.swap
       have c11b := HL.cell H12s 11
       have y11 := HL.frozen H12s 11
       refine hK'.out _ _ (hSS _ _ _ H12.tail) (fun hHeld => ?_)
       clear hK' K'
       try simp only [Act.put, zp]
       refine ztk 11 ?_
       simp only [Act.put, zp]
       refine zry 12 (fun K' hK' => ?_)
       dsimp only [zg1, zg3, zg2]
       go_simp
       have H13 := HL.setCell H12s 11 (.slice A6 (rs.length + 1) c6)
       refine hK'.out _ _ (hSS _ _ _ (H13.sel 3 [0, 2])) (fun hHeld => ?_)
       clear hK' K'
       try simp only [Act.put, zp]
       refine wpAnyH_done (by kernel_rfl) ?_ _
       go_wp2
       go_roundg (gk - 1)
       case measure => omega
       case rel =>
        refine ⟨n + 1, rs ++ [⟨x0, x1⟩], .slice A6 (rs.length + 1) c6, by go_num, by omega, by rw [HNX.out, HRS.out, HRK.out], ?_⟩
        have e1 : [(⟨x0, x1⟩ : Rk)].flatMap rkC = rkC ⟨x0, x1⟩ := by simp
        unfold rkRow
        rw [List.length_append, List.flatMap_append, e1]
        exact H13.sel 3 [0, 1]
     ·have hrsl : rs = lr.map rankOf := by rw [HRS.out, List.take_of_length_le (by omega)]
      have HRL := Lib.hid hrsl
      clear hrsl
      go_wp2
      go_meet
      have hcd2 : candA k t = { hd with events := [], ranks := rs } := by rw [HCD.out, HRL.out]
      rw [hcd2]
      have H9 : HL w0 wr ((boxA b8 hd (.slice none 0 0) (.slice As hd.job.set.length cs) (.slice Ae rs.length ce) :: rkRow w0.heap.size (.slice Ae rs.length ce) rs :: Kh) ++ (strs w0.heap.size (.slice (some ⟨bl, 0, none⟩) (lr.length + 1) cl) (l0 :: lr) :: bxz b4 :: L)) := HK
      exact ⟨rkRow w0.heap.size (.slice Ae rs.length ce) rs :: Kh, none, As, Ae, 0, cs, ce, [], rfl, ⟨fun W _ => rd_nil, fun p hp => by simp at hp⟩, Ent.cons hI _, entRow, ⟨.inl rfl, fun p hp => by simp at hp, .inl rfl, .inr ⟨rs, List.mem_cons_self ..⟩⟩, H9.dropMid⟩
   ·have hrk : rksOf k lr = [] := by unfold rksOf; rw [hh, if_neg h10]; rfl
    have hcd : candA k t = { hd with events := [], ranks := [] } := by rw [HC.out, hev, hrk]
    have HCD := Lib.hid hcd
    have q10 : (k == 10) = false := by simp [h10]
    clear hev hrk hcd hh h10
    go_wp2
    go_loopg [34] lr.length (fun g i wr => ∃ n : Nat, i = .int .i64 n ∧ n + g = lr.length ∧ HL w0 wr (boxA b8 hd (.slice none 0 0) (.slice As hd.job.set.length cs) (.slice none 0 0) :: (Kh ++ (strs w0.heap.size (.slice (some ⟨bl, 0, none⟩) (lr.length + 1) cl) (l0 :: lr) :: bxz b4 :: L))))
    case atStart => exact ⟨0, rfl, by omega, H6⟩
    case round =>
     obtain ⟨n, rfl, hn, HK⟩ := hrel
     clear H6
     by_cases hlt : n < lr.length
     ·obtain ⟨s, hs⟩ : ∃ s, lr[n]? = some s := ⟨_, List.getElem?_eq_getElem hlt⟩
      have hrd : Rd 1 (.slice A' lr.length (cl - 1)) lr.length (strC lr) wr := strs_behind hA' (entRow wr (HL.drops (K := Kh) HK.tail))
      obtain ⟨b1, o1, c1, hv, d0⟩ := str_at hrd hs
      simp only [Value.slice.injEq] at hv
      obtain ⟨rfl, -, rfl⟩ := hv
      have HHA := Lib.hid hA'
      clear hs hA' hrd
      go_wp2_with (go_at_call 41; refine (hha _).mono ?_; rintro e9 w7 ⟨rfl, rfl⟩)
      go_roundg (gk - 1)
      case measure => omega
      case rel => exact ⟨n + 1, by go_num, by omega, HK⟩
     ·go_wp2
      go_meet
      rw [HCD.out]
      have H9 : HL w0 wr ((boxA b8 hd (.slice none 0 0) (.slice As hd.job.set.length cs) (.slice none 0 0) :: Kh) ++ (strs w0.heap.size (.slice (some ⟨bl, 0, none⟩) (lr.length + 1) cl) (l0 :: lr) :: bxz b4 :: L)) := HK
      exact ⟨Kh, none, As, none, 0, cs, 0, [], rfl, ⟨fun W _ => rd_nil, fun p hp => by simp at hp⟩, hI, fun W _ => rd_nil, ⟨.inl rfl, fun p hp => by simp at hp, .inl rfl, .inl rfl⟩, H9.dropMid⟩
 case rest =>
  obtain ⟨K, Ae, As2, Ar, ce, cs2, cr, ps, hev, hE, hI2, hR, hwr, H7⟩ := hcut
  have HWR := Lib.hid hwr
  clear hwr
  obtain ⟨hok, hset⟩ := cand_fits (k := k) ht
  have hpz := cand_print (k := k) ht
  have hpa : parseA k t = if checkA k (candA k t) = 0 ∧ printS k (candA k t) = t then (candA k t, 0) else (zA, 90) := by unfold parseA; rw [HLB.out]; simp
  clear H6 hI H2 HC HHD HZR hA'
  have G1 : _ = some (Obj.cells (ansA (candA k t) (.slice Ae (candA k t).events.length ce) (.slice As2 (candA k t).job.set.length cs2) (.slice Ar (candA k t).ranks.length cr)) 32 (0, 0)) := H7.head
  have hpr : Calls Tryz.prog 8 #[.int .i64 k, .agg (ansA (candA k t) (.slice Ae (candA k t).events.length ce) (.slice As2 (candA k t).job.set.length cs2) (.slice Ar (candA k t).ranks.length cr))] _ _ := print_ok hD fmtU_all H7 k (candA k t) Ae As2 Ar ce cs2 cr hev (hE.left.cons _) (Ent.cons (Ent.left hI2) _) (Ent.cons (Ent.left hR) _) hok hpz
  have hco : checkA k (candA k t) = 0 → own2A k (candA k t) = candA k t := check_own
  generalize candA k t = c at *
  have HPA := Lib.hid hpa; have HCO := Lib.hid hco
  have HEV := Lib.hid hev
  clear hpa hco hok hpz hev
  obtain ⟨cc, hcc⟩ : ∃ cc, checkA k c = cc := ⟨_, rfl⟩
  obtain ⟨ss, hss⟩ : ∃ ss, printS k c = ss := ⟨_, rfl⟩
  rw [hcc, hss] at hpr HPA
  rw [hcc] at HCO
  have HCC := Lib.hid hcc; have HSS := Lib.hid hss
  clear hcc hss
  go_upto_region 17 with (first
   | (have g1 := G1; refine wpList_load_row rfl 32 _ rfl b8 rfl 32 _ (0, 0) _ g1 Tryz.underlying32 rfl (ansA_size _ _ _ _) ?_; clear g1 G1)
   | (go_at_call 8; (with_reducible refine hpr.mono ?_); rintro r w9 ⟨rfl, H8⟩; clear hpr H7))
  by_cases hyes : cc = 0 ∧ ss = t
  ·obtain ⟨rfl, rfl⟩ := hyes
   have q0 : ((0 : Int) != 0) = false := by decide
   have q1 : (ss.toList == ss.toList) = true := by simp
   have hx : parseA k ss = (c, 0) := by rw [HPA.out, if_pos ⟨rfl, rfl⟩]
   have HX := Lib.hid hx
   have hcc := HCO.out rfl
   have HC2 := Lib.hid hcc
   clear hx hcc
   have G1 : _ = some (Obj.cells (ansA c (.slice Ae c.events.length ce) (.slice As2 c.job.set.length cs2) (.slice Ar c.ranks.length cr)) 32 (0, 0)) := H8.head
   have hown : Calls Tryz.prog 43 #[.int .i64 k, .agg (ansA c (.slice Ae c.events.length ce) (.slice As2 c.job.set.length cs2) (.slice Ar c.ranks.length cr))] _ _ := own2_ok2 H8 k c Ae As2 Ar ce cs2 cr (Ent.cons (Ent.left hI2) _) (by omega)
   rw [HC2.out] at hown
   have HE := Lib.hid hE; have HRR := Lib.hid hR
   clear hE hR hI2
   go_wp2_with (first
    | (have g1 := G1; refine wpList_load_row rfl 32 _ rfl b8 rfl 32 _ (0, 0) _ g1 Tryz.underlying32 rfl (ansA_size _ _ _ _) ?_; clear g1 G1)
    | (go_at_call 43; (with_reducible refine hown.mono ?_); rintro r w10 ⟨K2, Ae', As', Ar', ce', cs', cr', rfl, hse, hsr, hI3, hl3, H9⟩; have HL3 := Lib.hid hl3; clear hl3 hown H8; have H10 : HL w0 w10 ((K2 ++ (boxA b8 c (.slice Ae c.events.length ce) (.slice As2 c.job.set.length cs2) (.slice Ar c.ranks.length cr) :: K)) ++ bxz b4 :: L) := (by rw [List.append_assoc]; exact H9); have H11 := H10.perm List.perm_middle; clear H9 H10; have G3 : _ = some (Obj.cells _ 32 (0, 0)) := H11.head; have HS := HL.setWhole (cells := ansA c (.slice Ae' c.events.length ce') (.slice As' c.job.set.length cs') (.slice Ar' c.ranks.length cr')) H11)
    | (refine wpList_store_row rfl 32 _ _ rfl b4 (ansA c (.slice Ae' c.events.length ce') (.slice As' c.job.set.length cs') (.slice Ar' c.ranks.length cr')) rfl rfl 32 _ G3 (ansA_size _ _ _ _) rfl (ansA_one _ _ _ _ _ _ _ _ _ _) ?_))
   have G5 := HS.head
   refine bodyPost_ret (results_two (by rfl) _ _ b4 32 _ (0, 0) _ _ (by rfl) (by rfl) G5 Tryz.underlying32 rfl (ansA_size _ _ _ _)) rfl ?_
   rw [HX.out]
   refine ⟨K2 ++ (boxA b8 c (.slice Ae c.events.length ce) (.slice As2 c.job.set.length cs2) (.slice Ar c.ranks.length cr) :: K), Ae', As', Ar', ce', cs', cr', ps, rfl, HEV.out, ?_, Ent.left hI3, ?_, ⟨?_, fun p hp => (HWR.out.own p hp).mono fun A hA => List.mem_append_right _ (List.mem_cons_of_mem _ hA), HL3.out.mono fun A hA => List.mem_append_left _ hA, ?_⟩, HS.tail⟩
   ·rcases hse with ⟨-, rfl, rfl⟩ | ⟨e1, rfl, rfl⟩
    ·exact ⟨Ent.right (Ent.cons HE.out.rd _), fun p hp => Ent.right (Ent.cons (HE.out.own p hp) _)⟩
    ·have hps : ps = [] := by
      have := HEV.out
      change c.events = _ at this
      change c.events = [] at e1
      rw [e1] at this
      exact List.map_eq_nil_iff.1 this.symm
     subst hps
     change Evs w0 _ (.slice none c.events.length 0) []
     change c.events = [] at e1
     rw [e1]
     exact ⟨fun W _ => rd_nil, fun p hp => by simp at hp⟩
   ·rcases hsr with ⟨-, rfl, rfl⟩ | ⟨e1, rfl, rfl⟩
    ·exact Ent.right (Ent.cons HRR.out _)
    ·change c.ranks = [] at e1
     change Rks w0 _ (.slice none c.ranks.length 0) c.ranks
     rw [e1]
     exact fun W _ => rd_nil
   ·rcases hse with ⟨-, rfl, rfl⟩ | ⟨e1, rfl, rfl⟩
    ·exact HWR.out.ev.imp id fun h => List.mem_append_right _ (List.mem_cons_of_mem _ h)
    ·change c.events = [] at e1
     exact .inl (by rw [e1]; rfl)
   ·rcases hsr with ⟨-, rfl, rfl⟩ | ⟨e1, rfl, rfl⟩
    ·exact HWR.out.rk.imp id fun ⟨rs, h⟩ => ⟨rs, List.mem_append_right _ (List.mem_cons_of_mem _ h)⟩
    ·change c.ranks = [] at e1
     exact .inl (by rw [e1]; rfl)
  ·have hx : parseA k t = (zA, 90) := by rw [HPA.out, if_neg hyes]
   have HX := Lib.hid hx
   clear hx hE hR hI2
   have H11 := HL.perm (show HL w0 w9 ((boxA b8 c (.slice Ae c.events.length ce) (.slice As2 c.job.set.length cs2) (.slice Ar c.ranks.length cr) :: K) ++ bxz b4 :: L) from H8) List.perm_middle
   have G3 : _ = some (Obj.cells _ 32 (0, 0)) := H11.head
   have HS := HL.setWhole (cells := ansA zA (.slice none 0 0) (.slice none 0 0) (.slice none 0 0)) H11
   clear H8 H11
   by_cases h0 : cc = 0
   ·have hs : ss ≠ t := fun e => hyes ⟨h0, e⟩
    have q1 : (ss.toList == t.toList) = false := by rw [beq_eq_false_iff_ne]; exact fun e => hs (bytesSame e)
    subst h0
    clear hyes hs
    go_wp2_with (refine wpList_store_row rfl 32 _ _ rfl b4 (ansA zA (.slice none 0 0) (.slice none 0 0) (.slice none 0 0)) rfl rfl 32 _ G3 (ansA_size _ _ _ _) rfl (ansA_one _ _ _ _ _ _ _ _ _ _) ?_)
    have G5 := HS.head
    refine bodyPost_ret (results_two (by rfl) _ _ b4 32 _ (0, 0) _ _ (by rfl) (by rfl) G5 Tryz.underlying32 rfl (ansA_size _ _ _ _)) rfl ?_
    rw [HX.out]
    exact parsePost2_no HS.tail.drops
   ·have q0 : (cc != 0) = true := by simp [h0]
    clear hyes h0
    go_wp2_with (refine wpList_store_row rfl 32 _ _ rfl b4 (ansA zA (.slice none 0 0) (.slice none 0 0) (.slice none 0 0)) rfl rfl 32 _ G3 (ansA_size _ _ _ _) rfl (ansA_one _ _ _ _ _ _ _ _ _ _) ?_)
    have G5 := HS.head
    refine bodyPost_ret (results_two (by rfl) _ _ b4 32 _ (0, 0) _ _ (by rfl) (by rfl) G5 Tryz.underlying32 rfl (ansA_size _ _ _ _)) rfl ?_
    rw [HX.out]
    exact parsePost2_no HS.tail.drops
theorem parse_ok2 (hD : Doors w0) (H : HL w0 w L) (k : Int) (t : ByteArray) (ht : t.size ≤ 1000000000) :
  Calls Tryz.prog 13 #[.int .i64 k, .string t] w (ParsePost2 w0 L (parseA k t).1 (parseA k t).2) := by
 cases hlb : linesB t with
 | true => exact parse_some hD H k t ht hlb
 | false => exact parse_none hD H k t ht hlb
def ParsePost (w0 : World) (L : List At) (r : Ans) (code : Int) (e : Ending) (w' : World) : Prop := ∃ (K : List At) (Ae As Ar : Option Addr) (ce cs cr : Nat) (ps : List (Ev × Value)),
 e = .returned (.tuple #[ansV r (.slice Ae r.events.length ce) (.slice As r.job.set.length cs) (.slice Ar r.ranks.length cr), .int .i64 code]) ∧ r.events = ps.map (·.1) ∧ Evs w0 K (.slice Ae r.events.length ce) ps ∧ Ints w0 K (.slice As r.job.set.length cs) r.job.set ∧ Rks w0 K (.slice Ar r.ranks.length cr) r.ranks ∧ HL w0 w' (K ++ L)
theorem parsePost_no {w' : World} (H : HL w0 w' L) : ParsePost w0 L zA 90 (.returned (.tuple #[ansV zA (.slice none 0 0) (.slice none 0 0) (.slice none 0 0), .int .i64 90])) w' :=
 ⟨[], none, none, none, 0, 0, 0, [], rfl, rfl, ⟨fun W _ => rd_nil, fun p hp => by simp at hp⟩, fun W _ => rd_nil, fun W _ => rd_nil, H⟩
theorem parse_ok (hD : Doors w0) (H : HL w0 w L) (k : Int) (t : ByteArray) (ht : t.size ≤ 1000000000) :
  Calls Tryz.prog 13 #[.int .i64 k, .string t] w (ParsePost w0 L (parseA k t).1 (parseA k t).2) :=
 (parse_ok2 hD H k t ht).mono fun e w' ⟨K, A1, A2, A3, c1, c2, c3, ps, h1, h2, h3, h4, h5, _, h6⟩ => ⟨K, A1, A2, A3, c1, c2, c3, ps, h1, h2, h3, h4, h5, h6⟩
end
end Go.Proofs.YtdekbbffoaphhaaGreatDoor

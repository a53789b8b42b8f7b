/- A text read as an answer: the reference's way. -/
import Derived.Test.YtdekbbffoaphhaaGreatDoorAnZipB
import Derived.Test.YtdekbbffoaphhaaGreatDoorAnZip
import Derived.Test.YtdekbbffoaphhaaGreatDoorAnPkD
import Derived.Test.YtdekbbffoaphhaaGreatDoorAnPkI
import Derived.Test.YtdekbbffoaphhaaGreatDoorAnPkE
set_option linter.unusedVariables false
set_option linter.unusedSimpArgs false
set_option maxRecDepth 100000
set_option maxHeartbeats 8000000
namespace Go.Proofs.An
theorem rksRead_app : ∀ (l r : List ByteArray), rksRead (l ++ r) = match rksRead l with | none => none | some a => match rksRead r with | none => none | some b => some (a ++ b)
 | [], r => by simp only [List.nil_append, rksRead]; cases rksRead r <;> rfl
 | s :: l, r => by
  rw [List.cons_append, rksRead, rksRead, rksRead_app l r]
  cases rkRead s with
  | none => rfl
  | some x =>
   cases rksRead l with
   | none => rfl
   | some a => cases rksRead r <;> rfl
theorem evsRead_app : ∀ (l r : List ByteArray), evsRead (l ++ r) = match evsRead l with | none => none | some a => match evsRead r with | none => none | some b => some (a ++ b)
 | [], r => by simp only [List.nil_append, evsRead]; cases evsRead r <;> rfl
 | s :: l, r => by
  rw [List.cons_append, evsRead, evsRead, evsRead_app l r]
  by_cases h : (readE s).2 = 0
  ·rw [if_pos h, if_pos h]
   cases evsRead l with
   | none => rfl
   | some a => cases evsRead r <;> rfl
  ·rw [if_neg h, if_neg h]
theorem rksRead_step {M : List ByteArray} {n : Nat} {s : ByteArray} (hs : M[n]? = some s) {rs : List Rk} (h : rksRead (M.take n) = some rs) {x : Rk} (hx : rkRead s = some x) : rksRead (M.take (n + 1)) = some (rs ++ [x]) := by
 rw [List.take_add_one, hs]
 simp only [Option.toList_some]
 rw [rksRead_app, h]
 simp [rksRead, hx]
theorem evsRead_step {M : List ByteArray} {n : Nat} {s : ByteArray} (hs : M[n]? = some s) {es : List Ev} (h : evsRead (M.take n) = some es) (hx : (readE s).2 = 0) : evsRead (M.take (n + 1)) = some (es ++ [(readE s).1]) := by
 rw [List.take_add_one, hs]
 simp only [Option.toList_some]
 rw [evsRead_app, h]
 simp [evsRead, hx]
theorem split_at {M : List ByteArray} {n : Nat} {s : ByteArray} (hs : M[n]? = some s) : M = M.take n ++ s :: M.drop (n + 1) := by
 have hk := (List.getElem?_eq_some_iff.1 hs).1
 conv => lhs; rw [← List.take_append_drop n M]
 rw [List.drop_eq_getElem_cons hk, (List.getElem?_eq_some_iff.1 hs).2]
theorem rksRead_bad {M : List ByteArray} {n : Nat} {s : ByteArray} (hs : M[n]? = some s) (h : rkRead s = none) : rksRead M = none := by
 rw [split_at hs, rksRead_app]
 cases rksRead (M.take n) with
 | none => rfl
 | some a => simp [rksRead, h]
theorem evsRead_bad {M : List ByteArray} {n : Nat} {s : ByteArray} (hs : M[n]? = some s) (h : (readE s).2 ≠ 0) : evsRead M = none := by
 rw [split_at hs, evsRead_app]
 cases evsRead (M.take n) with
 | none => rfl
 | some a => simp [evsRead, h]
end Go.Proofs.An
namespace Go.Proofs.YtdekbbffoaphhaaGreatDoor
open Go.RowKit Go.Proofs.HL Go.Proofs.An
section
variable {w0 w : World} {L : List At}
theorem Ref.pa_bad (hD : Doors w0) (H : HL w0 w L) (k : Int) (t : ByteArray) (ht : t.size ≤ 1048576) {s0 : ByteArray} (hs0 : (wordsC 10 t)[0]? = some s0) {f : Ans} {b : Bool} (hf : firstR k (wordsC 32 s0) = (f, b)) (hb : b = false ∨ (wordsC 10 t).length < 2) :
  Calls Tryz.prog 15 #[.int .i64 k, .string t] w (ParsePost w0 L (refParse k t).1 (refParse k t).2) := by
 have H1 := HL.bzA H
 have hcut := Ref.cut_ok H1 t (by omega) 10
 rw [show ((10 : UInt8).toNat : Int) = 10 from rfl] at hcut
 have hhd : (wordsC 10 t).headD ⟨#[]⟩ = s0 := by cases hw : wordsC 10 t with
  | nil => rw [hw] at hs0; simp at hs0
  | cons x r => rw [hw] at hs0; simpa using hs0
 have hpos := wordsC_len 10 t
 have hws := wordsC_size 10 t
 have hz0 : s0.size ≤ 1048576 := by have := hws s0 (List.mem_of_getElem? hs0); omega
 have hw1l := wordsC_most 32 s0
 have hw1p := wordsC_len 32 s0
 have hw1z := wordsC_size 32 s0
 have hpc : refParse k t = if b = false ∨ (wordsC 10 t).length < 2 then (zA, (90 : Int)) else match bodyR k f (midW (wordsC 10 t)) with | none => (zA, (90 : Int)) | some a => if checkA k a = 0 ∧ printS k a = t then (a, (0 : Int)) else (zA, (90 : Int)) := by
  unfold refParse
  rw [hhd, hf]
  rfl
 have hbo : ∀ a, bodyR k f (midW (wordsC 10 t)) = some a → CandOk k a := fun a ha => body_ok (t := t) (by omega) (by rw [hhd, hf]; exact ha)
 have hfo := firstR_ok (k := k) (ws := wordsC 32 s0) (by omega)
 rw [hf] at hfo
 obtain ⟨-, -, hfe, hfr⟩ := hfo
 dsimp only at hfe hfr
 have HS0 := Lib.hid hs0; have HF := Lib.hid hf; have HPC := Lib.hid hpc; have HWS := Lib.hid hws; have HZ0 := Lib.hid hz0; have HT := Lib.hid ht; have HBO := Lib.hid hbo; have HFE := Lib.hid hfe; have HFR := Lib.hid hfr; have HML := Lib.hid (wordsC_most 10 t); have HB := Lib.hid hb
 clear hs0 hpc hhd hws hz0 hbo hfe hfr hb
 generalize wordsC 10 t = W at *
 generalize hb4 : w.heap.size = b4 at *
 clear H
 go_enter Tryz.func15, Tryz.ntmps15
 go_upto_region 2 with (go_at_call 44; refine hcut.mono ?_; rintro e w2 ⟨vW, rfl, H2⟩; clear hcut H1)
 have HB4 := Lib.hid hb4
 clear hb4
 obtain ⟨bW, oW, cW, rfl, d0⟩ := str_at (entRow _ H2) HS0.out
 rw [Nat.add_zero] at d0
 obtain ⟨A', c', hv1, hc1, hc2⟩ := rd_shape (entRow _ H2)
 simp only [Value.slice.injEq] at hv1
 obtain ⟨-, -, rfl⟩ := hv1
 unfold maxLen at hc2
 have hcut2 := Ref.cut_ok H2 s0 (by have := HZ0.out; omega) 32
 rw [show ((32 : UInt8).toNat : Int) = 32 from rfl] at hcut2
 have i0 : (0 : Int) < (W.length : Int) := by omega
 have HW1Z := Lib.hid hw1z
 clear hw1z
 go_upto_region 3 with (first
  | (go_at_call 44; refine hcut2.mono ?_; rintro e w3 ⟨v1, rfl, H3⟩; clear hcut2 H2 d0; have hfi := Ref.first_ok hD H3 entRow (fun s hs => by have := HW1Z.out s hs; have := HZ0.out; omega) (by omega) (by have := HZ0.out; omega) k)
  | (go_at_call 45; refine hfi.mono ?_; rintro e w4 ⟨Kf, As, cs, rfl, hIs, H4⟩; clear hfi H3; rw [HF.out] at hIs; simp only [HF.out]; dsimp only at hIs; have H5 := HL.bzA H4; have G5 : _ = some (Obj.cells _ 32 (0, 0)) := H5.head; have H6 : HL w0 _ (boxA w4.heap.size f (.slice none 0 0) (.slice As f.job.set.length cs) (.slice none 0 0) :: _) := HL.setWhole (cells := ansA f (.slice none 0 0) (.slice As f.job.set.length cs) (.slice none 0 0)) H5; clear H4)
  | (refine wpList_store_row rfl 32 _ _ rfl w4.heap.size (ansA f (.slice none 0 0) (.slice As f.job.set.length cs) (.slice none 0 0)) rfl rfl 32 _ G5 (ansA_size _ _ _ _) rfl (ansA_one _ _ _ _ _ _ _ _ _ _) ?_; clear G5 H5))
 generalize World.setRow _ _ _ = W6 at *
 generalize w4.heap.size = b7 at *
 have HIS := Lib.hid hIs
 clear hIs hw1l hw1p
 obtain ⟨vw1, hvw1⟩ : ∃ A : At, strs w0.heap.size v1 (wordsC 32 s0) = A := ⟨_, rfl⟩
 rw [hvw1] at H6
 clear hvw1
 have hx : refParse k t = (zA, 90) := by rw [HPC.out, if_pos HB.out]
 have HX := Lib.hid hx
 clear hx
 have H7 := HL.drops (K := Kf) H6.tail
 have H8 := H7.tail.tail
 clear H7
 have H6 := H8
 cases b
 ·skip
  have G3 : _ = some (Obj.cells _ 32 (0, 0)) := H6.head
  have HSZ := HL.setWhole (cells := ansA zA (.slice none 0 0) (.slice none 0 0) (.slice none 0 0)) H6
  go_wp2_with (refine wpList_store_row rfl 32 _ _ rfl b4 (ansA zA (.slice none 0 0) (.slice none 0 0) (.slice none 0 0)) rfl rfl 32 _ G3 (ansA_size _ _ _ _) rfl (ansA_one _ _ _ _ _ _ _ _ _ _) ?_)
  have G5 := HSZ.head
  refine bodyPost_ret (results_two (by rfl) _ _ b4 32 _ (0, 0) _ _ (by rfl) (by rfl) G5 Tryz.underlying32 rfl (ansA_size _ _ _ _)) rfl ?_
  rw [HX.out]
  exact parsePost_no HSZ.tail
 ·have l2 : decide ((W.length : Int) < 2) = true := by
   rcases HB.out with h | h
   ·cases h
   ·exact decide_eq_true (by omega)
  have G3 : _ = some (Obj.cells _ 32 (0, 0)) := H6.head
  have HSZ := HL.setWhole (cells := ansA zA (.slice none 0 0) (.slice none 0 0) (.slice none 0 0)) H6
  go_wp2_with (refine wpList_store_row rfl 32 _ _ rfl b4 (ansA zA (.slice none 0 0) (.slice none 0 0) (.slice none 0 0)) rfl rfl 32 _ G3 (ansA_size _ _ _ _) rfl (ansA_one _ _ _ _ _ _ _ _ _ _) ?_)
  have G5 := HSZ.head
  refine bodyPost_ret (results_two (by rfl) _ _ b4 32 _ (0, 0) _ _ (by rfl) (by rfl) G5 Tryz.underlying32 rfl (ansA_size _ _ _ _)) rfl ?_
  rw [HX.out]
  exact parsePost_no HSZ.tail
theorem Ref.pa_ev (hD : Doors w0) (H : HL w0 w L) (k : Int) (t : ByteArray) (ht : t.size ≤ 1048576) {s0 : ByteArray} (hs0 : (wordsC 10 t)[0]? = some s0) {f : Ans} {b : Bool} (hf : firstR k (wordsC 32 s0) = (f, b)) (hb : b = true) (hl2 : 2 ≤ (wordsC 10 t).length) (hk : k ≠ 10) :
  Calls Tryz.prog 15 #[.int .i64 k, .string t] w (ParsePost w0 L (refParse k t).1 (refParse k t).2) := by
 have H1 := HL.bzA H
 have hcut := Ref.cut_ok H1 t (by omega) 10
 rw [show ((10 : UInt8).toNat : Int) = 10 from rfl] at hcut
 have hhd : (wordsC 10 t).headD ⟨#[]⟩ = s0 := by cases hw : wordsC 10 t with
  | nil => rw [hw] at hs0; simp at hs0
  | cons x r => rw [hw] at hs0; simpa using hs0
 have hpos := wordsC_len 10 t
 have hws := wordsC_size 10 t
 have hz0 : s0.size ≤ 1048576 := by have := hws s0 (List.mem_of_getElem? hs0); omega
 have hw1l := wordsC_most 32 s0
 have hw1p := wordsC_len 32 s0
 have hw1z := wordsC_size 32 s0
 have hpc : refParse k t = if b = false ∨ (wordsC 10 t).length < 2 then (zA, (90 : Int)) else match bodyR k f (midW (wordsC 10 t)) with | none => (zA, (90 : Int)) | some a => if checkA k a = 0 ∧ printS k a = t then (a, (0 : Int)) else (zA, (90 : Int)) := by
  unfold refParse
  rw [hhd, hf]
  rfl
 have hbo : ∀ a, bodyR k f (midW (wordsC 10 t)) = some a → CandOk k a := fun a ha => body_ok (t := t) (by omega) (by rw [hhd, hf]; exact ha)
 have hfo := firstR_ok (k := k) (ws := wordsC 32 s0) (by omega)
 rw [hf] at hfo
 obtain ⟨-, -, hfe, hfr⟩ := hfo
 dsimp only at hfe hfr
 have HS0 := Lib.hid hs0; have HF := Lib.hid hf; have HPC := Lib.hid hpc; have HWS := Lib.hid hws; have HZ0 := Lib.hid hz0; have HT := Lib.hid ht; have HBO := Lib.hid hbo; have HFE := Lib.hid hfe; have HFR := Lib.hid hfr; have HML := Lib.hid (wordsC_most 10 t); have HBT := Lib.hid hb; have HW2 := Lib.hid hl2; have HK := Lib.hid hk
 clear hs0 hpc hhd hws hz0 hbo hfe hfr hb hl2 hk
 generalize wordsC 10 t = W at *
 generalize hb4 : w.heap.size = b4 at *
 clear H
 go_enter Tryz.func15, Tryz.ntmps15
 go_upto_region 2 with (go_at_call 44; refine hcut.mono ?_; rintro e w2 ⟨vW, rfl, H2⟩; clear hcut H1)
 have HB4 := Lib.hid hb4
 clear hb4
 obtain ⟨bW, oW, cW, rfl, d0⟩ := str_at (entRow _ H2) HS0.out
 rw [Nat.add_zero] at d0
 obtain ⟨A', c', hv1, hc1, hc2⟩ := rd_shape (entRow _ H2)
 simp only [Value.slice.injEq] at hv1
 obtain ⟨-, -, rfl⟩ := hv1
 unfold maxLen at hc2
 have hcut2 := Ref.cut_ok H2 s0 (by have := HZ0.out; omega) 32
 rw [show ((32 : UInt8).toNat : Int) = 32 from rfl] at hcut2
 have i0 : (0 : Int) < (W.length : Int) := by omega
 have HW1Z := Lib.hid hw1z
 clear hw1z
 go_upto_region 3 with (first
  | (go_at_call 44; refine hcut2.mono ?_; rintro e w3 ⟨v1, rfl, H3⟩; clear hcut2 H2 d0; have hfi := Ref.first_ok hD H3 entRow (fun s hs => by have := HW1Z.out s hs; have := HZ0.out; omega) (by omega) (by have := HZ0.out; omega) k)
  | (go_at_call 45; refine hfi.mono ?_; rintro e w4 ⟨Kf, As, cs, rfl, hIs, H4⟩; clear hfi H3; rw [HF.out] at hIs; simp only [HF.out]; dsimp only at hIs; have H5 := HL.bzA H4; have G5 : _ = some (Obj.cells _ 32 (0, 0)) := H5.head; have H6 : HL w0 _ (boxA w4.heap.size f (.slice none 0 0) (.slice As f.job.set.length cs) (.slice none 0 0) :: _) := HL.setWhole (cells := ansA f (.slice none 0 0) (.slice As f.job.set.length cs) (.slice none 0 0)) H5; clear H4)
  | (refine wpList_store_row rfl 32 _ _ rfl w4.heap.size (ansA f (.slice none 0 0) (.slice As f.job.set.length cs) (.slice none 0 0)) rfl rfl 32 _ G5 (ansA_size _ _ _ _) rfl (ansA_one _ _ _ _ _ _ _ _ _ _) ?_; clear G5 H5))
 generalize World.setRow _ _ _ = W6 at *
 generalize w4.heap.size = b7 at *
 have HIS := Lib.hid hIs
 clear hIs hw1l hw1p
 obtain ⟨vw1, hvw1⟩ : ∃ A : At, strs w0.heap.size v1 (wordsC 32 s0) = A := ⟨_, rfl⟩
 rw [hvw1] at H6
 clear hvw1
 obtain rfl : b = true := HBT.out
 obtain ⟨m, hm⟩ : ∃ m, W.length = m + 2 := ⟨W.length - 2, by have := HW2.out; omega⟩
 obtain ⟨cc, rfl⟩ : ∃ cc, cW = cc + 1 := ⟨cW - 1, by omega⟩
 have hcc0 : ¬ cc = 0 := by omega
 have hle : m + 1 ≤ cc := by omega
 have l2 : decide ((m : Int) + 2 < 2) = false := decide_eq_false (by omega)
 have hml : (midW W).length = m := by unfold midW; rw [List.length_drop, List.length_take, hm]; omega
 have hpc : refParse k t = match bodyR k f (midW W) with | none => (zA, (90 : Int)) | some a => if checkA k a = 0 ∧ printS k a = t then (a, (0 : Int)) else (zA, (90 : Int)) := by rw [HPC.out, if_neg (by simp only [not_or]; exact ⟨by simp, by omega⟩)]
 replace HPC := Lib.hid hpc
 have hmz : ∀ s ∈ midW W, s.size ≤ 1048576 := fun s hs => by have := HWS.out s (midW_sub hs); have := HT.out; omega
 have HMZ := Lib.hid hmz; have HM := Lib.hid hm; have HML2 := Lib.hid hml
 clear hpc hmz
 have hmr : ∀ W' A1 A2 B1, HL w0 W' (A1 :: A2 :: (B1 ++ (vw1 :: strs w0.heap.size (.slice (some ⟨bW, oW, none⟩) W.length (cc + 1)) W :: bxz b4 :: L))) → Rd 1 (.slice (some ⟨bW, oW + 1, none⟩) m cc) m (strC (midW W)) W' := fun W' A1 A2 B1 HW => by
  have h1 := entRow _ (HL.drops (K := B1) HW.tail.tail).tail
  have h2 := rd_prefix h1 (m + 1) (by omega)
  rw [Nat.mul_one, strC, ← List.map_take] at h2
  have h3 := rd_suffix h2 1 (by omega) (a' := ⟨bW, oW + 1, none⟩) (.inl (by rw [add_plain]))
  have e1 : W.length - 1 = m + 1 := by omega
  unfold midW
  rw [e1, strC, List.map_drop]
  simpa using h3
 have HMR := Lib.hid hmr
 clear hmr
 rw [hm]
 rw [hm] at i0
 have i1 : (1 : Int) ≤ (m : Int) + 1 := by omega
 have i2 : (m : Int) + 1 ≤ (cc : Int) + 1 := by omega
 have hwr1 : IntKind.i64.wrap ((m : Int) + 2 - 1) = (m : Int) + 1 := by rw [IntWalk.i64_in] <;> omega
 have hm9 : m ≤ 1048576 := by have := HML.out; have := HT.out; omega
 clear hml hm hc1
 have q10 : (k == 10) = false := by have h := HK.out; simp [h]
 have hbody : ∀ es, evsRead (midW W) = some es → bodyR k f (midW W) = some { f with events := es } := fun es h => by unfold bodyR; rw [if_neg HK.out, h]; rfl
 have hbad : evsRead (midW W) = none → refParse k t = (zA, 90) := fun h => by rw [HPC.out]; unfold bodyR; rw [if_neg HK.out, h]; rfl
 have HBODY := Lib.hid hbody; have HBAD := Lib.hid hbad
 clear hbody hbad
 have H7 : HL w0 W6 (boxA b7 f (.slice none 0 0) (.slice As f.job.set.length cs) (.slice none 0 0) :: evRow w0.heap.size (.slice none 0 0) [] :: (([] ++ Kf) ++ (vw1 :: strs w0.heap.size (.slice (some ⟨bW, oW, none⟩) W.length (cc + 1)) W :: bxz b4 :: L))) := (H6.nilRow w0.heap.size 46 6).swap
 clear H6
 go_wp2
 go_loopg [42] m (fun g i wr => ∃ (n : Nat) (ps : List (Ev × Value)) (ve : Value) (Kv : List At), i = .int .i64 n ∧ n + g = m ∧ evsRead ((midW W).take n) = some (ps.map (·.1)) ∧ ps.length = n ∧ (∀ p ∈ ps, Ints w0 Kv p.2 p.1.list) ∧ HL w0 wr (boxA b7 f ve (.slice As f.job.set.length cs) (.slice none 0 0) :: evRow w0.heap.size ve ps :: ((Kv ++ Kf) ++ (vw1 :: strs w0.heap.size (.slice (some ⟨bW, oW, none⟩) W.length (cc + 1)) W :: bxz b4 :: L))))
 case atStart => exact ⟨0, [], _, [], rfl, by omega, rfl, rfl, (fun p hp => by simp at hp), H7⟩
 case round =>
  obtain ⟨n, ps, ve, Kv, rfl, hn, hps, hpn, hown, HK2⟩ := hrel
  clear H7
  have HPS := Lib.hid hps; have HOWN := Lib.hid hown; have HPN := Lib.hid hpn
  have hpl : ps.length ≤ 1048576 := by omega
  clear hps hown hpn
  obtain ⟨Ae, ce, rfl, hce1, hce2⟩ := row_shape (show wr.ownsRow w0.heap.size 46 6 ve ps.length (ps.flatMap evC2) from HK2.tail.head)
  unfold maxLen at hce2
  by_cases hlt : n < m
  ·obtain ⟨s, hs⟩ : ∃ s, (midW W)[n]? = some s := ⟨_, List.getElem?_eq_getElem (by rw [HML2.out]; exact hlt)⟩
   have hrd := HMR.out _ _ _ _ HK2
   have hrd2 : Rd 1 (.slice (some ⟨bW, oW + 1, none⟩) (midW W).length cc) (midW W).length (strC (midW W)) wr := by rw [HML2.out]; exact hrd
   obtain ⟨b1, o1, c1, hv, d0⟩ := str_at hrd2 hs
   simp only [Value.slice.injEq, Option.some.injEq, Addr.mk.injEq] at hv
   obtain ⟨⟨rfl, rfl, -⟩, -, -⟩ := hv
   have hre := Ref.readEvent_ok hD HK2 s (by have := HMZ.out s (List.mem_of_getElem? hs); omega)
   unfold ReadPost at hre
   have hcs := readE_cases s
   obtain ⟨⟨e, c9⟩, he⟩ : ∃ p, readE s = p := ⟨_, rfl⟩
   have hst := fun h0 => evsRead_step hs HPS.out h0
   have hbd := fun h0 => evsRead_bad hs h0
   simp only [he] at hre hst hbd hcs
   have HST := Lib.hid hst; have HBD0 := Lib.hid hbd
   have hcode : c9 = 0 ∨ c9 = 90 := by
    rcases hcs with h | ⟨-, -, h⟩
    ·simp only [Prod.mk.injEq] at h; exact .inr h.2
    ·exact .inl h
   clear hs he hrd hrd2 hst hbd hcs
   go_upto_region 14 with (go_at_call 47; refine hre.mono ?_; rintro r w8 ⟨u, K, rfl, hu, H8⟩; clear hre HK2 d0; obtain ⟨Au, cu, rfl, hcu1, hcu2⟩ := rd_shape (hu w8 H8.left); have HA := HL.allocE H8 e (.slice Au e.list.length cu); unfold evV)
   rcases hcode with rfl | rfl
   ·have HB : HL w0 _ (boxE w8.heap.size e (.slice Au e.list.length cu) :: boxA b7 f (.slice Ae ps.length ce) (.slice As f.job.set.length cs) (.slice none 0 0) :: evRow w0.heap.size (.slice Ae ps.length ce) ps :: ((K ++ (Kv ++ Kf)) ++ (vw1 :: strs w0.heap.size (.slice (some ⟨bW, oW, none⟩) W.length (cc + 1)) W :: bxz b4 :: L))) := HA.perm ((perm_two _ _ _ _ _).cons _)
    clear HA
    generalize World.alloc w8 _ = W9 at *
    generalize w8.heap.size = b9 at *
    obtain ⟨m0, m1, m2, m3, m4, m5⟩ := boxE_cells HB
    have c2 : W9.cell? ⟨b7, 2, none⟩ = some (.slice Ae ps.length ce) := HL.cell HB.tail 2
    have HBk := HB.alloc (.cells (evC2 (e, .slice Au e.list.length cu)).toArray 46)
    have hr := entBlk (k := 6) (n := 1) (cs := evC2 (e, .slice Au e.list.length cu)) rfl (by unfold maxLen; simp) _ HBk
    have HR := HBk.tail.tail.swap
    have HU := Lib.hid hu
    clear HB HBk H8 hu
    go_wp2_with (at_builtin; refine wpList_append_hl sliceE rfl _ _ rfl (n := ps.length) (m := 1) (xs := ps.flatMap evC2) (news := evC2 (e, .slice Au e.list.length cu)) (v := .slice Ae ps.length ce) HR rfl rfl hr (by simp [evC2, Value.oneCell']) (by unfold maxLen; omega) (by omega) ?_; intro z5 w10 H10 hnil; clear hr HR hnil m0 m1 m2 m3 m4 m5 c2; obtain ⟨A5, c5, rfl, -⟩ := row_shape (show w10.ownsRow w0.heap.size 46 6 z5 (ps.length + 1) (ps.flatMap evC2 ++ evC2 (e, .slice Au e.list.length cu)) from H10.head); have H10s := H10.swap; have c2 := HL.cell H10s 2; have y2 := HL.frozen H10s 2; have H11 := HL.setCell H10s 2 (.slice A5 (ps.length + 1) c5); clear H10 H10s)
    go_roundg (gk - 1)
    case measure => omega
    case rel =>
     refine ⟨n + 1, ps ++ [(e, .slice Au e.list.length cu)], .slice A5 (ps.length + 1) c5, K ++ Kv, by go_num, by omega, by rw [HST.out (by trivial), List.map_append]; rfl, by rw [List.length_append, HPN.out]; rfl, fun p hp => ?_, ?_⟩
     ·rcases List.mem_append.1 hp with h | h
      ·exact Ent.right (HOWN.out p h)
      ·rw [List.mem_singleton.1 h]; exact Ent.left HU.out
     ·have e1 : [(e, Value.slice Au e.list.length cu)].flatMap evC2 = evC2 (e, .slice Au e.list.length cu) := by simp
      unfold evRow
      rw [List.length_append, List.flatMap_append, e1, List.append_assoc K Kv Kf]
      exact H11
   ·have hx := HBAD.out (HBD0.out (by decide))
    have HX := Lib.hid hx
    clear hx hu
    have H9 := (HL.drops (K := Kv ++ Kf) (HL.drops (K := K) HA.tail).tail.tail).tail.tail
    clear HA H8
    have G3 : _ = some (Obj.cells _ 32 (0, 0)) := H9.head
    have HSZ := HL.setWhole (cells := ansA zA (.slice none 0 0) (.slice none 0 0) (.slice none 0 0)) H9
    go_wp2_with (refine wpList_store_row rfl 32 _ _ rfl b4 (ansA zA (.slice none 0 0) (.slice none 0 0) (.slice none 0 0)) rfl rfl 32 _ G3 (ansA_size _ _ _ _) rfl (ansA_one _ _ _ _ _ _ _ _ _ _) ?_)
    have G5 := HSZ.head
    refine bodyPost_ret (results_two (by rfl) _ _ b4 32 _ (0, 0) _ _ (by rfl) (by rfl) G5 Tryz.underlying32 rfl (ansA_size _ _ _ _)) rfl ?_
    rw [HX.out]
    exact parsePost_no HSZ.tail
  ·have hall : evsRead (midW W) = some (ps.map (·.1)) := by
    have h := HPS.out
    rwa [List.take_of_length_le (by rw [HML2.out]; omega)] at h
   obtain ⟨es, hes⟩ : ∃ es, ps.map (·.1) = es := ⟨_, rfl⟩
   rw [hes] at hall
   have HEL := Lib.hid (show ps.length = es.length by rw [← hes, List.length_map])
   have HES := Lib.hid hes.symm
   have HBD := Lib.hid (HBODY.out _ hall)
   clear hall hes
   have H9 : HL w0 wr (boxA b7 { f with events := es } (.slice Ae es.length ce) (.slice As f.job.set.length cs) (.slice none 0 0) :: ((evRow w0.heap.size (.slice Ae ps.length ce) ps :: (Kv ++ Kf)) ++ (vw1 :: strs w0.heap.size (.slice (some ⟨bW, oW, none⟩) W.length (cc + 1)) W :: bxz b4 :: L))) := by
    rw [← HEL.out]
    exact HK2
   clear HK2
   have H9b : HL w0 wr (boxA b7 { f with events := es } (.slice Ae es.length ce) (.slice As f.job.set.length cs) (.slice none f.ranks.length 0) :: ((evRow w0.heap.size (.slice Ae ps.length ce) ps :: (Kv ++ Kf)) ++ (vw1 :: strs w0.heap.size (.slice (some ⟨bW, oW, none⟩) W.length (cc + 1)) W :: bxz b4 :: L))) := by rw [HFR.out]; exact H9
   clear H9
   have hco := HBO.out _ HBD.out
   have hpa : refParse k t = if checkA k { f with events := es } = 0 ∧ printS k { f with events := es } = t then ({ f with events := es }, (0 : Int)) else (zA, (90 : Int)) := by rw [HPC.out, HBD.out]
   have HPA := Lib.hid hpa
   have hEV := (show ({ f with events := es } : Ans).events = ps.map (·.1) from HES.out)
   have hEE := (show Evs w0 (evRow w0.heap.size (.slice Ae ps.length ce) ps :: (Kv ++ Kf)) (.slice Ae es.length ce) ps from by rw [← HEL.out]; exact ⟨entRow, fun p hp => Ent.cons (Ent.left (HOWN.out p hp)) _⟩)
   have hII := (show Ints w0 (evRow w0.heap.size (.slice Ae ps.length ce) ps :: (Kv ++ Kf)) (.slice As f.job.set.length cs) f.job.set from Ent.cons (Ent.right HIS.out) _)
   have hRR := (show Rks w0 (evRow w0.heap.size (.slice Ae ps.length ce) ps :: (Kv ++ Kf)) (.slice none f.ranks.length 0) f.ranks from by rw [HFR.out]; exact fun W _ => rd_nil)
   have G1 : _ = some (Obj.cells (ansA { f with events := es } (.slice Ae es.length ce) (.slice As f.job.set.length cs) (.slice none f.ranks.length 0)) 32 (0, 0)) := H9b.head
   have hpr : Calls Tryz.prog 9 #[.int .i64 k, .agg (ansA { f with events := es } (.slice Ae es.length ce) (.slice As f.job.set.length cs) (.slice none f.ranks.length 0))] _ _ := Ref.print_ok hD fmtU_all H9b k { f with events := es } _ _ _ _ _ _ hEV (hEE.left.cons _) (Ent.cons (Ent.left hII) _) (Ent.cons (Ent.left hRR) _) hco.ok hco.fw hco.fe hco.fr hco.fs hco.print
   obtain ⟨ccx, hcc⟩ : ∃ cc, checkA k { f with events := es } = cc := ⟨_, rfl⟩
   obtain ⟨ss, hss⟩ : ∃ ss, printS k { f with events := es } = ss := ⟨_, rfl⟩
   rw [hcc, hss] at hpr HPA
   have HEV := Lib.hid hEV; have HEE := Lib.hid hEE; have HII := Lib.hid hII; have HRR := Lib.hid hRR
   clear hcc hss hpa hco hEV hEE hII hRR
   go_upto_region 19 with (first
    | (have g1 := G1; refine wpList_load_row rfl 32 _ rfl b7 rfl 32 _ (0, 0) _ g1 Tryz.underlying32 rfl (ansA_size _ _ _ _) ?_; clear g1 G1)
    | (go_at_call 9; (with_reducible refine hpr.mono ?_); rintro r w9 ⟨rfl, H8⟩; clear hpr H9b))
   by_cases hyes : ccx = 0 ∧ ss = t
   ·obtain ⟨rfl, rfl⟩ := hyes
    have q1 : (ss.toList == ss.toList) = true := by simp
    have q2 : (!(ss.toList == ss.toList)) = false := by simp
    have hx : refParse k ss = ({ f with events := es }, 0) := by rw [HPA.out, if_pos ⟨rfl, rfl⟩]
    have HX := Lib.hid hx
    clear hx
    have G1 : _ = some (Obj.cells (ansA { f with events := es } (.slice Ae es.length ce) (.slice As f.job.set.length cs) (.slice none f.ranks.length 0)) 32 (0, 0)) := H8.head
    have H10 : HL w0 w9 ((boxA b7 { f with events := es } (.slice Ae es.length ce) (.slice As f.job.set.length cs) (.slice none f.ranks.length 0) :: (evRow w0.heap.size (.slice Ae ps.length ce) ps :: (Kv ++ Kf)) ++ [vw1, strs w0.heap.size (.slice (some ⟨bW, oW, none⟩) W.length (cc + 1)) W]) ++ (bxz b4 :: L)) := by
     have h : HL w0 w9 (boxA b7 { f with events := es } (.slice Ae es.length ce) (.slice As f.job.set.length cs) (.slice none f.ranks.length 0) :: ((evRow w0.heap.size (.slice Ae ps.length ce) ps :: (Kv ++ Kf)) ++ (vw1 :: strs w0.heap.size (.slice (some ⟨bW, oW, none⟩) W.length (cc + 1)) W :: bxz b4 :: L))) := H8
     simpa [List.append_assoc] using h
    have H11 := H10.perm List.perm_middle
    clear H10
    have G3 : _ = some (Obj.cells _ 32 (0, 0)) := H11.head
    have HSZ := HL.setWhole (cells := ansA { f with events := es } (.slice Ae es.length ce) (.slice As f.job.set.length cs) (.slice none f.ranks.length 0)) H11
    go_wp2_with (first
     | (have g1 := G1; refine wpList_load_row rfl 32 _ rfl b7 rfl 32 _ (0, 0) _ g1 Tryz.underlying32 rfl (ansA_size _ _ _ _) ?_; clear g1 G1)
     | (refine wpList_store_row rfl 32 _ _ rfl b4 (ansA { f with events := es } (.slice Ae es.length ce) (.slice As f.job.set.length cs) (.slice none f.ranks.length 0)) rfl rfl 32 _ G3 (ansA_size _ _ _ _) rfl (ansA_one _ _ _ _ _ _ _ _ _ _) ?_))
    have G5 := HSZ.head
    refine bodyPost_ret (results_two (by rfl) _ _ b4 32 _ (0, 0) _ _ (by rfl) (by rfl) G5 Tryz.underlying32 rfl (ansA_size _ _ _ _)) rfl ?_
    rw [HX.out]
    refine ⟨boxA b7 { f with events := es } (.slice Ae es.length ce) (.slice As f.job.set.length cs) (.slice none f.ranks.length 0) :: (evRow w0.heap.size (.slice Ae ps.length ce) ps :: (Kv ++ Kf)) ++ [vw1, strs w0.heap.size (.slice (some ⟨bW, oW, none⟩) W.length (cc + 1)) W], _, _, _, _, _, _, _, rfl, HEV.out, (HEE.out.cons _).left, Ent.left (Ent.cons HII.out _), Ent.left (Ent.cons HRR.out _), HSZ.tail⟩
   ·have hx : refParse k t = (zA, 90) := by rw [HPA.out, if_neg hyes]
    have HX := Lib.hid hx
    clear hx
    have H9 := (HL.drops (K := (evRow w0.heap.size (.slice Ae ps.length ce) ps :: (Kv ++ Kf))) H8.tail).tail.tail
    clear H8
    by_cases h0 : ccx = 0
    ·have hs : ss ≠ t := fun e => hyes ⟨h0, e⟩
     have q1 : (ss.toList == t.toList) = false := by rw [beq_eq_false_iff_ne]; exact fun e => hs (bytesSame e)
     subst h0
     clear hyes hs
     have G3 : _ = some (Obj.cells _ 32 (0, 0)) := H9.head
     have HSZ := HL.setWhole (cells := ansA zA (.slice none 0 0) (.slice none 0 0) (.slice none 0 0)) H9
     go_wp2_with (refine wpList_store_row rfl 32 _ _ rfl b4 (ansA zA (.slice none 0 0) (.slice none 0 0) (.slice none 0 0)) rfl rfl 32 _ G3 (ansA_size _ _ _ _) rfl (ansA_one _ _ _ _ _ _ _ _ _ _) ?_)
     have G5 := HSZ.head
     refine bodyPost_ret (results_two (by rfl) _ _ b4 32 _ (0, 0) _ _ (by rfl) (by rfl) G5 Tryz.underlying32 rfl (ansA_size _ _ _ _)) rfl ?_
     rw [HX.out]
     exact parsePost_no HSZ.tail
    ·have q0 : (ccx != 0) = true := by simp [h0]
     clear hyes h0
     have G3 : _ = some (Obj.cells _ 32 (0, 0)) := H9.head
     have HSZ := HL.setWhole (cells := ansA zA (.slice none 0 0) (.slice none 0 0) (.slice none 0 0)) H9
     go_wp2_with (refine wpList_store_row rfl 32 _ _ rfl b4 (ansA zA (.slice none 0 0) (.slice none 0 0) (.slice none 0 0)) rfl rfl 32 _ G3 (ansA_size _ _ _ _) rfl (ansA_one _ _ _ _ _ _ _ _ _ _) ?_)
     have G5 := HSZ.head
     refine bodyPost_ret (results_two (by rfl) _ _ b4 32 _ (0, 0) _ _ (by rfl) (by rfl) G5 Tryz.underlying32 rfl (ansA_size _ _ _ _)) rfl ?_
     rw [HX.out]
     exact parsePost_no HSZ.tail
theorem Ref.pa_rk (hD : Doors w0) (H : HL w0 w L) (k : Int) (t : ByteArray) (ht : t.size ≤ 1048576) {s0 : ByteArray} (hs0 : (wordsC 10 t)[0]? = some s0) {f : Ans} {b : Bool} (hf : firstR k (wordsC 32 s0) = (f, b)) (hb : b = true) (hl2 : 2 ≤ (wordsC 10 t).length) (hk : k = 10) :
  Calls Tryz.prog 15 #[.int .i64 k, .string t] w (ParsePost w0 L (refParse k t).1 (refParse k t).2) := by
 have H1 := HL.bzA H
 have hcut := Ref.cut_ok H1 t (by omega) 10
 rw [show ((10 : UInt8).toNat : Int) = 10 from rfl] at hcut
 have hhd : (wordsC 10 t).headD ⟨#[]⟩ = s0 := by cases hw : wordsC 10 t with
  | nil => rw [hw] at hs0; simp at hs0
  | cons x r => rw [hw] at hs0; simpa using hs0
 have hpos := wordsC_len 10 t
 have hws := wordsC_size 10 t
 have hz0 : s0.size ≤ 1048576 := by have := hws s0 (List.mem_of_getElem? hs0); omega
 have hw1l := wordsC_most 32 s0
 have hw1p := wordsC_len 32 s0
 have hw1z := wordsC_size 32 s0
 have hpc : refParse k t = if b = false ∨ (wordsC 10 t).length < 2 then (zA, (90 : Int)) else match bodyR k f (midW (wordsC 10 t)) with | none => (zA, (90 : Int)) | some a => if checkA k a = 0 ∧ printS k a = t then (a, (0 : Int)) else (zA, (90 : Int)) := by
  unfold refParse
  rw [hhd, hf]
  rfl
 have hbo : ∀ a, bodyR k f (midW (wordsC 10 t)) = some a → CandOk k a := fun a ha => body_ok (t := t) (by omega) (by rw [hhd, hf]; exact ha)
 have hfo := firstR_ok (k := k) (ws := wordsC 32 s0) (by omega)
 rw [hf] at hfo
 obtain ⟨-, -, hfe, hfr⟩ := hfo
 dsimp only at hfe hfr
 have HS0 := Lib.hid hs0; have HF := Lib.hid hf; have HPC := Lib.hid hpc; have HWS := Lib.hid hws; have HZ0 := Lib.hid hz0; have HT := Lib.hid ht; have HBO := Lib.hid hbo; have HFE := Lib.hid hfe; have HFR := Lib.hid hfr; have HML := Lib.hid (wordsC_most 10 t); have HBT := Lib.hid hb; have HW2 := Lib.hid hl2; have HK := Lib.hid hk
 clear hs0 hpc hhd hws hz0 hbo hfe hfr hb hl2 hk
 generalize wordsC 10 t = W at *
 generalize hb4 : w.heap.size = b4 at *
 clear H
 go_enter Tryz.func15, Tryz.ntmps15
 go_upto_region 2 with (go_at_call 44; refine hcut.mono ?_; rintro e w2 ⟨vW, rfl, H2⟩; clear hcut H1)
 have HB4 := Lib.hid hb4
 clear hb4
 obtain ⟨bW, oW, cW, rfl, d0⟩ := str_at (entRow _ H2) HS0.out
 rw [Nat.add_zero] at d0
 obtain ⟨A', c', hv1, hc1, hc2⟩ := rd_shape (entRow _ H2)
 simp only [Value.slice.injEq] at hv1
 obtain ⟨-, -, rfl⟩ := hv1
 unfold maxLen at hc2
 have hcut2 := Ref.cut_ok H2 s0 (by have := HZ0.out; omega) 32
 rw [show ((32 : UInt8).toNat : Int) = 32 from rfl] at hcut2
 have i0 : (0 : Int) < (W.length : Int) := by omega
 have HW1Z := Lib.hid hw1z
 clear hw1z
 go_upto_region 3 with (first
  | (go_at_call 44; refine hcut2.mono ?_; rintro e w3 ⟨v1, rfl, H3⟩; clear hcut2 H2 d0; have hfi := Ref.first_ok hD H3 entRow (fun s hs => by have := HW1Z.out s hs; have := HZ0.out; omega) (by omega) (by have := HZ0.out; omega) k)
  | (go_at_call 45; refine hfi.mono ?_; rintro e w4 ⟨Kf, As, cs, rfl, hIs, H4⟩; clear hfi H3; rw [HF.out] at hIs; simp only [HF.out]; dsimp only at hIs; have H5 := HL.bzA H4; have G5 : _ = some (Obj.cells _ 32 (0, 0)) := H5.head; have H6 : HL w0 _ (boxA w4.heap.size f (.slice none 0 0) (.slice As f.job.set.length cs) (.slice none 0 0) :: _) := HL.setWhole (cells := ansA f (.slice none 0 0) (.slice As f.job.set.length cs) (.slice none 0 0)) H5; clear H4)
  | (refine wpList_store_row rfl 32 _ _ rfl w4.heap.size (ansA f (.slice none 0 0) (.slice As f.job.set.length cs) (.slice none 0 0)) rfl rfl 32 _ G5 (ansA_size _ _ _ _) rfl (ansA_one _ _ _ _ _ _ _ _ _ _) ?_; clear G5 H5))
 generalize World.setRow _ _ _ = W6 at *
 generalize w4.heap.size = b7 at *
 have HIS := Lib.hid hIs
 clear hIs hw1l hw1p
 obtain ⟨vw1, hvw1⟩ : ∃ A : At, strs w0.heap.size v1 (wordsC 32 s0) = A := ⟨_, rfl⟩
 rw [hvw1] at H6
 clear hvw1
 obtain rfl : b = true := HBT.out
 obtain ⟨m, hm⟩ : ∃ m, W.length = m + 2 := ⟨W.length - 2, by have := HW2.out; omega⟩
 obtain ⟨cc, rfl⟩ : ∃ cc, cW = cc + 1 := ⟨cW - 1, by omega⟩
 have hcc0 : ¬ cc = 0 := by omega
 have hle : m + 1 ≤ cc := by omega
 have l2 : decide ((m : Int) + 2 < 2) = false := decide_eq_false (by omega)
 have hml : (midW W).length = m := by unfold midW; rw [List.length_drop, List.length_take, hm]; omega
 have hpc : refParse k t = match bodyR k f (midW W) with | none => (zA, (90 : Int)) | some a => if checkA k a = 0 ∧ printS k a = t then (a, (0 : Int)) else (zA, (90 : Int)) := by rw [HPC.out, if_neg (by simp only [not_or]; exact ⟨by simp, by omega⟩)]
 replace HPC := Lib.hid hpc
 have hmz : ∀ s ∈ midW W, s.size ≤ 1048576 := fun s hs => by have := HWS.out s (midW_sub hs); have := HT.out; omega
 have HMZ := Lib.hid hmz; have HM := Lib.hid hm; have HML2 := Lib.hid hml
 clear hpc hmz
 have hmr : ∀ W' A1 A2 B1, HL w0 W' (A1 :: A2 :: (B1 ++ (vw1 :: strs w0.heap.size (.slice (some ⟨bW, oW, none⟩) W.length (cc + 1)) W :: bxz b4 :: L))) → Rd 1 (.slice (some ⟨bW, oW + 1, none⟩) m cc) m (strC (midW W)) W' := fun W' A1 A2 B1 HW => by
  have h1 := entRow _ (HL.drops (K := B1) HW.tail.tail).tail
  have h2 := rd_prefix h1 (m + 1) (by omega)
  rw [Nat.mul_one, strC, ← List.map_take] at h2
  have h3 := rd_suffix h2 1 (by omega) (a' := ⟨bW, oW + 1, none⟩) (.inl (by rw [add_plain]))
  have e1 : W.length - 1 = m + 1 := by omega
  unfold midW
  rw [e1, strC, List.map_drop]
  simpa using h3
 have HMR := Lib.hid hmr
 clear hmr
 rw [hm]
 rw [hm] at i0
 have i1 : (1 : Int) ≤ (m : Int) + 1 := by omega
 have i2 : (m : Int) + 1 ≤ (cc : Int) + 1 := by omega
 have hwr1 : IntKind.i64.wrap ((m : Int) + 2 - 1) = (m : Int) + 1 := by rw [IntWalk.i64_in] <;> omega
 have hm9 : m ≤ 1048576 := by have := HML.out; have := HT.out; omega
 clear hml hm hc1
 have q10 : (k == 10) = true := by rw [HK.out]; rfl
 have hbody : ∀ rs, rksRead (midW W) = some rs → bodyR k f (midW W) = some { f with ranks := rs } := fun rs h => by unfold bodyR; rw [if_pos HK.out, h]; rfl
 have hbad : rksRead (midW W) = none → refParse k t = (zA, 90) := fun h => by rw [HPC.out]; unfold bodyR; rw [if_pos HK.out, h]; rfl
 have HBODY := Lib.hid hbody; have HBAD := Lib.hid hbad
 clear hbody hbad
 have H7 : HL w0 W6 (boxA b7 f (.slice none 0 0) (.slice As f.job.set.length cs) (.slice none 0 0) :: rkRow w0.heap.size (.slice none 0 0) [] :: (Kf ++ (vw1 :: strs w0.heap.size (.slice (some ⟨bW, oW, none⟩) W.length (cc + 1)) W :: bxz b4 :: L))) := (H6.nilRow w0.heap.size 62 2).swap
 clear H6
 go_wp2
 go_loopg [42] m (fun g i wr => ∃ (n : Nat) (rs : List Rk) (ve : Value), i = .int .i64 n ∧ n + g = m ∧ rksRead ((midW W).take n) = some rs ∧ rs.length = n ∧ HL w0 wr (boxA b7 f (.slice none 0 0) (.slice As f.job.set.length cs) ve :: rkRow w0.heap.size ve rs :: (Kf ++ (vw1 :: strs w0.heap.size (.slice (some ⟨bW, oW, none⟩) W.length (cc + 1)) W :: bxz b4 :: L))))
 case atStart => exact ⟨0, [], _, rfl, by omega, rfl, rfl, H7⟩
 case round =>
  obtain ⟨n, rs, ve, rfl, hn, hrs, hrn, HK2⟩ := hrel
  clear H7
  have HRS := Lib.hid hrs; have HRN := Lib.hid hrn
  have hpl : rs.length ≤ 1048576 := by omega
  clear hrs hrn
  obtain ⟨Ae, ce, rfl, hce1, hce2⟩ := row_shape (show wr.ownsRow w0.heap.size 62 2 ve rs.length (rs.flatMap rkC) from HK2.tail.head)
  unfold maxLen at hce2
  by_cases hlt : n < m
  ·obtain ⟨s, hs⟩ : ∃ s, (midW W)[n]? = some s := ⟨_, List.getElem?_eq_getElem (by rw [HML2.out]; exact hlt)⟩
   have hrd := HMR.out _ _ _ _ HK2
   have hrd2 : Rd 1 (.slice (some ⟨bW, oW + 1, none⟩) (midW W).length cc) (midW W).length (strC (midW W)) wr := by rw [HML2.out]; exact hrd
   obtain ⟨b1, o1, c1, hv, d0⟩ := str_at hrd2 hs
   simp only [Value.slice.injEq, Option.some.injEq, Addr.mk.injEq] at hv
   obtain ⟨⟨rfl, rfl, -⟩, -, -⟩ := hv
   have hsz := HMZ.out s (List.mem_of_getElem? hs)
   have hct := Ref.cut_ok HK2 s (by omega) 32
   rw [show ((32 : UInt8).toNat : Int) = 32 from rfl] at hct
   have hcz := wordsC_size 32 s
   have hcl := wordsC_most 32 s
   have hst := fun x hx => rksRead_step hs HRS.out (x := x) hx
   have hbd := fun h0 => rksRead_bad hs h0
   have hrk : rkRead s = match readV (wordsC 32 s) with | some [x, y] => some ⟨x, y⟩ | _ => none := rfl
   have HST := Lib.hid hst; have HBD0 := Lib.hid hbd; have HRKD := Lib.hid hrk; have HCZ := Lib.hid hcz
   clear hs hrd hrd2 hst hbd hrk hcz
   generalize wordsC 32 s = ww at *
   cases hrv : readV ww with
   | none =>
    have hx := HBAD.out (HBD0.out (by rw [HRKD.out, hrv]))
    have HX := Lib.hid hx
    have hrd := fun W' L' v' (HH : HL w0 W' L') h => Ref.read_ok HH (ws := ww) (v := v') h (fun x hx => by have := HCZ.out x hx; omega) (by omega)
    unfold RefReadsPost at hrd
    simp only [hrv] at hrd
    clear hx hrv
    go_upto_region 10 with (first
     | (go_at_call 44; refine hct.mono ?_; rintro e w7 ⟨v7, rfl, H8⟩; clear hct d0 HK2)
     | (go_at_call 46; refine (hrd _ _ _ H8 entRow).mono ?_; rintro e w8 ⟨rfl, H9a⟩; clear hrd H8))
    have H9 := (HL.drops (K := Kf) H9a.tail.tail.tail).tail.tail
    clear H9a
    have G3 : _ = some (Obj.cells _ 32 (0, 0)) := H9.head
    have HSZ := HL.setWhole (cells := ansA zA (.slice none 0 0) (.slice none 0 0) (.slice none 0 0)) H9
    go_wp2_with (refine wpList_store_row rfl 32 _ _ rfl b4 (ansA zA (.slice none 0 0) (.slice none 0 0) (.slice none 0 0)) rfl rfl 32 _ G3 (ansA_size _ _ _ _) rfl (ansA_one _ _ _ _ _ _ _ _ _ _) ?_)
    have G5 := HSZ.head
    refine bodyPost_ret (results_two (by rfl) _ _ b4 32 _ (0, 0) _ _ (by rfl) (by rfl) G5 Tryz.underlying32 rfl (ansA_size _ _ _ _)) rfl ?_
    rw [HX.out]
    exact parsePost_no HSZ.tail
   | some nn =>
    have hrd := fun W' L' v' (HH : HL w0 W' L') h => Ref.read_ok HH (ws := ww) (v := v') h (fun x hx => by have := HCZ.out x hx; omega) (by omega)
    unfold RefReadsPost at hrd
    simp only [hrv] at hrd
    have HRV := Lib.hid hrv
    clear hrv
    go_upto_region 10 with (first
     | (go_at_call 44; refine hct.mono ?_; rintro e w7 ⟨v7, rfl, H8⟩; clear hct d0 HK2)
     | (go_at_call 46; refine (hrd _ _ _ H8 entRow).mono ?_; rintro e w8 ⟨u8, rfl, H9a⟩; clear hrd H8))
    obtain ⟨Au, cu, rfl, hcu1, hcu2⟩ := rd_shape (entRow _ H9a)
    unfold maxLen at hcu2
    by_cases hl2 : nn.length = 2
    case neg =>
     have lk : ((nn.length : Int) != 2) = true := by simp; omega
     have hx := HBAD.out (HBD0.out (by
      rw [HRKD.out, HRV.out]
      split
      ·rename_i x y h
       simp only [Option.some.injEq] at h
       subst h
       exact absurd rfl hl2
      ·rfl))
     have HX := Lib.hid hx
     clear hx hl2
     have H9 := (HL.drops (K := Kf) H9a.tail.tail.tail.tail).tail.tail
     clear H9a
     have G3 : _ = some (Obj.cells _ 32 (0, 0)) := H9.head
     have HSZ := HL.setWhole (cells := ansA zA (.slice none 0 0) (.slice none 0 0) (.slice none 0 0)) H9
     go_wp2_with (refine wpList_store_row rfl 32 _ _ rfl b4 (ansA zA (.slice none 0 0) (.slice none 0 0) (.slice none 0 0)) rfl rfl 32 _ G3 (ansA_size _ _ _ _) rfl (ansA_one _ _ _ _ _ _ _ _ _ _) ?_)
     have G5 := HSZ.head
     refine bodyPost_ret (results_two (by rfl) _ _ b4 32 _ (0, 0) _ _ (by rfl) (by rfl) G5 Tryz.underlying32 rfl (ansA_size _ _ _ _)) rfl ?_
     rw [HX.out]
     exact parsePost_no HSZ.tail
    obtain ⟨x0, x1, rfl⟩ : ∃ x0 x1, nn = [x0, x1] := by
     match nn, hl2 with
     | [x, y], _ => exact ⟨x, y, rfl⟩
    have hstp := HST.out ⟨x0, x1⟩ (by rw [HRKD.out, HRV.out])
    have HSTP := Lib.hid hstp
    obtain ⟨g, og, cg, hv, d0⟩ := int_at (rd_row H9a.head) (k := 0) (x := x0) rfl
    simp only [Value.slice.injEq] at hv
    obtain ⟨rfl, -, rfl⟩ := hv
    obtain ⟨g', og', cg', hv, d1⟩ := int_at (rd_row H9a.head) (k := 1) (x := x1) rfl
    simp only [Value.slice.injEq, Option.some.injEq, Addr.mk.injEq] at hv
    obtain ⟨⟨rfl, rfl, -⟩, -, -⟩ := hv
    rw [Nat.add_zero] at d0
    have HKK : HL w0 w8 (boxA b7 f (.slice none 0 0) (.slice As f.job.set.length cs) (.slice Ae rs.length ce) :: intsR w0.heap.size (.slice (some ⟨g, og, none⟩) [x0, x1].length cu) [x0, x1] :: rkRow w0.heap.size (.slice Ae rs.length ce) rs :: (Kf ++ (vw1 :: strs w0.heap.size (.slice (some ⟨bW, oW, none⟩) W.length (cc + 1)) W :: bxz b4 :: L))) := H9a.sel 4 [2, 0, 3]
    have hSS : ∀ W' v' M', HL w0 W' (boxA b7 f (.slice none 0 0) (.slice As f.job.set.length cs) v' :: intsR w0.heap.size (.slice (some ⟨g, og, none⟩) [x0, x1].length cu) [x0, x1] :: M') → W'.cell? ⟨g, og, none⟩ = some (.int .i64 x0) ∧ W'.cell? ⟨g, og + 1, none⟩ = some (.int .i64 x1) := fun W' v' M' HW => by
     obtain ⟨b', o', c', hv, g1⟩ := int_at (rd_row HW.tail.head) (k := 0) (x := x0) rfl
     simp only [Value.slice.injEq, Option.some.injEq, Addr.mk.injEq] at hv
     obtain ⟨⟨rfl, rfl, -⟩, -, -⟩ := hv
     obtain ⟨b', o', c', hv, g2⟩ := int_at (rd_row HW.tail.head) (k := 1) (x := x1) rfl
     simp only [Value.slice.injEq, Option.some.injEq, Addr.mk.injEq] at hv
     obtain ⟨⟨rfl, rfl, -⟩, -, -⟩ := hv
     rw [Nat.add_zero] at g1
     exact ⟨g1, g2⟩
    clear H9a hstp hl2 d0 d1
    simp only [List.length_cons, List.length_nil, Nat.zero_add] at HKK hSS ⊢
    go_upto_region 12 with (fail)
    refine wp_region_held_drew (S := fun w' => w'.cell? ⟨g, og, none⟩ = some (.int .i64 x0) ∧ w'.cell? ⟨g, og + 1, none⟩ = some (.int .i64 x1)) (by kernel_rfl) (hSS _ _ _ HKK.drew) (fun hHeld => ?_)
    have Hd := HKK.drew
    clear HKK
    generalize World.drew _ = Wd at *
    refine ztk 0 ?_
    simp only [Act.put, zp]
    refine ztk 2 ?_
    simp only [Act.put, zp]
    refine ztk 3 ?_
    simp only [Act.put, zp]
    refine ztk 4 ?_
    simp only [Act.put, zp]
    refine ztk 5 ?_
    simp only [Act.put, zp]
    refine ztk 6 ?_
    simp only [Act.put, zp]
    refine ztk 7 ?_
    simp only [Act.put, zp]
    refine ztk 8 ?_
    simp only [Act.put, zp]
    refine wpAnyH_ready (rs := [1, 9]) (by kernel_rfl) (by simp) ?_
    refine AllReadyH.cons rfl (fun K' hK' => ?_) (AllReadyH.cons rfl (fun K' hK' => ?_) AllReadyH.nil)
    ·skip
     dsimp only [zg1, zg3, zg2]
     have c11 : (Wd).cell? ⟨b7, 11, none⟩ = some (.slice Ae rs.length ce) := HL.cell Hd 11
     go_simp
     refine hK'.out _ _ (hSS _ _ _ Hd) (fun hHeld => ?_)
     clear hK' K'
     try simp only [Act.put, zp]
     refine zry 9 (fun K' hK' => ?_)
     dsimp only [zg1, zg3, zg2]
     go_simp
     have HBk := Hd.alloc (.cells (rkC ⟨x0, x1⟩).toArray 62)
     refine hK'.out _ _ (hSS _ _ _ HBk.tail) (fun hHeld => ?_)
     clear hK' K'
     try simp only [Act.put, zp]
     refine zry 10 (fun K' hK' => ?_)
     have hr := entBlk (k := 2) (n := 1) (cs := rkC ⟨x0, x1⟩) rfl (by unfold maxLen; simp) _ HBk
     have HR := HBk.tail.sel 3 [2, 0, 1]
     refine step_append_hl (ys := #[]) sliceR rfl _ _ rfl (v := .slice Ae rs.length ce) (xv := .slice (some ⟨Wd.heap.size, 0, none⟩) 1 1) (n := rs.length) (m := 1) (xs := rs.flatMap rkC) (news := rkC ⟨x0, x1⟩) HR rfl rfl hr (by simp [rkC, Value.oneCell']) (by unfold maxLen; omega) (by omega) ?_
     intro z6 w11 H12
     obtain ⟨A6, c6, rfl, -⟩ := row_shape (show w11.ownsRow w0.heap.size 62 2 z6 (rs.length + 1) (rs.flatMap rkC ++ rkC ⟨x0, x1⟩) from H12.head)
     have H12s := H12.swap
     have c11b := HL.cell H12s 11
     have y11 := HL.frozen H12s 11
     refine hK'.out _ _ (hSS _ _ _ H12.tail) (fun hHeld => ?_)
     clear hK' K'
     try simp only [Act.put, zp]
     refine ztk 11 ?_
     simp only [Act.put, zp]
     refine zry 12 (fun K' hK' => ?_)
     dsimp only [zg1, zg3, zg2]
     go_simp
     have H13 := HL.setCell H12s 11 (.slice A6 (rs.length + 1) c6)
     refine hK'.out _ _ (hSS _ _ _ (H13.sel 3 [0, 2])) (fun hHeld => ?_)
     clear hK' K'
     try simp only [Act.put, zp]
     refine wpAnyH_done (by kernel_rfl) ?_ _
     go_wp2
     go_roundg (gk - 1)
     case measure => omega
     case rel =>
      refine ⟨n + 1, rs ++ [⟨x0, x1⟩], .slice A6 (rs.length + 1) c6, by go_num, by omega, HSTP.out, by rw [List.length_append, HRN.out]; rfl, ?_⟩
      have e1 : [(⟨x0, x1⟩ : Rk)].flatMap rkC = rkC ⟨x0, x1⟩ := by simp
      unfold rkRow
      rw [List.length_append, List.flatMap_append, e1]
      exact H13.sel 3 [0, 1]
    ·skip
     dsimp only [zg1, zg3, zg2]
     go_simp
     have HBk := Hd.alloc (.cells (rkC ⟨x0, x1⟩).toArray 62)
     refine hK'.out _ _ (hSS _ _ _ HBk.tail) (fun hHeld => ?_)
     clear hK' K'
     try simp only [Act.put, zp]
     refine zry 1 (fun K' hK' => ?_)
     dsimp only [zg1, zg3, zg2]
     have c11 : (Wd.alloc (.cells #[.int .i64 x0, .int .i64 x1] 62)).cell? ⟨b7, 11, none⟩ = some (.slice Ae rs.length ce) := HL.cell HBk.tail 11
     go_simp
     refine hK'.out _ _ (hSS _ _ _ HBk.tail) (fun hHeld => ?_)
     clear hK' K'
     try simp only [Act.put, zp]
     refine zry 10 (fun K' hK' => ?_)
     have hr := entBlk (k := 2) (n := 1) (cs := rkC ⟨x0, x1⟩) rfl (by unfold maxLen; simp) _ HBk
     have HR := HBk.tail.sel 3 [2, 0, 1]
     refine step_append_hl (ys := #[]) sliceR rfl _ _ rfl (v := .slice Ae rs.length ce) (xv := .slice (some ⟨Wd.heap.size, 0, none⟩) 1 1) (n := rs.length) (m := 1) (xs := rs.flatMap rkC) (news := rkC ⟨x0, x1⟩) HR rfl rfl hr (by simp [rkC, Value.oneCell']) (by unfold maxLen; omega) (by omega) ?_
     intro z6 w11 H12
     obtain ⟨A6, c6, rfl, -⟩ := row_shape (show w11.ownsRow w0.heap.size 62 2 z6 (rs.length + 1) (rs.flatMap rkC ++ rkC ⟨x0, x1⟩) from H12.head)
     have H12s := H12.swap
     have c11b := HL.cell H12s 11
     have y11 := HL.frozen H12s 11
     refine hK'.out _ _ (hSS _ _ _ H12.tail) (fun hHeld => ?_)
     clear hK' K'
     try simp only [Act.put, zp]
     refine ztk 11 ?_
     simp only [Act.put, zp]
     refine zry 12 (fun K' hK' => ?_)
     dsimp only [zg1, zg3, zg2]
     go_simp
     have H13 := HL.setCell H12s 11 (.slice A6 (rs.length + 1) c6)
     refine hK'.out _ _ (hSS _ _ _ (H13.sel 3 [0, 2])) (fun hHeld => ?_)
     clear hK' K'
     try simp only [Act.put, zp]
     refine wpAnyH_done (by kernel_rfl) ?_ _
     go_wp2
     go_roundg (gk - 1)
     case measure => omega
     case rel =>
      refine ⟨n + 1, rs ++ [⟨x0, x1⟩], .slice A6 (rs.length + 1) c6, by go_num, by omega, HSTP.out, by rw [List.length_append, HRN.out]; rfl, ?_⟩
      have e1 : [(⟨x0, x1⟩ : Rk)].flatMap rkC = rkC ⟨x0, x1⟩ := by simp
      unfold rkRow
      rw [List.length_append, List.flatMap_append, e1]
      exact H13.sel 3 [0, 1]
  ·have hall : rksRead (midW W) = some rs := by
    have h := HRS.out
    rwa [List.take_of_length_le (by rw [HML2.out]; omega)] at h
   have HBD := Lib.hid (HBODY.out _ hall)
   clear hall
   have H9 : HL w0 wr (boxA b7 { f with ranks := rs } (.slice none f.events.length 0) (.slice As f.job.set.length cs) (.slice Ae rs.length ce) :: ((rkRow w0.heap.size (.slice Ae rs.length ce) rs :: Kf) ++ (vw1 :: strs w0.heap.size (.slice (some ⟨bW, oW, none⟩) W.length (cc + 1)) W :: bxz b4 :: L))) := by rw [HFE.out]; exact HK2
   clear HK2
   have hco := HBO.out _ HBD.out
   have hpa : refParse k t = if checkA k { f with ranks := rs } = 0 ∧ printS k { f with ranks := rs } = t then ({ f with ranks := rs }, (0 : Int)) else (zA, (90 : Int)) := by rw [HPC.out, HBD.out]
   have HPA := Lib.hid hpa
   have hEV := (show ({ f with ranks := rs } : Ans).events = ([] : List (Ev × Value)).map (·.1) from HFE.out)
   have hEE := (show Evs w0 (rkRow w0.heap.size (.slice Ae rs.length ce) rs :: Kf) (.slice none f.events.length 0) [] from by rw [HFE.out]; exact ⟨fun W _ => rd_nil, fun p hp => by simp at hp⟩)
   have hII := (show Ints w0 (rkRow w0.heap.size (.slice Ae rs.length ce) rs :: Kf) (.slice As f.job.set.length cs) f.job.set from Ent.cons HIS.out _)
   have hRR := (show Rks w0 (rkRow w0.heap.size (.slice Ae rs.length ce) rs :: Kf) (.slice Ae rs.length ce) rs from entRow)
   have G1 : _ = some (Obj.cells (ansA { f with ranks := rs } (.slice none f.events.length 0) (.slice As f.job.set.length cs) (.slice Ae rs.length ce)) 32 (0, 0)) := H9.head
   have hpr : Calls Tryz.prog 9 #[.int .i64 k, .agg (ansA { f with ranks := rs } (.slice none f.events.length 0) (.slice As f.job.set.length cs) (.slice Ae rs.length ce))] _ _ := Ref.print_ok hD fmtU_all H9 k { f with ranks := rs } _ _ _ _ _ _ hEV (hEE.left.cons _) (Ent.cons (Ent.left hII) _) (Ent.cons (Ent.left hRR) _) hco.ok hco.fw hco.fe hco.fr hco.fs hco.print
   obtain ⟨ccx, hcc⟩ : ∃ cc, checkA k { f with ranks := rs } = cc := ⟨_, rfl⟩
   obtain ⟨ss, hss⟩ : ∃ ss, printS k { f with ranks := rs } = ss := ⟨_, rfl⟩
   rw [hcc, hss] at hpr HPA
   have HEV := Lib.hid hEV; have HEE := Lib.hid hEE; have HII := Lib.hid hII; have HRR := Lib.hid hRR
   clear hcc hss hpa hco hEV hEE hII hRR
   go_upto_region 19 with (first
    | (have g1 := G1; refine wpList_load_row rfl 32 _ rfl b7 rfl 32 _ (0, 0) _ g1 Tryz.underlying32 rfl (ansA_size _ _ _ _) ?_; clear g1 G1)
    | (go_at_call 9; (with_reducible refine hpr.mono ?_); rintro r w9 ⟨rfl, H8⟩; clear hpr H9))
   by_cases hyes : ccx = 0 ∧ ss = t
   ·obtain ⟨rfl, rfl⟩ := hyes
    have q1 : (ss.toList == ss.toList) = true := by simp
    have q2 : (!(ss.toList == ss.toList)) = false := by simp
    have hx : refParse k ss = ({ f with ranks := rs }, 0) := by rw [HPA.out, if_pos ⟨rfl, rfl⟩]
    have HX := Lib.hid hx
    clear hx
    have G1 : _ = some (Obj.cells (ansA { f with ranks := rs } (.slice none f.events.length 0) (.slice As f.job.set.length cs) (.slice Ae rs.length ce)) 32 (0, 0)) := H8.head
    have H10 : HL w0 w9 ((boxA b7 { f with ranks := rs } (.slice none f.events.length 0) (.slice As f.job.set.length cs) (.slice Ae rs.length ce) :: (rkRow w0.heap.size (.slice Ae rs.length ce) rs :: Kf) ++ [vw1, strs w0.heap.size (.slice (some ⟨bW, oW, none⟩) W.length (cc + 1)) W]) ++ (bxz b4 :: L)) := by
     have h : HL w0 w9 (boxA b7 { f with ranks := rs } (.slice none f.events.length 0) (.slice As f.job.set.length cs) (.slice Ae rs.length ce) :: ((rkRow w0.heap.size (.slice Ae rs.length ce) rs :: Kf) ++ (vw1 :: strs w0.heap.size (.slice (some ⟨bW, oW, none⟩) W.length (cc + 1)) W :: bxz b4 :: L))) := H8
     simpa [List.append_assoc] using h
    have H11 := H10.perm List.perm_middle
    clear H10
    have G3 : _ = some (Obj.cells _ 32 (0, 0)) := H11.head
    have HSZ := HL.setWhole (cells := ansA { f with ranks := rs } (.slice none f.events.length 0) (.slice As f.job.set.length cs) (.slice Ae rs.length ce)) H11
    go_wp2_with (first
     | (have g1 := G1; refine wpList_load_row rfl 32 _ rfl b7 rfl 32 _ (0, 0) _ g1 Tryz.underlying32 rfl (ansA_size _ _ _ _) ?_; clear g1 G1)
     | (refine wpList_store_row rfl 32 _ _ rfl b4 (ansA { f with ranks := rs } (.slice none f.events.length 0) (.slice As f.job.set.length cs) (.slice Ae rs.length ce)) rfl rfl 32 _ G3 (ansA_size _ _ _ _) rfl (ansA_one _ _ _ _ _ _ _ _ _ _) ?_))
    have G5 := HSZ.head
    refine bodyPost_ret (results_two (by rfl) _ _ b4 32 _ (0, 0) _ _ (by rfl) (by rfl) G5 Tryz.underlying32 rfl (ansA_size _ _ _ _)) rfl ?_
    rw [HX.out]
    refine ⟨boxA b7 { f with ranks := rs } (.slice none f.events.length 0) (.slice As f.job.set.length cs) (.slice Ae rs.length ce) :: (rkRow w0.heap.size (.slice Ae rs.length ce) rs :: Kf) ++ [vw1, strs w0.heap.size (.slice (some ⟨bW, oW, none⟩) W.length (cc + 1)) W], _, _, _, _, _, _, _, rfl, HEV.out, (HEE.out.cons _).left, Ent.left (Ent.cons HII.out _), Ent.left (Ent.cons HRR.out _), HSZ.tail⟩
   ·have hx : refParse k t = (zA, 90) := by rw [HPA.out, if_neg hyes]
    have HX := Lib.hid hx
    clear hx
    have H9 := (HL.drops (K := (rkRow w0.heap.size (.slice Ae rs.length ce) rs :: Kf)) H8.tail).tail.tail
    clear H8
    by_cases h0 : ccx = 0
    ·have hs : ss ≠ t := fun e => hyes ⟨h0, e⟩
     have q1 : (ss.toList == t.toList) = false := by rw [beq_eq_false_iff_ne]; exact fun e => hs (bytesSame e)
     subst h0
     clear hyes hs
     have G3 : _ = some (Obj.cells _ 32 (0, 0)) := H9.head
     have HSZ := HL.setWhole (cells := ansA zA (.slice none 0 0) (.slice none 0 0) (.slice none 0 0)) H9
     go_wp2_with (refine wpList_store_row rfl 32 _ _ rfl b4 (ansA zA (.slice none 0 0) (.slice none 0 0) (.slice none 0 0)) rfl rfl 32 _ G3 (ansA_size _ _ _ _) rfl (ansA_one _ _ _ _ _ _ _ _ _ _) ?_)
     have G5 := HSZ.head
     refine bodyPost_ret (results_two (by rfl) _ _ b4 32 _ (0, 0) _ _ (by rfl) (by rfl) G5 Tryz.underlying32 rfl (ansA_size _ _ _ _)) rfl ?_
     rw [HX.out]
     exact parsePost_no HSZ.tail
    ·have q0 : (ccx != 0) = true := by simp [h0]
     clear hyes h0
     have G3 : _ = some (Obj.cells _ 32 (0, 0)) := H9.head
     have HSZ := HL.setWhole (cells := ansA zA (.slice none 0 0) (.slice none 0 0) (.slice none 0 0)) H9
     go_wp2_with (refine wpList_store_row rfl 32 _ _ rfl b4 (ansA zA (.slice none 0 0) (.slice none 0 0) (.slice none 0 0)) rfl rfl 32 _ G3 (ansA_size _ _ _ _) rfl (ansA_one _ _ _ _ _ _ _ _ _ _) ?_)
     have G5 := HSZ.head
     refine bodyPost_ret (results_two (by rfl) _ _ b4 32 _ (0, 0) _ _ (by rfl) (by rfl) G5 Tryz.underlying32 rfl (ansA_size _ _ _ _)) rfl ?_
     rw [HX.out]
     exact parsePost_no HSZ.tail
theorem Ref.parse_ok (hD : Doors w0) (H : HL w0 w L) (k : Int) (t : ByteArray) (ht : t.size ≤ 1048576) :
  Calls Tryz.prog 15 #[.int .i64 k, .string t] w (ParsePost w0 L (parseA k t).1 (parseA k t).2) := by
 rw [← refParse_eq ht]
 have hpos := wordsC_len 10 t
 obtain ⟨s0, hs0⟩ : ∃ x, (wordsC 10 t)[0]? = some x := ⟨_, List.getElem?_eq_getElem (by omega)⟩
 obtain ⟨⟨f, b⟩, hf⟩ : ∃ p, firstR k (wordsC 32 s0) = p := ⟨_, rfl⟩
 by_cases hb : b = false ∨ (wordsC 10 t).length < 2
 ·exact Ref.pa_bad hD H k t ht hs0 hf hb
 ·have hb1 : b = true := by cases b with
   | true => rfl
   | false => exact absurd (.inl rfl) hb
  have hb2 : 2 ≤ (wordsC 10 t).length := by
   rcases Nat.lt_or_ge (wordsC 10 t).length 2 with h | h
   ·exact absurd (.inr h) hb
   ·exact h
  by_cases hk : k = 10
  ·exact Ref.pa_rk hD H k t ht hs0 hf hb1 hb2 hk
  ·exact Ref.pa_ev hD H k t ht hs0 hf hb1 hb2 hk
end
end Go.Proofs.YtdekbbffoaphhaaGreatDoor

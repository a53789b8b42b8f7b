/- An answer's first line. -/
import Derived.Test.YtdekbbffoaphhaaGreatDoorAnZip
import Derived.Test.YtdekbbffoaphhaaGreatDoorAnCheck
import Derived.Test.YtdekbbffoaphhaaGreatDoorAnEvent
set_option linter.unusedVariables false
set_option linter.unusedSimpArgs false
set_option maxRecDepth 100000
set_option maxHeartbeats 8000000
namespace Go.Proofs.An
/-- The first line of an answer without an error. -/
def firstT (k : Int) (a : Ans) : List UInt8 :=
 if k = 1 then [106, 111, 98] ++ numsT [a.id] else if k = 5 then [97, 99, 99, 111, 117, 110, 116] ++ numsT [a.id]
 else if k = 9 then [106, 111, 98] ++ numsT [a.job.acc, a.job.nodes, a.job.lim, a.job.sub] ++ [32] ++ (stW a.job.st).data.toList ++ numsT [a.job.start, a.job.fin] ++ numsT a.job.set
 else if k = 10 then [104, 111, 108, 100, 101, 114] ++ numsT [a.holder, a.shadow]
 else if k = 11 then [117, 115, 97, 103, 101] ++ numsT [a.raw] ++ [32] ++ Lib.decDigits a.usage.toNat ++ [32] ++ Lib.decDigits a.factor.toNat
 else if k = 12 then [102, 114, 101, 101] ++ numsT [a.free] else if k = 13 then [99, 111, 110, 102, 105, 103] ++ numsT [a.cfg.c0, a.cfg.c1, a.cfg.c2, a.cfg.c3, a.cfg.c4, a.cfg.c5, a.cfg.c6, a.cfg.c7, a.bound] else [111, 107]
def Int64 (n : Int) : Prop := -9223372036854775808 ≤ n ∧ n ≤ 9223372036854775807
structure AnsOk (a : Ans) : Prop where
 code : Int64 a.code
 id : Int64 a.id
 events : ∀ e ∈ a.events, EvOk e
 few : a.events.length ≤ 4294967296
 acc : Int64 a.job.acc
 nodes : Int64 a.job.nodes
 lim : Int64 a.job.lim
 sub : Int64 a.job.sub
 st : Int64 a.job.st
 start : Int64 a.job.start
 fin : Int64 a.job.fin
 set : Fits a.job.set
 fewS : a.job.set.length ≤ 4294967296
 ranks : ∀ r ∈ a.ranks, Int64 r.job ∧ Int64 r.prio
 fewR : a.ranks.length ≤ 4294967296
 raw : Int64 a.raw
 usage : 0 ≤ a.usage ∧ a.usage < 18446744073709551616
 factor : 0 ≤ a.factor ∧ a.factor < 18446744073709551616
 free : Int64 a.free
 holder : Int64 a.holder
 shadow : Int64 a.shadow
 c0 : Int64 a.cfg.c0
 c1 : Int64 a.cfg.c1
 c2 : Int64 a.cfg.c2
 c3 : Int64 a.cfg.c3
 c4 : Int64 a.cfg.c4
 c5 : Int64 a.cfg.c5
 c6 : Int64 a.cfg.c6
 c7 : Int64 a.cfg.c7
 bound : Int64 a.bound
theorem fitsNil : Fits [] := fun n hn => by simp at hn
theorem fitsCons {n : Int} {l : List Int} (h : Int64 n) (hl : Fits l) : Fits (n :: l) := fun m hm => by
 rcases List.mem_cons.1 hm with rfl | hm
 ·exact h
 ·exact hl m hm
end Go.Proofs.An
namespace Go.Proofs.YtdekbbffoaphhaaGreatDoor
open Go.RowKit Go.Proofs.HL Go.Proofs.An
section
variable {w0 w : World} {L : List At}
theorem retSt {a b : ByteArray} (h : a = b) : Ending.returned (.string b) = .returned (.string a) := by rw [h]
/-- What strconv.FormatUint is asked to be (shown in a text of its own). -/
def FmtU (w0 : World) : Prop := ∀ (n : Nat) (W : World) (L' : List At), n < 18446744073709551616 → HL w0 W L' → Calls Tryz.prog 52 #[.int .u64 n, .int .i64 10] W fun e w' => e = .returned (.string ⟨(Lib.decDigits n).toArray⟩) ∧ HL w0 w' L'
theorem first_ok (hD : Doors w0) (hFU : FmtU w0) (H : HL w0 w L) (k : Int) (a : Ans) (Ae As Ar : Option Addr) (ce cs cr : Nat) (hI : Ints w0 L (.slice As a.job.set.length cs) a.job.set) (hok : AnsOk a) :
  Calls Tryz.prog 21 #[.int .i64 k, ansV a (.slice Ae a.events.length ce) (.slice As a.job.set.length cs) (.slice Ar a.ranks.length cr)] w fun r w' => r = .returned (.string ⟨(firstT k a).toArray⟩) ∧ HL w0 w' L := by
 have H1 := HL.allocA H a (.slice Ae a.events.length ce) (.slice As a.job.set.length cs) (.slice Ar a.ranks.length cr)
 unfold ansV
 have hft : ∀ s : ByteArray, s.data.toList = firstT k a → (⟨(firstT k a).toArray⟩ : ByteArray) = s := fun s h => by rw [← h]
 have HFT := Lib.hid hft
 obtain ⟨R, hR⟩ : ∃ R, (⟨(firstT k a).toArray⟩ : ByteArray) = R := ⟨_, rfl⟩
 rw [hR] at HFT ⊢
 generalize hb1 : w.heap.size = b1 at *
 clear H hft hR
 go_enter Tryz.func21, Tryz.ntmps21
 go_upto_region 1 with (fail)
 have HB1 := Lib.hid hb1
 clear hb1
 generalize World.alloc _ _ = W at *
 go_cut [5, 6] (fun t5 t6 wc => ∃ b5 b6, t5 = .pointer (some ⟨b5, 0, none⟩) ∧ t6 = .pointer (some ⟨b6, 0, none⟩) ∧ HL w0 wc (boxJ b5 a.job (.slice As a.job.set.length cs) :: boxF b6 a.cfg :: boxA b1 a (.slice Ae a.events.length ce) (.slice As a.job.set.length cs) (.slice Ar a.ranks.length cr) :: L))
 case first =>
  have hS : ∀ W' L', HL w0 W' (boxA b1 a (.slice Ae a.events.length ce) (.slice As a.job.set.length cs) (.slice Ar a.ranks.length cr) :: L') → W'.cell? ⟨b1, 3, none⟩ = some (.int .i64 a.job.acc) ∧ W'.cell? ⟨b1, 4, none⟩ = some (.int .i64 a.job.nodes) ∧ W'.cell? ⟨b1, 5, none⟩ = some (.int .i64 a.job.lim) ∧ W'.cell? ⟨b1, 6, none⟩ = some (.int .i64 a.job.sub) ∧ W'.cell? ⟨b1, 7, none⟩ = some (.int .i64 a.job.st) ∧ W'.cell? ⟨b1, 8, none⟩ = some (.int .i64 a.job.start) ∧ W'.cell? ⟨b1, 9, none⟩ = some (.int .i64 a.job.fin) ∧ W'.cell? ⟨b1, 10, none⟩ = some (.slice As a.job.set.length cs) ∧ W'.cell? ⟨b1, 18, none⟩ = some (.int .i64 a.cfg.c0) ∧ W'.cell? ⟨b1, 19, none⟩ = some (.int .i64 a.cfg.c1) ∧ W'.cell? ⟨b1, 20, none⟩ = some (.int .i64 a.cfg.c2) ∧ W'.cell? ⟨b1, 21, none⟩ = some (.int .i64 a.cfg.c3) ∧ W'.cell? ⟨b1, 22, none⟩ = some (.int .i64 a.cfg.c4) ∧ W'.cell? ⟨b1, 23, none⟩ = some (.int .i64 a.cfg.c5) ∧ W'.cell? ⟨b1, 24, none⟩ = some (.int .i64 a.cfg.c6) ∧ W'.cell? ⟨b1, 25, none⟩ = some (.int .i64 a.cfg.c7) := fun W' L' HW => ⟨HL.cell HW 3, HL.cell HW 4, HL.cell HW 5, HL.cell HW 6, HL.cell HW 7, HL.cell HW 8, HL.cell HW 9, HL.cell HW 10, HL.cell HW 18, HL.cell HW 19, HL.cell HW 20, HL.cell HW 21, HL.cell HW 22, HL.cell HW 23, HL.cell HW 24, HL.cell HW 25⟩
  refine wp_region_held_drew (S := fun w' => w'.cell? ⟨b1, 3, none⟩ = some (.int .i64 a.job.acc) ∧ w'.cell? ⟨b1, 4, none⟩ = some (.int .i64 a.job.nodes) ∧ w'.cell? ⟨b1, 5, none⟩ = some (.int .i64 a.job.lim) ∧ w'.cell? ⟨b1, 6, none⟩ = some (.int .i64 a.job.sub) ∧ w'.cell? ⟨b1, 7, none⟩ = some (.int .i64 a.job.st) ∧ w'.cell? ⟨b1, 8, none⟩ = some (.int .i64 a.job.start) ∧ w'.cell? ⟨b1, 9, none⟩ = some (.int .i64 a.job.fin) ∧ w'.cell? ⟨b1, 10, none⟩ = some (.slice As a.job.set.length cs) ∧ w'.cell? ⟨b1, 18, none⟩ = some (.int .i64 a.cfg.c0) ∧ w'.cell? ⟨b1, 19, none⟩ = some (.int .i64 a.cfg.c1) ∧ w'.cell? ⟨b1, 20, none⟩ = some (.int .i64 a.cfg.c2) ∧ w'.cell? ⟨b1, 21, none⟩ = some (.int .i64 a.cfg.c3) ∧ w'.cell? ⟨b1, 22, none⟩ = some (.int .i64 a.cfg.c4) ∧ w'.cell? ⟨b1, 23, none⟩ = some (.int .i64 a.cfg.c5) ∧ w'.cell? ⟨b1, 24, none⟩ = some (.int .i64 a.cfg.c6) ∧ w'.cell? ⟨b1, 25, none⟩ = some (.int .i64 a.cfg.c7)) (by kernel_rfl) (hS _ _ H1.drew) (fun hHeld => ?_)
  have Hd := H1.drew
  clear H1
  generalize W.drew = Wd at *
  refine ztk 0 ?_
  simp only [Act.put, zp]
  refine ztk 1 ?_
  simp only [Act.put, zp]
  refine ztk 2 ?_
  simp only [Act.put, zp]
  refine ztk 3 ?_
  simp only [Act.put, zp]
  refine wpAnyH_ready (rs := [4, 5]) (by kernel_rfl) (by simp) ?_
  refine AllReadyH.cons rfl (fun K' hK' => ?_) (AllReadyH.cons rfl (fun K' hK' => ?_) AllReadyH.nil)
  ·skip
   dsimp only [zg1, zg3, zg2]
   go_simp
   have Ha := Hd.alloc (.cells #[.int .i64 0, .int .i64 0, .int .i64 0, .int .i64 0, .int .i64 0, .int .i64 0, .int .i64 0, .slice none 0 0] 26)
   refine hK'.out _ _ (hS _ _ (Ha.sel 2 [1])) (fun hHeld => ?_)
   clear hK' K'
   try simp only [Act.put, zp]
   refine zry 5 (fun K' hK' => ?_)
   dsimp only [zg1, zg3, zg2]
   go_simp
   have Hb := Ha.alloc (.cells #[.int .i64 0, .int .i64 0, .int .i64 0, .int .i64 0, .int .i64 0, .int .i64 0, .int .i64 0, .int .i64 0] 30)
   rw [World.size_alloc] at Hb
   refine hK'.out _ _ (hS _ _ (Hb.sel 3 [2])) (fun hHeld => ?_)
   clear hK' K'
   try simp only [Act.put, zp]
   refine zry 6 (fun K' hK' => ?_)
   dsimp only [zg1, zg3, zg2]
   have G6 : _ = some (Obj.cells _ 26 (0, 0)) := Hb.tail.head
   rw [if_pos (by rfl)]
   refine wp_store_row 26 _ _ rfl Wd.heap.size (jbA a.job (.slice As a.job.set.length cs)) rfl rfl 26 _ G6 (jbA_size _ _) rfl (jbA_one _ _ _ _) ?_
   clear G6
   have Hc := HL.setWhole (cells := jbA a.job (.slice As a.job.set.length cs)) (Hb.sel 3 [1, 0, 2])
   refine hK'.out _ _ (hS _ _ (Hc.sel 3 [2])) (fun hHeld => ?_)
   clear hK' K'
   try simp only [Act.put, zp]
   refine zry 7 (fun K' hK' => ?_)
   dsimp only [zg1, zg3, zg2]
   have G7 : _ = some (Obj.cells _ 30 (0, 0)) := Hc.tail.head
   rw [if_pos (by rfl)]
   refine wp_store_row 30 _ _ rfl (Wd.heap.size + 1) (cfA a.cfg) rfl rfl 30 _ G7 (cfA_size _) rfl (cfA_one _) ?_
   clear G7
   have He := HL.setWhole (cells := cfA a.cfg) (Hc.sel 3 [1, 0, 2])
   refine hK'.out _ _ (hS _ _ (He.sel 3 [2])) (fun hHeld => ?_)
   clear hK' K'
   try simp only [Act.put, zp]
   refine wpAnyH_done (by kernel_rfl) ?_ _
   go_wp2
   go_meet
   exact ⟨Wd.heap.size, Wd.heap.size + 1, rfl, rfl, He.sel 3 [1, 0, 2]⟩
  ·skip
   dsimp only [zg1, zg3, zg2]
   go_simp
   have Ha := Hd.alloc (.cells #[.int .i64 0, .int .i64 0, .int .i64 0, .int .i64 0, .int .i64 0, .int .i64 0, .int .i64 0, .int .i64 0] 30)
   refine hK'.out _ _ (hS _ _ (Ha.sel 2 [1])) (fun hHeld => ?_)
   clear hK' K'
   try simp only [Act.put, zp]
   refine zry 4 (fun K' hK' => ?_)
   dsimp only [zg1, zg3, zg2]
   go_simp
   have Hb := Ha.alloc (.cells #[.int .i64 0, .int .i64 0, .int .i64 0, .int .i64 0, .int .i64 0, .int .i64 0, .int .i64 0, .slice none 0 0] 26)
   rw [World.size_alloc] at Hb
   refine hK'.out _ _ (hS _ _ (Hb.sel 3 [2])) (fun hHeld => ?_)
   clear hK' K'
   try simp only [Act.put, zp]
   refine zry 6 (fun K' hK' => ?_)
   dsimp only [zg1, zg3, zg2]
   have G6 : _ = some (Obj.cells _ 26 (0, 0)) := Hb.head
   rw [if_pos (by rfl)]
   refine wp_store_row 26 _ _ rfl (Wd.heap.size + 1) (jbA a.job (.slice As a.job.set.length cs)) rfl rfl 26 _ G6 (jbA_size _ _) rfl (jbA_one _ _ _ _) ?_
   clear G6
   have Hc := HL.setWhole (cells := jbA a.job (.slice As a.job.set.length cs)) (Hb)
   refine hK'.out _ _ (hS _ _ (Hc.sel 3 [2])) (fun hHeld => ?_)
   clear hK' K'
   try simp only [Act.put, zp]
   refine zry 7 (fun K' hK' => ?_)
   dsimp only [zg1, zg3, zg2]
   have G7 : _ = some (Obj.cells _ 30 (0, 0)) := Hc.tail.head
   rw [if_pos (by rfl)]
   refine wp_store_row 30 _ _ rfl Wd.heap.size (cfA a.cfg) rfl rfl 30 _ G7 (cfA_size _) rfl (cfA_one _) ?_
   clear G7
   have He := HL.setWhole (cells := cfA a.cfg) (Hc.sel 3 [1, 0, 2])
   refine hK'.out _ _ (hS _ _ (He.sel 3 [2])) (fun hHeld => ?_)
   clear hK' K'
   try simp only [Act.put, zp]
   refine wpAnyH_done (by kernel_rfl) ?_ _
   go_wp2
   go_meet
   exact ⟨Wd.heap.size + 1, Wd.heap.size, rfl, rfl, He.sel 3 [1, 0, 2]⟩
 case rest =>
  obtain ⟨b5, b6, rfl, rfl, H2⟩ := hcut
  clear H1
  go_upto_block 0 with (fail)
  by_cases g1 : k = 1
  ·have ht : firstT k a = [106, 111, 98] ++ numsT [a.id] := by simp [firstT, g1]
   have HT := Lib.hid ht
   have q1 : (k == 1) = true := by simp [g1]
   have q5 : (k == 5) = false := by simp [g1]
   have q9 : (k == 9) = false := by simp [g1]
   have q10 : (k == 10) = false := by simp [g1]
   have q11 : (k == 11) = false := by simp [g1]
   have q12 : (k == 12) = false := by simp [g1]
   have q13 : (k == 13) = false := by simp [g1]
   clear ht g1
   have c := fun W L' v' (HH : HL w0 W L') (hv : Ints w0 L' v' [a.id]) => numbers_ok hD HH hv (fitsCons hok.id fitsNil) (by simp)
   have zc := nums_size (l := [a.id]) (fitsCons hok.id fitsNil)
   have xc : (⟨(numsT [a.id]).toArray⟩ : ByteArray).data.toList = numsT [a.id] := by simp
   simp only [List.length_cons, List.length_nil] at zc
   generalize (⟨(numsT [a.id]).toArray⟩ : ByteArray) = D at *
   have Xc := Lib.hid xc
   clear xc
   have e1 : wc.cell? ⟨b1, 1, none⟩ = some (.int .i64 a.id) := HL.cell (H2.sel 3 [2]) 1
   have H3 := H2.alloc (.cells #[.int .i64 a.id] 3)
   have hc : Calls Tryz.prog 19 #[.slice (some ⟨wc.heap.size, 0, none⟩) 1 1] _ _ := c _ _ _ H3 (entBlk (k := 1) (n := 1) (cs := intC [a.id]) rfl (by unfold maxLen; simp))
   have s1 : (⟨#[106, 111, 98]⟩ : ByteArray).size = 3 := rfl
   go_wp2_with (go_at_call 19; refine hc.mono ?_; rintro r w4 ⟨rfl, H4⟩; clear hc)
   go_ret
   exact ⟨retSt (HFT.out _ (by rw [HT.out]; simp [Xc.out])), H4.tail.tail.tail.tail⟩
  have q1 : (k == 1) = false := by simp [g1]
  by_cases g5 : k = 5
  ·have ht : firstT k a = [97, 99, 99, 111, 117, 110, 116] ++ numsT [a.id] := by simp [firstT, g5]
   have HT := Lib.hid ht
   have q5 : (k == 5) = true := by simp [g5]
   have q9 : (k == 9) = false := by simp [g5]
   have q10 : (k == 10) = false := by simp [g5]
   have q11 : (k == 11) = false := by simp [g5]
   have q12 : (k == 12) = false := by simp [g5]
   have q13 : (k == 13) = false := by simp [g5]
   clear ht g5
   have c := fun W L' v' (HH : HL w0 W L') (hv : Ints w0 L' v' [a.id]) => numbers_ok hD HH hv (fitsCons hok.id fitsNil) (by simp)
   have zc := nums_size (l := [a.id]) (fitsCons hok.id fitsNil)
   have xc : (⟨(numsT [a.id]).toArray⟩ : ByteArray).data.toList = numsT [a.id] := by simp
   simp only [List.length_cons, List.length_nil] at zc
   generalize (⟨(numsT [a.id]).toArray⟩ : ByteArray) = D at *
   have Xc := Lib.hid xc
   clear xc
   have e1 : wc.cell? ⟨b1, 1, none⟩ = some (.int .i64 a.id) := HL.cell (H2.sel 3 [2]) 1
   have H3 := H2.alloc (.cells #[.int .i64 a.id] 3)
   have hc : Calls Tryz.prog 19 #[.slice (some ⟨wc.heap.size, 0, none⟩) 1 1] _ _ := c _ _ _ H3 (entBlk (k := 1) (n := 1) (cs := intC [a.id]) rfl (by unfold maxLen; simp))
   have s1 : (⟨#[97, 99, 99, 111, 117, 110, 116]⟩ : ByteArray).size = 7 := rfl
   go_wp2_with (go_at_call 19; refine hc.mono ?_; rintro r w4 ⟨rfl, H4⟩; clear hc)
   go_ret
   exact ⟨retSt (HFT.out _ (by rw [HT.out]; simp [Xc.out])), H4.tail.tail.tail.tail⟩
  have q5 : (k == 5) = false := by simp [g5]
  by_cases g9 : k = 9
  ·have ht : firstT k a = [106, 111, 98] ++ numsT [a.job.acc, a.job.nodes, a.job.lim, a.job.sub] ++ [32] ++ (stW a.job.st).data.toList ++ numsT [a.job.start, a.job.fin] ++ numsT a.job.set := by simp [firstT, g9]
   have HT := Lib.hid ht
   have q9 : (k == 9) = true := by simp [g9]
   have q10 : (k == 10) = false := by simp [g9]
   have q11 : (k == 11) = false := by simp [g9]
   have q12 : (k == 12) = false := by simp [g9]
   have q13 : (k == 13) = false := by simp [g9]
   clear ht g9
   have c4 := fun W L' v' (HH : HL w0 W L') (hv : Ints w0 L' v' [a.job.acc, a.job.nodes, a.job.lim, a.job.sub]) => numbers_ok hD HH hv (fitsCons hok.acc (fitsCons hok.nodes (fitsCons hok.lim (fitsCons hok.sub fitsNil)))) (by simp)
   have zc4 := nums_size (l := [a.job.acc, a.job.nodes, a.job.lim, a.job.sub]) (fitsCons hok.acc (fitsCons hok.nodes (fitsCons hok.lim (fitsCons hok.sub fitsNil))))
   have xc4 : (⟨(numsT [a.job.acc, a.job.nodes, a.job.lim, a.job.sub]).toArray⟩ : ByteArray).data.toList = numsT [a.job.acc, a.job.nodes, a.job.lim, a.job.sub] := by simp
   simp only [List.length_cons, List.length_nil] at zc4
   generalize (⟨(numsT [a.job.acc, a.job.nodes, a.job.lim, a.job.sub]).toArray⟩ : ByteArray) = D4 at *
   have Xc4 := Lib.hid xc4
   clear xc4
   have c2 := fun W L' v' (HH : HL w0 W L') (hv : Ints w0 L' v' [a.job.start, a.job.fin]) => numbers_ok hD HH hv (fitsCons hok.start (fitsCons hok.fin fitsNil)) (by simp)
   have zc2 := nums_size (l := [a.job.start, a.job.fin]) (fitsCons hok.start (fitsCons hok.fin fitsNil))
   have xc2 : (⟨(numsT [a.job.start, a.job.fin]).toArray⟩ : ByteArray).data.toList = numsT [a.job.start, a.job.fin] := by simp
   simp only [List.length_cons, List.length_nil] at zc2
   generalize (⟨(numsT [a.job.start, a.job.fin]).toArray⟩ : ByteArray) = D2 at *
   have Xc2 := Lib.hid xc2
   clear xc2
   have cl := fun W L' v' (HH : HL w0 W L') (hv : Ints w0 L' v' a.job.set) => numbers_ok hD HH hv hok.set hok.fewS
   have zl := nums_size hok.set
   have hfs := hok.fewS
   have xl : (⟨(numsT a.job.set).toArray⟩ : ByteArray).data.toList = numsT a.job.set := by simp
   have zs := stW_size a.job.st
   have hst := fun W => state_ok a.job.st W
   generalize (⟨(numsT a.job.set).toArray⟩ : ByteArray) = DL at *
   generalize stW a.job.st = DS at *
   have XL := Lib.hid xl
   have s1 : (⟨#[106, 111, 98]⟩ : ByteArray).size = 3 := rfl
   have s2 : (⟨#[32]⟩ : ByteArray).size = 1 := rfl
   clear xl
   have hS : ∀ W' L', HL w0 W' (boxJ b5 a.job (.slice As a.job.set.length cs) :: L') → W'.cell? ⟨b5, 0, none⟩ = some (.int .i64 a.job.acc) ∧ W'.cell? ⟨b5, 1, none⟩ = some (.int .i64 a.job.nodes) ∧ W'.cell? ⟨b5, 2, none⟩ = some (.int .i64 a.job.lim) ∧ W'.cell? ⟨b5, 3, none⟩ = some (.int .i64 a.job.sub) ∧ W'.cell? ⟨b5, 4, none⟩ = some (.int .i64 a.job.st) ∧ W'.cell? ⟨b5, 5, none⟩ = some (.int .i64 a.job.start) ∧ W'.cell? ⟨b5, 6, none⟩ = some (.int .i64 a.job.fin) ∧ W'.cell? ⟨b5, 7, none⟩ = some (.slice As a.job.set.length cs) := fun W' L' HW => boxJ_cells HW
   have hIq := fun W' L' (HW : HL w0 W' (L' ++ L)) => hI W' HW.drops
   have HIQ := Lib.hid hIq
   clear hIq
   go_wp2
   refine wp_region_held_drew (S := fun w' => w'.cell? ⟨b5, 0, none⟩ = some (.int .i64 a.job.acc) ∧ w'.cell? ⟨b5, 1, none⟩ = some (.int .i64 a.job.nodes) ∧ w'.cell? ⟨b5, 2, none⟩ = some (.int .i64 a.job.lim) ∧ w'.cell? ⟨b5, 3, none⟩ = some (.int .i64 a.job.sub) ∧ w'.cell? ⟨b5, 4, none⟩ = some (.int .i64 a.job.st) ∧ w'.cell? ⟨b5, 5, none⟩ = some (.int .i64 a.job.start) ∧ w'.cell? ⟨b5, 6, none⟩ = some (.int .i64 a.job.fin) ∧ w'.cell? ⟨b5, 7, none⟩ = some (.slice As a.job.set.length cs)) (by kernel_rfl) (hS _ _ H2.drew) (fun hHeld => ?_)
   have Hd := H2.drew
   clear H2
   generalize wc.drew = Wd at *
   refine ztk 0 ?_
   simp only [Act.put, zp]
   refine ztk 1 ?_
   simp only [Act.put, zp]
   refine ztk 2 ?_
   simp only [Act.put, zp]
   refine ztk 3 ?_
   simp only [Act.put, zp]
   refine ztk 4 ?_
   simp only [Act.put, zp]
   refine ztk 5 ?_
   simp only [Act.put, zp]
   refine ztk 6 ?_
   simp only [Act.put, zp]
   refine ztk 7 ?_
   simp only [Act.put, zp]
   refine ztk 12 ?_
   simp only [Act.put, zp]
   refine ztk 13 ?_
   simp only [Act.put, zp]
   refine ztk 16 ?_
   simp only [Act.put, zp]
   refine ztk 17 ?_
   simp only [Act.put, zp]
   refine ztk 18 ?_
   simp only [Act.put, zp]
   refine ztk 19 ?_
   simp only [Act.put, zp]
   refine ztk 23 ?_
   simp only [Act.put, zp]
   refine ztk 24 ?_
   simp only [Act.put, zp]
   refine wpAnyH_ready (rs := [8, 20]) (by kernel_rfl) (by simp) ?_
   refine AllReadyH.cons rfl (fun K' hK' => ?_) (AllReadyH.cons rfl (fun K' hK' => ?_) AllReadyH.nil)
   ·skip
    dsimp only [zg1, zg3, zg2]
    go_simp
    have Hx1 := Hd.alloc (.cells #[.int .i64 a.job.acc, .int .i64 a.job.nodes, .int .i64 a.job.lim, .int .i64 a.job.sub] 3)
    try rw [World.size_alloc] at Hx1
    refine hK'.out _ _ (hS _ _ (Hx1.sel 2 [1])) (fun hHeld => ?_)
    clear hK' K'
    try simp only [Act.put, zp]
    refine wpAnyH_ready (rs := [9, 20]) (by kernel_rfl) (by simp) ?_
    refine AllReadyH.cons rfl (fun K' hK' => ?_) (AllReadyH.cons rfl (fun K' hK' => ?_) AllReadyH.nil)
    ·skip
     dsimp only [zg1, zg3, zg2]
     go_simp
     go_at_call 19
     refine (c4 _ _ _ Hx1 (entBlk (k := 1) (n := 4) (cs := intC [a.job.acc, a.job.nodes, a.job.lim, a.job.sub]) rfl (by unfold maxLen; simp))).mono ?_
     rintro r w11 ⟨rfl, Hx2⟩
     dsimp only
     go_simp
     refine hK'.out _ _ (hS _ _ (Hx2.sel 2 [1])) (fun hHeld => ?_)
     clear hK' K'
     try simp only [Act.put, zp]
     refine ztk 10 ?_
     simp only [Act.put, zp]
     refine ztk 11 ?_
     simp only [Act.put, zp]
     refine wpAnyH_ready (rs := [14, 20]) (by kernel_rfl) (by simp) ?_
     refine AllReadyH.cons rfl (fun K' hK' => ?_) (AllReadyH.cons rfl (fun K' hK' => ?_) AllReadyH.nil)
     ·skip
      dsimp only [zg1, zg3, zg2]
      go_simp
      go_at_call 27
      refine (hst _).mono ?_
      rintro r w12 ⟨rfl, rfl⟩
      have Hx3 := Hx2
      dsimp only
      go_simp
      refine hK'.out _ _ (hS _ _ (Hx3.sel 2 [1])) (fun hHeld => ?_)
      clear hK' K'
      try simp only [Act.put, zp]
      refine ztk 15 ?_
      simp only [Act.put, zp]
      refine zry 20 (fun K' hK' => ?_)
      dsimp only [zg1, zg3, zg2]
      go_simp
      have Hx4 := Hx3.alloc (.cells #[.int .i64 a.job.start, .int .i64 a.job.fin] 3)
      try rw [World.size_alloc] at Hx4
      refine hK'.out _ _ (hS _ _ (Hx4.sel 3 [2])) (fun hHeld => ?_)
      clear hK' K'
      try simp only [Act.put, zp]
      refine zry 21 (fun K' hK' => ?_)
      dsimp only [zg1, zg3, zg2]
      go_simp
      go_at_call 19
      refine (c2 _ _ _ Hx4 (entBlk (k := 1) (n := 2) (cs := intC [a.job.start, a.job.fin]) rfl (by unfold maxLen; simp))).mono ?_
      rintro r w14 ⟨rfl, Hx5⟩
      dsimp only
      go_simp
      refine hK'.out _ _ (hS _ _ (Hx5.sel 3 [2])) (fun hHeld => ?_)
      clear hK' K'
      try simp only [Act.put, zp]
      refine ztk 22 ?_
      simp only [Act.put, zp]
      refine zry 25 (fun K' hK' => ?_)
      dsimp only [zg1, zg3, zg2]
      go_simp
      go_at_call 19
      refine (cl _ _ _ Hx5 (Ent.cons (Ent.cons (Ent.cons (Ent.cons (Ent.cons hI _) _) _) _) _)).mono ?_
      rintro r w15 ⟨rfl, Hx6⟩
      dsimp only
      go_simp
      refine hK'.out _ _ (hS _ _ (Hx6.sel 3 [2])) (fun hHeld => ?_)
      clear hK' K'
      try simp only [Act.put, zp]
      refine ztk 26 ?_
      simp only [Act.put, zp]
      refine ztk 27 ?_
      simp only [Act.put, zp]
      refine wpAnyH_done (by kernel_rfl) ?_ _
      go_wp2
      go_ret
      exact ⟨retSt (HFT.out _ (by rw [HT.out]; simp [Xc4.out, Xc2.out, XL.out])), Hx6.tail.tail.tail.tail.tail⟩
     ·skip
      dsimp only [zg1, zg3, zg2]
      go_simp
      have Hx3 := Hx2.alloc (.cells #[.int .i64 a.job.start, .int .i64 a.job.fin] 3)
      try rw [World.size_alloc] at Hx3
      refine hK'.out _ _ (hS _ _ (Hx3.sel 3 [2])) (fun hHeld => ?_)
      clear hK' K'
      try simp only [Act.put, zp]
      refine zry 14 (fun K' hK' => ?_)
      dsimp only [zg1, zg3, zg2]
      go_simp
      go_at_call 27
      refine (hst _).mono ?_
      rintro r w13 ⟨rfl, rfl⟩
      have Hx4 := Hx3
      dsimp only
      go_simp
      refine hK'.out _ _ (hS _ _ (Hx4.sel 3 [2])) (fun hHeld => ?_)
      clear hK' K'
      try simp only [Act.put, zp]
      refine ztk 15 ?_
      simp only [Act.put, zp]
      refine zry 21 (fun K' hK' => ?_)
      dsimp only [zg1, zg3, zg2]
      go_simp
      go_at_call 19
      refine (c2 _ _ _ Hx4 (entBlk (k := 1) (n := 2) (cs := intC [a.job.start, a.job.fin]) rfl (by unfold maxLen; simp))).mono ?_
      rintro r w14 ⟨rfl, Hx5⟩
      dsimp only
      go_simp
      refine hK'.out _ _ (hS _ _ (Hx5.sel 3 [2])) (fun hHeld => ?_)
      clear hK' K'
      try simp only [Act.put, zp]
      refine ztk 22 ?_
      simp only [Act.put, zp]
      refine zry 25 (fun K' hK' => ?_)
      dsimp only [zg1, zg3, zg2]
      go_simp
      go_at_call 19
      refine (cl _ _ _ Hx5 (Ent.cons (Ent.cons (Ent.cons (Ent.cons (Ent.cons hI _) _) _) _) _)).mono ?_
      rintro r w15 ⟨rfl, Hx6⟩
      dsimp only
      go_simp
      refine hK'.out _ _ (hS _ _ (Hx6.sel 3 [2])) (fun hHeld => ?_)
      clear hK' K'
      try simp only [Act.put, zp]
      refine ztk 26 ?_
      simp only [Act.put, zp]
      refine ztk 27 ?_
      simp only [Act.put, zp]
      refine wpAnyH_done (by kernel_rfl) ?_ _
      go_wp2
      go_ret
      exact ⟨retSt (HFT.out _ (by rw [HT.out]; simp [Xc4.out, Xc2.out, XL.out])), Hx6.tail.tail.tail.tail.tail⟩
    ·skip
     dsimp only [zg1, zg3, zg2]
     go_simp
     have Hx2 := Hx1.alloc (.cells #[.int .i64 a.job.start, .int .i64 a.job.fin] 3)
     try rw [World.size_alloc] at Hx2
     refine hK'.out _ _ (hS _ _ (Hx2.sel 3 [2])) (fun hHeld => ?_)
     clear hK' K'
     try simp only [Act.put, zp]
     refine zry 9 (fun K' hK' => ?_)
     dsimp only [zg1, zg3, zg2]
     go_simp
     go_at_call 19
     refine (c4 _ _ _ Hx2 (Ent.cons (entBlk (k := 1) (n := 4) (cs := intC [a.job.acc, a.job.nodes, a.job.lim, a.job.sub]) rfl (by unfold maxLen; simp)) _)).mono ?_
     rintro r w12 ⟨rfl, Hx3⟩
     dsimp only
     go_simp
     refine hK'.out _ _ (hS _ _ (Hx3.sel 3 [2])) (fun hHeld => ?_)
     clear hK' K'
     try simp only [Act.put, zp]
     refine ztk 10 ?_
     simp only [Act.put, zp]
     refine ztk 11 ?_
     simp only [Act.put, zp]
     refine zry 14 (fun K' hK' => ?_)
     dsimp only [zg1, zg3, zg2]
     go_simp
     go_at_call 27
     refine (hst _).mono ?_
     rintro r w13 ⟨rfl, rfl⟩
     have Hx4 := Hx3
     dsimp only
     go_simp
     refine hK'.out _ _ (hS _ _ (Hx4.sel 3 [2])) (fun hHeld => ?_)
     clear hK' K'
     try simp only [Act.put, zp]
     refine ztk 15 ?_
     simp only [Act.put, zp]
     refine zry 21 (fun K' hK' => ?_)
     dsimp only [zg1, zg3, zg2]
     go_simp
     go_at_call 19
     refine (c2 _ _ _ Hx4 (entBlk (k := 1) (n := 2) (cs := intC [a.job.start, a.job.fin]) rfl (by unfold maxLen; simp))).mono ?_
     rintro r w14 ⟨rfl, Hx5⟩
     dsimp only
     go_simp
     refine hK'.out _ _ (hS _ _ (Hx5.sel 3 [2])) (fun hHeld => ?_)
     clear hK' K'
     try simp only [Act.put, zp]
     refine ztk 22 ?_
     simp only [Act.put, zp]
     refine zry 25 (fun K' hK' => ?_)
     dsimp only [zg1, zg3, zg2]
     go_simp
     go_at_call 19
     refine (cl _ _ _ Hx5 (Ent.cons (Ent.cons (Ent.cons (Ent.cons (Ent.cons hI _) _) _) _) _)).mono ?_
     rintro r w15 ⟨rfl, Hx6⟩
     dsimp only
     go_simp
     refine hK'.out _ _ (hS _ _ (Hx6.sel 3 [2])) (fun hHeld => ?_)
     clear hK' K'
     try simp only [Act.put, zp]
     refine ztk 26 ?_
     simp only [Act.put, zp]
     refine ztk 27 ?_
     simp only [Act.put, zp]
     refine wpAnyH_done (by kernel_rfl) ?_ _
     go_wp2
     go_ret
     exact ⟨retSt (HFT.out _ (by rw [HT.out]; simp [Xc4.out, Xc2.out, XL.out])), Hx6.tail.tail.tail.tail.tail⟩
   ·skip
    dsimp only [zg1, zg3, zg2]
    go_simp
    have Hx1 := Hd.alloc (.cells #[.int .i64 a.job.start, .int .i64 a.job.fin] 3)
    try rw [World.size_alloc] at Hx1
    refine hK'.out _ _ (hS _ _ (Hx1.sel 2 [1])) (fun hHeld => ?_)
    clear hK' K'
    try simp only [Act.put, zp]
    refine zry 8 (fun K' hK' => ?_)
    dsimp only [zg1, zg3, zg2]
    go_simp
    have Hx2 := Hx1.alloc (.cells #[.int .i64 a.job.acc, .int .i64 a.job.nodes, .int .i64 a.job.lim, .int .i64 a.job.sub] 3)
    try rw [World.size_alloc] at Hx2
    refine hK'.out _ _ (hS _ _ (Hx2.sel 3 [2])) (fun hHeld => ?_)
    clear hK' K'
    try simp only [Act.put, zp]
    refine zry 9 (fun K' hK' => ?_)
    dsimp only [zg1, zg3, zg2]
    go_simp
    go_at_call 19
    refine (c4 _ _ _ Hx2 (entBlk (k := 1) (n := 4) (cs := intC [a.job.acc, a.job.nodes, a.job.lim, a.job.sub]) rfl (by unfold maxLen; simp))).mono ?_
    rintro r w12 ⟨rfl, Hx3⟩
    dsimp only
    go_simp
    refine hK'.out _ _ (hS _ _ (Hx3.sel 3 [2])) (fun hHeld => ?_)
    clear hK' K'
    try simp only [Act.put, zp]
    refine ztk 10 ?_
    simp only [Act.put, zp]
    refine ztk 11 ?_
    simp only [Act.put, zp]
    refine zry 14 (fun K' hK' => ?_)
    dsimp only [zg1, zg3, zg2]
    go_simp
    go_at_call 27
    refine (hst _).mono ?_
    rintro r w13 ⟨rfl, rfl⟩
    have Hx4 := Hx3
    dsimp only
    go_simp
    refine hK'.out _ _ (hS _ _ (Hx4.sel 3 [2])) (fun hHeld => ?_)
    clear hK' K'
    try simp only [Act.put, zp]
    refine ztk 15 ?_
    simp only [Act.put, zp]
    refine zry 21 (fun K' hK' => ?_)
    dsimp only [zg1, zg3, zg2]
    go_simp
    go_at_call 19
    refine (c2 _ _ _ Hx4 (Ent.cons (entBlk (k := 1) (n := 2) (cs := intC [a.job.start, a.job.fin]) rfl (by unfold maxLen; simp)) _)).mono ?_
    rintro r w14 ⟨rfl, Hx5⟩
    dsimp only
    go_simp
    refine hK'.out _ _ (hS _ _ (Hx5.sel 3 [2])) (fun hHeld => ?_)
    clear hK' K'
    try simp only [Act.put, zp]
    refine ztk 22 ?_
    simp only [Act.put, zp]
    refine zry 25 (fun K' hK' => ?_)
    dsimp only [zg1, zg3, zg2]
    go_simp
    go_at_call 19
    refine (cl _ _ _ Hx5 (Ent.cons (Ent.cons (Ent.cons (Ent.cons (Ent.cons hI _) _) _) _) _)).mono ?_
    rintro r w15 ⟨rfl, Hx6⟩
    dsimp only
    go_simp
    refine hK'.out _ _ (hS _ _ (Hx6.sel 3 [2])) (fun hHeld => ?_)
    clear hK' K'
    try simp only [Act.put, zp]
    refine ztk 26 ?_
    simp only [Act.put, zp]
    refine ztk 27 ?_
    simp only [Act.put, zp]
    refine wpAnyH_done (by kernel_rfl) ?_ _
    go_wp2
    go_ret
    exact ⟨retSt (HFT.out _ (by rw [HT.out]; simp [Xc4.out, Xc2.out, XL.out])), Hx6.tail.tail.tail.tail.tail⟩
  have q9 : (k == 9) = false := by simp [g9]
  by_cases g10 : k = 10
  ·have ht : firstT k a = [104, 111, 108, 100, 101, 114] ++ numsT [a.holder, a.shadow] := by simp [firstT, g10]
   have HT := Lib.hid ht
   have q10 : (k == 10) = true := by simp [g10]
   have q11 : (k == 11) = false := by simp [g10]
   have q12 : (k == 12) = false := by simp [g10]
   have q13 : (k == 13) = false := by simp [g10]
   clear ht g10
   have c := fun W L' v' (HH : HL w0 W L') (hv : Ints w0 L' v' [a.holder, a.shadow]) => numbers_ok hD HH hv (fitsCons hok.holder (fitsCons hok.shadow fitsNil)) (by simp)
   have zc := nums_size (l := [a.holder, a.shadow]) (fitsCons hok.holder (fitsCons hok.shadow fitsNil))
   have xc : (⟨(numsT [a.holder, a.shadow]).toArray⟩ : ByteArray).data.toList = numsT [a.holder, a.shadow] := by simp
   simp only [List.length_cons, List.length_nil] at zc
   generalize (⟨(numsT [a.holder, a.shadow]).toArray⟩ : ByteArray) = D at *
   have Xc := Lib.hid xc
   clear xc
   have e16 : wc.cell? ⟨b1, 16, none⟩ = some (.int .i64 a.holder) := HL.cell (H2.sel 3 [2]) 16
   have e17 : wc.cell? ⟨b1, 17, none⟩ = some (.int .i64 a.shadow) := HL.cell (H2.sel 3 [2]) 17
   have H3 := H2.alloc (.cells #[.int .i64 a.holder, .int .i64 a.shadow] 3)
   have hc : Calls Tryz.prog 19 #[.slice (some ⟨wc.heap.size, 0, none⟩) 2 2] _ _ := c _ _ _ H3 (entBlk (k := 1) (n := 2) (cs := intC [a.holder, a.shadow]) rfl (by unfold maxLen; simp))
   have s1 : (⟨#[104, 111, 108, 100, 101, 114]⟩ : ByteArray).size = 6 := rfl
   go_wp2_with (go_at_call 19; refine hc.mono ?_; rintro r w4 ⟨rfl, H4⟩; clear hc)
   go_ret
   exact ⟨retSt (HFT.out _ (by rw [HT.out]; simp [Xc.out])), H4.tail.tail.tail.tail⟩
  have q10 : (k == 10) = false := by simp [g10]
  by_cases g11 : k = 11
  ·have ht : firstT k a = [117, 115, 97, 103, 101] ++ numsT [a.raw] ++ [32] ++ Lib.decDigits a.usage.toNat ++ [32] ++ Lib.decDigits a.factor.toNat := by simp [firstT, g11]
   have HT := Lib.hid ht
   have q11 : (k == 11) = true := by simp [g11]
   have q12 : (k == 12) = false := by simp [g11]
   have q13 : (k == 13) = false := by simp [g11]
   clear ht g11
   have c := fun W L' v' (HH : HL w0 W L') (hv : Ints w0 L' v' [a.raw]) => numbers_ok hD HH hv (fitsCons hok.raw fitsNil) (by simp)
   have zc := nums_size (l := [a.raw]) (fitsCons hok.raw fitsNil)
   have xc : (⟨(numsT [a.raw]).toArray⟩ : ByteArray).data.toList = numsT [a.raw] := by simp
   simp only [List.length_cons, List.length_nil] at zc
   generalize (⟨(numsT [a.raw]).toArray⟩ : ByteArray) = D at *
   have Xc := Lib.hid xc
   clear xc
   have hu1 : ∀ W L', HL w0 W L' → Calls Tryz.prog 52 #[.int .u64 a.usage, .int .i64 10] W fun e w' => e = .returned (.string ⟨(Lib.decDigits a.usage.toNat).toArray⟩) ∧ HL w0 w' L' := fun W L' HH => by
    have := hFU a.usage.toNat W L' (by have := hok.usage; omega) HH
    rwa [Int.toNat_of_nonneg hok.usage.1] at this
   have hu2 : ∀ W L', HL w0 W L' → Calls Tryz.prog 52 #[.int .u64 a.factor, .int .i64 10] W fun e w' => e = .returned (.string ⟨(Lib.decDigits a.factor.toNat).toArray⟩) ∧ HL w0 w' L' := fun W L' HH => by
    have := hFU a.factor.toNat W L' (by have := hok.factor; omega) HH
    rwa [Int.toNat_of_nonneg hok.factor.1] at this
   have zu1 : (⟨(Lib.decDigits a.usage.toNat).toArray⟩ : ByteArray).size ≤ 20 := by have := Lib.nDigits_le20 a.usage.toNat (by have := hok.usage; omega); rw [← Lib.decDigits_length] at this; simpa [ByteArray.size] using this
   have zu2 : (⟨(Lib.decDigits a.factor.toNat).toArray⟩ : ByteArray).size ≤ 20 := by have := Lib.nDigits_le20 a.factor.toNat (by have := hok.factor; omega); rw [← Lib.decDigits_length] at this; simpa [ByteArray.size] using this
   have x1 : (⟨(Lib.decDigits a.usage.toNat).toArray⟩ : ByteArray).data.toList = Lib.decDigits a.usage.toNat := by simp
   have x2 : (⟨(Lib.decDigits a.factor.toNat).toArray⟩ : ByteArray).data.toList = Lib.decDigits a.factor.toNat := by simp
   generalize (⟨(Lib.decDigits a.usage.toNat).toArray⟩ : ByteArray) = U1 at *
   generalize (⟨(Lib.decDigits a.factor.toNat).toArray⟩ : ByteArray) = U2 at *
   have X1 := Lib.hid x1; have X2 := Lib.hid x2
   have s1 : (⟨#[117, 115, 97, 103, 101]⟩ : ByteArray).size = 5 := rfl
   have s2 : (⟨#[32]⟩ : ByteArray).size = 1 := rfl
   clear x1 x2
   have hS : ∀ W' L', HL w0 W' (boxA b1 a (.slice Ae a.events.length ce) (.slice As a.job.set.length cs) (.slice Ar a.ranks.length cr) :: L') → W'.cell? ⟨b1, 12, none⟩ = some (.int .i64 a.raw) ∧ W'.cell? ⟨b1, 13, none⟩ = some (.int .u64 a.usage) ∧ W'.cell? ⟨b1, 14, none⟩ = some (.int .u64 a.factor) := fun W' L' HW => ⟨HL.cell HW 12, HL.cell HW 13, HL.cell HW 14⟩
   go_wp2
   refine wp_region_held_drew (S := fun w' => w'.cell? ⟨b1, 12, none⟩ = some (.int .i64 a.raw) ∧ w'.cell? ⟨b1, 13, none⟩ = some (.int .u64 a.usage) ∧ w'.cell? ⟨b1, 14, none⟩ = some (.int .u64 a.factor)) (by kernel_rfl) (hS _ _ (H2.sel 3 [2]).drew) (fun hHeld => ?_)
   have Hd := H2.drew
   clear H2
   generalize wc.drew = Wd at *
   refine ztk 0 ?_
   simp only [Act.put, zp]
   refine ztk 1 ?_
   simp only [Act.put, zp]
   refine ztk 6 ?_
   simp only [Act.put, zp]
   refine ztk 7 ?_
   simp only [Act.put, zp]
   refine ztk 11 ?_
   simp only [Act.put, zp]
   refine ztk 12 ?_
   simp only [Act.put, zp]
   refine zry 2 (fun K' hK' => ?_)
   dsimp only [zg1, zg3, zg2]
   go_simp
   have Hx1 := Hd.alloc (.cells #[.int .i64 a.raw] 3)
   refine hK'.out _ _ (hS _ _ (Hx1.sel 4 [3])) (fun hHeld => ?_)
   clear hK' K'
   try simp only [Act.put, zp]
   refine zry 3 (fun K' hK' => ?_)
   dsimp only [zg1, zg3, zg2]
   go_simp
   go_at_call 19
   refine (c _ _ _ Hx1 (entBlk (k := 1) (n := 1) (cs := intC [a.raw]) rfl (by unfold maxLen; simp))).mono ?_
   rintro r w11 ⟨rfl, Hx2⟩
   dsimp only
   go_simp
   refine hK'.out _ _ (hS _ _ (Hx2.sel 4 [3])) (fun hHeld => ?_)
   clear hK' K'
   try simp only [Act.put, zp]
   refine ztk 4 ?_
   simp only [Act.put, zp]
   refine ztk 5 ?_
   simp only [Act.put, zp]
   refine zry 8 (fun K' hK' => ?_)
   dsimp only [zg1, zg3, zg2]
   go_simp
   go_at_call 52
   refine (hu1 _ _ Hx2).mono ?_
   rintro r w12 ⟨rfl, Hx3⟩
   dsimp only
   go_simp
   refine hK'.out _ _ (hS _ _ (Hx3.sel 4 [3])) (fun hHeld => ?_)
   clear hK' K'
   try simp only [Act.put, zp]
   refine ztk 9 ?_
   simp only [Act.put, zp]
   refine ztk 10 ?_
   simp only [Act.put, zp]
   refine zry 13 (fun K' hK' => ?_)
   dsimp only [zg1, zg3, zg2]
   go_simp
   go_at_call 52
   refine (hu2 _ _ Hx3).mono ?_
   rintro r w13 ⟨rfl, Hx4⟩
   dsimp only
   go_simp
   refine hK'.out _ _ (hS _ _ (Hx4.sel 4 [3])) (fun hHeld => ?_)
   clear hK' K'
   try simp only [Act.put, zp]
   refine ztk 14 ?_
   simp only [Act.put, zp]
   refine ztk 15 ?_
   simp only [Act.put, zp]
   refine wpAnyH_done (by kernel_rfl) ?_ _
   go_wp2
   go_ret
   exact ⟨retSt (HFT.out _ (by rw [HT.out]; simp [Xc.out, X1.out, X2.out])), Hx4.tail.tail.tail.tail⟩
  have q11 : (k == 11) = false := by simp [g11]
  by_cases g12 : k = 12
  ·have ht : firstT k a = [102, 114, 101, 101] ++ numsT [a.free] := by simp [firstT, g12]
   have HT := Lib.hid ht
   have q12 : (k == 12) = true := by simp [g12]
   have q13 : (k == 13) = false := by simp [g12]
   clear ht g12
   have c := fun W L' v' (HH : HL w0 W L') (hv : Ints w0 L' v' [a.free]) => numbers_ok hD HH hv (fitsCons hok.free fitsNil) (by simp)
   have zc := nums_size (l := [a.free]) (fitsCons hok.free fitsNil)
   have xc : (⟨(numsT [a.free]).toArray⟩ : ByteArray).data.toList = numsT [a.free] := by simp
   simp only [List.length_cons, List.length_nil] at zc
   generalize (⟨(numsT [a.free]).toArray⟩ : ByteArray) = D at *
   have Xc := Lib.hid xc
   clear xc
   have e15 : wc.cell? ⟨b1, 15, none⟩ = some (.int .i64 a.free) := HL.cell (H2.sel 3 [2]) 15
   have H3 := H2.alloc (.cells #[.int .i64 a.free] 3)
   have hc : Calls Tryz.prog 19 #[.slice (some ⟨wc.heap.size, 0, none⟩) 1 1] _ _ := c _ _ _ H3 (entBlk (k := 1) (n := 1) (cs := intC [a.free]) rfl (by unfold maxLen; simp))
   have s1 : (⟨#[102, 114, 101, 101]⟩ : ByteArray).size = 4 := rfl
   go_wp2_with (go_at_call 19; refine hc.mono ?_; rintro r w4 ⟨rfl, H4⟩; clear hc)
   go_ret
   exact ⟨retSt (HFT.out _ (by rw [HT.out]; simp [Xc.out])), H4.tail.tail.tail.tail⟩
  have q12 : (k == 12) = false := by simp [g12]
  by_cases g13 : k = 13
  ·have ht : firstT k a = [99, 111, 110, 102, 105, 103] ++ numsT [a.cfg.c0, a.cfg.c1, a.cfg.c2, a.cfg.c3, a.cfg.c4, a.cfg.c5, a.cfg.c6, a.cfg.c7, a.bound] := by simp [firstT, g13]
   have HT := Lib.hid ht
   have q13 : (k == 13) = true := by simp [g13]
   clear ht g13
   have c := fun W L' v' (HH : HL w0 W L') (hv : Ints w0 L' v' [a.cfg.c0, a.cfg.c1, a.cfg.c2, a.cfg.c3, a.cfg.c4, a.cfg.c5, a.cfg.c6, a.cfg.c7, a.bound]) => numbers_ok hD HH hv (fitsCons hok.c0 (fitsCons hok.c1 (fitsCons hok.c2 (fitsCons hok.c3 (fitsCons hok.c4 (fitsCons hok.c5 (fitsCons hok.c6 (fitsCons hok.c7 (fitsCons hok.bound fitsNil))))))))) (by simp)
   have zc := nums_size (l := [a.cfg.c0, a.cfg.c1, a.cfg.c2, a.cfg.c3, a.cfg.c4, a.cfg.c5, a.cfg.c6, a.cfg.c7, a.bound]) (fitsCons hok.c0 (fitsCons hok.c1 (fitsCons hok.c2 (fitsCons hok.c3 (fitsCons hok.c4 (fitsCons hok.c5 (fitsCons hok.c6 (fitsCons hok.c7 (fitsCons hok.bound fitsNil)))))))))
   have xc : (⟨(numsT [a.cfg.c0, a.cfg.c1, a.cfg.c2, a.cfg.c3, a.cfg.c4, a.cfg.c5, a.cfg.c6, a.cfg.c7, a.bound]).toArray⟩ : ByteArray).data.toList = numsT [a.cfg.c0, a.cfg.c1, a.cfg.c2, a.cfg.c3, a.cfg.c4, a.cfg.c5, a.cfg.c6, a.cfg.c7, a.bound] := by simp
   simp only [List.length_cons, List.length_nil] at zc
   generalize (⟨(numsT [a.cfg.c0, a.cfg.c1, a.cfg.c2, a.cfg.c3, a.cfg.c4, a.cfg.c5, a.cfg.c6, a.cfg.c7, a.bound]).toArray⟩ : ByteArray) = D at *
   have Xc := Lib.hid xc
   clear xc
   have e26 : wc.cell? ⟨b1, 26, none⟩ = some (.int .i64 a.bound) := HL.cell (H2.sel 3 [2]) 26
   obtain ⟨f0, f1, f2, f3, f4, f5, f6, f7⟩ := boxF_cells (H2.sel 3 [1])
   have H3 := H2.alloc (.cells #[.int .i64 a.cfg.c0, .int .i64 a.cfg.c1, .int .i64 a.cfg.c2, .int .i64 a.cfg.c3, .int .i64 a.cfg.c4, .int .i64 a.cfg.c5, .int .i64 a.cfg.c6, .int .i64 a.cfg.c7, .int .i64 a.bound] 3)
   have hc : Calls Tryz.prog 19 #[.slice (some ⟨wc.heap.size, 0, none⟩) 9 9] _ _ := c _ _ _ H3 (entBlk (k := 1) (n := 9) (cs := intC [a.cfg.c0, a.cfg.c1, a.cfg.c2, a.cfg.c3, a.cfg.c4, a.cfg.c5, a.cfg.c6, a.cfg.c7, a.bound]) rfl (by unfold maxLen; simp))
   have s1 : (⟨#[99, 111, 110, 102, 105, 103]⟩ : ByteArray).size = 6 := rfl
   go_wp2_with (go_at_call 19; refine hc.mono ?_; rintro r w4 ⟨rfl, H4⟩; clear hc)
   go_ret
   exact ⟨retSt (HFT.out _ (by rw [HT.out]; simp [Xc.out])), H4.tail.tail.tail.tail⟩
  have q13 : (k == 13) = false := by simp [g13]
  have ht : firstT k a = [111, 107] := by simp [firstT, g1, g5, g9, g10, g11, g12, g13]
  have HT := Lib.hid ht
  clear ht g1 g5 g9 g10 g11 g12 g13
  go_wp2
  go_ret
  exact ⟨retSt (HFT.out _ (by rw [HT.out])), H2.tail.tail.tail⟩
end
end Go.Proofs.YtdekbbffoaphhaaGreatDoor

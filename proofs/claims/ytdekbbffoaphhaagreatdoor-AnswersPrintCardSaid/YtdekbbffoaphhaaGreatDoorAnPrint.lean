/- An answer as text. -/
import Derived.Test.YtdekbbffoaphhaaGreatDoorAnFirst
import Derived.Test.YtdekbbffoaphhaaGreatDoorAnBld
set_option linter.unusedVariables false
set_option linter.unusedSimpArgs false
set_option maxRecDepth 100000
set_option maxHeartbeats 8000000
namespace Go.Proofs.An
def evsT (es : List Ev) : List UInt8 := es.flatMap fun e => evT e ++ [10]
def rkT (r : Rk) : List UInt8 := (numsT [r.job, r.prio]).drop 1 ++ [10]
def rksT (rs : List Rk) : List UInt8 := rs.flatMap rkT
/-- An answer's text. -/
def printT (k : Int) (a : Ans) : List UInt8 := if a.code ≠ 0 then [101, 114, 114, 111, 114] ++ numsT [a.code] ++ [10] else firstT k a ++ [10] ++ evsT a.events ++ rksT a.ranks
def printS (k : Int) (a : Ans) : ByteArray := if checkA k a = 0 then ⟨(printT k a).toArray⟩ else ⟨#[]⟩
theorem evsT_snoc (es : List Ev) (e : Ev) : evsT (es ++ [e]) = evsT es ++ (evT e ++ [10]) := by simp [evsT, List.flatMap_append]
theorem rksT_snoc (rs : List Rk) (r : Rk) : rksT (rs ++ [r]) = rksT rs ++ rkT r := by simp [rksT, List.flatMap_append]
theorem evsT_take (es : List Ev) (n : Nat) : (evsT (es.take n)).length ≤ (evsT es).length := by
 have : evsT es = evsT (es.take n) ++ evsT (es.drop n) := by
  unfold evsT
  rw [← List.flatMap_append, List.take_append_drop]
 rw [this, List.length_append]
 omega
theorem rksT_take (es : List Rk) (n : Nat) : (rksT (es.take n)).length ≤ (rksT es).length := by
 have : rksT es = rksT (es.take n) ++ rksT (es.drop n) := by
  unfold rksT
  rw [← List.flatMap_append, List.take_append_drop]
 rw [this, List.length_append]
 omega
theorem check_right {k : Int} {a : Ans} (h : checkA k a = 0) (hc : a.code = 0) : ∀ e ∈ a.events, right e = true := by
 unfold checkA at h
 split at h
 ·cases h
 ·rw [if_neg (by simp [hc])] at h
  split at h
  ·rename_i ho
   unfold okA at ho
   simp only [Bool.and_eq_true] at ho
   exact fun e he => List.all_eq_true.1 ho.2 e he
  ·cases h
end Go.Proofs.An
namespace Go.Proofs.YtdekbbffoaphhaaGreatDoor
open Go.RowKit Go.Proofs.HL Go.Proofs.An
section
variable {w0 w : World} {L : List At}
theorem ret2P {a b : ByteArray} {n m : Int} (h : a = b) (h2 : n = m) : Ending.returned (.tuple #[.string b, .int .i64 m]) = .returned (.tuple #[.string a, .int .i64 n]) := by rw [h, h2]
theorem bytes_grow (l : List UInt8) (s : ByteArray) : Lib.byteCells l ++ Lib.strCells s = Lib.byteCells (l ++ s.data.toList) := by rw [Lib.strCells_eq, Lib.byteCells_append]
theorem print_ok (hD : Doors w0) (hFU : ∀ W, Doors W → FmtU W) (H : HL w0 w L) (k : Int) (a : Ans) (Ae As Ar : Option Addr) (ce cs cr : Nat) {ps : List (Ev × Value)} (hps : a.events = ps.map (·.1)) (hE : Evs w0 L (.slice Ae a.events.length ce) ps) (hI : Ints w0 L (.slice As a.job.set.length cs) a.job.set) (hR : Rks w0 L (.slice Ar a.ranks.length cr) a.ranks) (hok : AnsOk a) (hsz : (printT k a).length ≤ 140737488355328) :
  Calls Tryz.prog 8 #[.int .i64 k, ansV a (.slice Ae a.events.length ce) (.slice As a.job.set.length cs) (.slice Ar a.ranks.length cr)] w fun r w' => r = .returned (.tuple #[.string (printS k a), .int .i64 (checkA k a)]) ∧ HL w0 w' L := by
 have H1 := HL.allocA H a (.slice Ae a.events.length ce) (.slice As a.job.set.length cs) (.slice Ar a.ranks.length cr)
 have hck : Calls Tryz.prog 10 #[.int .i64 k, .agg (ansA a (.slice Ae a.events.length ce) (.slice As a.job.set.length cs) (.slice Ar a.ranks.length cr))] _ _ := check_ok H1 k a Ae As Ar ce cs cr hps (hE.cons _) (hI.cons _) (hR.cons _)
 have G1 : _ = some (Obj.cells (ansA a (.slice Ae a.events.length ce) (.slice As a.job.set.length cs) (.slice Ar a.ranks.length cr)) 32 (0, 0)) := H1.head
 unfold ansV
 generalize hb1 : w.heap.size = b1 at *
 have HPS := Lib.hid hps
 clear H hps
 by_cases hc0 : checkA k a = 0
 ·have hs0 : printS k a = ⟨(printT k a).toArray⟩ := by unfold printS; rw [if_pos hc0]
  by_cases hcd : a.code = 0
  ·have hq : (a.code != 0) = false := by simp [hcd]
   have hpt : printT k a = firstT k a ++ [10] ++ evsT a.events ++ rksT a.ranks := by unfold printT; rw [if_neg (by simp [hcd])]
   have hrt := check_right hc0 hcd
   rw [hs0, hc0, hpt]
   rw [hc0] at hck
   rw [hpt] at hsz
   have HRT := Lib.hid hrt; have HE := Lib.hid hE; have HR := Lib.hid hR; have HI := Lib.hid hI
   clear hs0 hc0 hcd hpt hrt
   go_enter Tryz.func8, Tryz.ntmps8
   go_upto_region 6 with (first
    | (have g1 := G1; refine wpList_load_row rfl 32 _ rfl b1 rfl 32 _ (0, 0) _ g1 Tryz.underlying32 rfl (ansA_size _ _ _ _) ?_; clear g1 G1)
    | (go_at_call 10; (with_reducible refine hck.mono ?_); rintro r w3 ⟨rfl, H3⟩; clear hck H1; have n0 := HL.cell H3 0))
   clear n0
   have HB1 := Lib.hid hb1
   clear hb1
   have hD3 := hD.keep H3
   have HB0 : HL w3 (w3.alloc (.cells #[.pointer none, .slice none 0 0] 55)) (bldL w3.heap.size (.pointer none) (.slice none 0 0) (Lib.byteCells []) ++ []) := (((HL.start w3).alloc (.cells #[.pointer none, .slice none 0 0] 55)).nilRow w3.heap.size 5 1).swap
   have hkeep : ∀ W K, HL w3 W K → HL w0 W (boxA b1 a (.slice Ae a.events.length ce) (.slice As a.job.set.length cs) (.slice Ar a.ranks.length cr) :: L) := fun W K HK => HL.ofBelow H3 HK.below
   have hI3 : ∀ K, Ints w3 K (.slice As a.job.set.length cs) a.job.set := fun K W HK => rd_old HK (HI.out.cons _ w3 H3)
   have hfst := first_ok hD3 (hFU _ hD3) HB0 k a Ae As Ar ce cs cr (hI3 _) hok
   have hfst : Calls Tryz.prog 21 #[.int .i64 k, .agg (ansA a (.slice Ae a.events.length ce) (.slice As a.job.set.length cs) (.slice Ar a.ranks.length cr))] _ _ := hfst
   have hlen0 : (firstT k a ++ [10] ++ evsT a.events ++ rksT a.ranks).length = (firstT k a).length + 1 + (evsT a.events).length + (rksT a.ranks).length := by simp only [List.length_append, List.length_cons, List.length_nil]
   rw [hlen0] at hsz
   have hft : (⟨(firstT k a).toArray⟩ : ByteArray).data.toList = firstT k a := by simp
   have hfz : (⟨(firstT k a).toArray⟩ : ByteArray).size = (firstT k a).length := by simp [ByteArray.size]
   generalize (⟨(firstT k a).toArray⟩ : ByteArray) = FT at *
   have s1 : (⟨#[10]⟩ : ByteArray).size = 1 := rfl
   have hFT10 : (FT ++ (⟨#[10]⟩ : ByteArray)).data.toList = firstT k a ++ [10] := by rw [← hft]; simp
   have hwr := fun W (HW : HL w3 W (bldL w3.heap.size (.pointer none) (.slice none 0 0) (Lib.byteCells []) ++ [])) => write_ok rfl HW (.inl rfl) (FT ++ (⟨#[10]⟩ : ByteArray)) (by rw [Lib.byteCells_length, ByteArray.size_append]; simp only [List.length_nil]; omega)
   rw [bytes_grow, hFT10, List.nil_append] at hwr
   have hfl : FT.size ≤ 140737488355328 := by omega
   have HSZ := Lib.hid hsz; have HFZ := Lib.hid hfz
   clear hft hfz hFT10 hlen0 hsz
   have G1 : _ = some (Obj.cells (ansA a (.slice Ae a.events.length ce) (.slice As a.job.set.length cs) (.slice Ar a.ranks.length cr)) 32 (0, 0)) := (hkeep _ _ HB0).head
   go_upto_region 8 with (first
    | (have g1 := G1; refine wpList_load_row rfl 32 _ rfl b1 rfl 32 _ (0, 0) _ g1 Tryz.underlying32 rfl (ansA_size _ _ _ _) ?_; clear g1 G1)
    | (go_at_call 21; (with_reducible refine hfst.mono ?_); rintro r w4 ⟨rfl, H4⟩; clear hfst)
    | (go_at_call 20; (with_reducible refine (hwr _ H4).mono ?_); rintro r w5 ⟨rfl, u5, H5⟩; clear H4 hwr))
   have HK5 := hkeep _ _ H5
   have f2 : w5.cell? ⟨b1, 2, none⟩ = some (.slice Ae a.events.length ce) := HL.cell HK5 2
   obtain ⟨-, -, aE, cE, hvE, hE1, hE2, -, -⟩ := (HE.out.cons _).rd w3 H3
   obtain ⟨-, -, aR, cR, hvR, hR1, hR2, -, -⟩ := HR.out.cons _ w3 H3
   simp only [Value.slice.injEq] at hvE hvR
   obtain ⟨rfl, hlE, rfl⟩ := hvE
   obtain ⟨rfl, -, rfl⟩ := hvR
   unfold maxLen at hE2 hR2
   rw [← hlE] at hE1
   have HLE := Lib.hid hlE
   clear hlE
   go_wp2
   clear f2
   go_loopg [37] a.events.length (fun g i wr => ∃ (n : Nat) (u : Value), i = .int .i64 n ∧ n + g = a.events.length ∧ HL w3 wr (bldL w3.heap.size (.pointer (some ⟨w3.heap.size, 0, none⟩)) u (Lib.byteCells (firstT k a ++ [10] ++ evsT (a.events.take n))) ++ []))
   case atStart => exact ⟨0, u5, rfl, by omega, by rw [List.take_zero]; simpa [evsT] using H5⟩
   case round =>
    obtain ⟨n, u, rfl, hn, HK⟩ := hrel
    clear H5 HK5
    by_cases hlt : n < a.events.length
    ·obtain ⟨⟨e, v⟩, hp⟩ : ∃ p, ps[n]? = some p := ⟨_, List.getElem?_eq_getElem (by rw [← HLE.out]; exact hlt)⟩
     have hev : a.events[n]? = some e := by rw [HPS.out, List.getElem?_map, hp]; rfl
     have hem := List.mem_of_getElem? hev
     obtain ⟨b', o', c', hv, d0, d1, d2, d3, d4, d5⟩ := ev_at ((HE.out.cons _).rd wr (hkeep _ _ HK)) hp
     simp only [Value.slice.injEq] at hv
     obtain ⟨rfl, -, rfl⟩ := hv
     dsimp only at d0 d1 d2 d3 d4 d5
     have ho : ∀ K', Ints w3 K' v e.list := fun K' W HW => rd_old HW ((HE.out.own (e, v) (List.mem_of_getElem? hp)).cons _ w3 H3)
     have HA := HL.allocE HK e v
     obtain ⟨Au, cu, rfl, -, -⟩ := rd_shape (ho _ _ HA)
     have hevt := event_ok hD3 HA e (ho _) (hok.events e hem)
     have hr := HRT.out e hem
     rw [show evN e = 0 from by unfold evN; rw [hr]; rfl, show evS e = ⟨(evT e).toArray⟩ from by unfold evS; rw [hr]; rfl] at hevt
     unfold evV at hevt
     obtain ⟨m0, m1, m2, m3, m4, m5⟩ := boxE_cells HA
     have hT : (⟨(evT e).toArray⟩ : ByteArray).data.toList = evT e := by simp
     have hTz : (⟨(evT e).toArray⟩ : ByteArray).size = (evT e).length := by simp [ByteArray.size]
     have hsn : evsT (a.events.take (n + 1)) = evsT (a.events.take n) ++ (evT e ++ [10]) := by rw [List.take_add_one, hev]; simp only [Option.toList_some]; exact evsT_snoc _ _
     have hle := evsT_take a.events (n + 1)
     rw [hsn] at hle
     simp only [List.length_append, List.length_cons, List.length_nil] at hle
     have hsz := HSZ.out
     generalize (⟨(evT e).toArray⟩ : ByteArray) = T at *
     have hT10 : (T ++ (⟨#[10]⟩ : ByteArray)).data.toList = evT e ++ [10] := by rw [← hT]; simp
     have hwr := fun W (HW : HL w3 W (bldL w3.heap.size (.pointer (some ⟨w3.heap.size, 0, none⟩)) u (Lib.byteCells (firstT k a ++ [10] ++ evsT (a.events.take n))) ++ [])) => write_ok rfl HW (.inr rfl) (T ++ (⟨#[10]⟩ : ByteArray)) (by rw [Lib.byteCells_length, ByteArray.size_append]; simp only [List.length_append, List.length_cons, List.length_nil]; omega)
     rw [bytes_grow, hT10, List.append_assoc (firstT k a ++ [10]), ← hsn] at hwr
     have hTs : T.size ≤ 140737488355328 := by omega
     have HP := Lib.hid hp; have HEV := Lib.hid hev; have HR2 := Lib.hid hr
     clear hp hev hem hr hT hTz hsn hle hsz hT10 ho
     go_wp2_with (first
      | (go_at_call 16; refine hevt.mono ?_; rintro r w6 ⟨rfl, H6⟩; clear hevt HA)
      | (go_at_call 20; (with_reducible refine (hwr _ H6.tail).mono ?_); rintro r w7 ⟨rfl, u7, H7⟩; clear H6 hwr))
     go_roundg (gk - 1)
     case measure => omega
     case rel => exact ⟨n + 1, u7, by go_num, by omega, H7⟩
    ·rw [List.take_of_length_le (by omega)] at HK
     have HK5 := hkeep _ _ HK
     have f4 : wr.cell? ⟨b1, 11, none⟩ = some (.slice Ar a.ranks.length cr) := HL.cell HK5 11
     clear HK5
     go_wp2
     clear f4
     go_loopg [53] a.ranks.length (fun g i wq => ∃ (n : Nat) (u : Value), i = .int .i64 n ∧ n + g = a.ranks.length ∧ HL w3 wq (bldL w3.heap.size (.pointer (some ⟨w3.heap.size, 0, none⟩)) u (Lib.byteCells (firstT k a ++ [10] ++ evsT a.events ++ rksT (a.ranks.take n))) ++ []))
     case atStart => exact ⟨0, u, rfl, by omega, by rw [List.take_zero]; simpa [rksT] using HK⟩
     case round =>
      obtain ⟨n, u2, rfl, hn2, HQ⟩ := hrel
      clear HK
      by_cases hlt2 : n < a.ranks.length
      ·obtain ⟨x, hx⟩ : ∃ x, a.ranks[n]? = some x := ⟨_, List.getElem?_eq_getElem hlt2⟩
       obtain ⟨b', o', c', hv, d0, d1⟩ := rk_at (HR.out.cons _ wr (hkeep _ _ HQ)) hx
       simp only [Value.slice.injEq] at hv
       obtain ⟨rfl, -, rfl⟩ := hv
       have hxr := hok.ranks x (List.mem_of_getElem? hx)
       have hfx : Fits [x.job, x.prio] := fitsCons hxr.1 (fitsCons hxr.2 fitsNil)
       have HA := HQ.alloc (.cells #[.int .i64 x.job, .int .i64 x.prio] 62)
       have HB := HA.alloc (.cells #[.int .i64 x.job, .int .i64 x.prio] 3)
       rw [World.size_alloc] at HB
       have hc : Calls Tryz.prog 19 #[.slice (some ⟨wr.heap.size + 1, 0, none⟩) 2 2] _ _ := numbers_ok hD3 HB (entBlk (k := 1) (n := 2) (cs := intC [x.job, x.prio]) rfl (by unfold maxLen; simp)) hfx (by simp)
       have hT : (⟨(numsT [x.job, x.prio]).toArray⟩ : ByteArray).data.toList = numsT [x.job, x.prio] := by simp
       have hTz : (⟨(numsT [x.job, x.prio]).toArray⟩ : ByteArray).size = (numsT [x.job, x.prio]).length := by simp [ByteArray.size]
       have hT1 : 1 ≤ (numsT [x.job, x.prio]).length := by simp [numsT]
       have hT2 := numsT_len _ hfx
       have hsn : rksT (a.ranks.take (n + 1)) = rksT (a.ranks.take n) ++ rkT x := by rw [List.take_add_one, hx]; simp only [Option.toList_some]; exact rksT_snoc _ _
       have hrl : (rkT x).length = (numsT [x.job, x.prio]).length := by unfold rkT; rw [List.length_append, List.length_drop]; simp only [List.length_cons, List.length_nil]; omega
       have hle := rksT_take a.ranks (n + 1)
       rw [hsn, List.length_append, hrl] at hle
       simp only [List.length_cons, List.length_nil] at hT2
       have hsz := HSZ.out
       generalize (⟨(numsT [x.job, x.prio]).toArray⟩ : ByteArray) = T at *
       have hT10 : (T.extract 1 T.size ++ (⟨#[10]⟩ : ByteArray)).data.toList = rkT x := by
        unfold rkT
        rw [← hT, ByteArray.data_append, Array.toList_append, Lib.extract_data]
        rw [List.take_of_length_le (by rw [List.length_drop, Array.length_toList]; exact Nat.le_refl _)]
       have hez : (T.extract 1 T.size).size = T.size - 1 := by rw [ByteArray.size_extract]; omega
       have hwr := fun W K (HW : HL w3 W (bldL w3.heap.size (.pointer (some ⟨w3.heap.size, 0, none⟩)) u2 (Lib.byteCells (firstT k a ++ [10] ++ evsT a.events ++ rksT (a.ranks.take n))) ++ K)) => write_ok rfl HW (.inr rfl) (T.extract 1 T.size ++ (⟨#[10]⟩ : ByteArray)) (by rw [Lib.byteCells_length, ByteArray.size_append, hez]; simp only [List.length_append, List.length_cons, List.length_nil]; omega)
       rw [bytes_grow, hT10, List.append_assoc (firstT k a ++ [10] ++ evsT a.events), ← hsn] at hwr
       have hTs : T.size ≤ 140737488355328 := by omega
       have hTs1 : 1 ≤ T.size := by omega
       have HX := Lib.hid hx; have HEZ := Lib.hid hez
       clear hx hT hTz hT1 hT2 hsn hle hsz hT10 hrl HA hxr
       go_wp2_with (first
        | (go_at_call 19; refine hc.mono ?_; rintro r w6 ⟨rfl, H6⟩; clear hc HB)
        | (go_at_call 20; (with_reducible refine (hwr _ _ H6.tail.tail).mono ?_); rintro r w7 ⟨rfl, u7, H7⟩; clear H6 hwr))
       go_roundg (gk - 1)
       case measure => omega
       case rel => exact ⟨n + 1, u7, by go_num, by omega, H7⟩
      ·rw [List.take_of_length_le (by omega)] at HQ
       have hst := string_ok rfl HQ (.inr rfl)
       have HW2 := Lib.hid (fun W' (hb : Below w3.heap.size wr W') => HL.ofBelow H3 (HQ.below.trans hb))
       go_wp2_with (go_at_call 22; refine hst.mono ?_; rintro r w8 ⟨rfl, hb8⟩)
       go_ret2
       exact ⟨ret2P (bytesSame (by rw [Go.ByteArray.toList_eq, Go.ByteArray.toList_eq]; simp)) rfl, (HW2.out _ hb8).tail⟩
  ·have hq : (a.code != 0) = true := by simp [hcd]
   have hpt : printT k a = [101, 114, 114, 111, 114] ++ numsT [a.code] ++ [10] := by unfold printT; rw [if_pos hcd]
   rw [hs0, hc0, hpt]
   rw [hc0] at hck
   have hf1 : Fits [a.code] := fitsCons hok.code fitsNil
   have c1 := fun W L' v' (HH : HL w0 W L') (hv : Ints w0 L' v' [a.code]) => numbers_ok hD HH hv hf1 (by simp)
   have z1 := nums_size hf1
   have hx : ∀ D : ByteArray, D = ⟨(numsT [a.code]).toArray⟩ → (⟨([101, 114, 114, 111, 114] ++ numsT [a.code] ++ [10]).toArray⟩ : ByteArray) = (⟨#[101, 114, 114, 111, 114]⟩ : ByteArray) ++ D ++ (⟨#[10]⟩ : ByteArray) := fun D hD => by
    rw [hD]
    exact bytesSame (by rw [Go.ByteArray.toList_eq, Go.ByteArray.toList_eq]; simp)
   have HX := Lib.hid (hx _ rfl)
   simp only [List.length_cons, List.length_nil] at z1
   generalize (⟨(numsT [a.code]).toArray⟩ : ByteArray) = D at *
   have s1 : (⟨#[10]⟩ : ByteArray).size = 1 := rfl
   have s2 : (⟨#[101, 114, 114, 111, 114]⟩ : ByteArray).size = 5 := rfl
   clear hs0 hc0 hcd hpt hsz hx
   go_enter Tryz.func8, Tryz.ntmps8
   go_upto_region 5 with (first
    | (have g1 := G1; refine wpList_load_row rfl 32 _ rfl b1 rfl 32 _ (0, 0) _ g1 Tryz.underlying32 rfl (ansA_size _ _ _ _) ?_; clear g1 G1)
    | (go_at_call 10; (with_reducible refine hck.mono ?_); rintro r w3 ⟨rfl, H3⟩; clear hck H1; have n0 := HL.cell H3 0))
   have H4 := H3.alloc (.cells #[.int .i64 a.code] 3)
   have hc : Calls Tryz.prog 19 #[.slice (some ⟨w3.heap.size, 0, none⟩) 1 1] _ _ := c1 _ _ _ H4 (entBlk (k := 1) (n := 1) (cs := intC [a.code]) rfl (by unfold maxLen; simp))
   go_wp2_with (go_at_call 19; refine hc.mono ?_; rintro r w4 ⟨rfl, H5⟩; clear hc)
   go_ret2
   exact ⟨ret2P HX.out rfl, H5.tail.tail⟩
 ·have hs : printS k a = ⟨#[]⟩ := by unfold printS; rw [if_neg hc0]
  have HS := Lib.hid hs
  have hq : (checkA k a != 0) = true := by simp [hc0]
  generalize checkA k a = cc at *
  clear hs hc0
  go_enter Tryz.func8, Tryz.ntmps8
  go_wp2_with (first
   | (have g1 := G1; refine wpList_load_row rfl 32 _ rfl b1 rfl 32 _ (0, 0) _ g1 Tryz.underlying32 rfl (ansA_size _ _ _ _) ?_; clear g1 G1)
   | (go_at_call 10; (with_reducible refine hck.mono ?_); rintro r w3 ⟨rfl, H3⟩; clear hck))
  go_ret2
  exact ⟨ret2P HS.out rfl, H3.tail⟩
end
end Go.Proofs.YtdekbbffoaphhaaGreatDoor

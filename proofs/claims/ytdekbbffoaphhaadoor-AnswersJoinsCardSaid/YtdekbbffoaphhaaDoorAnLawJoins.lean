/- The law AnswersJoins: an answer with events is written as the one without, and behind it the events' lines. -/
import Derived.Test.YtdekbbffoaphhaaDoorAnJoinsP
import Derived.Test.YtdekbbffoaphhaaDoorAnBytes
set_option linter.unusedVariables false
set_option linter.unusedSimpArgs false
namespace Go.Proofs.YtdekbbffoaphhaaDoor
open Go.RowKit Go.Proofs.HL Go.Proofs.An
abbrev u8C (l : List UInt8) : List Value := l.map fun b => .int .u8 (b.toNat : Int)
set_option maxRecDepth 100000 in
set_option maxHeartbeats 8000000 in
theorem answersJoins_law {w : World} (hD : Doors w) (k : Int) (a : Ans) (Ae As Ar : Option Addr) (ce cs cr : Nat) {ps : List (Ev × Value)} (hps : a.events = ps.map (·.1)) (hE : Evs w [] (.slice Ae a.events.length ce) ps) (hI : Ints w [] (.slice As a.job.set.length cs) a.job.set) (hR : Rks w [] (.slice Ar a.ranks.length cr) a.ranks) (hp : AnsPre a) :
    Calls Tryd.prog 9 #[.int .i64 k, ansV a (.slice Ae a.events.length ce) (.slice As a.job.set.length cs) (.slice Ar a.ranks.length cr)] w fun e w' => e = .returned (.bool true) ∧ Below w.heap.size w w' := by
  have H1 := HL.allocA (HL.start w) a (.slice Ae a.events.length ce) (.slice As a.job.set.length cs) (.slice Ar a.ranks.length cr)
  have G1 : _ = some (Obj.cells (ansA a (.slice Ae a.events.length ce) (.slice As a.job.set.length cs) (.slice Ar a.ranks.length cr)) 50 (0, 0)) := H1.head
  have hE1 := hE.cons (boxA w.heap.size a (.slice Ae a.events.length ce) (.slice As a.job.set.length cs) (.slice Ar a.ranks.length cr))
  have hI1 := hI.cons (boxA w.heap.size a (.slice Ae a.events.length ce) (.slice As a.job.set.length cs) (.slice Ar a.ranks.length cr))
  have hR1 := hR.cons (boxA w.heap.size a (.slice Ae a.events.length ce) (.slice As a.job.set.length cs) (.slice Ar a.ranks.length cr))
  have hhv : Calls Tryd.prog 25 #[.agg (ansA a (.slice Ae a.events.length ce) (.slice As a.job.set.length cs) (.slice Ar a.ranks.length cr))] _ _ := heavy_ok H1 a Ae As Ar ce cs cr hps hE1 hp.lenS hp.lenR hp.lenE (fun e he => (hp.events e he).len)
  have HPS := Lib.hid hps
  unfold ansV
  generalize hb1 : w.heap.size = b1 at *
  have HB1 := Lib.hid hb1
  clear hE hI hR hps
  by_cases hh : 4194304 < total a
  · rw [decide_eq_true hh] at hhv
    clear hh
    go_enter Tryd.func9, Tryd.ntmps9
    go_wp2_with (first
      | (have g1 := G1; refine wpList_load_row rfl 50 _ rfl b1 rfl 50 _ (0, 0) _ g1 Tryd.underlying50 rfl (ansA_size _ _ _ _) ?_; clear g1 G1)
      | (go_at_call 25; (with_reducible refine hhv.mono ?_); rintro r w2 ⟨rfl, H2⟩; clear hhv))
    go_ret
    exact ⟨rfl, by rw [← HB1.out]; exact H2.below⟩
  have htot : total a ≤ 4194304 := by omega
  rw [decide_eq_false hh] at hhv
  have hok := hp.ok htot
  have hsz := printT_most (k := k) hok htot
  have hokb := hok.bare
  have hszb := printT_most (k := k) hokb (bare_total htot)
  have HOK := Lib.hid hok; have HOKB := Lib.hid hokb; have HSZ := Lib.hid hsz; have HSZB := Lib.hid hszb
  have hel : a.events.length ≤ 4194304 := by unfold total at htot; omega
  clear hh hp hok hokb hsz hszb htot
  go_enter Tryd.func9, Tryd.ntmps9
  go_upto_region 6 with (first
    | (have g1 := G1; refine wpList_load_row rfl 50 _ rfl b1 rfl 50 _ (0, 0) _ g1 Tryd.underlying50 rfl (ansA_size _ _ _ _) ?_; clear g1 G1)
    | (go_at_call 25; (with_reducible refine hhv.mono ?_); rintro r w2 ⟨rfl, H2⟩; clear hhv H1; have hs := shown_ok hD H2)
    | (go_at_call 19; refine hs.mono ?_; rintro r w3 ⟨rfl, H3⟩; clear hs H2; have G1 : _ = some (Obj.cells (ansA a (.slice Ae a.events.length ce) (.slice As a.job.set.length cs) (.slice Ar a.ranks.length cr)) 50 (0, 0)) := H3.head; have hpr : Calls Tryd.prog 26 #[.int .i64 k, .agg (ansA a (.slice Ae a.events.length ce) (.slice As a.job.set.length cs) (.slice Ar a.ranks.length cr))] _ _ := print_ok hD fmtU_all H3 k a Ae As Ar ce cs cr HPS.out hE1 hI1 hR1 HOK.out (by have := HSZ.out; omega))
    | (go_at_call 26; (with_reducible refine hpr.mono ?_); rintro r w4 ⟨rfl, H4⟩; clear hpr H3))
  by_cases hc : checkA k a = 0
  case neg =>
    have q : (checkA k a != 0) = true := by simp [hc]
    have HB := Lib.hid H4.below
    rw [HB1.out] at HB
    clear hc
    go_wp2
    go_ret
    exact ⟨rfl, HB.out⟩
  have hcb := joins_check hc
  have htx := joins_text hc
  have hpa : printS k a = ⟨(printT k a).toArray⟩ := by unfold printS; rw [if_pos hc]
  have hpb : printS k { a with events := [] } = ⟨(printT k { a with events := [] }).toArray⟩ := by unfold printS; rw [if_pos hcb]
  have hrt := check_events hc
  have q : (checkA k a != 0) = false := by simp [hc]
  have HTX := Lib.hid htx; have HRT := Lib.hid hrt
  have HPA := Lib.hid hpa; have HPB := Lib.hid hpb; have HCB := Lib.hid hcb
  clear hcb htx hpa hpb hrt hc
  generalize printS k a = SA at *
  have G1 : _ = some (Obj.cells (ansA a (.slice Ae a.events.length ce) (.slice As a.job.set.length cs) (.slice Ar a.ranks.length cr)) 50 (0, 0)) := H4.head
  have H5 : HL w _ (boxA w4.heap.size zA (.slice none 0 0) (.slice none 0 0) (.slice none 0 0) :: _) := H4.alloc (.cells #[.int .i64 0, .int .i64 0, .slice none 0 0, .int .i64 0, .int .i64 0, .int .i64 0, .int .i64 0, .int .i64 0, .int .i64 0, .int .i64 0, .slice none 0 0, .slice none 0 0, .int .i64 0, .int .u64 0, .int .u64 0, .int .i64 0, .int .i64 0, .int .i64 0, .int .i64 0, .int .i64 0, .int .i64 0, .int .i64 0, .int .i64 0, .int .i64 0, .int .i64 0, .int .i64 0, .int .i64 0] 50)
  have G5 : _ = some (Obj.cells _ 50 (0, 0)) := H5.head
  have H6 : HL w _ (boxA w4.heap.size a (.slice Ae a.events.length ce) (.slice As a.job.set.length cs) (.slice Ar a.ranks.length cr) :: _) := HL.setWhole (cells := ansA a (.slice Ae a.events.length ce) (.slice As a.job.set.length cs) (.slice Ar a.ranks.length cr)) H5
  go_upto_region 9 with (first
    | (have g1 := G1; refine wpList_load_row rfl 50 _ rfl b1 rfl 50 _ (0, 0) _ g1 Tryd.underlying50 rfl (ansA_size _ _ _ _) ?_; clear g1 G1)
    | (refine wpList_store_row rfl 50 _ _ rfl w4.heap.size (ansA a (.slice Ae a.events.length ce) (.slice As a.job.set.length cs) (.slice Ar a.ranks.length cr)) rfl rfl 50 _ G5 (ansA_size _ _ _ _) rfl (ansA_one _ _ _ _ _ _ _ _ _ _) ?_; clear G5 H5))
  clear H4
  generalize World.setRow _ _ _ = W6 at *
  generalize w4.heap.size = b7 at *
  have n2 : W6.cell? ⟨b7, 2, none⟩ = some (.slice Ae a.events.length ce) := HL.cell H6 2
  have y2 : W6.frozen? ⟨b7, 2, none⟩ = false := HL.frozen H6 2
  have H7 : HL w (W6.setCell ⟨b7, 2, none⟩ (.slice none 0 0)) (boxA b7 { a with events := [] } (.slice none 0 0) (.slice As a.job.set.length cs) (.slice Ar a.ranks.length cr) :: boxA b1 a (.slice Ae a.events.length ce) (.slice As a.job.set.length cs) (.slice Ar a.ranks.length cr) :: []) := HL.setCell H6 2 (.slice none 0 0)
  go_upto_region 10 with (fail)
  clear n2 y2 H6
  generalize World.setCell _ _ _ = W7 at *
  have G7 : _ = some (Obj.cells (ansA { a with events := [] } (.slice none 0 0) (.slice As a.job.set.length cs) (.slice Ar a.ranks.length cr)) 50 (0, 0)) := H7.head
  have hpr : Calls Tryd.prog 26 #[.int .i64 k, .agg (ansA { a with events := [] } (.slice none 0 0) (.slice As a.job.set.length cs) (.slice Ar a.ranks.length cr))] _ _ := print_ok hD fmtU_all H7 k { a with events := [] } none As Ar 0 cs cr (ps := []) rfl ⟨fun W _ => rd_nil, fun p hp => by simp at hp⟩ (hI1.cons _) (hR1.cons _) HOKB.out (by have := HSZB.out; omega)
  rw [HPB.out, HCB.out] at hpr
  obtain ⟨B, hB⟩ : ∃ B, printT k { a with events := [] } = B := ⟨_, rfl⟩
  rw [hB] at hpr HTX HSZB
  have HBB := Lib.hid hB
  clear hB
  have hBs : (⟨B.toArray⟩ : ByteArray).size = B.length := by simp [ByteArray.size]
  have hst : Lib.strCells (⟨B.toArray⟩ : ByteArray) = u8C B := by simp [Lib.strCells]
  have hcv := fun W => Lib.run_convert_string_bytes (P := Tryd.prog) W 9 53 5 (⟨B.toArray⟩ : ByteArray) Tryd.underlying9 Tryd.underlying53 Tryd.underlying5
  go_upto_region 14 with (first
    | (have g1 := G7; refine wpList_load_row rfl 50 _ rfl b7 rfl 50 _ (0, 0) _ g1 Tryd.underlying50 rfl (ansA_size _ _ _ _) ?_; clear g1 G7)
    | (go_at_call 26; (with_reducible refine hpr.mono ?_); rintro r w8 ⟨rfl, H8⟩; clear hpr H7))
  have H9 := H8.bytes 5 (⟨B.toArray⟩ : ByteArray) (by rw [hBs]; have := HSZB.out; omega)
  rw [hst, hBs] at H9
  clear hcv hst H8
  generalize Lib.bytesWorld w8 _ _ = W9 at *
  have n2 : W9.cell? ⟨b1, 2, none⟩ = some (.slice Ae a.events.length ce) := HL.cell H9.tail.tail 2
  obtain ⟨v0, hv0⟩ : ∃ v0 : Value, (Value.slice (some ⟨w8.heap.size, 0, none⟩) B.length (grownCap w8 B.length 0 5)) = v0 := ⟨_, rfl⟩
  rw [hv0] at H9 ⊢
  obtain ⟨-, -, ad, cc, hvE, hcc1, hcc2, -, -⟩ := hE1.rd _ H9.tail.tail
  simp only [Value.slice.injEq] at hvE
  obtain ⟨rfl, hpl, rfl⟩ := hvE
  have HPL := Lib.hid hpl
  unfold maxLen at hcc2
  rw [← hpl] at hcc1
  have hlA : (printT k a).length = B.length + (evsT a.events).length := by rw [HTX.out, List.length_append]
  have HLA := Lib.hid hlA
  clear hv0 hpl hlA hBs
  go_wp2
  clear n2
  go_loopg [10, 42] a.events.length (fun g v i wr => ∃ n : Nat, i = .int .i64 n ∧ n + g = a.events.length ∧ HL w wr (rowL w.heap.size 5 v (u8C (B ++ evsT (a.events.take n))) :: boxA b7 { a with events := [] } (.slice none 0 0) (.slice As a.job.set.length cs) (.slice Ar a.ranks.length cr) :: boxA b1 a (.slice Ae a.events.length ce) (.slice As a.job.set.length cs) (.slice Ar a.ranks.length cr) :: []))
  case atStart => exact ⟨0, rfl, by omega, by rw [List.take_zero]; simpa [evsT] using H9⟩
  case round =>
    obtain ⟨n, rfl, hn, HK⟩ := hrel
    clear H9
    by_cases hlt : n < a.events.length
    · obtain ⟨⟨e, v⟩, hp⟩ : ∃ p, ps[n]? = some p := ⟨_, List.getElem?_eq_getElem (by rw [← HPL.out]; exact hlt)⟩
      have hev : a.events[n]? = some e := by rw [HPS.out, List.getElem?_map, hp]; rfl
      have hem := List.mem_of_getElem? hev
      obtain ⟨b', o', c', hv, d0, d1, d2, d3, d4, d5⟩ := ev_at (hE1.rd _ HK.tail.tail) hp
      simp only [Value.slice.injEq] at hv
      obtain ⟨rfl, -, rfl⟩ := hv
      dsimp only at d0 d1 d2 d3 d4 d5
      have ho : Ints w (boxA b1 a (.slice (some ⟨b', o', none⟩) a.events.length ce) (.slice As a.job.set.length cs) (.slice Ar a.ranks.length cr) :: []) v e.list := hE1.own (e, v) (List.mem_of_getElem? hp)
      obtain ⟨Au, cu, rfl, -, -⟩ := rd_shape (ho _ HK.tail.tail)
      have HA := HL.allocE HK e (.slice Au e.list.length cu)
      have hevt := event_ok hD HA e (((ho.cons _).cons _).cons _) (HOK.out.events e hem)
      have hr := HRT.out e hem
      rw [show evN e = 0 from by unfold evN; rw [hr]; rfl, show evS e = ⟨(evT e).toArray⟩ from by unfold evS; rw [hr]; rfl] at hevt
      unfold evV at hevt
      obtain ⟨m0, m1, m2, m3, m4, m5⟩ := boxE_cells HA
      have hT : Lib.strCells (⟨(evT e).toArray⟩ : ByteArray) = u8C (evT e) := by simp [Lib.strCells]
      have hTz : (⟨(evT e).toArray⟩ : ByteArray).size = (evT e).length := by simp [ByteArray.size]
      have hsn : B ++ evsT (a.events.take (n + 1)) = B ++ evsT (a.events.take n) ++ evT e ++ [10] := by
        rw [List.take_add_one, hev]
        simp only [Option.toList_some]
        rw [evsT_snoc]
        simp
      have hle := evsT_take a.events (n + 1)
      have hlen := congrArg List.length hsn
      simp only [List.length_append, List.length_cons, List.length_nil] at hlen
      have hb1' : (u8C (B ++ evsT (a.events.take n))).length + (⟨(evT e).toArray⟩ : ByteArray).size ≤ 140737488355328 := by
        rw [hTz, List.length_map, List.length_append]
        have h1 := HSZ.out; have h2 := HLA.out
        omega
      have hb2' : (u8C (B ++ evsT (a.events.take n)) ++ u8C (evT e)).length + 1 ≤ 140737488355328 := by
        rw [List.length_append, List.length_map, List.length_map, List.length_append]
        have h1 := HSZ.out; have h2 := HLA.out
        omega
      generalize (⟨(evT e).toArray⟩ : ByteArray) = T at *
      have HSN := Lib.hid hsn; have HT := Lib.hid hT; have HP := Lib.hid hp; have HEV := Lib.hid hev; have HR2 := Lib.hid hr
      have HB1' := Lib.hid hb1'; have HB2' := Lib.hid hb2'
      clear hp hev hem hr hT hTz hsn hle hlen ho hb1' hb2'
      go_wp2_with (first
        | (go_at_call 20; refine hevt.mono ?_; rintro r w6 ⟨rfl, H6⟩; clear hevt HA m0 m1 m2 m3 m4 m5 d0 d1 d2 d3 d4 d5; have H6t := H6.tail)
        | (at_builtin; refine wpList_append_L_string Tryd.underlying53 Tryd.underlying9 (by kernel_rfl) rfl _ _ rfl (s := T) H6t rfl rfl HB1'.out ?_; intro z7 w7 H7; clear H6t H6; rw [HT.out] at H7; have H7b := H7.alloc (.cells #[.int .u8 10] 5); have cN : (w7.alloc (.cells #[.int .u8 10] 5)).cell? ⟨w7.heap.size, 0, none⟩ = some (.int .u8 10) := HL.cell H7b 0; have H7a := H7b.tail)
        | (at_builtin; refine wpList_append_L Tryd.underlying53 (by kernel_rfl) rfl _ _ rfl (news := [.int .u8 10]) (b := w7.heap.size) (m := 1) (c := 1) H7a rfl rfl rfl (fun j u hu => by
            match j, hu with
            | 0, hu => simp at hu; subst hu; exact cN
            | j + 1, hu => simp at hu) (by simp [Value.oneCell']) HB2'.out ?_; intro z8 w8' H8; clear H7 H7a H7b cN))
      go_roundg (gk - 1)
      case measure => omega
      case rel =>
        refine ⟨n + 1, by go_num, by omega, ?_⟩
        rw [HSN.out]
        have e1 : u8C (B ++ evsT (a.events.take n) ++ evT e ++ [10]) = u8C (B ++ evsT (a.events.take n)) ++ u8C (evT e) ++ [.int .u8 10] := by simp
        rw [e1]
        exact H8
    · rw [List.take_of_length_le (by omega)] at HK
      have hcv2 := run_string_L (P := Tryd.prog) (src := 53) (e := 5) (dst := 9) Tryd.underlying53 Tryd.underlying5 Tryd.underlying9 HK.head
      have hS : SA = ⟨(B ++ evsT a.events).toArray⟩ := by rw [HPA.out, HTX.out]
      rw [← hS] at hcv2
      have HB := Lib.hid HK.below
      rw [HB1.out] at HB
      have hq : (SA.toList == SA.toList) = true := by simp
      clear hS
      go_wp2
      go_ret
      exact ⟨rfl, HB.out⟩
end Go.Proofs.YtdekbbffoaphhaaDoor

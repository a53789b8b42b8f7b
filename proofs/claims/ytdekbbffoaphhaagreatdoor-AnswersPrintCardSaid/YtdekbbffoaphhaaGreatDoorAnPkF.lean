/- An answer's lines (plain): the reference's. -/
import Derived.Test.YtdekbbffoaphhaaGreatDoorAnRefCk
import Derived.Test.YtdekbbffoaphhaaGreatDoorAnPkB
import Derived.Test.YtdekbbffoaphhaaGreatDoorAnPkA
import Derived.Test.YtdekbbffoaphhaaGreatDoorAnZip
import Derived.Test.YtdekbbffoaphhaaGreatDoorAnZipB
set_option linter.unusedVariables false
set_option linter.unusedSimpArgs false
set_option maxRecDepth 100000
set_option maxHeartbeats 8000000
namespace Go.Proofs.An
def errL (a : Ans) : ByteArray := ⟨([101, 114, 114, 111, 114] ++ numsT [a.code]).toArray⟩
def firstB (k : Int) (a : Ans) : ByteArray := ⟨(firstT k a).toArray⟩
def rkS (r : Rk) : ByteArray := ⟨((numsT [r.job, r.prio]).drop 1).toArray⟩
def linesR (k : Int) (a : Ans) : List ByteArray := if a.code = 0 then (firstB k a :: a.ranks.map rkS) ++ a.events.map evS else [errL a]
def outT (ls : List ByteArray) : List UInt8 := ls.flatMap fun s => s.data.toList ++ [10]
theorem outT_app (l m : List ByteArray) : outT (l ++ m) = outT l ++ outT m := by simp [outT, List.flatMap_append]
theorem outT_rks : ∀ (rs : List Rk), outT (rs.map rkS) = rksT rs
 | [] => rfl
 | r :: rs => by
  have ih := outT_rks rs
  simp only [outT, rksT, List.map_cons, List.flatMap_cons] at ih ⊢
  rw [ih]
  rfl
theorem outT_evs : ∀ (es : List Ev), (∀ e ∈ es, right e = true) → outT (es.map evS) = evsT es
 | [], _ => rfl
 | e :: es, h => by
  have ih := outT_evs es (fun x hx => h x (List.mem_cons_of_mem _ hx))
  have hr := h e (by simp)
  simp only [outT, evsT, List.map_cons, List.flatMap_cons] at ih ⊢
  rw [ih]
  have : (evS e).data.toList = evT e := by unfold evS; rw [if_pos hr]
  rw [this]
theorem no_both {k : Int} {a : Ans} (h : checkA k a = 0) (hc : a.code = 0) : (hasB k = false → a.events = []) ∧ (k ≠ 10 → a.ranks = []) := own_events (rest_own hc (fine_rest (check_fine h hc)))
theorem outT_lines {k : Int} {a : Ans} (h : checkA k a = 0) : outT (linesR k a) = printT k a := by
 unfold linesR printT
 by_cases hc : a.code = 0
 ·obtain ⟨h1, h2⟩ := no_both h hc
  have hf : outT [firstB k a] = firstT k a ++ [10] := by simp [outT, firstB]
  have e0 : firstB k a :: a.ranks.map rkS = [firstB k a] ++ a.ranks.map rkS := rfl
  rw [if_pos hc, if_neg (by simp [hc]), outT_app, e0, outT_app, outT_rks, outT_evs _ (check_right h hc), hf]
  cases hh : hasB k with
  | false => rw [h1 hh]; simp [evsT]
  | true => rw [h2 (has10 hh)]; simp [rksT]
 ·rw [if_neg hc, if_pos hc]
  simp [outT, errL]
end Go.Proofs.An
namespace Go.Proofs.YtdekbbffoaphhaaGreatDoor
open Go.RowKit Go.Proofs.HL Go.Proofs.An
section
variable {w0 w : World} {L : List At}
def LinesPost (w0 : World) (L : List At) (k : Int) (a : Ans) (r : Ending) (w' : World) : Prop := ∃ v, r = .returned v ∧ HL w0 w' (strs w0.heap.size v (linesR k a) :: L)
theorem append_strs {ops : Array Oper} {rest : List Oper} {o : Oper} {a : Act} {Q : Exit → Act → World → Prop} {xs ys : List ByteArray} {v xv : Value} (hgd : o.guard = none) (s x : Operand) (ho : o.op = .call { callee := .builtin .append, args := #[s, x], argTypes := #[64, 64] })
  (H : HL w0 w (strs w0.heap.size v xs :: L)) (hs : a.eval s = v) (hx : a.eval x = xv) (hr : Rd 1 xv ys.length (strC ys) w) (hb : xs.length + ys.length ≤ 8589934592)
  (h : ∀ v' w', HL w0 w' (strs w0.heap.size v' (xs ++ ys) :: L) → wpList Tryz.prog ops Q rest (a.put o.dst v') w') : wpList Tryz.prog ops Q (o :: rest) a w :=
 wpList_append_hl sliceS hgd s x ho (n := xs.length) (m := ys.length) (xs := strC xs) (news := strC ys) H hs hx hr (by simp [strC, Value.oneCell']) (by unfold maxLen; omega) (by omega) (fun v' w' H' _ => h v' w' (by
  unfold strs; rw [List.length_append, strC, List.map_append]; exact H'))
theorem HL.strsOf {b : Nat} {xs : List ByteArray} (h : HL w0 w (blk b (.cells (strC xs).toArray 9) :: L)) (hl : xs.length ≤ maxLen) : HL w0 w (strs w0.heap.size (.slice (some ⟨b, 0, none⟩) xs.length xs.length) xs :: L) :=
 HL.rowOf (k := 1) (n := xs.length) (cs := strC xs) h (by simp) hl
theorem HL.strsApp {v : Value} {xs ys : List ByteArray} (h : HL w0 w (row w0.heap.size 9 1 v (xs.length + ys.length) (strC xs ++ strC ys) :: L)) : HL w0 w (strs w0.heap.size v (xs ++ ys) :: L) := by
 unfold strs
 rw [List.length_append, strC, List.map_append]
 exact h
theorem dec_size {n : Nat} (h : n < 18446744073709551616) : (⟨(Lib.decDigits n).toArray⟩ : ByteArray).size ≤ 22 := by
 have := Lib.nDigits_le20 n h
 rw [← Lib.decDigits_length] at this
 have e : (⟨(Lib.decDigits n).toArray⟩ : ByteArray).size = (Lib.decDigits n).length := by simp [ByteArray.size]
 omega
theorem Ref.ln_err (hD : Doors w0) (hFU : ∀ W, Doors W → FmtU W) (H : HL w0 w L) (k : Int) (a : Ans) (Ae As Ar : Option Addr) (ce cs cr : Nat) {ps : List (Ev × Value)} (hps : a.events = ps.map (·.1)) (hE : Evs w0 L (.slice Ae a.events.length ce) ps) (hI : Ints w0 L (.slice As a.job.set.length cs) a.job.set) (hR : Rks w0 L (.slice Ar a.ranks.length cr) a.ranks) (hok : AnsOk a) (hfw : ∀ e ∈ a.events, e.list.length ≤ 4294967200) (hfe : a.events.length ≤ 4194304) (hfr : a.ranks.length ≤ 4194304) (hfs : a.job.set.length ≤ 4194304) (hc : a.code ≠ 0) :
  Calls Tryz.prog 23 #[.int .i64 k, ansV a (.slice Ae a.events.length ce) (.slice As a.job.set.length cs) (.slice Ar a.ranks.length cr)] w (LinesPost w0 L k a) := by
 have H1 := HL.allocA H a (.slice Ae a.events.length ce) (.slice As a.job.set.length cs) (.slice Ar a.ranks.length cr)
 have hln : linesR k a = [errL a] := by unfold linesR; rw [if_neg hc]
 have q0 : (a.code != 0) = true := by simp [hc]
 have hdg := Ref.digits9_ok hD H1 a.code hok.code.1 hok.code.2
 have hT : (⟨#[101, 114, 114, 111, 114, 32]⟩ : ByteArray) ++ (⟨(Lib.itoa a.code).toArray⟩ : ByteArray) = errL a := by
  unfold errL
  exact bytesSame (by rw [Go.ByteArray.toList_eq, Go.ByteArray.toList_eq]; simp [numsT])
 have hz : (⟨(Lib.itoa a.code).toArray⟩ : ByteArray).size ≤ 22 := itB_size hok.code.1 hok.code.2
 unfold ansV
 generalize hb1 : w.heap.size = b1 at *
 have n0 := HL.cell H1 0
 generalize (⟨(Lib.itoa a.code).toArray⟩ : ByteArray) = T at *
 have HT := Lib.hid hT; have HLN := Lib.hid hln
 clear hT hln hps hE hI hR hok hfw hc H hfe hfr hfs hD hFU
 go_enter Tryz.func23, Tryz.ntmps23
 go_wp2_with (go_at_call 53; refine hdg.mono ?_; rintro r w4 ⟨rfl, H4⟩; clear hdg H1)
 have H5 := H4.alloc (.cells #[.string ((⟨#[101, 114, 114, 111, 114, 32]⟩ : ByteArray) ++ T)] 9)
 rw [HT.out] at H5
 have H6 := HL.strsOf (xs := [errL a]) H5 (by unfold maxLen; simp)
 rw [HT.out]
 go_ret
 exact ⟨_, rfl, by rw [HLN.out]; exact H6.sel 2 [0]⟩
theorem Ref.ln_1 (hD : Doors w0) (hFU : ∀ W, Doors W → FmtU W) (H : HL w0 w L) (k : Int) (a : Ans) (Ae As Ar : Option Addr) (ce cs cr : Nat) {ps : List (Ev × Value)} (hps : a.events = ps.map (·.1)) (hE : Evs w0 L (.slice Ae a.events.length ce) ps) (hI : Ints w0 L (.slice As a.job.set.length cs) a.job.set) (hR : Rks w0 L (.slice Ar a.ranks.length cr) a.ranks) (hok : AnsOk a) (hfw : ∀ e ∈ a.events, e.list.length ≤ 4294967200) (hfe : a.events.length ≤ 4194304) (hfr : a.ranks.length ≤ 4194304) (hfs : a.job.set.length ≤ 4194304) (hc : a.code = 0) (hk : k = 1) (hnr : a.ranks = []) :
  Calls Tryz.prog 23 #[.int .i64 k, ansV a (.slice Ae a.events.length ce) (.slice As a.job.set.length cs) (.slice Ar a.ranks.length cr)] w (LinesPost w0 L k a) := by
 have H1 := HL.allocA H a (.slice Ae a.events.length ce) (.slice As a.job.set.length cs) (.slice Ar a.ranks.length cr)
 have hln : linesR k a = (firstB k a :: a.ranks.map rkS) ++ a.events.map evS := by unfold linesR; rw [if_pos hc]
 have q0 : (a.code != 0) = false := by simp [hc]
 have q1 : (k == 1) = true := by rw [hk]; rfl
 unfold ansV
 generalize hb1 : w.heap.size = b1 at *
 have HPS := Lib.hid hps; have HE := Lib.hid hE; have HI := Lib.hid hI; have HR := Lib.hid hR; have HOK := Lib.hid hok; have HFW := Lib.hid hfw; have HD := Lib.hid hD; have HLN := Lib.hid hln; have HK := Lib.hid hk; have HFE := Lib.hid hfe; have HFR := Lib.hid hfr; have HFS := Lib.hid hfs; have HFU := Lib.hid hFU; have HNR := Lib.hid hnr
 clear hps hE hI hR hok hfw hD hln hk hc H hfe hfr hfs hFU hnr
 have n0 := HL.cell H1 0
 go_enter Tryz.func23, Tryz.ntmps23
 go_upto_region 3 with (fail)
 clear n0 q0
 have HB1 := Lib.hid hb1
 clear hb1
 generalize World.alloc _ _ = W at *
 obtain ⟨c0, c1, c2, c3, c4, c5, c6, c7, c8, c9, c10, c11, c12, c13, c14, c15, c16, c17, c18, c19, c20, c21, c22, c23, c24, c25, c26⟩ := boxA_cells H1
 have HJ : HL w0 (W.alloc (.cells #[.int .i64 0, .int .i64 0, .int .i64 0, .int .i64 0, .int .i64 0, .int .i64 0, .int .i64 0, .slice none 0 0] 26)) (boxJ W.heap.size zJ (.slice none 0 0) :: _) := H1.alloc _
 have GJ : _ = some (Obj.cells _ 26 (0, 0)) := HJ.head
 have HS : HL w0 _ (boxJ W.heap.size a.job (.slice As a.job.set.length cs) :: _) := HL.setWhole (cells := jbA a.job (.slice As a.job.set.length cs)) HJ
 go_upto_region 4 with (refine wpList_store_row rfl 26 _ _ rfl W.heap.size (jbA a.job (.slice As a.job.set.length cs)) rfl rfl 26 _ GJ (jbA_size _ _) rfl (jbA_one _ _ _ _) ?_)
 clear GJ HJ H1 c0 c1 c2 c3 c4 c5 c6 c7 c8 c9 c10 c11 c12 c13 c14 c15 c16 c17 c18 c19 c20 c21 c22 c23 c24 c25 c26
 generalize World.setRow _ _ _ = W2 at *
 generalize W.heap.size = bj at *
 have H3 := HS.alloc (.cells #[.string ⟨#[111, 107]⟩] 9)
 clear HS
 go_upto_block 0 with (fail)
 generalize World.alloc W2 _ = W3 at *
 generalize W2.heap.size = b6 at *
 have n1 : W3.cell? ⟨b1, 1, none⟩ = some (.int .i64 a.id) := HL.cell H3.tail.tail 1
 have hdg := Ref.digits9_ok HD.out H3 a.id HOK.out.id.1 HOK.out.id.2
 have hT : (⟨#[106, 111, 98, 32]⟩ : ByteArray) ++ (⟨(Lib.itoa a.id).toArray⟩ : ByteArray) = firstB k a := by
  rw [HK.out]
  unfold firstB firstT
  exact bytesSame (by rw [Go.ByteArray.toList_eq, Go.ByteArray.toList_eq]; simp [numsT])
 have hz : (⟨(Lib.itoa a.id).toArray⟩ : ByteArray).size ≤ 22 := itB_size HOK.out.id.1 HOK.out.id.2
 generalize (⟨(Lib.itoa a.id).toArray⟩ : ByteArray) = T at *
 have HT := Lib.hid hT
 clear hT
 go_upto_region 27 with (go_at_call 53; refine hdg.mono ?_; rintro r w4 ⟨rfl, H4⟩; clear hdg H3; have m0 := HL.cell H4 0; have y0 := HL.frozen H4 0)
 have H5 := HL.setCell H4 0 (.string ((⟨#[106, 111, 98, 32]⟩ : ByteArray) ++ T))
 rw [HT.out] at H5
 have H6 : HL w0 _ (strs w0.heap.size (.slice (some ⟨b6, 0, none⟩) 1 1) [firstB k a] :: boxJ bj a.job (.slice As a.job.set.length cs) :: boxA b1 a (.slice Ae a.events.length ce) (.slice As a.job.set.length cs) (.slice Ar a.ranks.length cr) :: L) := HL.strsOf (xs := [firstB k a]) H5 (by unfold maxLen; simp)
 rw [HT.out]
 clear H5 H4 m0 y0 n1
 generalize World.setCell _ _ _ = W5 at *
 have HLS := Lib.hid (show linesR k a = [firstB k a] ++ a.events.map evS by rw [HLN.out, HNR.out]; rfl)
 have HLL := Lib.hid (show [firstB k a].length ≤ 4194305 by simp)
 have c2 : World.cell? _ ⟨b1, 2, none⟩ = some (.slice Ae a.events.length ce) := HL.cell H6.tail.tail 2
 have hEr := fun W' v l (HH : HL w0 W' (strs w0.heap.size v l :: boxJ bj a.job (.slice As a.job.set.length cs) :: boxA b1 a (.slice Ae a.events.length ce) (.slice As a.job.set.length cs) (.slice Ar a.ranks.length cr) :: L)) => (((HE.out.cons _).cons _).cons _).rd W' HH
 have hEo := fun p hp A4 A5 => (((((HE.out.own p hp).cons (boxA b1 a (.slice Ae a.events.length ce) (.slice As a.job.set.length cs) (.slice Ar a.ranks.length cr))).cons (boxJ bj a.job (.slice As a.job.set.length cs))).cons A4)).cons A5
 have HER := Lib.hid hEr; have HEO := Lib.hid hEo
 obtain ⟨-, -, aE, cE, hvE, hE1, hE2, -, -⟩ := hEr _ _ _ H6
 simp only [Value.slice.injEq] at hvE
 obtain ⟨rfl, hlE, rfl⟩ := hvE
 unfold maxLen at hE2
 rw [← hlE] at hE1
 have HLE := Lib.hid hlE
 have hev := fun e he (W' : World) v L' (HH : HL w0 W' L') (h : Ints w0 L' v e.list) => Ref.event_ok HD.out HH e h (HOK.out.events e he) (HFW.out e he)
 have HEV := Lib.hid hev
 clear hev hEr hEo hlE
 go_wp2
 clear c2
 go_loopg [6, 148] a.events.length (fun g t6 i wr => ∃ (n : Nat) (v : Value), i = .int .i64 n ∧ n + g = a.events.length ∧ t6 = v ∧ HL w0 wr (strs w0.heap.size v ([firstB k a] ++ (a.events.take n).map evS) :: boxJ bj a.job (.slice As a.job.set.length cs) :: boxA b1 a (.slice Ae a.events.length ce) (.slice As a.job.set.length cs) (.slice Ar a.ranks.length cr) :: L))
 case atStart => exact ⟨0, _, rfl, by omega, rfl, by rw [List.take_zero, List.map_nil, List.append_nil]; exact H6⟩
 case round =>
  obtain ⟨n, v, rfl, hn, rfl, HK⟩ := hrel
  clear H6
  by_cases hlt : n < a.events.length
  ·obtain ⟨⟨e, u⟩, hp⟩ : ∃ p, ps[n]? = some p := ⟨_, List.getElem?_eq_getElem (by rw [← HLE.out]; exact hlt)⟩
   have hev : a.events[n]? = some e := by rw [HPS.out, List.getElem?_map, hp]; rfl
   obtain ⟨b', o', c', hv, d0, d1, d2, d3, d4, d5⟩ := ev_at (HER.out _ _ _ HK) hp
   simp only [Value.slice.injEq] at hv
   obtain ⟨rfl, -, rfl⟩ := hv
   have ho := HEO.out (e, u) (List.mem_of_getElem? hp)
   dsimp only at ho d0 d1 d2 d3 d4 d5
   have HA := HL.allocE HK e u
   obtain ⟨Au, cu, rfl, -, -⟩ := rd_shape (ho _ _ _ HA)
   have hnx : [firstB k a] ++ (a.events.take (n + 1)).map evS = ([firstB k a] ++ (a.events.take n).map evS) ++ [evS e] := by rw [List.take_add_one, hev]; simp
   have hlx : ([firstB k a] ++ (a.events.take n).map evS).length ≤ 4294967296 := by
    have h1 := HLL.out
    have h2 := HFE.out
    rw [List.length_append, List.length_map, List.length_take]
    omega
   have hri := HEV.out e (List.mem_of_getElem? hev) _ _ _ HA (ho _ _)
   unfold evV at hri
   obtain ⟨m0, m1, m2, m3, m4, m5⟩ := boxE_cells HA
   have HN := Lib.hid hnx; have HP2 := Lib.hid hp
   generalize [firstB k a] ++ (a.events.take n).map evS = l at *
   generalize evS e = es at *
   generalize evN e = en at *
   obtain ⟨A6, z6, rfl, hc1, hc2⟩ := rd_shape (entRow _ HK)
   unfold maxLen at hc2
   clear hnx hev hp ho
   go_wp2_with (first
    | (go_at_call 35; refine hri.mono ?_; rintro r w3 ⟨rfl, H3⟩; clear HA m0 m1 m2 m3 m4 m5; have HB := H3.tail.alloc' (.cells #[.string es] 9); have hr4 := rd_str (w := w3) (y := es))
    | (at_builtin; refine append_str (v := .slice A6 l.length z6) (xs := l) (y := es) (b := w3.heap.size) rfl _ _ rfl HB rfl rfl hr4 hlx ?_; intro z5 w8 H8; clear HB hr4 HK))
   go_roundg (gk - 1)
   case measure => omega
   case rel => exact ⟨n + 1, _, by go_num, by omega, rfl, by rw [HN.out]; exact H8⟩
  ·rw [List.take_of_length_le (by omega)] at HK
   rw [← HLS.out] at HK
   go_wp2
   go_ret
   exact ⟨_, rfl, HK.sel 3 [0]⟩
theorem Ref.ln_5 (hD : Doors w0) (hFU : ∀ W, Doors W → FmtU W) (H : HL w0 w L) (k : Int) (a : Ans) (Ae As Ar : Option Addr) (ce cs cr : Nat) {ps : List (Ev × Value)} (hps : a.events = ps.map (·.1)) (hE : Evs w0 L (.slice Ae a.events.length ce) ps) (hI : Ints w0 L (.slice As a.job.set.length cs) a.job.set) (hR : Rks w0 L (.slice Ar a.ranks.length cr) a.ranks) (hok : AnsOk a) (hfw : ∀ e ∈ a.events, e.list.length ≤ 4294967200) (hfe : a.events.length ≤ 4194304) (hfr : a.ranks.length ≤ 4194304) (hfs : a.job.set.length ≤ 4194304) (hc : a.code = 0) (hk : k = 5) (hnr : a.ranks = []) :
  Calls Tryz.prog 23 #[.int .i64 k, ansV a (.slice Ae a.events.length ce) (.slice As a.job.set.length cs) (.slice Ar a.ranks.length cr)] w (LinesPost w0 L k a) := by
 have H1 := HL.allocA H a (.slice Ae a.events.length ce) (.slice As a.job.set.length cs) (.slice Ar a.ranks.length cr)
 have hln : linesR k a = (firstB k a :: a.ranks.map rkS) ++ a.events.map evS := by unfold linesR; rw [if_pos hc]
 have q0 : (a.code != 0) = false := by simp [hc]
 have q1 : (k == 1) = false := by rw [hk]; rfl
 have q5 : (k == 5) = true := by rw [hk]; rfl
 unfold ansV
 generalize hb1 : w.heap.size = b1 at *
 have HPS := Lib.hid hps; have HE := Lib.hid hE; have HI := Lib.hid hI; have HR := Lib.hid hR; have HOK := Lib.hid hok; have HFW := Lib.hid hfw; have HD := Lib.hid hD; have HLN := Lib.hid hln; have HK := Lib.hid hk; have HFE := Lib.hid hfe; have HFR := Lib.hid hfr; have HFS := Lib.hid hfs; have HFU := Lib.hid hFU; have HNR := Lib.hid hnr
 clear hps hE hI hR hok hfw hD hln hk hc H hfe hfr hfs hFU hnr
 have n0 := HL.cell H1 0
 go_enter Tryz.func23, Tryz.ntmps23
 go_upto_region 3 with (fail)
 clear n0 q0
 have HB1 := Lib.hid hb1
 clear hb1
 generalize World.alloc _ _ = W at *
 obtain ⟨c0, c1, c2, c3, c4, c5, c6, c7, c8, c9, c10, c11, c12, c13, c14, c15, c16, c17, c18, c19, c20, c21, c22, c23, c24, c25, c26⟩ := boxA_cells H1
 have HJ : HL w0 (W.alloc (.cells #[.int .i64 0, .int .i64 0, .int .i64 0, .int .i64 0, .int .i64 0, .int .i64 0, .int .i64 0, .slice none 0 0] 26)) (boxJ W.heap.size zJ (.slice none 0 0) :: _) := H1.alloc _
 have GJ : _ = some (Obj.cells _ 26 (0, 0)) := HJ.head
 have HS : HL w0 _ (boxJ W.heap.size a.job (.slice As a.job.set.length cs) :: _) := HL.setWhole (cells := jbA a.job (.slice As a.job.set.length cs)) HJ
 go_upto_region 4 with (refine wpList_store_row rfl 26 _ _ rfl W.heap.size (jbA a.job (.slice As a.job.set.length cs)) rfl rfl 26 _ GJ (jbA_size _ _) rfl (jbA_one _ _ _ _) ?_)
 clear GJ HJ H1 c0 c1 c2 c3 c4 c5 c6 c7 c8 c9 c10 c11 c12 c13 c14 c15 c16 c17 c18 c19 c20 c21 c22 c23 c24 c25 c26
 generalize World.setRow _ _ _ = W2 at *
 generalize W.heap.size = bj at *
 have H3 := HS.alloc (.cells #[.string ⟨#[111, 107]⟩] 9)
 clear HS
 go_upto_block 0 with (fail)
 generalize World.alloc W2 _ = W3 at *
 generalize W2.heap.size = b6 at *
 have n1 : W3.cell? ⟨b1, 1, none⟩ = some (.int .i64 a.id) := HL.cell H3.tail.tail 1
 have hdg := Ref.digits9_ok HD.out H3 a.id HOK.out.id.1 HOK.out.id.2
 have hT : (⟨#[97, 99, 99, 111, 117, 110, 116, 32]⟩ : ByteArray) ++ (⟨(Lib.itoa a.id).toArray⟩ : ByteArray) = firstB k a := by
  rw [HK.out]
  unfold firstB firstT
  exact bytesSame (by rw [Go.ByteArray.toList_eq, Go.ByteArray.toList_eq]; simp [numsT])
 have hz : (⟨(Lib.itoa a.id).toArray⟩ : ByteArray).size ≤ 22 := itB_size HOK.out.id.1 HOK.out.id.2
 generalize (⟨(Lib.itoa a.id).toArray⟩ : ByteArray) = T at *
 have HT := Lib.hid hT
 clear hT
 go_upto_region 27 with (go_at_call 53; refine hdg.mono ?_; rintro r w4 ⟨rfl, H4⟩; clear hdg H3; have m0 := HL.cell H4 0; have y0 := HL.frozen H4 0)
 have H5 := HL.setCell H4 0 (.string ((⟨#[97, 99, 99, 111, 117, 110, 116, 32]⟩ : ByteArray) ++ T))
 rw [HT.out] at H5
 have H6 : HL w0 _ (strs w0.heap.size (.slice (some ⟨b6, 0, none⟩) 1 1) [firstB k a] :: boxJ bj a.job (.slice As a.job.set.length cs) :: boxA b1 a (.slice Ae a.events.length ce) (.slice As a.job.set.length cs) (.slice Ar a.ranks.length cr) :: L) := HL.strsOf (xs := [firstB k a]) H5 (by unfold maxLen; simp)
 rw [HT.out]
 clear H5 H4 m0 y0 n1
 generalize World.setCell _ _ _ = W5 at *
 have HLS := Lib.hid (show linesR k a = [firstB k a] ++ a.events.map evS by rw [HLN.out, HNR.out]; rfl)
 have HLL := Lib.hid (show [firstB k a].length ≤ 4194305 by simp)
 have c2 : World.cell? _ ⟨b1, 2, none⟩ = some (.slice Ae a.events.length ce) := HL.cell H6.tail.tail 2
 have hEr := fun W' v l (HH : HL w0 W' (strs w0.heap.size v l :: boxJ bj a.job (.slice As a.job.set.length cs) :: boxA b1 a (.slice Ae a.events.length ce) (.slice As a.job.set.length cs) (.slice Ar a.ranks.length cr) :: L)) => (((HE.out.cons _).cons _).cons _).rd W' HH
 have hEo := fun p hp A4 A5 => (((((HE.out.own p hp).cons (boxA b1 a (.slice Ae a.events.length ce) (.slice As a.job.set.length cs) (.slice Ar a.ranks.length cr))).cons (boxJ bj a.job (.slice As a.job.set.length cs))).cons A4)).cons A5
 have HER := Lib.hid hEr; have HEO := Lib.hid hEo
 obtain ⟨-, -, aE, cE, hvE, hE1, hE2, -, -⟩ := hEr _ _ _ H6
 simp only [Value.slice.injEq] at hvE
 obtain ⟨rfl, hlE, rfl⟩ := hvE
 unfold maxLen at hE2
 rw [← hlE] at hE1
 have HLE := Lib.hid hlE
 have hev := fun e he (W' : World) v L' (HH : HL w0 W' L') (h : Ints w0 L' v e.list) => Ref.event_ok HD.out HH e h (HOK.out.events e he) (HFW.out e he)
 have HEV := Lib.hid hev
 clear hev hEr hEo hlE
 go_wp2
 clear c2
 go_loopg [6, 148] a.events.length (fun g t6 i wr => ∃ (n : Nat) (v : Value), i = .int .i64 n ∧ n + g = a.events.length ∧ t6 = v ∧ HL w0 wr (strs w0.heap.size v ([firstB k a] ++ (a.events.take n).map evS) :: boxJ bj a.job (.slice As a.job.set.length cs) :: boxA b1 a (.slice Ae a.events.length ce) (.slice As a.job.set.length cs) (.slice Ar a.ranks.length cr) :: L))
 case atStart => exact ⟨0, _, rfl, by omega, rfl, by rw [List.take_zero, List.map_nil, List.append_nil]; exact H6⟩
 case round =>
  obtain ⟨n, v, rfl, hn, rfl, HK⟩ := hrel
  clear H6
  by_cases hlt : n < a.events.length
  ·obtain ⟨⟨e, u⟩, hp⟩ : ∃ p, ps[n]? = some p := ⟨_, List.getElem?_eq_getElem (by rw [← HLE.out]; exact hlt)⟩
   have hev : a.events[n]? = some e := by rw [HPS.out, List.getElem?_map, hp]; rfl
   obtain ⟨b', o', c', hv, d0, d1, d2, d3, d4, d5⟩ := ev_at (HER.out _ _ _ HK) hp
   simp only [Value.slice.injEq] at hv
   obtain ⟨rfl, -, rfl⟩ := hv
   have ho := HEO.out (e, u) (List.mem_of_getElem? hp)
   dsimp only at ho d0 d1 d2 d3 d4 d5
   have HA := HL.allocE HK e u
   obtain ⟨Au, cu, rfl, -, -⟩ := rd_shape (ho _ _ _ HA)
   have hnx : [firstB k a] ++ (a.events.take (n + 1)).map evS = ([firstB k a] ++ (a.events.take n).map evS) ++ [evS e] := by rw [List.take_add_one, hev]; simp
   have hlx : ([firstB k a] ++ (a.events.take n).map evS).length ≤ 4294967296 := by
    have h1 := HLL.out
    have h2 := HFE.out
    rw [List.length_append, List.length_map, List.length_take]
    omega
   have hri := HEV.out e (List.mem_of_getElem? hev) _ _ _ HA (ho _ _)
   unfold evV at hri
   obtain ⟨m0, m1, m2, m3, m4, m5⟩ := boxE_cells HA
   have HN := Lib.hid hnx; have HP2 := Lib.hid hp
   generalize [firstB k a] ++ (a.events.take n).map evS = l at *
   generalize evS e = es at *
   generalize evN e = en at *
   obtain ⟨A6, z6, rfl, hc1, hc2⟩ := rd_shape (entRow _ HK)
   unfold maxLen at hc2
   clear hnx hev hp ho
   go_wp2_with (first
    | (go_at_call 35; refine hri.mono ?_; rintro r w3 ⟨rfl, H3⟩; clear HA m0 m1 m2 m3 m4 m5; have HB := H3.tail.alloc' (.cells #[.string es] 9); have hr4 := rd_str (w := w3) (y := es))
    | (at_builtin; refine append_str (v := .slice A6 l.length z6) (xs := l) (y := es) (b := w3.heap.size) rfl _ _ rfl HB rfl rfl hr4 hlx ?_; intro z5 w8 H8; clear HB hr4 HK))
   go_roundg (gk - 1)
   case measure => omega
   case rel => exact ⟨n + 1, _, by go_num, by omega, rfl, by rw [HN.out]; exact H8⟩
  ·rw [List.take_of_length_le (by omega)] at HK
   rw [← HLS.out] at HK
   go_wp2
   go_ret
   exact ⟨_, rfl, HK.sel 3 [0]⟩
theorem Ref.ln_12 (hD : Doors w0) (hFU : ∀ W, Doors W → FmtU W) (H : HL w0 w L) (k : Int) (a : Ans) (Ae As Ar : Option Addr) (ce cs cr : Nat) {ps : List (Ev × Value)} (hps : a.events = ps.map (·.1)) (hE : Evs w0 L (.slice Ae a.events.length ce) ps) (hI : Ints w0 L (.slice As a.job.set.length cs) a.job.set) (hR : Rks w0 L (.slice Ar a.ranks.length cr) a.ranks) (hok : AnsOk a) (hfw : ∀ e ∈ a.events, e.list.length ≤ 4294967200) (hfe : a.events.length ≤ 4194304) (hfr : a.ranks.length ≤ 4194304) (hfs : a.job.set.length ≤ 4194304) (hc : a.code = 0) (hk : k = 12) (hnr : a.ranks = []) :
  Calls Tryz.prog 23 #[.int .i64 k, ansV a (.slice Ae a.events.length ce) (.slice As a.job.set.length cs) (.slice Ar a.ranks.length cr)] w (LinesPost w0 L k a) := by
 have H1 := HL.allocA H a (.slice Ae a.events.length ce) (.slice As a.job.set.length cs) (.slice Ar a.ranks.length cr)
 have hln : linesR k a = (firstB k a :: a.ranks.map rkS) ++ a.events.map evS := by unfold linesR; rw [if_pos hc]
 have q0 : (a.code != 0) = false := by simp [hc]
 have q1 : (k == 1) = false := by rw [hk]; rfl
 have q5 : (k == 5) = false := by rw [hk]; rfl
 have q9 : (k == 9) = false := by rw [hk]; rfl
 have q10 : (k == 10) = false := by rw [hk]; rfl
 have q11 : (k == 11) = false := by rw [hk]; rfl
 have q12 : (k == 12) = true := by rw [hk]; rfl
 unfold ansV
 generalize hb1 : w.heap.size = b1 at *
 have HPS := Lib.hid hps; have HE := Lib.hid hE; have HI := Lib.hid hI; have HR := Lib.hid hR; have HOK := Lib.hid hok; have HFW := Lib.hid hfw; have HD := Lib.hid hD; have HLN := Lib.hid hln; have HK := Lib.hid hk; have HFE := Lib.hid hfe; have HFR := Lib.hid hfr; have HFS := Lib.hid hfs; have HFU := Lib.hid hFU; have HNR := Lib.hid hnr
 clear hps hE hI hR hok hfw hD hln hk hc H hfe hfr hfs hFU hnr
 have n0 := HL.cell H1 0
 go_enter Tryz.func23, Tryz.ntmps23
 go_upto_region 3 with (fail)
 clear n0 q0
 have HB1 := Lib.hid hb1
 clear hb1
 generalize World.alloc _ _ = W at *
 obtain ⟨c0, c1, c2, c3, c4, c5, c6, c7, c8, c9, c10, c11, c12, c13, c14, c15, c16, c17, c18, c19, c20, c21, c22, c23, c24, c25, c26⟩ := boxA_cells H1
 have HJ : HL w0 (W.alloc (.cells #[.int .i64 0, .int .i64 0, .int .i64 0, .int .i64 0, .int .i64 0, .int .i64 0, .int .i64 0, .slice none 0 0] 26)) (boxJ W.heap.size zJ (.slice none 0 0) :: _) := H1.alloc _
 have GJ : _ = some (Obj.cells _ 26 (0, 0)) := HJ.head
 have HS : HL w0 _ (boxJ W.heap.size a.job (.slice As a.job.set.length cs) :: _) := HL.setWhole (cells := jbA a.job (.slice As a.job.set.length cs)) HJ
 go_upto_region 4 with (refine wpList_store_row rfl 26 _ _ rfl W.heap.size (jbA a.job (.slice As a.job.set.length cs)) rfl rfl 26 _ GJ (jbA_size _ _) rfl (jbA_one _ _ _ _) ?_)
 clear GJ HJ H1 c0 c1 c2 c3 c4 c5 c6 c7 c8 c9 c10 c11 c12 c13 c14 c15 c16 c17 c18 c19 c20 c21 c22 c23 c24 c25 c26
 generalize World.setRow _ _ _ = W2 at *
 generalize W.heap.size = bj at *
 have H3 := HS.alloc (.cells #[.string ⟨#[111, 107]⟩] 9)
 clear HS
 go_upto_block 0 with (fail)
 generalize World.alloc W2 _ = W3 at *
 generalize W2.heap.size = b6 at *
 have n15 : W3.cell? ⟨b1, 15, none⟩ = some (.int .i64 a.free) := HL.cell H3.tail.tail 15
 have hdg := Ref.digits9_ok HD.out H3 a.free HOK.out.free.1 HOK.out.free.2
 have hT : (⟨#[102, 114, 101, 101, 32]⟩ : ByteArray) ++ (⟨(Lib.itoa a.free).toArray⟩ : ByteArray) = firstB k a := by
  rw [HK.out]
  unfold firstB firstT
  exact bytesSame (by rw [Go.ByteArray.toList_eq, Go.ByteArray.toList_eq]; simp [numsT])
 have hz : (⟨(Lib.itoa a.free).toArray⟩ : ByteArray).size ≤ 22 := itB_size HOK.out.free.1 HOK.out.free.2
 generalize (⟨(Lib.itoa a.free).toArray⟩ : ByteArray) = T at *
 have HT := Lib.hid hT
 clear hT
 go_upto_region 27 with (go_at_call 53; refine hdg.mono ?_; rintro r w4 ⟨rfl, H4⟩; clear hdg H3; have m0 := HL.cell H4 0; have y0 := HL.frozen H4 0)
 have H5 := HL.setCell H4 0 (.string ((⟨#[102, 114, 101, 101, 32]⟩ : ByteArray) ++ T))
 rw [HT.out] at H5
 have H6 : HL w0 _ (strs w0.heap.size (.slice (some ⟨b6, 0, none⟩) 1 1) [firstB k a] :: boxJ bj a.job (.slice As a.job.set.length cs) :: boxA b1 a (.slice Ae a.events.length ce) (.slice As a.job.set.length cs) (.slice Ar a.ranks.length cr) :: L) := HL.strsOf (xs := [firstB k a]) H5 (by unfold maxLen; simp)
 rw [HT.out]
 clear H5 H4 m0 y0 n15
 generalize World.setCell _ _ _ = W5 at *
 have HLS := Lib.hid (show linesR k a = [firstB k a] ++ a.events.map evS by rw [HLN.out, HNR.out]; rfl)
 have HLL := Lib.hid (show [firstB k a].length ≤ 4194305 by simp)
 have c2 : World.cell? _ ⟨b1, 2, none⟩ = some (.slice Ae a.events.length ce) := HL.cell H6.tail.tail 2
 have hEr := fun W' v l (HH : HL w0 W' (strs w0.heap.size v l :: boxJ bj a.job (.slice As a.job.set.length cs) :: boxA b1 a (.slice Ae a.events.length ce) (.slice As a.job.set.length cs) (.slice Ar a.ranks.length cr) :: L)) => (((HE.out.cons _).cons _).cons _).rd W' HH
 have hEo := fun p hp A4 A5 => (((((HE.out.own p hp).cons (boxA b1 a (.slice Ae a.events.length ce) (.slice As a.job.set.length cs) (.slice Ar a.ranks.length cr))).cons (boxJ bj a.job (.slice As a.job.set.length cs))).cons A4)).cons A5
 have HER := Lib.hid hEr; have HEO := Lib.hid hEo
 obtain ⟨-, -, aE, cE, hvE, hE1, hE2, -, -⟩ := hEr _ _ _ H6
 simp only [Value.slice.injEq] at hvE
 obtain ⟨rfl, hlE, rfl⟩ := hvE
 unfold maxLen at hE2
 rw [← hlE] at hE1
 have HLE := Lib.hid hlE
 have hev := fun e he (W' : World) v L' (HH : HL w0 W' L') (h : Ints w0 L' v e.list) => Ref.event_ok HD.out HH e h (HOK.out.events e he) (HFW.out e he)
 have HEV := Lib.hid hev
 clear hev hEr hEo hlE
 go_wp2
 clear c2
 go_loopg [6, 148] a.events.length (fun g t6 i wr => ∃ (n : Nat) (v : Value), i = .int .i64 n ∧ n + g = a.events.length ∧ t6 = v ∧ HL w0 wr (strs w0.heap.size v ([firstB k a] ++ (a.events.take n).map evS) :: boxJ bj a.job (.slice As a.job.set.length cs) :: boxA b1 a (.slice Ae a.events.length ce) (.slice As a.job.set.length cs) (.slice Ar a.ranks.length cr) :: L))
 case atStart => exact ⟨0, _, rfl, by omega, rfl, by rw [List.take_zero, List.map_nil, List.append_nil]; exact H6⟩
 case round =>
  obtain ⟨n, v, rfl, hn, rfl, HK⟩ := hrel
  clear H6
  by_cases hlt : n < a.events.length
  ·obtain ⟨⟨e, u⟩, hp⟩ : ∃ p, ps[n]? = some p := ⟨_, List.getElem?_eq_getElem (by rw [← HLE.out]; exact hlt)⟩
   have hev : a.events[n]? = some e := by rw [HPS.out, List.getElem?_map, hp]; rfl
   obtain ⟨b', o', c', hv, d0, d1, d2, d3, d4, d5⟩ := ev_at (HER.out _ _ _ HK) hp
   simp only [Value.slice.injEq] at hv
   obtain ⟨rfl, -, rfl⟩ := hv
   have ho := HEO.out (e, u) (List.mem_of_getElem? hp)
   dsimp only at ho d0 d1 d2 d3 d4 d5
   have HA := HL.allocE HK e u
   obtain ⟨Au, cu, rfl, -, -⟩ := rd_shape (ho _ _ _ HA)
   have hnx : [firstB k a] ++ (a.events.take (n + 1)).map evS = ([firstB k a] ++ (a.events.take n).map evS) ++ [evS e] := by rw [List.take_add_one, hev]; simp
   have hlx : ([firstB k a] ++ (a.events.take n).map evS).length ≤ 4294967296 := by
    have h1 := HLL.out
    have h2 := HFE.out
    rw [List.length_append, List.length_map, List.length_take]
    omega
   have hri := HEV.out e (List.mem_of_getElem? hev) _ _ _ HA (ho _ _)
   unfold evV at hri
   obtain ⟨m0, m1, m2, m3, m4, m5⟩ := boxE_cells HA
   have HN := Lib.hid hnx; have HP2 := Lib.hid hp
   generalize [firstB k a] ++ (a.events.take n).map evS = l at *
   generalize evS e = es at *
   generalize evN e = en at *
   obtain ⟨A6, z6, rfl, hc1, hc2⟩ := rd_shape (entRow _ HK)
   unfold maxLen at hc2
   clear hnx hev hp ho
   go_wp2_with (first
    | (go_at_call 35; refine hri.mono ?_; rintro r w3 ⟨rfl, H3⟩; clear HA m0 m1 m2 m3 m4 m5; have HB := H3.tail.alloc' (.cells #[.string es] 9); have hr4 := rd_str (w := w3) (y := es))
    | (at_builtin; refine append_str (v := .slice A6 l.length z6) (xs := l) (y := es) (b := w3.heap.size) rfl _ _ rfl HB rfl rfl hr4 hlx ?_; intro z5 w8 H8; clear HB hr4 HK))
   go_roundg (gk - 1)
   case measure => omega
   case rel => exact ⟨n + 1, _, by go_num, by omega, rfl, by rw [HN.out]; exact H8⟩
  ·rw [List.take_of_length_le (by omega)] at HK
   rw [← HLS.out] at HK
   go_wp2
   go_ret
   exact ⟨_, rfl, HK.sel 3 [0]⟩
theorem Ref.ln_ok (hD : Doors w0) (hFU : ∀ W, Doors W → FmtU W) (H : HL w0 w L) (k : Int) (a : Ans) (Ae As Ar : Option Addr) (ce cs cr : Nat) {ps : List (Ev × Value)} (hps : a.events = ps.map (·.1)) (hE : Evs w0 L (.slice Ae a.events.length ce) ps) (hI : Ints w0 L (.slice As a.job.set.length cs) a.job.set) (hR : Rks w0 L (.slice Ar a.ranks.length cr) a.ranks) (hok : AnsOk a) (hfw : ∀ e ∈ a.events, e.list.length ≤ 4294967200) (hfe : a.events.length ≤ 4194304) (hfr : a.ranks.length ≤ 4194304) (hfs : a.job.set.length ≤ 4194304) (hc : a.code = 0) (hk : k = 2 ∨ k = 3 ∨ k = 4 ∨ k = 6 ∨ k = 7 ∨ k = 8) (hnr : a.ranks = []) :
  Calls Tryz.prog 23 #[.int .i64 k, ansV a (.slice Ae a.events.length ce) (.slice As a.job.set.length cs) (.slice Ar a.ranks.length cr)] w (LinesPost w0 L k a) := by
 have H1 := HL.allocA H a (.slice Ae a.events.length ce) (.slice As a.job.set.length cs) (.slice Ar a.ranks.length cr)
 have hln : linesR k a = (firstB k a :: a.ranks.map rkS) ++ a.events.map evS := by unfold linesR; rw [if_pos hc]
 have q0 : (a.code != 0) = false := by simp [hc]
 have q1 : (k == 1) = false := by simp; omega
 have q5 : (k == 5) = false := by simp; omega
 have q9 : (k == 9) = false := by simp; omega
 have q10 : (k == 10) = false := by simp; omega
 have q11 : (k == 11) = false := by simp; omega
 have q12 : (k == 12) = false := by simp; omega
 have q13 : (k == 13) = false := by simp; omega
 unfold ansV
 generalize hb1 : w.heap.size = b1 at *
 have HPS := Lib.hid hps; have HE := Lib.hid hE; have HI := Lib.hid hI; have HR := Lib.hid hR; have HOK := Lib.hid hok; have HFW := Lib.hid hfw; have HD := Lib.hid hD; have HLN := Lib.hid hln; have HK := Lib.hid hk; have HFE := Lib.hid hfe; have HFR := Lib.hid hfr; have HFS := Lib.hid hfs; have HFU := Lib.hid hFU; have HNR := Lib.hid hnr
 clear hps hE hI hR hok hfw hD hln hk hc H hfe hfr hfs hFU hnr
 have n0 := HL.cell H1 0
 go_enter Tryz.func23, Tryz.ntmps23
 go_upto_region 3 with (fail)
 clear n0 q0
 have HB1 := Lib.hid hb1
 clear hb1
 generalize World.alloc _ _ = W at *
 obtain ⟨c0, c1, c2, c3, c4, c5, c6, c7, c8, c9, c10, c11, c12, c13, c14, c15, c16, c17, c18, c19, c20, c21, c22, c23, c24, c25, c26⟩ := boxA_cells H1
 have HJ : HL w0 (W.alloc (.cells #[.int .i64 0, .int .i64 0, .int .i64 0, .int .i64 0, .int .i64 0, .int .i64 0, .int .i64 0, .slice none 0 0] 26)) (boxJ W.heap.size zJ (.slice none 0 0) :: _) := H1.alloc _
 have GJ : _ = some (Obj.cells _ 26 (0, 0)) := HJ.head
 have HS : HL w0 _ (boxJ W.heap.size a.job (.slice As a.job.set.length cs) :: _) := HL.setWhole (cells := jbA a.job (.slice As a.job.set.length cs)) HJ
 go_upto_region 4 with (refine wpList_store_row rfl 26 _ _ rfl W.heap.size (jbA a.job (.slice As a.job.set.length cs)) rfl rfl 26 _ GJ (jbA_size _ _) rfl (jbA_one _ _ _ _) ?_)
 clear GJ HJ H1 c0 c1 c2 c3 c4 c5 c6 c7 c8 c9 c10 c11 c12 c13 c14 c15 c16 c17 c18 c19 c20 c21 c22 c23 c24 c25 c26
 generalize World.setRow _ _ _ = W2 at *
 generalize W.heap.size = bj at *
 have H3 := HS.alloc (.cells #[.string ⟨#[111, 107]⟩] 9)
 clear HS
 go_upto_block 0 with (fail)
 generalize World.alloc W2 _ = W3 at *
 generalize W2.heap.size = b6 at *
 have hT : (⟨#[111, 107]⟩ : ByteArray) = firstB k a := by
  have h := HK.out
  unfold firstB firstT
  rw [if_neg (by omega), if_neg (by omega), if_neg (by omega), if_neg (by omega), if_neg (by omega), if_neg (by omega), if_neg (by omega)]
 rw [hT] at H3
 have H6 : HL w0 _ (strs w0.heap.size (.slice (some ⟨b6, 0, none⟩) 1 1) [firstB k a] :: boxJ bj a.job (.slice As a.job.set.length cs) :: boxA b1 a (.slice Ae a.events.length ce) (.slice As a.job.set.length cs) (.slice Ar a.ranks.length cr) :: L) := HL.strsOf (xs := [firstB k a]) H3 (by unfold maxLen; simp)
 clear hT H3
 go_upto_region 27 with (fail)
 have HLS := Lib.hid (show linesR k a = [firstB k a] ++ a.events.map evS by rw [HLN.out, HNR.out]; rfl)
 have HLL := Lib.hid (show [firstB k a].length ≤ 4194305 by simp)
 have c2 : World.cell? _ ⟨b1, 2, none⟩ = some (.slice Ae a.events.length ce) := HL.cell H6.tail.tail 2
 have hEr := fun W' v l (HH : HL w0 W' (strs w0.heap.size v l :: boxJ bj a.job (.slice As a.job.set.length cs) :: boxA b1 a (.slice Ae a.events.length ce) (.slice As a.job.set.length cs) (.slice Ar a.ranks.length cr) :: L)) => (((HE.out.cons _).cons _).cons _).rd W' HH
 have hEo := fun p hp A4 A5 => (((((HE.out.own p hp).cons (boxA b1 a (.slice Ae a.events.length ce) (.slice As a.job.set.length cs) (.slice Ar a.ranks.length cr))).cons (boxJ bj a.job (.slice As a.job.set.length cs))).cons A4)).cons A5
 have HER := Lib.hid hEr; have HEO := Lib.hid hEo
 obtain ⟨-, -, aE, cE, hvE, hE1, hE2, -, -⟩ := hEr _ _ _ H6
 simp only [Value.slice.injEq] at hvE
 obtain ⟨rfl, hlE, rfl⟩ := hvE
 unfold maxLen at hE2
 rw [← hlE] at hE1
 have HLE := Lib.hid hlE
 have hev := fun e he (W' : World) v L' (HH : HL w0 W' L') (h : Ints w0 L' v e.list) => Ref.event_ok HD.out HH e h (HOK.out.events e he) (HFW.out e he)
 have HEV := Lib.hid hev
 clear hev hEr hEo hlE
 go_wp2
 clear c2
 go_loopg [6, 148] a.events.length (fun g t6 i wr => ∃ (n : Nat) (v : Value), i = .int .i64 n ∧ n + g = a.events.length ∧ t6 = v ∧ HL w0 wr (strs w0.heap.size v ([firstB k a] ++ (a.events.take n).map evS) :: boxJ bj a.job (.slice As a.job.set.length cs) :: boxA b1 a (.slice Ae a.events.length ce) (.slice As a.job.set.length cs) (.slice Ar a.ranks.length cr) :: L))
 case atStart => exact ⟨0, _, rfl, by omega, rfl, by rw [List.take_zero, List.map_nil, List.append_nil]; exact H6⟩
 case round =>
  obtain ⟨n, v, rfl, hn, rfl, HK⟩ := hrel
  clear H6
  by_cases hlt : n < a.events.length
  ·obtain ⟨⟨e, u⟩, hp⟩ : ∃ p, ps[n]? = some p := ⟨_, List.getElem?_eq_getElem (by rw [← HLE.out]; exact hlt)⟩
   have hev : a.events[n]? = some e := by rw [HPS.out, List.getElem?_map, hp]; rfl
   obtain ⟨b', o', c', hv, d0, d1, d2, d3, d4, d5⟩ := ev_at (HER.out _ _ _ HK) hp
   simp only [Value.slice.injEq] at hv
   obtain ⟨rfl, -, rfl⟩ := hv
   have ho := HEO.out (e, u) (List.mem_of_getElem? hp)
   dsimp only at ho d0 d1 d2 d3 d4 d5
   have HA := HL.allocE HK e u
   obtain ⟨Au, cu, rfl, -, -⟩ := rd_shape (ho _ _ _ HA)
   have hnx : [firstB k a] ++ (a.events.take (n + 1)).map evS = ([firstB k a] ++ (a.events.take n).map evS) ++ [evS e] := by rw [List.take_add_one, hev]; simp
   have hlx : ([firstB k a] ++ (a.events.take n).map evS).length ≤ 4294967296 := by
    have h1 := HLL.out
    have h2 := HFE.out
    rw [List.length_append, List.length_map, List.length_take]
    omega
   have hri := HEV.out e (List.mem_of_getElem? hev) _ _ _ HA (ho _ _)
   unfold evV at hri
   obtain ⟨m0, m1, m2, m3, m4, m5⟩ := boxE_cells HA
   have HN := Lib.hid hnx; have HP2 := Lib.hid hp
   generalize [firstB k a] ++ (a.events.take n).map evS = l at *
   generalize evS e = es at *
   generalize evN e = en at *
   obtain ⟨A6, z6, rfl, hc1, hc2⟩ := rd_shape (entRow _ HK)
   unfold maxLen at hc2
   clear hnx hev hp ho
   go_wp2_with (first
    | (go_at_call 35; refine hri.mono ?_; rintro r w3 ⟨rfl, H3⟩; clear HA m0 m1 m2 m3 m4 m5; have HB := H3.tail.alloc' (.cells #[.string es] 9); have hr4 := rd_str (w := w3) (y := es))
    | (at_builtin; refine append_str (v := .slice A6 l.length z6) (xs := l) (y := es) (b := w3.heap.size) rfl _ _ rfl HB rfl rfl hr4 hlx ?_; intro z5 w8 H8; clear HB hr4 HK))
   go_roundg (gk - 1)
   case measure => omega
   case rel => exact ⟨n + 1, _, by go_num, by omega, rfl, by rw [HN.out]; exact H8⟩
  ·rw [List.take_of_length_le (by omega)] at HK
   rw [← HLS.out] at HK
   go_wp2
   go_ret
   exact ⟨_, rfl, HK.sel 3 [0]⟩
end
open Go.RowKit Go.Proofs.HL Go.Proofs.An
section
variable {w0 w : World} {L : List At}
theorem Ref.ln_11 (hD : Doors w0) (hFU : ∀ W, Doors W → FmtU W) (H : HL w0 w L) (k : Int) (a : Ans) (Ae As Ar : Option Addr) (ce cs cr : Nat) {ps : List (Ev × Value)} (hps : a.events = ps.map (·.1)) (hE : Evs w0 L (.slice Ae a.events.length ce) ps) (hI : Ints w0 L (.slice As a.job.set.length cs) a.job.set) (hR : Rks w0 L (.slice Ar a.ranks.length cr) a.ranks) (hok : AnsOk a) (hfw : ∀ e ∈ a.events, e.list.length ≤ 4294967200) (hfe : a.events.length ≤ 4194304) (hfr : a.ranks.length ≤ 4194304) (hfs : a.job.set.length ≤ 4194304) (hc : a.code = 0) (hk : k = 11) (hnr : a.ranks = []) :
  Calls Tryz.prog 23 #[.int .i64 k, ansV a (.slice Ae a.events.length ce) (.slice As a.job.set.length cs) (.slice Ar a.ranks.length cr)] w (LinesPost w0 L k a) := by
 have H1 := HL.allocA H a (.slice Ae a.events.length ce) (.slice As a.job.set.length cs) (.slice Ar a.ranks.length cr)
 have hln : linesR k a = (firstB k a :: a.ranks.map rkS) ++ a.events.map evS := by unfold linesR; rw [if_pos hc]
 have q0 : (a.code != 0) = false := by simp [hc]
 have q1 : (k == 1) = false := by rw [hk]; rfl
 have q5 : (k == 5) = false := by rw [hk]; rfl
 have q9 : (k == 9) = false := by rw [hk]; rfl
 have q10 : (k == 10) = false := by rw [hk]; rfl
 have q11 : (k == 11) = true := by rw [hk]; rfl
 unfold ansV
 generalize hb1 : w.heap.size = b1 at *
 have HPS := Lib.hid hps; have HE := Lib.hid hE; have HI := Lib.hid hI; have HR := Lib.hid hR; have HOK := Lib.hid hok; have HFW := Lib.hid hfw; have HD := Lib.hid hD; have HLN := Lib.hid hln; have HK := Lib.hid hk; have HFE := Lib.hid hfe; have HFR := Lib.hid hfr; have HFS := Lib.hid hfs; have HFU := Lib.hid hFU; have HNR := Lib.hid hnr
 clear hps hE hI hR hok hfw hD hln hk hc H hfe hfr hfs hFU hnr
 have n0 := HL.cell H1 0
 go_enter Tryz.func23, Tryz.ntmps23
 go_upto_region 3 with (fail)
 clear n0 q0
 have HB1 := Lib.hid hb1
 clear hb1
 generalize World.alloc _ _ = W at *
 obtain ⟨c0, c1, c2, c3, c4, c5, c6, c7, c8, c9, c10, c11, c12, c13, c14, c15, c16, c17, c18, c19, c20, c21, c22, c23, c24, c25, c26⟩ := boxA_cells H1
 have HJ : HL w0 (W.alloc (.cells #[.int .i64 0, .int .i64 0, .int .i64 0, .int .i64 0, .int .i64 0, .int .i64 0, .int .i64 0, .slice none 0 0] 26)) (boxJ W.heap.size zJ (.slice none 0 0) :: _) := H1.alloc _
 have GJ : _ = some (Obj.cells _ 26 (0, 0)) := HJ.head
 have HS : HL w0 _ (boxJ W.heap.size a.job (.slice As a.job.set.length cs) :: _) := HL.setWhole (cells := jbA a.job (.slice As a.job.set.length cs)) HJ
 go_upto_region 4 with (refine wpList_store_row rfl 26 _ _ rfl W.heap.size (jbA a.job (.slice As a.job.set.length cs)) rfl rfl 26 _ GJ (jbA_size _ _) rfl (jbA_one _ _ _ _) ?_)
 clear GJ HJ H1 c0 c1 c2 c3 c4 c5 c6 c7 c8 c9 c10 c11 c12 c13 c14 c15 c16 c17 c18 c19 c20 c21 c22 c23 c24 c25 c26
 generalize World.setRow _ _ _ = W2 at *
 generalize W.heap.size = bj at *
 have H3 := HS.alloc (.cells #[.string ⟨#[111, 107]⟩] 9)
 clear HS
 go_upto_block 0 with (fail)
 generalize World.alloc W2 _ = W3 at *
 generalize W2.heap.size = b6 at *
 have hd1 := fun W L' (HH : HL w0 W L') => Ref.digits9_ok HD.out HH a.raw HOK.out.raw.1 HOK.out.raw.2
 have hu1 : ∀ W L', HL w0 W L' → Calls Tryz.prog 52 #[.int .u64 a.usage, .int .i64 10] W fun e w' => e = .returned (.string ⟨(Lib.decDigits a.usage.toNat).toArray⟩) ∧ HL w0 w' L' := fun W L' HH => by
  have h := HOK.out.usage
  have := HFU.out w0 HD.out a.usage.toNat W L' (by omega) HH
  rwa [Int.toNat_of_nonneg h.1] at this
 have hu2 : ∀ W L', HL w0 W L' → Calls Tryz.prog 52 #[.int .u64 a.factor, .int .i64 10] W fun e w' => e = .returned (.string ⟨(Lib.decDigits a.factor.toNat).toArray⟩) ∧ HL w0 w' L' := fun W L' HH => by
  have h := HOK.out.factor
  have := HFU.out w0 HD.out a.factor.toNat W L' (by omega) HH
  rwa [Int.toNat_of_nonneg h.1] at this
 have hT : (⟨(wordsT [⟨#[117, 115, 97, 103, 101]⟩, ⟨(Lib.itoa a.raw).toArray⟩, ⟨(Lib.decDigits a.usage.toNat).toArray⟩, ⟨(Lib.decDigits a.factor.toNat).toArray⟩]).toArray⟩ : ByteArray) = firstB k a := by
  rw [HK.out]
  unfold firstB firstT
  exact bytesSame (by rw [Go.ByteArray.toList_eq, Go.ByteArray.toList_eq]; simp [wordsT, numsT])
 have hz1 : (⟨(Lib.itoa a.raw).toArray⟩ : ByteArray).size ≤ 22 := itB_size HOK.out.raw.1 HOK.out.raw.2
 have hz2 : (⟨(Lib.decDigits a.usage.toNat).toArray⟩ : ByteArray).size ≤ 22 := dec_size (by have h := HOK.out.usage; omega)
 have hz3 : (⟨(Lib.decDigits a.factor.toNat).toArray⟩ : ByteArray).size ≤ 22 := dec_size (by have h := HOK.out.factor; omega)
 generalize (⟨(Lib.itoa a.raw).toArray⟩ : ByteArray) = D1 at *
 generalize (⟨(Lib.decDigits a.usage.toNat).toArray⟩ : ByteArray) = D2 at *
 generalize (⟨(Lib.decDigits a.factor.toNat).toArray⟩ : ByteArray) = D3 at *
 have HT := Lib.hid hT
 clear hT
 go_upto_region 22 with (fail)
 refine wp_region_held_drew (S := fun w' => w'.cell? ⟨b1, 12, none⟩ = some (.int .i64 a.raw) ∧ w'.cell? ⟨b1, 13, none⟩ = some (.int .u64 a.usage) ∧ w'.cell? ⟨b1, 14, none⟩ = some (.int .u64 a.factor)) (by kernel_rfl) (⟨HL.cell H3.drew.tail.tail 12, HL.cell H3.drew.tail.tail 13, HL.cell H3.drew.tail.tail 14⟩) (fun hHeld => ?_)
 have Hd := H3.drew
 clear H3
 generalize World.drew _ = Wd at *
 refine ztk 0 ?_
 simp only [Act.put, zp]
 refine ztk 1 ?_
 simp only [Act.put, zp]
 refine ztk 2 ?_
 simp only [Act.put, zp]
 refine ztk 4 ?_
 simp only [Act.put, zp]
 refine ztk 5 ?_
 simp only [Act.put, zp]
 refine ztk 7 ?_
 simp only [Act.put, zp]
 refine ztk 8 ?_
 simp only [Act.put, zp]
 refine zry 3 (fun K' hK' => ?_)
 dsimp only [zg1, zg3, zg2]
 go_simp
 go_at_call 53
 refine (hd1 _ _ Hd).mono ?_
 rintro r wv1 ⟨rfl, HV1⟩
 dsimp only
 go_simp
 refine hK'.out _ _ (⟨HL.cell HV1.tail.tail 12, HL.cell HV1.tail.tail 13, HL.cell HV1.tail.tail 14⟩) (fun hHeld => ?_)
 clear hK' K'
 try simp only [Act.put, zp]
 refine zry 6 (fun K' hK' => ?_)
 dsimp only [zg1, zg3, zg2]
 go_simp
 go_at_call 52
 refine (hu1 _ _ HV1).mono ?_
 rintro r wv2 ⟨rfl, HV2⟩
 dsimp only
 go_simp
 refine hK'.out _ _ (⟨HL.cell HV2.tail.tail 12, HL.cell HV2.tail.tail 13, HL.cell HV2.tail.tail 14⟩) (fun hHeld => ?_)
 clear hK' K'
 try simp only [Act.put, zp]
 refine zry 9 (fun K' hK' => ?_)
 dsimp only [zg1, zg3, zg2]
 go_simp
 go_at_call 52
 refine (hu2 _ _ HV2).mono ?_
 rintro r wv3 ⟨rfl, HV3⟩
 dsimp only
 go_simp
 refine hK'.out _ _ (⟨HL.cell HV3.tail.tail 12, HL.cell HV3.tail.tail 13, HL.cell HV3.tail.tail 14⟩) (fun hHeld => ?_)
 clear hK' K'
 try simp only [Act.put, zp]
 refine zry 10 (fun K' hK' => ?_)
 dsimp only [zg1, zg3, zg2]
 go_simp
 have HV4 := HV3.alloc (.cells #[.string ⟨#[117, 115, 97, 103, 101]⟩, .string D1, .string D2, .string D3] 9)
 generalize World.alloc wv3 _ = wv4 at *
 generalize (wv3.heap.size) = bv4 at *
 refine hK'.out _ _ (⟨HL.cell HV4.tail.tail.tail 12, HL.cell HV4.tail.tail.tail 13, HL.cell HV4.tail.tail.tail 14⟩) (fun hHeld => ?_)
 clear hK' K'
 try simp only [Act.put, zp]
 refine zry 11 (fun K' hK' => ?_)
 dsimp only [zg1, zg3, zg2]
 go_simp
 go_at_call 55
 refine (Ref.words_ok HV4 (ws := [(⟨#[117, 115, 97, 103, 101]⟩ : ByteArray), D1, D2, D3]) (entBlk (k := 1) (n := 4) (cs := strC [(⟨#[117, 115, 97, 103, 101]⟩ : ByteArray), D1, D2, D3]) rfl (by unfold maxLen; simp)) (fun s hs => by simp only [List.mem_cons, List.not_mem_nil, or_false] at hs; rcases hs with rfl | rfl | rfl | rfl <;> first | assumption | decide) (by simp)).mono ?_
 rintro r wv5 ⟨rfl, HV5⟩
 dsimp only
 go_simp
 rw [HT.out]
 have m0 := HL.cell HV5.tail 0
 have y0 := HL.frozen HV5.tail 0
 refine hK'.out _ _ (⟨HL.cell HV5.tail.tail.tail 12, HL.cell HV5.tail.tail.tail 13, HL.cell HV5.tail.tail.tail 14⟩) (fun hHeld => ?_)
 clear hK' K'
 try simp only [Act.put, zp]
 refine ztk 12 ?_
 simp only [Act.put, zp]
 refine zry 13 (fun K' hK' => ?_)
 dsimp only [zg1, zg3, zg2]
 go_simp
 have HV6 := HL.setCell HV5.tail 0 (.string (firstB k a))
 refine hK'.out _ _ (⟨HL.cell HV6.tail.tail 12, HL.cell HV6.tail.tail 13, HL.cell HV6.tail.tail 14⟩) (fun hHeld => ?_)
 clear hK' K'
 try simp only [Act.put, zp]
 refine wpAnyH_done (by kernel_rfl) ?_ _
 have H6 : HL w0 _ (strs w0.heap.size (.slice (some ⟨b6, 0, none⟩) 1 1) [firstB k a] :: boxJ bj a.job (.slice As a.job.set.length cs) :: boxA b1 a (.slice Ae a.events.length ce) (.slice As a.job.set.length cs) (.slice Ar a.ranks.length cr) :: L) := HL.strsOf (xs := [firstB k a]) HV6 (by unfold maxLen; simp)
 clear m0 y0 HV6
 generalize World.setCell _ _ _ = W6 at *
 go_upto_region 27 with (fail)
 have HLS := Lib.hid (show linesR k a = [firstB k a] ++ a.events.map evS by rw [HLN.out, HNR.out]; rfl)
 have HLL := Lib.hid (show [firstB k a].length ≤ 4194305 by simp)
 have c2 : World.cell? _ ⟨b1, 2, none⟩ = some (.slice Ae a.events.length ce) := HL.cell H6.tail.tail 2
 have hEr := fun W' v l (HH : HL w0 W' (strs w0.heap.size v l :: boxJ bj a.job (.slice As a.job.set.length cs) :: boxA b1 a (.slice Ae a.events.length ce) (.slice As a.job.set.length cs) (.slice Ar a.ranks.length cr) :: L)) => (((HE.out.cons _).cons _).cons _).rd W' HH
 have hEo := fun p hp A4 A5 => (((((HE.out.own p hp).cons (boxA b1 a (.slice Ae a.events.length ce) (.slice As a.job.set.length cs) (.slice Ar a.ranks.length cr))).cons (boxJ bj a.job (.slice As a.job.set.length cs))).cons A4)).cons A5
 have HER := Lib.hid hEr; have HEO := Lib.hid hEo
 obtain ⟨-, -, aE, cE, hvE, hE1, hE2, -, -⟩ := hEr _ _ _ H6
 simp only [Value.slice.injEq] at hvE
 obtain ⟨rfl, hlE, rfl⟩ := hvE
 unfold maxLen at hE2
 rw [← hlE] at hE1
 have HLE := Lib.hid hlE
 have hev := fun e he (W' : World) v L' (HH : HL w0 W' L') (h : Ints w0 L' v e.list) => Ref.event_ok HD.out HH e h (HOK.out.events e he) (HFW.out e he)
 have HEV := Lib.hid hev
 clear hev hEr hEo hlE
 go_wp2
 clear c2
 go_loopg [6, 148] a.events.length (fun g t6 i wr => ∃ (n : Nat) (v : Value), i = .int .i64 n ∧ n + g = a.events.length ∧ t6 = v ∧ HL w0 wr (strs w0.heap.size v ([firstB k a] ++ (a.events.take n).map evS) :: boxJ bj a.job (.slice As a.job.set.length cs) :: boxA b1 a (.slice Ae a.events.length ce) (.slice As a.job.set.length cs) (.slice Ar a.ranks.length cr) :: L))
 case atStart => exact ⟨0, _, rfl, by omega, rfl, by rw [List.take_zero, List.map_nil, List.append_nil]; exact H6⟩
 case round =>
  obtain ⟨n, v, rfl, hn, rfl, HK⟩ := hrel
  clear H6
  by_cases hlt : n < a.events.length
  ·obtain ⟨⟨e, u⟩, hp⟩ : ∃ p, ps[n]? = some p := ⟨_, List.getElem?_eq_getElem (by rw [← HLE.out]; exact hlt)⟩
   have hev : a.events[n]? = some e := by rw [HPS.out, List.getElem?_map, hp]; rfl
   obtain ⟨b', o', c', hv, d0, d1, d2, d3, d4, d5⟩ := ev_at (HER.out _ _ _ HK) hp
   simp only [Value.slice.injEq] at hv
   obtain ⟨rfl, -, rfl⟩ := hv
   have ho := HEO.out (e, u) (List.mem_of_getElem? hp)
   dsimp only at ho d0 d1 d2 d3 d4 d5
   have HA := HL.allocE HK e u
   obtain ⟨Au, cu, rfl, -, -⟩ := rd_shape (ho _ _ _ HA)
   have hnx : [firstB k a] ++ (a.events.take (n + 1)).map evS = ([firstB k a] ++ (a.events.take n).map evS) ++ [evS e] := by rw [List.take_add_one, hev]; simp
   have hlx : ([firstB k a] ++ (a.events.take n).map evS).length ≤ 4294967296 := by
    have h1 := HLL.out
    have h2 := HFE.out
    rw [List.length_append, List.length_map, List.length_take]
    omega
   have hri := HEV.out e (List.mem_of_getElem? hev) _ _ _ HA (ho _ _)
   unfold evV at hri
   obtain ⟨m0, m1, m2, m3, m4, m5⟩ := boxE_cells HA
   have HN := Lib.hid hnx; have HP2 := Lib.hid hp
   generalize [firstB k a] ++ (a.events.take n).map evS = l at *
   generalize evS e = es at *
   generalize evN e = en at *
   obtain ⟨A6, z6, rfl, hc1, hc2⟩ := rd_shape (entRow _ HK)
   unfold maxLen at hc2
   clear hnx hev hp ho
   go_wp2_with (first
    | (go_at_call 35; refine hri.mono ?_; rintro r w3 ⟨rfl, H3⟩; clear HA m0 m1 m2 m3 m4 m5; have HB := H3.tail.alloc' (.cells #[.string es] 9); have hr4 := rd_str (w := w3) (y := es))
    | (at_builtin; refine append_str (v := .slice A6 l.length z6) (xs := l) (y := es) (b := w3.heap.size) rfl _ _ rfl HB rfl rfl hr4 hlx ?_; intro z5 w8 H8; clear HB hr4 HK))
   go_roundg (gk - 1)
   case measure => omega
   case rel => exact ⟨n + 1, _, by go_num, by omega, rfl, by rw [HN.out]; exact H8⟩
  ·rw [List.take_of_length_le (by omega)] at HK
   rw [← HLS.out] at HK
   go_wp2
   go_ret
   exact ⟨_, rfl, HK.sel 3 [0]⟩
theorem Ref.ln_10 (hD : Doors w0) (hFU : ∀ W, Doors W → FmtU W) (H : HL w0 w L) (k : Int) (a : Ans) (Ae As Ar : Option Addr) (ce cs cr : Nat) {ps : List (Ev × Value)} (hps : a.events = ps.map (·.1)) (hE : Evs w0 L (.slice Ae a.events.length ce) ps) (hI : Ints w0 L (.slice As a.job.set.length cs) a.job.set) (hR : Rks w0 L (.slice Ar a.ranks.length cr) a.ranks) (hok : AnsOk a) (hfw : ∀ e ∈ a.events, e.list.length ≤ 4294967200) (hfe : a.events.length ≤ 4194304) (hfr : a.ranks.length ≤ 4194304) (hfs : a.job.set.length ≤ 4194304) (hc : a.code = 0) (hk : k = 10) :
  Calls Tryz.prog 23 #[.int .i64 k, ansV a (.slice Ae a.events.length ce) (.slice As a.job.set.length cs) (.slice Ar a.ranks.length cr)] w (LinesPost w0 L k a) := by
 have H1 := HL.allocA H a (.slice Ae a.events.length ce) (.slice As a.job.set.length cs) (.slice Ar a.ranks.length cr)
 have hln : linesR k a = (firstB k a :: a.ranks.map rkS) ++ a.events.map evS := by unfold linesR; rw [if_pos hc]
 have q0 : (a.code != 0) = false := by simp [hc]
 have q1 : (k == 1) = false := by rw [hk]; rfl
 have q5 : (k == 5) = false := by rw [hk]; rfl
 have q9 : (k == 9) = false := by rw [hk]; rfl
 have q10 : (k == 10) = true := by rw [hk]; rfl
 unfold ansV
 generalize hb1 : w.heap.size = b1 at *
 have HPS := Lib.hid hps; have HE := Lib.hid hE; have HI := Lib.hid hI; have HR := Lib.hid hR; have HOK := Lib.hid hok; have HFW := Lib.hid hfw; have HD := Lib.hid hD; have HLN := Lib.hid hln; have HK := Lib.hid hk; have HFE := Lib.hid hfe; have HFR := Lib.hid hfr; have HFS := Lib.hid hfs; have HFU := Lib.hid hFU
 clear hps hE hI hR hok hfw hD hln hk hc H hfe hfr hfs hFU
 have n0 := HL.cell H1 0
 go_enter Tryz.func23, Tryz.ntmps23
 go_upto_region 3 with (fail)
 clear n0 q0
 have HB1 := Lib.hid hb1
 clear hb1
 generalize World.alloc _ _ = W at *
 obtain ⟨c0, c1, c2, c3, c4, c5, c6, c7, c8, c9, c10, c11, c12, c13, c14, c15, c16, c17, c18, c19, c20, c21, c22, c23, c24, c25, c26⟩ := boxA_cells H1
 have HJ : HL w0 (W.alloc (.cells #[.int .i64 0, .int .i64 0, .int .i64 0, .int .i64 0, .int .i64 0, .int .i64 0, .int .i64 0, .slice none 0 0] 26)) (boxJ W.heap.size zJ (.slice none 0 0) :: _) := H1.alloc _
 have GJ : _ = some (Obj.cells _ 26 (0, 0)) := HJ.head
 have HS : HL w0 _ (boxJ W.heap.size a.job (.slice As a.job.set.length cs) :: _) := HL.setWhole (cells := jbA a.job (.slice As a.job.set.length cs)) HJ
 go_upto_region 4 with (refine wpList_store_row rfl 26 _ _ rfl W.heap.size (jbA a.job (.slice As a.job.set.length cs)) rfl rfl 26 _ GJ (jbA_size _ _) rfl (jbA_one _ _ _ _) ?_)
 clear GJ HJ H1 c0 c1 c2 c3 c4 c5 c6 c7 c8 c9 c10 c11 c12 c13 c14 c15 c16 c17 c18 c19 c20 c21 c22 c23 c24 c25 c26
 generalize World.setRow _ _ _ = W2 at *
 generalize W.heap.size = bj at *
 have H3 := HS.alloc (.cells #[.string ⟨#[111, 107]⟩] 9)
 clear HS
 go_upto_block 0 with (fail)
 generalize World.alloc W2 _ = W3 at *
 generalize W2.heap.size = b6 at *
 have hd1 := fun W L' (HH : HL w0 W L') => Ref.digits9_ok HD.out HH a.holder HOK.out.holder.1 HOK.out.holder.2
 have hd2 := fun W L' (HH : HL w0 W L') => Ref.digits9_ok HD.out HH a.shadow HOK.out.shadow.1 HOK.out.shadow.2
 have hT : (⟨(wordsT [⟨#[104, 111, 108, 100, 101, 114]⟩, ⟨(Lib.itoa a.holder).toArray⟩, ⟨(Lib.itoa a.shadow).toArray⟩]).toArray⟩ : ByteArray) = firstB k a := by
  rw [HK.out]
  unfold firstB firstT
  exact bytesSame (by rw [Go.ByteArray.toList_eq, Go.ByteArray.toList_eq]; simp [wordsT, numsT])
 have hz1 : (⟨(Lib.itoa a.holder).toArray⟩ : ByteArray).size ≤ 22 := itB_size HOK.out.holder.1 HOK.out.holder.2
 have hz2 : (⟨(Lib.itoa a.shadow).toArray⟩ : ByteArray).size ≤ 22 := itB_size HOK.out.shadow.1 HOK.out.shadow.2
 obtain ⟨D1, hD1⟩ : ∃ D, (⟨(Lib.itoa a.holder).toArray⟩ : ByteArray) = D := ⟨_, rfl⟩
 obtain ⟨D2, hD2⟩ : ∃ D, (⟨(Lib.itoa a.shadow).toArray⟩ : ByteArray) = D := ⟨_, rfl⟩
 rw [hD1] at hT hz1
 rw [hD2] at hT hz2
 simp only [hD1] at hd1
 simp only [hD2] at hd2
 have HT := Lib.hid hT
 clear hT hD1 hD2
 go_upto_region 15 with (fail)
 refine wp_region_held_drew (S := fun w' => w'.cell? ⟨b1, 16, none⟩ = some (.int .i64 a.holder) ∧ w'.cell? ⟨b1, 17, none⟩ = some (.int .i64 a.shadow)) (by kernel_rfl) (⟨HL.cell H3.drew.tail.tail 16, HL.cell H3.drew.tail.tail 17⟩) (fun hHeld => ?_)
 have Hd := H3.drew
 clear H3
 generalize World.drew _ = Wd at *
 refine ztk 0 ?_
 simp only [Act.put, zp]
 refine ztk 1 ?_
 simp only [Act.put, zp]
 refine ztk 2 ?_
 simp only [Act.put, zp]
 refine ztk 4 ?_
 simp only [Act.put, zp]
 refine ztk 5 ?_
 simp only [Act.put, zp]
 refine zry 3 (fun K' hK' => ?_)
 dsimp only [zg1, zg3, zg2]
 go_simp
 go_at_call 53
 refine (hd1 _ _ Hd).mono ?_
 rintro r wv1 ⟨rfl, HV1⟩
 dsimp only
 go_simp
 refine hK'.out _ _ (⟨HL.cell HV1.tail.tail 16, HL.cell HV1.tail.tail 17⟩) (fun hHeld => ?_)
 clear hK' K'
 try simp only [Act.put, zp]
 refine zry 6 (fun K' hK' => ?_)
 dsimp only [zg1, zg3, zg2]
 go_simp
 go_at_call 53
 refine (hd2 _ _ HV1).mono ?_
 rintro r wv2 ⟨rfl, HV2⟩
 dsimp only
 go_simp
 refine hK'.out _ _ (⟨HL.cell HV2.tail.tail 16, HL.cell HV2.tail.tail 17⟩) (fun hHeld => ?_)
 clear hK' K'
 try simp only [Act.put, zp]
 refine zry 7 (fun K' hK' => ?_)
 dsimp only [zg1, zg3, zg2]
 go_simp
 have HV3 := HV2.alloc (.cells #[.string ⟨#[104, 111, 108, 100, 101, 114]⟩, .string D1, .string D2] 9)
 generalize World.alloc wv2 _ = wv3 at *
 generalize (wv2.heap.size) = bv3 at *
 refine hK'.out _ _ (⟨HL.cell HV3.tail.tail.tail 16, HL.cell HV3.tail.tail.tail 17⟩) (fun hHeld => ?_)
 clear hK' K'
 try simp only [Act.put, zp]
 refine zry 8 (fun K' hK' => ?_)
 dsimp only [zg1, zg3, zg2]
 go_simp
 go_at_call 55
 refine (Ref.words_ok HV3 (ws := [(⟨#[104, 111, 108, 100, 101, 114]⟩ : ByteArray), D1, D2]) (entBlk (k := 1) (n := 3) (cs := strC [(⟨#[104, 111, 108, 100, 101, 114]⟩ : ByteArray), D1, D2]) rfl (by unfold maxLen; simp)) (fun s hs => by simp only [List.mem_cons, List.not_mem_nil, or_false] at hs; rcases hs with rfl | rfl | rfl <;> first | assumption | decide) (by simp)).mono ?_
 rintro r wv4 ⟨rfl, HV4⟩
 dsimp only
 go_simp
 rw [HT.out]
 have m0 := HL.cell HV4.tail 0
 have y0 := HL.frozen HV4.tail 0
 refine hK'.out _ _ (⟨HL.cell HV4.tail.tail.tail 16, HL.cell HV4.tail.tail.tail 17⟩) (fun hHeld => ?_)
 clear hK' K'
 try simp only [Act.put, zp]
 refine ztk 9 ?_
 simp only [Act.put, zp]
 refine zry 10 (fun K' hK' => ?_)
 dsimp only [zg1, zg3, zg2]
 go_simp
 have HV5 := HL.setCell HV4.tail 0 (.string (firstB k a))
 refine hK'.out _ _ (⟨HL.cell HV5.tail.tail 16, HL.cell HV5.tail.tail 17⟩) (fun hHeld => ?_)
 clear hK' K'
 try simp only [Act.put, zp]
 refine wpAnyH_done (by kernel_rfl) ?_ _
 have H6 : HL w0 _ (strs w0.heap.size (.slice (some ⟨b6, 0, none⟩) 1 1) [firstB k a] :: boxJ bj a.job (.slice As a.job.set.length cs) :: boxA b1 a (.slice Ae a.events.length ce) (.slice As a.job.set.length cs) (.slice Ar a.ranks.length cr) :: L) := HL.strsOf (xs := [firstB k a]) HV5 (by unfold maxLen; simp)
 clear m0 y0 HV5
 generalize World.setCell _ _ _ = W6 at *
 go_upto_region 16 with (fail)
 have c11 : W6.cell? ⟨b1, 11, none⟩ = some (.slice Ar a.ranks.length cr) := HL.cell H6.tail.tail 11
 have hRr := fun W' v l (HH : HL w0 W' (strs w0.heap.size v l :: boxJ bj a.job (.slice As a.job.set.length cs) :: boxA b1 a (.slice Ae a.events.length ce) (.slice As a.job.set.length cs) (.slice Ar a.ranks.length cr) :: L)) => (((HR.out.cons _).cons _).cons _) W' HH
 have HRR := Lib.hid hRr
 obtain ⟨-, -, aR, cR, hvR, hR1, hR2, -, -⟩ := hRr _ _ _ H6
 simp only [Value.slice.injEq] at hvR
 obtain ⟨rfl, -, rfl⟩ := hvR
 unfold maxLen at hR2
 clear hRr hd1 hd2
 go_wp2
 clear c11
 go_loopg [6, 91] a.ranks.length (fun g t6 i wr => ∃ (n : Nat) (v : Value), i = .int .i64 n ∧ n + g = a.ranks.length ∧ t6 = v ∧ HL w0 wr (strs w0.heap.size v (firstB k a :: (a.ranks.take n).map rkS) :: boxJ bj a.job (.slice As a.job.set.length cs) :: boxA b1 a (.slice Ae a.events.length ce) (.slice As a.job.set.length cs) (.slice Ar a.ranks.length cr) :: L))
 case atStart => exact ⟨0, _, rfl, by omega, rfl, by rw [List.take_zero]; exact H6⟩
 case round =>
  obtain ⟨n, v, rfl, hn, rfl, HK2⟩ := hrel
  clear H6
  by_cases hlt : n < a.ranks.length
  ·obtain ⟨x, hx⟩ : ∃ x, a.ranks[n]? = some x := ⟨_, List.getElem?_eq_getElem hlt⟩
   obtain ⟨b', o', c', hv, d0, d1⟩ := rk_at (HRR.out _ _ _ HK2) hx
   simp only [Value.slice.injEq] at hv
   obtain ⟨rfl, -, rfl⟩ := hv
   have hxr := HOK.out.ranks x (List.mem_of_getElem? hx)
   have hnx : (firstB k a :: (a.ranks.take (n + 1)).map rkS) = (firstB k a :: (a.ranks.take n).map rkS) ++ [rkS x] := by rw [List.take_add_one, hx]; simp
   have hlx : (firstB k a :: (a.ranks.take n).map rkS).length ≤ 4294967200 := by
    have h2 := HFR.out
    rw [List.length_cons, List.length_map, List.length_take]
    omega
   have hd1 := fun W L' (HH : HL w0 W L') => Ref.digits9_ok HD.out HH x.job hxr.1.1 hxr.1.2
   have hd2 := fun W L' (HH : HL w0 W L') => Ref.digits9_ok HD.out HH x.prio hxr.2.1 hxr.2.2
   have hT : (⟨(Lib.itoa x.job).toArray⟩ : ByteArray) ++ (⟨#[32]⟩ : ByteArray) ++ (⟨(Lib.itoa x.prio).toArray⟩ : ByteArray) = rkS x := by
    unfold rkS
    exact bytesSame (by rw [Go.ByteArray.toList_eq, Go.ByteArray.toList_eq]; simp [numsT])
   have hz1 : (⟨(Lib.itoa x.job).toArray⟩ : ByteArray).size ≤ 22 := itB_size hxr.1.1 hxr.1.2
   have hz2 : (⟨(Lib.itoa x.prio).toArray⟩ : ByteArray).size ≤ 22 := itB_size hxr.2.1 hxr.2.2
   have hbl : (⟨#[32]⟩ : ByteArray).size = 1 := rfl
   obtain ⟨D1, hD1⟩ : ∃ D, (⟨(Lib.itoa x.job).toArray⟩ : ByteArray) = D := ⟨_, rfl⟩
   obtain ⟨D2, hD2⟩ : ∃ D, (⟨(Lib.itoa x.prio).toArray⟩ : ByteArray) = D := ⟨_, rfl⟩
   rw [hD1] at hT hz1
   rw [hD2] at hT hz2
   simp only [hD1] at hd1
   simp only [hD2] at hd2
   have HA := HK2.alloc (.cells #[.int .i64 x.job, .int .i64 x.prio] 62)
   have HTX := Lib.hid hT; have HN := Lib.hid hnx; have HX := Lib.hid hx
   generalize (firstB k a :: (a.ranks.take n).map rkS) = l at *
   generalize rkS x = rx at *
   obtain ⟨A6, z6, rfl, hc1, hc2⟩ := rd_shape (entRow _ HK2)
   unfold maxLen at hc2
   clear hT hnx hx hxr hD1 hD2 HK2
   go_upto_region 19 with (fail)
   generalize World.alloc wr _ = Wr at *
   generalize wr.heap.size = b9 at *
   clear d0 d1
   refine wp_region_held_drew (S := fun w' => w'.cell? ⟨b9, 0, none⟩ = some (.int .i64 x.job) ∧ w'.cell? ⟨b9, 1, none⟩ = some (.int .i64 x.prio)) (by kernel_rfl) (⟨HL.cell HA.drew 0, HL.cell HA.drew 1⟩) (fun hHeld => ?_)
   have Hd := HA.drew
   clear HA
   generalize World.drew _ = Wd at *
   refine ztk 0 ?_
   simp only [Act.put, zp]
   refine ztk 1 ?_
   simp only [Act.put, zp]
   refine ztk 2 ?_
   simp only [Act.put, zp]
   refine ztk 5 ?_
   simp only [Act.put, zp]
   refine ztk 6 ?_
   simp only [Act.put, zp]
   refine zry 3 (fun K' hK' => ?_)
   dsimp only [zg1, zg3, zg2]
   go_simp
   go_at_call 53
   refine (hd1 _ _ Hd).mono ?_
   rintro r wv1 ⟨rfl, HV1⟩
   dsimp only
   go_simp
   refine hK'.out _ _ (⟨HL.cell HV1 0, HL.cell HV1 1⟩) (fun hHeld => ?_)
   clear hK' K'
   try simp only [Act.put, zp]
   refine ztk 4 ?_
   simp only [Act.put, zp]
   refine zry 7 (fun K' hK' => ?_)
   dsimp only [zg1, zg3, zg2]
   go_simp
   go_at_call 53
   refine (hd2 _ _ HV1).mono ?_
   rintro r wv2 ⟨rfl, HV2⟩
   dsimp only
   go_simp
   refine hK'.out _ _ (⟨HL.cell HV2 0, HL.cell HV2 1⟩) (fun hHeld => ?_)
   clear hK' K'
   try simp only [Act.put, zp]
   refine ztk 8 ?_
   simp only [Act.put, zp]
   refine zry 9 (fun K' hK' => ?_)
   dsimp only [zg1, zg3, zg2]
   go_simp
   have HV3 := HV2.alloc (.cells #[.string (D1 ++ (⟨#[32]⟩ : ByteArray) ++ D2)] 9)
   generalize World.alloc wv2 _ = wv3 at *
   generalize (wv2.heap.size) = bv3 at *
   refine hK'.out _ _ (⟨HL.cell HV3.tail 0, HL.cell HV3.tail 1⟩) (fun hHeld => ?_)
   clear hK' K'
   try simp only [Act.put, zp]
   refine zry 10 (fun K' hK' => ?_)
   have HR1 := (HV3.sel 5 [2, 0, 1, 3, 4])
   have hrA : Rd 1 (.slice (some ⟨bv3, 0, none⟩) 1 1) 1 (strC [D1 ++ (⟨#[32]⟩ : ByteArray) ++ D2]) _ := (entBlk (k := 1) (n := 1) (cs := strC [D1 ++ (⟨#[32]⟩ : ByteArray) ++ D2]) rfl (by unfold maxLen; simp)) _ HR1.tail
   refine step_append_hl (ys := #[]) sliceS rfl _ _ rfl (v := .slice A6 l.length z6) (xv := .slice (some ⟨bv3, 0, none⟩) 1 1) (n := l.length) (m := 1) (xs := strC l) (news := strC [D1 ++ (⟨#[32]⟩ : ByteArray) ++ D2]) HR1 rfl rfl hrA (by simp [Value.oneCell']) (by unfold maxLen; omega) (by omega) ?_
   intro v10 wv4 HV4
   refine hK'.out _ _ (⟨HL.cell HV4.tail.tail 0, HL.cell HV4.tail.tail 1⟩) (fun hHeld => ?_)
   clear hK' K'
   try simp only [Act.put, zp]
   refine ztk 11 ?_
   simp only [Act.put, zp]
   refine wpAnyH_done (by kernel_rfl) ?_ _
   have HF := HV4.sel 5 [0, 3, 4]
   rw [HTX.out] at HF
   go_wp2
   go_roundg (gk - 1)
   case measure => omega
   case rel => exact ⟨n + 1, _, by go_num, by omega, rfl, by rw [HN.out]; unfold strs; rw [List.length_append, strC, List.map_append]; exact HF⟩
  ·rw [List.take_of_length_le (by omega)] at HK2
   have HLS := Lib.hid (show linesR k a = (firstB k a :: a.ranks.map rkS) ++ a.events.map evS by rw [HLN.out])
   have HLL := Lib.hid (show (firstB k a :: a.ranks.map rkS).length ≤ 4194305 by have h := HFR.out; rw [List.length_cons, List.length_map]; omega)
   have c2 : World.cell? _ ⟨b1, 2, none⟩ = some (.slice Ae a.events.length ce) := HL.cell HK2.tail.tail 2
   have hEr := fun W' v l (HH : HL w0 W' (strs w0.heap.size v l :: boxJ bj a.job (.slice As a.job.set.length cs) :: boxA b1 a (.slice Ae a.events.length ce) (.slice As a.job.set.length cs) (.slice Ar a.ranks.length cr) :: L)) => (((HE.out.cons _).cons _).cons _).rd W' HH
   have hEo := fun p hp A4 A5 => (((((HE.out.own p hp).cons (boxA b1 a (.slice Ae a.events.length ce) (.slice As a.job.set.length cs) (.slice Ar a.ranks.length cr))).cons (boxJ bj a.job (.slice As a.job.set.length cs))).cons A4)).cons A5
   have HER := Lib.hid hEr; have HEO := Lib.hid hEo
   obtain ⟨-, -, aE, cE, hvE, hE1, hE2, -, -⟩ := hEr _ _ _ HK2
   simp only [Value.slice.injEq] at hvE
   obtain ⟨rfl, hlE, rfl⟩ := hvE
   unfold maxLen at hE2
   rw [← hlE] at hE1
   have HLE := Lib.hid hlE
   have hev := fun e he (W' : World) v L' (HH : HL w0 W' L') (h : Ints w0 L' v e.list) => Ref.event_ok HD.out HH e h (HOK.out.events e he) (HFW.out e he)
   have HEV := Lib.hid hev
   clear hev hEr hEo hlE
   go_wp2
   clear c2
   go_loopg [6, 148] a.events.length (fun g t6 i wr => ∃ (n : Nat) (v : Value), i = .int .i64 n ∧ n + g = a.events.length ∧ t6 = v ∧ HL w0 wr (strs w0.heap.size v ((firstB k a :: a.ranks.map rkS) ++ (a.events.take n).map evS) :: boxJ bj a.job (.slice As a.job.set.length cs) :: boxA b1 a (.slice Ae a.events.length ce) (.slice As a.job.set.length cs) (.slice Ar a.ranks.length cr) :: L))
   case atStart => exact ⟨0, _, rfl, by omega, rfl, by rw [List.take_zero, List.map_nil, List.append_nil]; exact HK2⟩
   case round =>
    obtain ⟨n, v, rfl, hn, rfl, HK⟩ := hrel
    clear HK2
    by_cases hlt : n < a.events.length
    ·obtain ⟨⟨e, u⟩, hp⟩ : ∃ p, ps[n]? = some p := ⟨_, List.getElem?_eq_getElem (by rw [← HLE.out]; exact hlt)⟩
     have hev : a.events[n]? = some e := by rw [HPS.out, List.getElem?_map, hp]; rfl
     obtain ⟨b', o', c', hv, d0, d1, d2, d3, d4, d5⟩ := ev_at (HER.out _ _ _ HK) hp
     simp only [Value.slice.injEq] at hv
     obtain ⟨rfl, -, rfl⟩ := hv
     have ho := HEO.out (e, u) (List.mem_of_getElem? hp)
     dsimp only at ho d0 d1 d2 d3 d4 d5
     have HA := HL.allocE HK e u
     obtain ⟨Au, cu, rfl, -, -⟩ := rd_shape (ho _ _ _ HA)
     have hnx : (firstB k a :: a.ranks.map rkS) ++ (a.events.take (n + 1)).map evS = ((firstB k a :: a.ranks.map rkS) ++ (a.events.take n).map evS) ++ [evS e] := by rw [List.take_add_one, hev]; simp
     have hlx : ((firstB k a :: a.ranks.map rkS) ++ (a.events.take n).map evS).length ≤ 4294967296 := by
      have h1 := HLL.out
      have h2 := HFE.out
      rw [List.length_append, List.length_map, List.length_take]
      omega
     have hri := HEV.out e (List.mem_of_getElem? hev) _ _ _ HA (ho _ _)
     unfold evV at hri
     obtain ⟨m0, m1, m2, m3, m4, m5⟩ := boxE_cells HA
     have HN := Lib.hid hnx; have HP2 := Lib.hid hp
     generalize (firstB k a :: a.ranks.map rkS) ++ (a.events.take n).map evS = l at *
     generalize evS e = es at *
     generalize evN e = en at *
     obtain ⟨A6, z6, rfl, hc1, hc2⟩ := rd_shape (entRow _ HK)
     unfold maxLen at hc2
     clear hnx hev hp ho
     go_wp2_with (first
      | (go_at_call 35; refine hri.mono ?_; rintro r w3 ⟨rfl, H3⟩; clear HA m0 m1 m2 m3 m4 m5; have HB := H3.tail.alloc' (.cells #[.string es] 9); have hr4 := rd_str (w := w3) (y := es))
      | (at_builtin; refine append_str (v := .slice A6 l.length z6) (xs := l) (y := es) (b := w3.heap.size) rfl _ _ rfl HB rfl rfl hr4 hlx ?_; intro z5 w8 H8; clear HB hr4 HK))
     go_roundg (gk - 1)
     case measure => omega
     case rel => exact ⟨n + 1, _, by go_num, by omega, rfl, by rw [HN.out]; exact H8⟩
    ·rw [List.take_of_length_le (by omega)] at HK
     rw [← HLS.out] at HK
     go_wp2
     go_ret
     exact ⟨_, rfl, HK.sel 3 [0]⟩
end
open Go.RowKit Go.Proofs.HL Go.Proofs.An
section
variable {w0 w : World} {L : List At}
theorem Ref.ln_9 (hD : Doors w0) (hFU : ∀ W, Doors W → FmtU W) (H : HL w0 w L) (k : Int) (a : Ans) (Ae As Ar : Option Addr) (ce cs cr : Nat) {ps : List (Ev × Value)} (hps : a.events = ps.map (·.1)) (hE : Evs w0 L (.slice Ae a.events.length ce) ps) (hI : Ints w0 L (.slice As a.job.set.length cs) a.job.set) (hR : Rks w0 L (.slice Ar a.ranks.length cr) a.ranks) (hok : AnsOk a) (hfw : ∀ e ∈ a.events, e.list.length ≤ 4294967200) (hfe : a.events.length ≤ 4194304) (hfr : a.ranks.length ≤ 4194304) (hfs : a.job.set.length ≤ 4194304) (hc : a.code = 0) (hk : k = 9) (hnr : a.ranks = []) :
  Calls Tryz.prog 23 #[.int .i64 k, ansV a (.slice Ae a.events.length ce) (.slice As a.job.set.length cs) (.slice Ar a.ranks.length cr)] w (LinesPost w0 L k a) := by
 have H1 := HL.allocA H a (.slice Ae a.events.length ce) (.slice As a.job.set.length cs) (.slice Ar a.ranks.length cr)
 have hln : linesR k a = (firstB k a :: a.ranks.map rkS) ++ a.events.map evS := by unfold linesR; rw [if_pos hc]
 have q0 : (a.code != 0) = false := by simp [hc]
 have q1 : (k == 1) = false := by rw [hk]; rfl
 have q5 : (k == 5) = false := by rw [hk]; rfl
 have q9 : (k == 9) = true := by rw [hk]; rfl
 unfold ansV
 generalize hb1 : w.heap.size = b1 at *
 have HPS := Lib.hid hps; have HE := Lib.hid hE; have HI := Lib.hid hI; have HR := Lib.hid hR; have HOK := Lib.hid hok; have HFW := Lib.hid hfw; have HD := Lib.hid hD; have HLN := Lib.hid hln; have HK := Lib.hid hk; have HFE := Lib.hid hfe; have HFR := Lib.hid hfr; have HFS := Lib.hid hfs; have HFU := Lib.hid hFU; have HNR := Lib.hid hnr
 clear hps hE hI hR hok hfw hD hln hk hc H hfe hfr hfs hFU hnr
 have n0 := HL.cell H1 0
 go_enter Tryz.func23, Tryz.ntmps23
 go_upto_region 3 with (fail)
 clear n0 q0
 have HB1 := Lib.hid hb1
 clear hb1
 generalize World.alloc _ _ = W at *
 obtain ⟨c0, c1, c2, c3, c4, c5, c6, c7, c8, c9, c10, c11, c12, c13, c14, c15, c16, c17, c18, c19, c20, c21, c22, c23, c24, c25, c26⟩ := boxA_cells H1
 have HJ : HL w0 (W.alloc (.cells #[.int .i64 0, .int .i64 0, .int .i64 0, .int .i64 0, .int .i64 0, .int .i64 0, .int .i64 0, .slice none 0 0] 26)) (boxJ W.heap.size zJ (.slice none 0 0) :: _) := H1.alloc _
 have GJ : _ = some (Obj.cells _ 26 (0, 0)) := HJ.head
 have HS : HL w0 _ (boxJ W.heap.size a.job (.slice As a.job.set.length cs) :: _) := HL.setWhole (cells := jbA a.job (.slice As a.job.set.length cs)) HJ
 go_upto_region 4 with (refine wpList_store_row rfl 26 _ _ rfl W.heap.size (jbA a.job (.slice As a.job.set.length cs)) rfl rfl 26 _ GJ (jbA_size _ _) rfl (jbA_one _ _ _ _) ?_)
 clear GJ HJ H1 c0 c1 c2 c3 c4 c5 c6 c7 c8 c9 c10 c11 c12 c13 c14 c15 c16 c17 c18 c19 c20 c21 c22 c23 c24 c25 c26
 generalize World.setRow _ _ _ = W2 at *
 generalize W.heap.size = bj at *
 have H3 := HS.alloc (.cells #[.string ⟨#[111, 107]⟩] 9)
 clear HS
 go_upto_block 0 with (fail)
 generalize World.alloc W2 _ = W3 at *
 generalize W2.heap.size = b6 at *
 have f4 : Fits [a.job.acc, a.job.nodes, a.job.lim, a.job.sub] := fitsCons HOK.out.acc (fitsCons HOK.out.nodes (fitsCons HOK.out.lim (fitsCons HOK.out.sub fitsNil)))
 have hd1 := fun W L' (HH : HL w0 W L') => Ref.digits9_ok HD.out HH a.job.start HOK.out.start.1 HOK.out.start.2
 have hd2 := fun W L' (HH : HL w0 W L') => Ref.digits9_ok HD.out HH a.job.fin HOK.out.fin.1 HOK.out.fin.2
 have hst := fun W => Ref.state_ok a.job.st W
 have hT : (⟨(wordsT (([(⟨#[106, 111, 98]⟩ : ByteArray)] ++ allW [a.job.acc, a.job.nodes, a.job.lim, a.job.sub]) ++ [stW a.job.st, ⟨(Lib.itoa a.job.start).toArray⟩, ⟨(Lib.itoa a.job.fin).toArray⟩] ++ allW a.job.set)).toArray⟩ : ByteArray) = firstB k a := by
  rw [HK.out]
  unfold firstB firstT
  exact bytesSame (by rw [Go.ByteArray.toList_eq, Go.ByteArray.toList_eq]; simp [wordsT, numsT, allW, itB, List.flatMap_map])
 have hz : ∀ s ∈ ([(⟨#[106, 111, 98]⟩ : ByteArray)] ++ allW [a.job.acc, a.job.nodes, a.job.lim, a.job.sub]) ++ [stW a.job.st, ⟨(Lib.itoa a.job.start).toArray⟩, ⟨(Lib.itoa a.job.fin).toArray⟩] ++ allW a.job.set, s.size ≤ 22 := by
  intro s hs
  have hall : ∀ l : List Int, Fits l → ∀ s ∈ allW l, s.size ≤ 22 := fun l hl s hs => by
   obtain ⟨n, hn, rfl⟩ := List.mem_map.1 hs
   exact itB_size (hl n hn).1 (hl n hn).2
  rcases List.mem_append.1 hs with hs | hs
  ·rcases List.mem_append.1 hs with hs | hs
   ·rcases List.mem_append.1 hs with hs | hs
    ·rw [List.mem_singleton.1 hs]; decide
    ·exact hall _ f4 s hs
   ·simp only [List.mem_cons, List.not_mem_nil, or_false] at hs
    rcases hs with rfl | rfl | rfl
    ·have := stW_size a.job.st
     have e : (stW a.job.st).size = (stW a.job.st).data.toList.length := by rw [Array.length_toList]; rfl
     omega
    ·exact itB_size HOK.out.start.1 HOK.out.start.2
    ·exact itB_size HOK.out.fin.1 HOK.out.fin.2
  ·exact hall _ HOK.out.set s hs
 obtain ⟨ST, hST⟩ : ∃ D, stW a.job.st = D := ⟨_, rfl⟩
 obtain ⟨D1, hD1⟩ : ∃ D, (⟨(Lib.itoa a.job.start).toArray⟩ : ByteArray) = D := ⟨_, rfl⟩
 obtain ⟨D2, hD2⟩ : ∃ D, (⟨(Lib.itoa a.job.fin).toArray⟩ : ByteArray) = D := ⟨_, rfl⟩
 simp only [hST] at hst
 simp only [hD1] at hd1
 simp only [hD2] at hd2
 rw [hST, hD1, hD2] at hT hz
 have HT := Lib.hid hT; have HZ := Lib.hid hz; have HF4 := Lib.hid f4
 have hlw : (allW [a.job.acc, a.job.nodes, a.job.lim, a.job.sub]).length = 4 := rfl
 clear hT hz hST hD1 hD2 f4
 have HA0 := H3.alloc (.cells #[.string ⟨#[106, 111, 98]⟩] 9)
 obtain ⟨j0, j1, j2, j3, j4, j5, j6, j7⟩ := boxJ_cells HA0.tail.tail
 have HB0 := HA0.alloc (.cells #[.int .i64 a.job.acc, .int .i64 a.job.nodes, .int .i64 a.job.lim, .int .i64 a.job.sub] 3)
 rw [World.size_alloc] at HB0
 have hall := Ref.all_ok HD.out HB0 (l := [a.job.acc, a.job.nodes, a.job.lim, a.job.sub]) (entBlk (k := 1) (n := 4) (cs := intC [a.job.acc, a.job.nodes, a.job.lim, a.job.sub]) rfl (by unfold maxLen; simp)) HF4.out (by simp)
 clear H3 HA0
 go_upto_region 12 with (first
  | (go_at_call 54; refine hall.mono ?_; rintro r w5 ⟨u5, rfl, H5⟩; clear hall HB0 j0 j1 j2 j3 j4 j5 j6 j7; have HR0 := H5.sel 6 [2, 0, 3, 4, 5]; have HR1 := HL.strsOf (xs := [(⟨#[106, 111, 98]⟩ : ByteArray)]) HR0 (by unfold maxLen; simp); have hrA : Rd 1 u5 4 (strC (allW [a.job.acc, a.job.nodes, a.job.lim, a.job.sub])) w5 := rd_row HR1.tail.head; clear H5 HR0)
  | (at_builtin; refine append_strs (v := .slice (some ⟨W3.heap.size, 0, none⟩) 1 1) (xs := [(⟨#[106, 111, 98]⟩ : ByteArray)]) (ys := allW [a.job.acc, a.job.nodes, a.job.lim, a.job.sub]) rfl _ _ rfl HR1 rfl rfl hrA (by rw [hlw]; simp) ?_; intro v6 w6 H6; clear HR1 hrA))
 have H7 := H6.sel 5 [0, 2, 3, 4]
 clear H6
 have hl5 := Lib.hid (show ([(⟨#[106, 111, 98]⟩ : ByteArray)] ++ allW [a.job.acc, a.job.nodes, a.job.lim, a.job.sub]).length = 5 from rfl)
 generalize [(⟨#[106, 111, 98]⟩ : ByteArray)] ++ allW [a.job.acc, a.job.nodes, a.job.lim, a.job.sub] = X5 at *
 obtain ⟨A6, z6, rfl, hc1, hc2⟩ := rd_shape (entRow _ H7)
 unfold maxLen at hc2
 refine wp_region_held_drew (S := fun w' => w'.cell? ⟨bj, 4, none⟩ = some (.int .i64 a.job.st) ∧ w'.cell? ⟨bj, 5, none⟩ = some (.int .i64 a.job.start) ∧ w'.cell? ⟨bj, 6, none⟩ = some (.int .i64 a.job.fin)) (by kernel_rfl) (⟨HL.cell H7.drew.tail.tail 4, HL.cell H7.drew.tail.tail 5, HL.cell H7.drew.tail.tail 6⟩) (fun hHeld => ?_)
 have Hd := H7.drew
 clear H7
 generalize World.drew _ = Wd at *
 refine ztk 0 ?_
 simp only [Act.put, zp]
 refine ztk 1 ?_
 simp only [Act.put, zp]
 refine ztk 2 ?_
 simp only [Act.put, zp]
 refine ztk 4 ?_
 simp only [Act.put, zp]
 refine ztk 5 ?_
 simp only [Act.put, zp]
 refine ztk 7 ?_
 simp only [Act.put, zp]
 refine ztk 8 ?_
 simp only [Act.put, zp]
 refine zry 3 (fun K' hK' => ?_)
 dsimp only [zg1, zg3, zg2]
 go_simp
 go_at_call 34
 refine (hst _).mono ?_
 rintro r w19 ⟨rfl, rfl⟩
 dsimp only
 go_simp
 refine hK'.out _ _ (⟨HL.cell Hd.tail.tail 4, HL.cell Hd.tail.tail 5, HL.cell Hd.tail.tail 6⟩) (fun hHeld => ?_)
 clear hK' K'
 try simp only [Act.put, zp]
 refine zry 6 (fun K' hK' => ?_)
 dsimp only [zg1, zg3, zg2]
 go_simp
 go_at_call 53
 refine (hd1 _ _ Hd).mono ?_
 rintro r wv2 ⟨rfl, HV2⟩
 dsimp only
 go_simp
 refine hK'.out _ _ (⟨HL.cell HV2.tail.tail 4, HL.cell HV2.tail.tail 5, HL.cell HV2.tail.tail 6⟩) (fun hHeld => ?_)
 clear hK' K'
 try simp only [Act.put, zp]
 refine zry 9 (fun K' hK' => ?_)
 dsimp only [zg1, zg3, zg2]
 go_simp
 go_at_call 53
 refine (hd2 _ _ HV2).mono ?_
 rintro r wv3 ⟨rfl, HV3⟩
 dsimp only
 go_simp
 refine hK'.out _ _ (⟨HL.cell HV3.tail.tail 4, HL.cell HV3.tail.tail 5, HL.cell HV3.tail.tail 6⟩) (fun hHeld => ?_)
 clear hK' K'
 try simp only [Act.put, zp]
 refine zry 10 (fun K' hK' => ?_)
 dsimp only [zg1, zg3, zg2]
 go_simp
 have HV4 := HV3.alloc (.cells #[.string ST, .string D1, .string D2] 9)
 generalize World.alloc wv3 _ = wv4 at *
 generalize (wv3.heap.size) = bv4 at *
 refine hK'.out _ _ (⟨HL.cell HV4.tail.tail.tail 4, HL.cell HV4.tail.tail.tail 5, HL.cell HV4.tail.tail.tail 6⟩) (fun hHeld => ?_)
 clear hK' K'
 try simp only [Act.put, zp]
 refine zry 11 (fun K' hK' => ?_)
 have HR1 := (HV4.sel 5 [1, 0, 2, 3, 4])
 have hrA : Rd 1 (.slice (some ⟨bv4, 0, none⟩) 3 3) 3 (strC [ST, D1, D2]) _ := (entBlk (k := 1) (n := 3) (cs := strC [ST, D1, D2]) rfl (by unfold maxLen; simp)) _ HR1.tail
 refine step_append_hl (ys := #[]) sliceS rfl _ _ rfl (v := .slice A6 X5.length z6) (xv := .slice (some ⟨bv4, 0, none⟩) 3 3) (n := X5.length) (m := 3) (xs := strC X5) (news := strC [ST, D1, D2]) HR1 rfl rfl hrA (by simp [Value.oneCell']) (by rw [hl5.out]; unfold maxLen; omega) (by rw [hl5.out]; omega) ?_
 intro v10 wv5 HV5
 refine hK'.out _ _ (⟨HL.cell HV5.tail.tail.tail 4, HL.cell HV5.tail.tail.tail 5, HL.cell HV5.tail.tail.tail 6⟩) (fun hHeld => ?_)
 clear hK' K'
 try simp only [Act.put, zp]
 refine ztk 12 ?_
 simp only [Act.put, zp]
 refine wpAnyH_done (by kernel_rfl) ?_ _
 have H8 := HV5.sel 5 [0, 2, 3, 4]
 have H9 := HL.strsApp (xs := X5) (ys := [ST, D1, D2]) H8
 have hl8 := Lib.hid (show (X5 ++ [ST, D1, D2]).length = 8 by rw [List.length_append, hl5.out]; rfl)
 generalize X5 ++ [ST, D1, D2] = X8 at *
 obtain ⟨A8, z8, rfl, hc3, hc4⟩ := rd_shape (entRow _ H9)
 unfold maxLen at hc4
 obtain ⟨j0, j1, j2, j3, j4, j5, j6, j7⟩ := boxJ_cells H9.tail.tail
 have hall := Ref.all_ok HD.out H9 (((HI.out.cons _).cons _).cons _ |>.cons _) HOK.out.set (by have := HFS.out; omega)
 have hlen : (allW a.job.set).length ≤ 4194304 := by rw [allW_len]; exact HFS.out
 clear H8 hd1 hd2 hst hHeld
 go_upto_region 27 with (first
  | (go_at_call 54; refine hall.mono ?_; rintro r w11 ⟨u11, rfl, H11⟩; clear hall H9 j0 j1 j2 j3 j4 j5 j6 j7; have HR1 := H11.sel 5 [1, 0, 2, 3, 4]; have hrA : Rd 1 u11 (allW a.job.set).length (strC (allW a.job.set)) w11 := rd_row HR1.tail.head; clear H11)
  | (at_builtin; refine append_strs (v := .slice A8 X8.length z8) (xs := X8) (ys := allW a.job.set) rfl _ _ rfl HR1 rfl rfl hrA (by rw [hl8.out]; omega) ?_; intro v12 w12 H12; clear HR1 hrA; have hwd := Ref.words_ok H12 entRow HZ.out (by rw [List.length_append, hl8.out]; omega); rw [HT.out] at hwd)
  | (go_at_call 55; refine hwd.mono ?_; rintro r w13 ⟨rfl, H13⟩; clear hwd H12; have H14 := H13.sel 5 [2, 3, 4]; have m0 := HL.cell H14 0; have y0 := HL.frozen H14 0; have H15 := HL.setCell H14 0 (.string (firstB k a))))
 have H6 : HL w0 _ (strs w0.heap.size (.slice (some ⟨b6, 0, none⟩) 1 1) [firstB k a] :: boxJ bj a.job (.slice As a.job.set.length cs) :: boxA b1 a (.slice Ae a.events.length ce) (.slice As a.job.set.length cs) (.slice Ar a.ranks.length cr) :: L) := HL.strsOf (xs := [firstB k a]) H15 (by unfold maxLen; simp)
 clear m0 y0 H13 H14 H15
 generalize World.setCell _ _ _ = W6 at *
 have HLS := Lib.hid (show linesR k a = [firstB k a] ++ a.events.map evS by rw [HLN.out, HNR.out]; rfl)
 have HLL := Lib.hid (show [firstB k a].length ≤ 4194305 by simp)
 have c2 : World.cell? _ ⟨b1, 2, none⟩ = some (.slice Ae a.events.length ce) := HL.cell H6.tail.tail 2
 have hEr := fun W' v l (HH : HL w0 W' (strs w0.heap.size v l :: boxJ bj a.job (.slice As a.job.set.length cs) :: boxA b1 a (.slice Ae a.events.length ce) (.slice As a.job.set.length cs) (.slice Ar a.ranks.length cr) :: L)) => (((HE.out.cons _).cons _).cons _).rd W' HH
 have hEo := fun p hp A4 A5 => (((((HE.out.own p hp).cons (boxA b1 a (.slice Ae a.events.length ce) (.slice As a.job.set.length cs) (.slice Ar a.ranks.length cr))).cons (boxJ bj a.job (.slice As a.job.set.length cs))).cons A4)).cons A5
 have HER := Lib.hid hEr; have HEO := Lib.hid hEo
 obtain ⟨-, -, aE, cE, hvE, hE1, hE2, -, -⟩ := hEr _ _ _ H6
 simp only [Value.slice.injEq] at hvE
 obtain ⟨rfl, hlE, rfl⟩ := hvE
 unfold maxLen at hE2
 rw [← hlE] at hE1
 have HLE := Lib.hid hlE
 have hev := fun e he (W' : World) v L' (HH : HL w0 W' L') (h : Ints w0 L' v e.list) => Ref.event_ok HD.out HH e h (HOK.out.events e he) (HFW.out e he)
 have HEV := Lib.hid hev
 clear hev hEr hEo hlE
 go_wp2
 clear c2
 go_loopg [6, 148] a.events.length (fun g t6 i wr => ∃ (n : Nat) (v : Value), i = .int .i64 n ∧ n + g = a.events.length ∧ t6 = v ∧ HL w0 wr (strs w0.heap.size v ([firstB k a] ++ (a.events.take n).map evS) :: boxJ bj a.job (.slice As a.job.set.length cs) :: boxA b1 a (.slice Ae a.events.length ce) (.slice As a.job.set.length cs) (.slice Ar a.ranks.length cr) :: L))
 case atStart => exact ⟨0, _, rfl, by omega, rfl, by rw [List.take_zero, List.map_nil, List.append_nil]; exact H6⟩
 case round =>
  obtain ⟨n, v, rfl, hn, rfl, HK⟩ := hrel
  clear H6
  by_cases hlt : n < a.events.length
  ·obtain ⟨⟨e, u⟩, hp⟩ : ∃ p, ps[n]? = some p := ⟨_, List.getElem?_eq_getElem (by rw [← HLE.out]; exact hlt)⟩
   have hev : a.events[n]? = some e := by rw [HPS.out, List.getElem?_map, hp]; rfl
   obtain ⟨b', o', c', hv, d0, d1, d2, d3, d4, d5⟩ := ev_at (HER.out _ _ _ HK) hp
   simp only [Value.slice.injEq] at hv
   obtain ⟨rfl, -, rfl⟩ := hv
   have ho := HEO.out (e, u) (List.mem_of_getElem? hp)
   dsimp only at ho d0 d1 d2 d3 d4 d5
   have HA := HL.allocE HK e u
   obtain ⟨Au, cu, rfl, -, -⟩ := rd_shape (ho _ _ _ HA)
   have hnx : [firstB k a] ++ (a.events.take (n + 1)).map evS = ([firstB k a] ++ (a.events.take n).map evS) ++ [evS e] := by rw [List.take_add_one, hev]; simp
   have hlx : ([firstB k a] ++ (a.events.take n).map evS).length ≤ 4294967296 := by
    have h1 := HLL.out
    have h2 := HFE.out
    rw [List.length_append, List.length_map, List.length_take]
    omega
   have hri := HEV.out e (List.mem_of_getElem? hev) _ _ _ HA (ho _ _)
   unfold evV at hri
   obtain ⟨m0, m1, m2, m3, m4, m5⟩ := boxE_cells HA
   have HN := Lib.hid hnx; have HP2 := Lib.hid hp
   generalize [firstB k a] ++ (a.events.take n).map evS = l at *
   generalize evS e = es at *
   generalize evN e = en at *
   obtain ⟨A6, z6, rfl, hc1, hc2⟩ := rd_shape (entRow _ HK)
   unfold maxLen at hc2
   clear hnx hev hp ho
   go_wp2_with (first
    | (go_at_call 35; refine hri.mono ?_; rintro r w3 ⟨rfl, H3⟩; clear HA m0 m1 m2 m3 m4 m5; have HB := H3.tail.alloc' (.cells #[.string es] 9); have hr4 := rd_str (w := w3) (y := es))
    | (at_builtin; refine append_str (v := .slice A6 l.length z6) (xs := l) (y := es) (b := w3.heap.size) rfl _ _ rfl HB rfl rfl hr4 hlx ?_; intro z5 w8 H8; clear HB hr4 HK))
   go_roundg (gk - 1)
   case measure => omega
   case rel => exact ⟨n + 1, _, by go_num, by omega, rfl, by rw [HN.out]; exact H8⟩
  ·rw [List.take_of_length_le (by omega)] at HK
   rw [← HLS.out] at HK
   go_wp2
   go_ret
   exact ⟨_, rfl, HK.sel 3 [0]⟩
end
open Go.RowKit Go.Proofs.HL Go.Proofs.An
section
variable {w0 w : World} {L : List At}
theorem Ref.ln_13 (hD : Doors w0) (hFU : ∀ W, Doors W → FmtU W) (H : HL w0 w L) (k : Int) (a : Ans) (Ae As Ar : Option Addr) (ce cs cr : Nat) {ps : List (Ev × Value)} (hps : a.events = ps.map (·.1)) (hE : Evs w0 L (.slice Ae a.events.length ce) ps) (hI : Ints w0 L (.slice As a.job.set.length cs) a.job.set) (hR : Rks w0 L (.slice Ar a.ranks.length cr) a.ranks) (hok : AnsOk a) (hfw : ∀ e ∈ a.events, e.list.length ≤ 4294967200) (hfe : a.events.length ≤ 4194304) (hfr : a.ranks.length ≤ 4194304) (hfs : a.job.set.length ≤ 4194304) (hc : a.code = 0) (hk : k = 13) (hnr : a.ranks = []) :
  Calls Tryz.prog 23 #[.int .i64 k, ansV a (.slice Ae a.events.length ce) (.slice As a.job.set.length cs) (.slice Ar a.ranks.length cr)] w (LinesPost w0 L k a) := by
 have H1 := HL.allocA H a (.slice Ae a.events.length ce) (.slice As a.job.set.length cs) (.slice Ar a.ranks.length cr)
 have hln : linesR k a = (firstB k a :: a.ranks.map rkS) ++ a.events.map evS := by unfold linesR; rw [if_pos hc]
 have q0 : (a.code != 0) = false := by simp [hc]
 have q1 : (k == 1) = false := by rw [hk]; rfl
 have q5 : (k == 5) = false := by rw [hk]; rfl
 have q9 : (k == 9) = false := by rw [hk]; rfl
 have q10 : (k == 10) = false := by rw [hk]; rfl
 have q11 : (k == 11) = false := by rw [hk]; rfl
 have q12 : (k == 12) = false := by rw [hk]; rfl
 have q13 : (k == 13) = true := by rw [hk]; rfl
 unfold ansV
 generalize hb1 : w.heap.size = b1 at *
 have HPS := Lib.hid hps; have HE := Lib.hid hE; have HI := Lib.hid hI; have HR := Lib.hid hR; have HOK := Lib.hid hok; have HFW := Lib.hid hfw; have HD := Lib.hid hD; have HLN := Lib.hid hln; have HK := Lib.hid hk; have HFE := Lib.hid hfe; have HFR := Lib.hid hfr; have HFS := Lib.hid hfs; have HFU := Lib.hid hFU; have HNR := Lib.hid hnr
 clear hps hE hI hR hok hfw hD hln hk hc H hfe hfr hfs hFU hnr
 have n0 := HL.cell H1 0
 go_enter Tryz.func23, Tryz.ntmps23
 go_upto_region 3 with (fail)
 clear n0 q0
 have HB1 := Lib.hid hb1
 clear hb1
 generalize World.alloc _ _ = W at *
 obtain ⟨c0, c1, c2, c3, c4, c5, c6, c7, c8, c9, c10, c11, c12, c13, c14, c15, c16, c17, c18, c19, c20, c21, c22, c23, c24, c25, c26⟩ := boxA_cells H1
 have HJ : HL w0 (W.alloc (.cells #[.int .i64 0, .int .i64 0, .int .i64 0, .int .i64 0, .int .i64 0, .int .i64 0, .int .i64 0, .slice none 0 0] 26)) (boxJ W.heap.size zJ (.slice none 0 0) :: _) := H1.alloc _
 have GJ : _ = some (Obj.cells _ 26 (0, 0)) := HJ.head
 have HS : HL w0 _ (boxJ W.heap.size a.job (.slice As a.job.set.length cs) :: _) := HL.setWhole (cells := jbA a.job (.slice As a.job.set.length cs)) HJ
 go_upto_region 4 with (refine wpList_store_row rfl 26 _ _ rfl W.heap.size (jbA a.job (.slice As a.job.set.length cs)) rfl rfl 26 _ GJ (jbA_size _ _) rfl (jbA_one _ _ _ _) ?_)
 clear GJ HJ H1 c0 c1 c2 c3 c4 c5 c6 c7 c8 c9 c10 c11 c12 c13 c14 c15 c16 c17 c18 c19 c20 c21 c22 c23 c24 c25 c26
 generalize World.setRow _ _ _ = W2 at *
 generalize W.heap.size = bj at *
 have H3 := HS.alloc (.cells #[.string ⟨#[111, 107]⟩] 9)
 clear HS
 go_upto_block 0 with (fail)
 generalize World.alloc W2 _ = W3 at *
 generalize W2.heap.size = b6 at *
 have f9 : Fits (cfL a.cfg ++ [a.bound]) := fitsCons HOK.out.c0 (fitsCons HOK.out.c1 (fitsCons HOK.out.c2 (fitsCons HOK.out.c3 (fitsCons HOK.out.c4 (fitsCons HOK.out.c5 (fitsCons HOK.out.c6 (fitsCons HOK.out.c7 (fitsCons HOK.out.bound fitsNil))))))))
 have hT : (⟨(wordsT ([(⟨#[99, 111, 110, 102, 105, 103]⟩ : ByteArray)] ++ allW (cfL a.cfg ++ [a.bound]))).toArray⟩ : ByteArray) = firstB k a := by
  rw [HK.out]
  unfold firstB firstT
  exact bytesSame (by rw [Go.ByteArray.toList_eq, Go.ByteArray.toList_eq]; simp [wordsT, numsT, allW, itB, cfL])
 have hz : ∀ s ∈ [(⟨#[99, 111, 110, 102, 105, 103]⟩ : ByteArray)] ++ allW (cfL a.cfg ++ [a.bound]), s.size ≤ 22 := by
  intro s hs
  rcases List.mem_append.1 hs with hs | hs
  ·rw [List.mem_singleton.1 hs]; decide
  ·obtain ⟨n, hn, rfl⟩ := List.mem_map.1 hs
   exact itB_size (f9 n hn).1 (f9 n hn).2
 have HT := Lib.hid hT; have HZ := Lib.hid hz; have HF9 := Lib.hid f9
 clear hT hz f9
 go_upto_region 26 with (fail)
 refine wp_region_held_drew (S := fun w' => w'.cell? ⟨b1, 18, none⟩ = some (.int .i64 a.cfg.c0) ∧ w'.cell? ⟨b1, 19, none⟩ = some (.int .i64 a.cfg.c1) ∧ w'.cell? ⟨b1, 20, none⟩ = some (.int .i64 a.cfg.c2) ∧ w'.cell? ⟨b1, 21, none⟩ = some (.int .i64 a.cfg.c3) ∧ w'.cell? ⟨b1, 22, none⟩ = some (.int .i64 a.cfg.c4) ∧ w'.cell? ⟨b1, 23, none⟩ = some (.int .i64 a.cfg.c5) ∧ w'.cell? ⟨b1, 24, none⟩ = some (.int .i64 a.cfg.c6) ∧ w'.cell? ⟨b1, 25, none⟩ = some (.int .i64 a.cfg.c7) ∧ w'.cell? ⟨b1, 26, none⟩ = some (.int .i64 a.bound)) (by kernel_rfl) (boxA_cf H3.drew.tail.tail) (fun hHeld => ?_)
 have Hd := H3.drew
 clear H3
 generalize World.drew _ = Wd at *
 refine ztk 0 ?_
 simp only [Act.put, zp]
 refine ztk 2 ?_
 simp only [Act.put, zp]
 refine ztk 3 ?_
 simp only [Act.put, zp]
 refine ztk 5 ?_
 simp only [Act.put, zp]
 refine ztk 6 ?_
 simp only [Act.put, zp]
 refine wpAnyH_ready (rs := [1, 4, 7]) (by kernel_rfl) (by simp) ?_
 refine AllReadyH.cons rfl (fun K' hK' => ?_) (AllReadyH.cons rfl (fun K' hK' => ?_) (AllReadyH.cons rfl (fun K' hK' => ?_) AllReadyH.nil))
 focus
  dsimp only [zg1, zg3, zg2]
  go_simp
  have HV1 := Hd.alloc (.cells #[.string ⟨#[99, 111, 110, 102, 105, 103]⟩] 9)
  generalize World.alloc Wd _ = wv1 at *
  generalize (Wd.heap.size) = bv1 at *
  refine hK'.out _ _ (boxA_cf HV1.tail.tail.tail) (fun hHeld => ?_)
  clear hK' K'
  try simp only [Act.put, zp]
  refine wpAnyH_ready (rs := [4, 7]) (by kernel_rfl) (by simp) ?_
  refine AllReadyH.cons rfl (fun K' hK' => ?_) (AllReadyH.cons rfl (fun K' hK' => ?_) AllReadyH.nil)
  focus
   dsimp only [zg1, zg3, zg2]
   have hcf := Ref.config_ok HV1 a.cfg
   unfold cfV at hcf
   go_simp
   go_at_call 32
   refine hcf.mono ?_
   rintro r wv2 ⟨vcf, rfl, HV2⟩
   clear hcf
   dsimp only
   go_simp
   refine hK'.out _ _ (boxA_cf HV2.tail.tail.tail.tail) (fun hHeld => ?_)
   clear hK' K'
   try simp only [Act.put, zp]
   refine zry 7 (fun K' hK' => ?_)
   dsimp only [zg1, zg3, zg2]
   go_simp
   have HV3 := HV2.alloc (.cells #[.int .i64 a.bound] 3)
   generalize World.alloc wv2 _ = wv3 at *
   generalize (wv2.heap.size) = bv3 at *
   refine hK'.out _ _ (boxA_cf HV3.tail.tail.tail.tail.tail) (fun hHeld => ?_)
   clear hK' K'
   try simp only [Act.put, zp]
   refine zry 8 (fun K' hK' => ?_)
   have HR1 := (HV3.sel 6 [1, 0, 2, 3, 4, 5])
   have hrA : Rd 1 (.slice (some ⟨bv3, 0, none⟩) 1 1) 1 (intC [a.bound]) _ := (entBlk (k := 1) (n := 1) (cs := intC [a.bound]) rfl (by unfold maxLen; simp)) _ HR1.tail
   refine step_append_hl (ys := #[]) sliceI rfl _ _ rfl (v := vcf) (xv := .slice (some ⟨bv3, 0, none⟩) 1 1) (n := 8) (m := 1) (xs := intC (cfL a.cfg)) (news := intC [a.bound]) HR1 rfl rfl hrA (by simp [Value.oneCell']) (by unfold maxLen; omega) (by omega) ?_
   intro v8 wv4 HX4
   have HV4 : HL w0 wv4 (intsR w0.heap.size v8 (cfL a.cfg ++ [a.bound]) :: _) := HX4
   refine hK'.out _ _ (boxA_cf HV4.tail.tail.tail.tail.tail) (fun hHeld => ?_)
   clear hK' K'
   try simp only [Act.put, zp]
   refine zry 9 (fun K' hK' => ?_)
   dsimp only [zg1, zg3, zg2]
   have HR2 := (HV4.sel 6 [0, 1, 2, 3, 4, 5])
   have hal := Ref.all_ok HD.out HR2 entRow HF9.out (by simp [cfL])
   clear HR2
   go_simp
   go_at_call 54
   refine hal.mono ?_
   rintro r wv5 ⟨u9, rfl, HV5⟩
   clear hal
   dsimp only
   go_simp
   refine hK'.out _ _ (boxA_cf HV5.tail.tail.tail.tail.tail.tail) (fun hHeld => ?_)
   clear hK' K'
   try simp only [Act.put, zp]
   refine zry 10 (fun K' hK' => ?_)
   have HR0 := (HV5.sel 7 [3, 0, 1, 2, 4, 5, 6])
   have HR1 := HL.strsOf (xs := [(⟨#[99, 111, 110, 102, 105, 103]⟩ : ByteArray)]) HR0 (by unfold maxLen; simp)
   have hrA : Rd 1 u9 9 (strC (allW (cfL a.cfg ++ [a.bound]))) _ := rd_row HR1.tail.head
   refine step_append_hl (ys := #[]) sliceS rfl _ _ rfl (v := .slice (some ⟨bv1, 0, none⟩) 1 1) (xv := u9) (n := 1) (m := 9) (xs := strC [(⟨#[99, 111, 110, 102, 105, 103]⟩ : ByteArray)]) (news := strC (allW (cfL a.cfg ++ [a.bound]))) HR1 rfl rfl hrA (by simp [Value.oneCell']) (by unfold maxLen; omega) (by omega) ?_
   intro v10 wv6 HX6
   have HV6 : HL w0 wv6 (strs w0.heap.size v10 ([(⟨#[99, 111, 110, 102, 105, 103]⟩ : ByteArray)] ++ allW (cfL a.cfg ++ [a.bound])) :: _) := HX6
   refine hK'.out _ _ (boxA_cf HV6.tail.tail.tail.tail.tail.tail) (fun hHeld => ?_)
   clear hK' K'
   try simp only [Act.put, zp]
   refine zry 11 (fun K' hK' => ?_)
   dsimp only [zg1, zg3, zg2]
   have hwd := Ref.words_ok HV6 entRow HZ.out (by simp [allW, cfL])
   rw [HT.out] at hwd
   go_simp
   go_at_call 55
   refine (hwd).mono ?_
   rintro r wv7 ⟨rfl, HV7⟩
   dsimp only
   go_simp
   have m0 := HL.cell HV7.tail.tail.tail.tail 0
   have y0 := HL.frozen HV7.tail.tail.tail.tail 0
   refine hK'.out _ _ (boxA_cf HV7.tail.tail.tail.tail.tail.tail) (fun hHeld => ?_)
   clear hK' K'
   try simp only [Act.put, zp]
   refine ztk 12 ?_
   simp only [Act.put, zp]
   refine zry 13 (fun K' hK' => ?_)
   dsimp only [zg1, zg3, zg2]
   go_simp
   have HV8 := HL.setCell HV7.tail.tail.tail.tail 0 (.string (firstB k a))
   refine hK'.out _ _ (boxA_cf HV8.tail.tail) (fun hHeld => ?_)
   clear hK' K'
   try simp only [Act.put, zp]
   refine wpAnyH_done (by kernel_rfl) ?_ _
  rotate_left 1
  focus
   dsimp only [zg1, zg3, zg2]
   go_simp
   have HV2 := HV1.alloc (.cells #[.int .i64 a.bound] 3)
   generalize World.alloc wv1 _ = wv2 at *
   generalize (wv1.heap.size) = bv2 at *
   refine hK'.out _ _ (boxA_cf HV2.tail.tail.tail.tail) (fun hHeld => ?_)
   clear hK' K'
   try simp only [Act.put, zp]
   refine zry 4 (fun K' hK' => ?_)
   dsimp only [zg1, zg3, zg2]
   have hcf := Ref.config_ok HV2 a.cfg
   unfold cfV at hcf
   go_simp
   go_at_call 32
   refine hcf.mono ?_
   rintro r wv3 ⟨vcf, rfl, HV3⟩
   clear hcf
   dsimp only
   go_simp
   refine hK'.out _ _ (boxA_cf HV3.tail.tail.tail.tail.tail) (fun hHeld => ?_)
   clear hK' K'
   try simp only [Act.put, zp]
   refine zry 8 (fun K' hK' => ?_)
   have HR1 := (HV3.sel 6 [0, 1, 2, 3, 4, 5])
   have hrA : Rd 1 (.slice (some ⟨bv2, 0, none⟩) 1 1) 1 (intC [a.bound]) _ := (entBlk (k := 1) (n := 1) (cs := intC [a.bound]) rfl (by unfold maxLen; simp)) _ HR1.tail
   refine step_append_hl (ys := #[]) sliceI rfl _ _ rfl (v := vcf) (xv := .slice (some ⟨bv2, 0, none⟩) 1 1) (n := 8) (m := 1) (xs := intC (cfL a.cfg)) (news := intC [a.bound]) HR1 rfl rfl hrA (by simp [Value.oneCell']) (by unfold maxLen; omega) (by omega) ?_
   intro v8 wv4 HX4
   have HV4 : HL w0 wv4 (intsR w0.heap.size v8 (cfL a.cfg ++ [a.bound]) :: _) := HX4
   refine hK'.out _ _ (boxA_cf HV4.tail.tail.tail.tail.tail) (fun hHeld => ?_)
   clear hK' K'
   try simp only [Act.put, zp]
   refine zry 9 (fun K' hK' => ?_)
   dsimp only [zg1, zg3, zg2]
   have HR2 := (HV4.sel 6 [0, 1, 2, 3, 4, 5])
   have hal := Ref.all_ok HD.out HR2 entRow HF9.out (by simp [cfL])
   clear HR2
   go_simp
   go_at_call 54
   refine hal.mono ?_
   rintro r wv5 ⟨u9, rfl, HV5⟩
   clear hal
   dsimp only
   go_simp
   refine hK'.out _ _ (boxA_cf HV5.tail.tail.tail.tail.tail.tail) (fun hHeld => ?_)
   clear hK' K'
   try simp only [Act.put, zp]
   refine zry 10 (fun K' hK' => ?_)
   have HR0 := (HV5.sel 7 [3, 0, 1, 2, 4, 5, 6])
   have HR1 := HL.strsOf (xs := [(⟨#[99, 111, 110, 102, 105, 103]⟩ : ByteArray)]) HR0 (by unfold maxLen; simp)
   have hrA : Rd 1 u9 9 (strC (allW (cfL a.cfg ++ [a.bound]))) _ := rd_row HR1.tail.head
   refine step_append_hl (ys := #[]) sliceS rfl _ _ rfl (v := .slice (some ⟨bv1, 0, none⟩) 1 1) (xv := u9) (n := 1) (m := 9) (xs := strC [(⟨#[99, 111, 110, 102, 105, 103]⟩ : ByteArray)]) (news := strC (allW (cfL a.cfg ++ [a.bound]))) HR1 rfl rfl hrA (by simp [Value.oneCell']) (by unfold maxLen; omega) (by omega) ?_
   intro v10 wv6 HX6
   have HV6 : HL w0 wv6 (strs w0.heap.size v10 ([(⟨#[99, 111, 110, 102, 105, 103]⟩ : ByteArray)] ++ allW (cfL a.cfg ++ [a.bound])) :: _) := HX6
   refine hK'.out _ _ (boxA_cf HV6.tail.tail.tail.tail.tail.tail) (fun hHeld => ?_)
   clear hK' K'
   try simp only [Act.put, zp]
   refine zry 11 (fun K' hK' => ?_)
   dsimp only [zg1, zg3, zg2]
   have hwd := Ref.words_ok HV6 entRow HZ.out (by simp [allW, cfL])
   rw [HT.out] at hwd
   go_simp
   go_at_call 55
   refine (hwd).mono ?_
   rintro r wv7 ⟨rfl, HV7⟩
   dsimp only
   go_simp
   have m0 := HL.cell HV7.tail.tail.tail.tail 0
   have y0 := HL.frozen HV7.tail.tail.tail.tail 0
   refine hK'.out _ _ (boxA_cf HV7.tail.tail.tail.tail.tail.tail) (fun hHeld => ?_)
   clear hK' K'
   try simp only [Act.put, zp]
   refine ztk 12 ?_
   simp only [Act.put, zp]
   refine zry 13 (fun K' hK' => ?_)
   dsimp only [zg1, zg3, zg2]
   go_simp
   have HV8 := HL.setCell HV7.tail.tail.tail.tail 0 (.string (firstB k a))
   refine hK'.out _ _ (boxA_cf HV8.tail.tail) (fun hHeld => ?_)
   clear hK' K'
   try simp only [Act.put, zp]
   refine wpAnyH_done (by kernel_rfl) ?_ _
  rotate_left 1
 rotate_left 2
 focus
  dsimp only [zg1, zg3, zg2]
  have hcf := Ref.config_ok Hd a.cfg
  unfold cfV at hcf
  go_simp
  go_at_call 32
  refine hcf.mono ?_
  rintro r wv1 ⟨vcf, rfl, HV1⟩
  clear hcf
  dsimp only
  go_simp
  refine hK'.out _ _ (boxA_cf HV1.tail.tail.tail) (fun hHeld => ?_)
  clear hK' K'
  try simp only [Act.put, zp]
  refine wpAnyH_ready (rs := [1, 7]) (by kernel_rfl) (by simp) ?_
  refine AllReadyH.cons rfl (fun K' hK' => ?_) (AllReadyH.cons rfl (fun K' hK' => ?_) AllReadyH.nil)
  focus
   dsimp only [zg1, zg3, zg2]
   go_simp
   have HV2 := HV1.alloc (.cells #[.string ⟨#[99, 111, 110, 102, 105, 103]⟩] 9)
   generalize World.alloc wv1 _ = wv2 at *
   generalize (wv1.heap.size) = bv2 at *
   refine hK'.out _ _ (boxA_cf HV2.tail.tail.tail.tail) (fun hHeld => ?_)
   clear hK' K'
   try simp only [Act.put, zp]
   refine zry 7 (fun K' hK' => ?_)
   dsimp only [zg1, zg3, zg2]
   go_simp
   have HV3 := HV2.alloc (.cells #[.int .i64 a.bound] 3)
   generalize World.alloc wv2 _ = wv3 at *
   generalize (wv2.heap.size) = bv3 at *
   refine hK'.out _ _ (boxA_cf HV3.tail.tail.tail.tail.tail) (fun hHeld => ?_)
   clear hK' K'
   try simp only [Act.put, zp]
   refine zry 8 (fun K' hK' => ?_)
   have HR1 := (HV3.sel 6 [2, 0, 1, 3, 4, 5])
   have hrA : Rd 1 (.slice (some ⟨bv3, 0, none⟩) 1 1) 1 (intC [a.bound]) _ := (entBlk (k := 1) (n := 1) (cs := intC [a.bound]) rfl (by unfold maxLen; simp)) _ HR1.tail
   refine step_append_hl (ys := #[]) sliceI rfl _ _ rfl (v := vcf) (xv := .slice (some ⟨bv3, 0, none⟩) 1 1) (n := 8) (m := 1) (xs := intC (cfL a.cfg)) (news := intC [a.bound]) HR1 rfl rfl hrA (by simp [Value.oneCell']) (by unfold maxLen; omega) (by omega) ?_
   intro v8 wv4 HX4
   have HV4 : HL w0 wv4 (intsR w0.heap.size v8 (cfL a.cfg ++ [a.bound]) :: _) := HX4
   refine hK'.out _ _ (boxA_cf HV4.tail.tail.tail.tail.tail) (fun hHeld => ?_)
   clear hK' K'
   try simp only [Act.put, zp]
   refine zry 9 (fun K' hK' => ?_)
   dsimp only [zg1, zg3, zg2]
   have HR2 := (HV4.sel 6 [0, 1, 2, 3, 4, 5])
   have hal := Ref.all_ok HD.out HR2 entRow HF9.out (by simp [cfL])
   clear HR2
   go_simp
   go_at_call 54
   refine hal.mono ?_
   rintro r wv5 ⟨u9, rfl, HV5⟩
   clear hal
   dsimp only
   go_simp
   refine hK'.out _ _ (boxA_cf HV5.tail.tail.tail.tail.tail.tail) (fun hHeld => ?_)
   clear hK' K'
   try simp only [Act.put, zp]
   refine zry 10 (fun K' hK' => ?_)
   have HR0 := (HV5.sel 7 [3, 0, 1, 2, 4, 5, 6])
   have HR1 := HL.strsOf (xs := [(⟨#[99, 111, 110, 102, 105, 103]⟩ : ByteArray)]) HR0 (by unfold maxLen; simp)
   have hrA : Rd 1 u9 9 (strC (allW (cfL a.cfg ++ [a.bound]))) _ := rd_row HR1.tail.head
   refine step_append_hl (ys := #[]) sliceS rfl _ _ rfl (v := .slice (some ⟨bv2, 0, none⟩) 1 1) (xv := u9) (n := 1) (m := 9) (xs := strC [(⟨#[99, 111, 110, 102, 105, 103]⟩ : ByteArray)]) (news := strC (allW (cfL a.cfg ++ [a.bound]))) HR1 rfl rfl hrA (by simp [Value.oneCell']) (by unfold maxLen; omega) (by omega) ?_
   intro v10 wv6 HX6
   have HV6 : HL w0 wv6 (strs w0.heap.size v10 ([(⟨#[99, 111, 110, 102, 105, 103]⟩ : ByteArray)] ++ allW (cfL a.cfg ++ [a.bound])) :: _) := HX6
   refine hK'.out _ _ (boxA_cf HV6.tail.tail.tail.tail.tail.tail) (fun hHeld => ?_)
   clear hK' K'
   try simp only [Act.put, zp]
   refine zry 11 (fun K' hK' => ?_)
   dsimp only [zg1, zg3, zg2]
   have hwd := Ref.words_ok HV6 entRow HZ.out (by simp [allW, cfL])
   rw [HT.out] at hwd
   go_simp
   go_at_call 55
   refine (hwd).mono ?_
   rintro r wv7 ⟨rfl, HV7⟩
   dsimp only
   go_simp
   have m0 := HL.cell HV7.tail.tail.tail.tail 0
   have y0 := HL.frozen HV7.tail.tail.tail.tail 0
   refine hK'.out _ _ (boxA_cf HV7.tail.tail.tail.tail.tail.tail) (fun hHeld => ?_)
   clear hK' K'
   try simp only [Act.put, zp]
   refine ztk 12 ?_
   simp only [Act.put, zp]
   refine zry 13 (fun K' hK' => ?_)
   dsimp only [zg1, zg3, zg2]
   go_simp
   have HV8 := HL.setCell HV7.tail.tail.tail.tail 0 (.string (firstB k a))
   refine hK'.out _ _ (boxA_cf HV8.tail.tail) (fun hHeld => ?_)
   clear hK' K'
   try simp only [Act.put, zp]
   refine wpAnyH_done (by kernel_rfl) ?_ _
  rotate_left 1
  focus
   dsimp only [zg1, zg3, zg2]
   go_simp
   have HV2 := HV1.alloc (.cells #[.int .i64 a.bound] 3)
   generalize World.alloc wv1 _ = wv2 at *
   generalize (wv1.heap.size) = bv2 at *
   refine hK'.out _ _ (boxA_cf HV2.tail.tail.tail.tail) (fun hHeld => ?_)
   clear hK' K'
   try simp only [Act.put, zp]
   refine wpAnyH_ready (rs := [1, 8]) (by kernel_rfl) (by simp) ?_
   refine AllReadyH.cons rfl (fun K' hK' => ?_) (AllReadyH.cons rfl (fun K' hK' => ?_) AllReadyH.nil)
   focus
    dsimp only [zg1, zg3, zg2]
    go_simp
    have HV3 := HV2.alloc (.cells #[.string ⟨#[99, 111, 110, 102, 105, 103]⟩] 9)
    generalize World.alloc wv2 _ = wv3 at *
    generalize (wv2.heap.size) = bv3 at *
    refine hK'.out _ _ (boxA_cf HV3.tail.tail.tail.tail.tail) (fun hHeld => ?_)
    clear hK' K'
    try simp only [Act.put, zp]
    refine zry 8 (fun K' hK' => ?_)
    have HR1 := (HV3.sel 6 [2, 1, 0, 3, 4, 5])
    have hrA : Rd 1 (.slice (some ⟨bv2, 0, none⟩) 1 1) 1 (intC [a.bound]) _ := (entBlk (k := 1) (n := 1) (cs := intC [a.bound]) rfl (by unfold maxLen; simp)) _ HR1.tail
    refine step_append_hl (ys := #[]) sliceI rfl _ _ rfl (v := vcf) (xv := .slice (some ⟨bv2, 0, none⟩) 1 1) (n := 8) (m := 1) (xs := intC (cfL a.cfg)) (news := intC [a.bound]) HR1 rfl rfl hrA (by simp [Value.oneCell']) (by unfold maxLen; omega) (by omega) ?_
    intro v8 wv4 HX4
    have HV4 : HL w0 wv4 (intsR w0.heap.size v8 (cfL a.cfg ++ [a.bound]) :: _) := HX4
    refine hK'.out _ _ (boxA_cf HV4.tail.tail.tail.tail.tail) (fun hHeld => ?_)
    clear hK' K'
    try simp only [Act.put, zp]
    refine zry 9 (fun K' hK' => ?_)
    dsimp only [zg1, zg3, zg2]
    have HR2 := (HV4.sel 6 [0, 1, 2, 3, 4, 5])
    have hal := Ref.all_ok HD.out HR2 entRow HF9.out (by simp [cfL])
    clear HR2
    go_simp
    go_at_call 54
    refine hal.mono ?_
    rintro r wv5 ⟨u9, rfl, HV5⟩
    clear hal
    dsimp only
    go_simp
    refine hK'.out _ _ (boxA_cf HV5.tail.tail.tail.tail.tail.tail) (fun hHeld => ?_)
    clear hK' K'
    try simp only [Act.put, zp]
    refine zry 10 (fun K' hK' => ?_)
    have HR0 := (HV5.sel 7 [3, 0, 1, 2, 4, 5, 6])
    have HR1 := HL.strsOf (xs := [(⟨#[99, 111, 110, 102, 105, 103]⟩ : ByteArray)]) HR0 (by unfold maxLen; simp)
    have hrA : Rd 1 u9 9 (strC (allW (cfL a.cfg ++ [a.bound]))) _ := rd_row HR1.tail.head
    refine step_append_hl (ys := #[]) sliceS rfl _ _ rfl (v := .slice (some ⟨bv3, 0, none⟩) 1 1) (xv := u9) (n := 1) (m := 9) (xs := strC [(⟨#[99, 111, 110, 102, 105, 103]⟩ : ByteArray)]) (news := strC (allW (cfL a.cfg ++ [a.bound]))) HR1 rfl rfl hrA (by simp [Value.oneCell']) (by unfold maxLen; omega) (by omega) ?_
    intro v10 wv6 HX6
    have HV6 : HL w0 wv6 (strs w0.heap.size v10 ([(⟨#[99, 111, 110, 102, 105, 103]⟩ : ByteArray)] ++ allW (cfL a.cfg ++ [a.bound])) :: _) := HX6
    refine hK'.out _ _ (boxA_cf HV6.tail.tail.tail.tail.tail.tail) (fun hHeld => ?_)
    clear hK' K'
    try simp only [Act.put, zp]
    refine zry 11 (fun K' hK' => ?_)
    dsimp only [zg1, zg3, zg2]
    have hwd := Ref.words_ok HV6 entRow HZ.out (by simp [allW, cfL])
    rw [HT.out] at hwd
    go_simp
    go_at_call 55
    refine (hwd).mono ?_
    rintro r wv7 ⟨rfl, HV7⟩
    dsimp only
    go_simp
    have m0 := HL.cell HV7.tail.tail.tail.tail 0
    have y0 := HL.frozen HV7.tail.tail.tail.tail 0
    refine hK'.out _ _ (boxA_cf HV7.tail.tail.tail.tail.tail.tail) (fun hHeld => ?_)
    clear hK' K'
    try simp only [Act.put, zp]
    refine ztk 12 ?_
    simp only [Act.put, zp]
    refine zry 13 (fun K' hK' => ?_)
    dsimp only [zg1, zg3, zg2]
    go_simp
    have HV8 := HL.setCell HV7.tail.tail.tail.tail 0 (.string (firstB k a))
    refine hK'.out _ _ (boxA_cf HV8.tail.tail) (fun hHeld => ?_)
    clear hK' K'
    try simp only [Act.put, zp]
    refine wpAnyH_done (by kernel_rfl) ?_ _
   rotate_left 1
   focus
    have HR1 := (HV2.sel 5 [1, 0, 2, 3, 4])
    have hrA : Rd 1 (.slice (some ⟨bv2, 0, none⟩) 1 1) 1 (intC [a.bound]) _ := (entBlk (k := 1) (n := 1) (cs := intC [a.bound]) rfl (by unfold maxLen; simp)) _ HR1.tail
    refine step_append_hl (ys := #[]) sliceI rfl _ _ rfl (v := vcf) (xv := .slice (some ⟨bv2, 0, none⟩) 1 1) (n := 8) (m := 1) (xs := intC (cfL a.cfg)) (news := intC [a.bound]) HR1 rfl rfl hrA (by simp [Value.oneCell']) (by unfold maxLen; omega) (by omega) ?_
    intro v8 wv3 HX3
    have HV3 : HL w0 wv3 (intsR w0.heap.size v8 (cfL a.cfg ++ [a.bound]) :: _) := HX3
    refine hK'.out _ _ (boxA_cf HV3.tail.tail.tail.tail) (fun hHeld => ?_)
    clear hK' K'
    try simp only [Act.put, zp]
    refine wpAnyH_ready (rs := [1, 9]) (by kernel_rfl) (by simp) ?_
    refine AllReadyH.cons rfl (fun K' hK' => ?_) (AllReadyH.cons rfl (fun K' hK' => ?_) AllReadyH.nil)
    focus
     dsimp only [zg1, zg3, zg2]
     go_simp
     have HV4 := HV3.alloc (.cells #[.string ⟨#[99, 111, 110, 102, 105, 103]⟩] 9)
     generalize World.alloc wv3 _ = wv4 at *
     generalize (wv3.heap.size) = bv4 at *
     refine hK'.out _ _ (boxA_cf HV4.tail.tail.tail.tail.tail) (fun hHeld => ?_)
     clear hK' K'
     try simp only [Act.put, zp]
     refine zry 9 (fun K' hK' => ?_)
     dsimp only [zg1, zg3, zg2]
     have HR2 := (HV4.sel 6 [1, 0, 2, 3, 4, 5])
     have hal := Ref.all_ok HD.out HR2 entRow HF9.out (by simp [cfL])
     clear HR2
     go_simp
     go_at_call 54
     refine hal.mono ?_
     rintro r wv5 ⟨u9, rfl, HV5⟩
     clear hal
     dsimp only
     go_simp
     refine hK'.out _ _ (boxA_cf HV5.tail.tail.tail.tail.tail.tail) (fun hHeld => ?_)
     clear hK' K'
     try simp only [Act.put, zp]
     refine zry 10 (fun K' hK' => ?_)
     have HR0 := (HV5.sel 7 [2, 0, 1, 3, 4, 5, 6])
     have HR1 := HL.strsOf (xs := [(⟨#[99, 111, 110, 102, 105, 103]⟩ : ByteArray)]) HR0 (by unfold maxLen; simp)
     have hrA : Rd 1 u9 9 (strC (allW (cfL a.cfg ++ [a.bound]))) _ := rd_row HR1.tail.head
     refine step_append_hl (ys := #[]) sliceS rfl _ _ rfl (v := .slice (some ⟨bv4, 0, none⟩) 1 1) (xv := u9) (n := 1) (m := 9) (xs := strC [(⟨#[99, 111, 110, 102, 105, 103]⟩ : ByteArray)]) (news := strC (allW (cfL a.cfg ++ [a.bound]))) HR1 rfl rfl hrA (by simp [Value.oneCell']) (by unfold maxLen; omega) (by omega) ?_
     intro v10 wv6 HX6
     have HV6 : HL w0 wv6 (strs w0.heap.size v10 ([(⟨#[99, 111, 110, 102, 105, 103]⟩ : ByteArray)] ++ allW (cfL a.cfg ++ [a.bound])) :: _) := HX6
     refine hK'.out _ _ (boxA_cf HV6.tail.tail.tail.tail.tail.tail) (fun hHeld => ?_)
     clear hK' K'
     try simp only [Act.put, zp]
     refine zry 11 (fun K' hK' => ?_)
     dsimp only [zg1, zg3, zg2]
     have hwd := Ref.words_ok HV6 entRow HZ.out (by simp [allW, cfL])
     rw [HT.out] at hwd
     go_simp
     go_at_call 55
     refine (hwd).mono ?_
     rintro r wv7 ⟨rfl, HV7⟩
     dsimp only
     go_simp
     have m0 := HL.cell HV7.tail.tail.tail.tail 0
     have y0 := HL.frozen HV7.tail.tail.tail.tail 0
     refine hK'.out _ _ (boxA_cf HV7.tail.tail.tail.tail.tail.tail) (fun hHeld => ?_)
     clear hK' K'
     try simp only [Act.put, zp]
     refine ztk 12 ?_
     simp only [Act.put, zp]
     refine zry 13 (fun K' hK' => ?_)
     dsimp only [zg1, zg3, zg2]
     go_simp
     have HV8 := HL.setCell HV7.tail.tail.tail.tail 0 (.string (firstB k a))
     refine hK'.out _ _ (boxA_cf HV8.tail.tail) (fun hHeld => ?_)
     clear hK' K'
     try simp only [Act.put, zp]
     refine wpAnyH_done (by kernel_rfl) ?_ _
    rotate_left 1
    focus
     dsimp only [zg1, zg3, zg2]
     have HR2 := (HV3.sel 5 [0, 1, 2, 3, 4])
     have hal := Ref.all_ok HD.out HR2 entRow HF9.out (by simp [cfL])
     clear HR2
     go_simp
     go_at_call 54
     refine hal.mono ?_
     rintro r wv4 ⟨u9, rfl, HV4⟩
     clear hal
     dsimp only
     go_simp
     refine hK'.out _ _ (boxA_cf HV4.tail.tail.tail.tail.tail) (fun hHeld => ?_)
     clear hK' K'
     try simp only [Act.put, zp]
     refine zry 1 (fun K' hK' => ?_)
     dsimp only [zg1, zg3, zg2]
     go_simp
     have HV5 := HV4.alloc (.cells #[.string ⟨#[99, 111, 110, 102, 105, 103]⟩] 9)
     generalize World.alloc wv4 _ = wv5 at *
     generalize (wv4.heap.size) = bv5 at *
     refine hK'.out _ _ (boxA_cf HV5.tail.tail.tail.tail.tail.tail) (fun hHeld => ?_)
     clear hK' K'
     try simp only [Act.put, zp]
     refine zry 10 (fun K' hK' => ?_)
     have HR0 := (HV5.sel 7 [0, 1, 2, 3, 4, 5, 6])
     have HR1 := HL.strsOf (xs := [(⟨#[99, 111, 110, 102, 105, 103]⟩ : ByteArray)]) HR0 (by unfold maxLen; simp)
     have hrA : Rd 1 u9 9 (strC (allW (cfL a.cfg ++ [a.bound]))) _ := rd_row HR1.tail.head
     refine step_append_hl (ys := #[]) sliceS rfl _ _ rfl (v := .slice (some ⟨bv5, 0, none⟩) 1 1) (xv := u9) (n := 1) (m := 9) (xs := strC [(⟨#[99, 111, 110, 102, 105, 103]⟩ : ByteArray)]) (news := strC (allW (cfL a.cfg ++ [a.bound]))) HR1 rfl rfl hrA (by simp [Value.oneCell']) (by unfold maxLen; omega) (by omega) ?_
     intro v10 wv6 HX6
     have HV6 : HL w0 wv6 (strs w0.heap.size v10 ([(⟨#[99, 111, 110, 102, 105, 103]⟩ : ByteArray)] ++ allW (cfL a.cfg ++ [a.bound])) :: _) := HX6
     refine hK'.out _ _ (boxA_cf HV6.tail.tail.tail.tail.tail.tail) (fun hHeld => ?_)
     clear hK' K'
     try simp only [Act.put, zp]
     refine zry 11 (fun K' hK' => ?_)
     dsimp only [zg1, zg3, zg2]
     have hwd := Ref.words_ok HV6 entRow HZ.out (by simp [allW, cfL])
     rw [HT.out] at hwd
     go_simp
     go_at_call 55
     refine (hwd).mono ?_
     rintro r wv7 ⟨rfl, HV7⟩
     dsimp only
     go_simp
     have m0 := HL.cell HV7.tail.tail.tail.tail 0
     have y0 := HL.frozen HV7.tail.tail.tail.tail 0
     refine hK'.out _ _ (boxA_cf HV7.tail.tail.tail.tail.tail.tail) (fun hHeld => ?_)
     clear hK' K'
     try simp only [Act.put, zp]
     refine ztk 12 ?_
     simp only [Act.put, zp]
     refine zry 13 (fun K' hK' => ?_)
     dsimp only [zg1, zg3, zg2]
     go_simp
     have HV8 := HL.setCell HV7.tail.tail.tail.tail 0 (.string (firstB k a))
     refine hK'.out _ _ (boxA_cf HV8.tail.tail) (fun hHeld => ?_)
     clear hK' K'
     try simp only [Act.put, zp]
     refine wpAnyH_done (by kernel_rfl) ?_ _
    rotate_left 1
   rotate_left 2
  rotate_left 3
 rotate_left 4
 focus
  dsimp only [zg1, zg3, zg2]
  go_simp
  have HV1 := Hd.alloc (.cells #[.int .i64 a.bound] 3)
  generalize World.alloc Wd _ = wv1 at *
  generalize (Wd.heap.size) = bv1 at *
  refine hK'.out _ _ (boxA_cf HV1.tail.tail.tail) (fun hHeld => ?_)
  clear hK' K'
  try simp only [Act.put, zp]
  refine wpAnyH_ready (rs := [1, 4]) (by kernel_rfl) (by simp) ?_
  refine AllReadyH.cons rfl (fun K' hK' => ?_) (AllReadyH.cons rfl (fun K' hK' => ?_) AllReadyH.nil)
  focus
   dsimp only [zg1, zg3, zg2]
   go_simp
   have HV2 := HV1.alloc (.cells #[.string ⟨#[99, 111, 110, 102, 105, 103]⟩] 9)
   generalize World.alloc wv1 _ = wv2 at *
   generalize (wv1.heap.size) = bv2 at *
   refine hK'.out _ _ (boxA_cf HV2.tail.tail.tail.tail) (fun hHeld => ?_)
   clear hK' K'
   try simp only [Act.put, zp]
   refine zry 4 (fun K' hK' => ?_)
   dsimp only [zg1, zg3, zg2]
   have hcf := Ref.config_ok HV2 a.cfg
   unfold cfV at hcf
   go_simp
   go_at_call 32
   refine hcf.mono ?_
   rintro r wv3 ⟨vcf, rfl, HV3⟩
   clear hcf
   dsimp only
   go_simp
   refine hK'.out _ _ (boxA_cf HV3.tail.tail.tail.tail.tail) (fun hHeld => ?_)
   clear hK' K'
   try simp only [Act.put, zp]
   refine zry 8 (fun K' hK' => ?_)
   have HR1 := (HV3.sel 6 [0, 2, 1, 3, 4, 5])
   have hrA : Rd 1 (.slice (some ⟨bv1, 0, none⟩) 1 1) 1 (intC [a.bound]) _ := (entBlk (k := 1) (n := 1) (cs := intC [a.bound]) rfl (by unfold maxLen; simp)) _ HR1.tail
   refine step_append_hl (ys := #[]) sliceI rfl _ _ rfl (v := vcf) (xv := .slice (some ⟨bv1, 0, none⟩) 1 1) (n := 8) (m := 1) (xs := intC (cfL a.cfg)) (news := intC [a.bound]) HR1 rfl rfl hrA (by simp [Value.oneCell']) (by unfold maxLen; omega) (by omega) ?_
   intro v8 wv4 HX4
   have HV4 : HL w0 wv4 (intsR w0.heap.size v8 (cfL a.cfg ++ [a.bound]) :: _) := HX4
   refine hK'.out _ _ (boxA_cf HV4.tail.tail.tail.tail.tail) (fun hHeld => ?_)
   clear hK' K'
   try simp only [Act.put, zp]
   refine zry 9 (fun K' hK' => ?_)
   dsimp only [zg1, zg3, zg2]
   have HR2 := (HV4.sel 6 [0, 1, 2, 3, 4, 5])
   have hal := Ref.all_ok HD.out HR2 entRow HF9.out (by simp [cfL])
   clear HR2
   go_simp
   go_at_call 54
   refine hal.mono ?_
   rintro r wv5 ⟨u9, rfl, HV5⟩
   clear hal
   dsimp only
   go_simp
   refine hK'.out _ _ (boxA_cf HV5.tail.tail.tail.tail.tail.tail) (fun hHeld => ?_)
   clear hK' K'
   try simp only [Act.put, zp]
   refine zry 10 (fun K' hK' => ?_)
   have HR0 := (HV5.sel 7 [3, 0, 1, 2, 4, 5, 6])
   have HR1 := HL.strsOf (xs := [(⟨#[99, 111, 110, 102, 105, 103]⟩ : ByteArray)]) HR0 (by unfold maxLen; simp)
   have hrA : Rd 1 u9 9 (strC (allW (cfL a.cfg ++ [a.bound]))) _ := rd_row HR1.tail.head
   refine step_append_hl (ys := #[]) sliceS rfl _ _ rfl (v := .slice (some ⟨bv2, 0, none⟩) 1 1) (xv := u9) (n := 1) (m := 9) (xs := strC [(⟨#[99, 111, 110, 102, 105, 103]⟩ : ByteArray)]) (news := strC (allW (cfL a.cfg ++ [a.bound]))) HR1 rfl rfl hrA (by simp [Value.oneCell']) (by unfold maxLen; omega) (by omega) ?_
   intro v10 wv6 HX6
   have HV6 : HL w0 wv6 (strs w0.heap.size v10 ([(⟨#[99, 111, 110, 102, 105, 103]⟩ : ByteArray)] ++ allW (cfL a.cfg ++ [a.bound])) :: _) := HX6
   refine hK'.out _ _ (boxA_cf HV6.tail.tail.tail.tail.tail.tail) (fun hHeld => ?_)
   clear hK' K'
   try simp only [Act.put, zp]
   refine zry 11 (fun K' hK' => ?_)
   dsimp only [zg1, zg3, zg2]
   have hwd := Ref.words_ok HV6 entRow HZ.out (by simp [allW, cfL])
   rw [HT.out] at hwd
   go_simp
   go_at_call 55
   refine (hwd).mono ?_
   rintro r wv7 ⟨rfl, HV7⟩
   dsimp only
   go_simp
   have m0 := HL.cell HV7.tail.tail.tail.tail 0
   have y0 := HL.frozen HV7.tail.tail.tail.tail 0
   refine hK'.out _ _ (boxA_cf HV7.tail.tail.tail.tail.tail.tail) (fun hHeld => ?_)
   clear hK' K'
   try simp only [Act.put, zp]
   refine ztk 12 ?_
   simp only [Act.put, zp]
   refine zry 13 (fun K' hK' => ?_)
   dsimp only [zg1, zg3, zg2]
   go_simp
   have HV8 := HL.setCell HV7.tail.tail.tail.tail 0 (.string (firstB k a))
   refine hK'.out _ _ (boxA_cf HV8.tail.tail) (fun hHeld => ?_)
   clear hK' K'
   try simp only [Act.put, zp]
   refine wpAnyH_done (by kernel_rfl) ?_ _
  rotate_left 1
  focus
   dsimp only [zg1, zg3, zg2]
   have hcf := Ref.config_ok HV1 a.cfg
   unfold cfV at hcf
   go_simp
   go_at_call 32
   refine hcf.mono ?_
   rintro r wv2 ⟨vcf, rfl, HV2⟩
   clear hcf
   dsimp only
   go_simp
   refine hK'.out _ _ (boxA_cf HV2.tail.tail.tail.tail) (fun hHeld => ?_)
   clear hK' K'
   try simp only [Act.put, zp]
   refine wpAnyH_ready (rs := [1, 8]) (by kernel_rfl) (by simp) ?_
   refine AllReadyH.cons rfl (fun K' hK' => ?_) (AllReadyH.cons rfl (fun K' hK' => ?_) AllReadyH.nil)
   focus
    dsimp only [zg1, zg3, zg2]
    go_simp
    have HV3 := HV2.alloc (.cells #[.string ⟨#[99, 111, 110, 102, 105, 103]⟩] 9)
    generalize World.alloc wv2 _ = wv3 at *
    generalize (wv2.heap.size) = bv3 at *
    refine hK'.out _ _ (boxA_cf HV3.tail.tail.tail.tail.tail) (fun hHeld => ?_)
    clear hK' K'
    try simp only [Act.put, zp]
    refine zry 8 (fun K' hK' => ?_)
    have HR1 := (HV3.sel 6 [1, 2, 0, 3, 4, 5])
    have hrA : Rd 1 (.slice (some ⟨bv1, 0, none⟩) 1 1) 1 (intC [a.bound]) _ := (entBlk (k := 1) (n := 1) (cs := intC [a.bound]) rfl (by unfold maxLen; simp)) _ HR1.tail
    refine step_append_hl (ys := #[]) sliceI rfl _ _ rfl (v := vcf) (xv := .slice (some ⟨bv1, 0, none⟩) 1 1) (n := 8) (m := 1) (xs := intC (cfL a.cfg)) (news := intC [a.bound]) HR1 rfl rfl hrA (by simp [Value.oneCell']) (by unfold maxLen; omega) (by omega) ?_
    intro v8 wv4 HX4
    have HV4 : HL w0 wv4 (intsR w0.heap.size v8 (cfL a.cfg ++ [a.bound]) :: _) := HX4
    refine hK'.out _ _ (boxA_cf HV4.tail.tail.tail.tail.tail) (fun hHeld => ?_)
    clear hK' K'
    try simp only [Act.put, zp]
    refine zry 9 (fun K' hK' => ?_)
    dsimp only [zg1, zg3, zg2]
    have HR2 := (HV4.sel 6 [0, 1, 2, 3, 4, 5])
    have hal := Ref.all_ok HD.out HR2 entRow HF9.out (by simp [cfL])
    clear HR2
    go_simp
    go_at_call 54
    refine hal.mono ?_
    rintro r wv5 ⟨u9, rfl, HV5⟩
    clear hal
    dsimp only
    go_simp
    refine hK'.out _ _ (boxA_cf HV5.tail.tail.tail.tail.tail.tail) (fun hHeld => ?_)
    clear hK' K'
    try simp only [Act.put, zp]
    refine zry 10 (fun K' hK' => ?_)
    have HR0 := (HV5.sel 7 [3, 0, 1, 2, 4, 5, 6])
    have HR1 := HL.strsOf (xs := [(⟨#[99, 111, 110, 102, 105, 103]⟩ : ByteArray)]) HR0 (by unfold maxLen; simp)
    have hrA : Rd 1 u9 9 (strC (allW (cfL a.cfg ++ [a.bound]))) _ := rd_row HR1.tail.head
    refine step_append_hl (ys := #[]) sliceS rfl _ _ rfl (v := .slice (some ⟨bv3, 0, none⟩) 1 1) (xv := u9) (n := 1) (m := 9) (xs := strC [(⟨#[99, 111, 110, 102, 105, 103]⟩ : ByteArray)]) (news := strC (allW (cfL a.cfg ++ [a.bound]))) HR1 rfl rfl hrA (by simp [Value.oneCell']) (by unfold maxLen; omega) (by omega) ?_
    intro v10 wv6 HX6
    have HV6 : HL w0 wv6 (strs w0.heap.size v10 ([(⟨#[99, 111, 110, 102, 105, 103]⟩ : ByteArray)] ++ allW (cfL a.cfg ++ [a.bound])) :: _) := HX6
    refine hK'.out _ _ (boxA_cf HV6.tail.tail.tail.tail.tail.tail) (fun hHeld => ?_)
    clear hK' K'
    try simp only [Act.put, zp]
    refine zry 11 (fun K' hK' => ?_)
    dsimp only [zg1, zg3, zg2]
    have hwd := Ref.words_ok HV6 entRow HZ.out (by simp [allW, cfL])
    rw [HT.out] at hwd
    go_simp
    go_at_call 55
    refine (hwd).mono ?_
    rintro r wv7 ⟨rfl, HV7⟩
    dsimp only
    go_simp
    have m0 := HL.cell HV7.tail.tail.tail.tail 0
    have y0 := HL.frozen HV7.tail.tail.tail.tail 0
    refine hK'.out _ _ (boxA_cf HV7.tail.tail.tail.tail.tail.tail) (fun hHeld => ?_)
    clear hK' K'
    try simp only [Act.put, zp]
    refine ztk 12 ?_
    simp only [Act.put, zp]
    refine zry 13 (fun K' hK' => ?_)
    dsimp only [zg1, zg3, zg2]
    go_simp
    have HV8 := HL.setCell HV7.tail.tail.tail.tail 0 (.string (firstB k a))
    refine hK'.out _ _ (boxA_cf HV8.tail.tail) (fun hHeld => ?_)
    clear hK' K'
    try simp only [Act.put, zp]
    refine wpAnyH_done (by kernel_rfl) ?_ _
   rotate_left 1
   focus
    have HR1 := (HV2.sel 5 [0, 1, 2, 3, 4])
    have hrA : Rd 1 (.slice (some ⟨bv1, 0, none⟩) 1 1) 1 (intC [a.bound]) _ := (entBlk (k := 1) (n := 1) (cs := intC [a.bound]) rfl (by unfold maxLen; simp)) _ HR1.tail
    refine step_append_hl (ys := #[]) sliceI rfl _ _ rfl (v := vcf) (xv := .slice (some ⟨bv1, 0, none⟩) 1 1) (n := 8) (m := 1) (xs := intC (cfL a.cfg)) (news := intC [a.bound]) HR1 rfl rfl hrA (by simp [Value.oneCell']) (by unfold maxLen; omega) (by omega) ?_
    intro v8 wv3 HX3
    have HV3 : HL w0 wv3 (intsR w0.heap.size v8 (cfL a.cfg ++ [a.bound]) :: _) := HX3
    refine hK'.out _ _ (boxA_cf HV3.tail.tail.tail.tail) (fun hHeld => ?_)
    clear hK' K'
    try simp only [Act.put, zp]
    refine wpAnyH_ready (rs := [1, 9]) (by kernel_rfl) (by simp) ?_
    refine AllReadyH.cons rfl (fun K' hK' => ?_) (AllReadyH.cons rfl (fun K' hK' => ?_) AllReadyH.nil)
    focus
     dsimp only [zg1, zg3, zg2]
     go_simp
     have HV4 := HV3.alloc (.cells #[.string ⟨#[99, 111, 110, 102, 105, 103]⟩] 9)
     generalize World.alloc wv3 _ = wv4 at *
     generalize (wv3.heap.size) = bv4 at *
     refine hK'.out _ _ (boxA_cf HV4.tail.tail.tail.tail.tail) (fun hHeld => ?_)
     clear hK' K'
     try simp only [Act.put, zp]
     refine zry 9 (fun K' hK' => ?_)
     dsimp only [zg1, zg3, zg2]
     have HR2 := (HV4.sel 6 [1, 0, 2, 3, 4, 5])
     have hal := Ref.all_ok HD.out HR2 entRow HF9.out (by simp [cfL])
     clear HR2
     go_simp
     go_at_call 54
     refine hal.mono ?_
     rintro r wv5 ⟨u9, rfl, HV5⟩
     clear hal
     dsimp only
     go_simp
     refine hK'.out _ _ (boxA_cf HV5.tail.tail.tail.tail.tail.tail) (fun hHeld => ?_)
     clear hK' K'
     try simp only [Act.put, zp]
     refine zry 10 (fun K' hK' => ?_)
     have HR0 := (HV5.sel 7 [2, 0, 1, 3, 4, 5, 6])
     have HR1 := HL.strsOf (xs := [(⟨#[99, 111, 110, 102, 105, 103]⟩ : ByteArray)]) HR0 (by unfold maxLen; simp)
     have hrA : Rd 1 u9 9 (strC (allW (cfL a.cfg ++ [a.bound]))) _ := rd_row HR1.tail.head
     refine step_append_hl (ys := #[]) sliceS rfl _ _ rfl (v := .slice (some ⟨bv4, 0, none⟩) 1 1) (xv := u9) (n := 1) (m := 9) (xs := strC [(⟨#[99, 111, 110, 102, 105, 103]⟩ : ByteArray)]) (news := strC (allW (cfL a.cfg ++ [a.bound]))) HR1 rfl rfl hrA (by simp [Value.oneCell']) (by unfold maxLen; omega) (by omega) ?_
     intro v10 wv6 HX6
     have HV6 : HL w0 wv6 (strs w0.heap.size v10 ([(⟨#[99, 111, 110, 102, 105, 103]⟩ : ByteArray)] ++ allW (cfL a.cfg ++ [a.bound])) :: _) := HX6
     refine hK'.out _ _ (boxA_cf HV6.tail.tail.tail.tail.tail.tail) (fun hHeld => ?_)
     clear hK' K'
     try simp only [Act.put, zp]
     refine zry 11 (fun K' hK' => ?_)
     dsimp only [zg1, zg3, zg2]
     have hwd := Ref.words_ok HV6 entRow HZ.out (by simp [allW, cfL])
     rw [HT.out] at hwd
     go_simp
     go_at_call 55
     refine (hwd).mono ?_
     rintro r wv7 ⟨rfl, HV7⟩
     dsimp only
     go_simp
     have m0 := HL.cell HV7.tail.tail.tail.tail 0
     have y0 := HL.frozen HV7.tail.tail.tail.tail 0
     refine hK'.out _ _ (boxA_cf HV7.tail.tail.tail.tail.tail.tail) (fun hHeld => ?_)
     clear hK' K'
     try simp only [Act.put, zp]
     refine ztk 12 ?_
     simp only [Act.put, zp]
     refine zry 13 (fun K' hK' => ?_)
     dsimp only [zg1, zg3, zg2]
     go_simp
     have HV8 := HL.setCell HV7.tail.tail.tail.tail 0 (.string (firstB k a))
     refine hK'.out _ _ (boxA_cf HV8.tail.tail) (fun hHeld => ?_)
     clear hK' K'
     try simp only [Act.put, zp]
     refine wpAnyH_done (by kernel_rfl) ?_ _
    rotate_left 1
    focus
     dsimp only [zg1, zg3, zg2]
     have HR2 := (HV3.sel 5 [0, 1, 2, 3, 4])
     have hal := Ref.all_ok HD.out HR2 entRow HF9.out (by simp [cfL])
     clear HR2
     go_simp
     go_at_call 54
     refine hal.mono ?_
     rintro r wv4 ⟨u9, rfl, HV4⟩
     clear hal
     dsimp only
     go_simp
     refine hK'.out _ _ (boxA_cf HV4.tail.tail.tail.tail.tail) (fun hHeld => ?_)
     clear hK' K'
     try simp only [Act.put, zp]
     refine zry 1 (fun K' hK' => ?_)
     dsimp only [zg1, zg3, zg2]
     go_simp
     have HV5 := HV4.alloc (.cells #[.string ⟨#[99, 111, 110, 102, 105, 103]⟩] 9)
     generalize World.alloc wv4 _ = wv5 at *
     generalize (wv4.heap.size) = bv5 at *
     refine hK'.out _ _ (boxA_cf HV5.tail.tail.tail.tail.tail.tail) (fun hHeld => ?_)
     clear hK' K'
     try simp only [Act.put, zp]
     refine zry 10 (fun K' hK' => ?_)
     have HR0 := (HV5.sel 7 [0, 1, 2, 3, 4, 5, 6])
     have HR1 := HL.strsOf (xs := [(⟨#[99, 111, 110, 102, 105, 103]⟩ : ByteArray)]) HR0 (by unfold maxLen; simp)
     have hrA : Rd 1 u9 9 (strC (allW (cfL a.cfg ++ [a.bound]))) _ := rd_row HR1.tail.head
     refine step_append_hl (ys := #[]) sliceS rfl _ _ rfl (v := .slice (some ⟨bv5, 0, none⟩) 1 1) (xv := u9) (n := 1) (m := 9) (xs := strC [(⟨#[99, 111, 110, 102, 105, 103]⟩ : ByteArray)]) (news := strC (allW (cfL a.cfg ++ [a.bound]))) HR1 rfl rfl hrA (by simp [Value.oneCell']) (by unfold maxLen; omega) (by omega) ?_
     intro v10 wv6 HX6
     have HV6 : HL w0 wv6 (strs w0.heap.size v10 ([(⟨#[99, 111, 110, 102, 105, 103]⟩ : ByteArray)] ++ allW (cfL a.cfg ++ [a.bound])) :: _) := HX6
     refine hK'.out _ _ (boxA_cf HV6.tail.tail.tail.tail.tail.tail) (fun hHeld => ?_)
     clear hK' K'
     try simp only [Act.put, zp]
     refine zry 11 (fun K' hK' => ?_)
     dsimp only [zg1, zg3, zg2]
     have hwd := Ref.words_ok HV6 entRow HZ.out (by simp [allW, cfL])
     rw [HT.out] at hwd
     go_simp
     go_at_call 55
     refine (hwd).mono ?_
     rintro r wv7 ⟨rfl, HV7⟩
     dsimp only
     go_simp
     have m0 := HL.cell HV7.tail.tail.tail.tail 0
     have y0 := HL.frozen HV7.tail.tail.tail.tail 0
     refine hK'.out _ _ (boxA_cf HV7.tail.tail.tail.tail.tail.tail) (fun hHeld => ?_)
     clear hK' K'
     try simp only [Act.put, zp]
     refine ztk 12 ?_
     simp only [Act.put, zp]
     refine zry 13 (fun K' hK' => ?_)
     dsimp only [zg1, zg3, zg2]
     go_simp
     have HV8 := HL.setCell HV7.tail.tail.tail.tail 0 (.string (firstB k a))
     refine hK'.out _ _ (boxA_cf HV8.tail.tail) (fun hHeld => ?_)
     clear hK' K'
     try simp only [Act.put, zp]
     refine wpAnyH_done (by kernel_rfl) ?_ _
    rotate_left 1
   rotate_left 2
  rotate_left 3
 rotate_left 4
 all_goals
  have H6 : HL w0 _ (strs w0.heap.size (.slice (some ⟨b6, 0, none⟩) 1 1) [firstB k a] :: boxJ bj a.job (.slice As a.job.set.length cs) :: boxA b1 a (.slice Ae a.events.length ce) (.slice As a.job.set.length cs) (.slice Ar a.ranks.length cr) :: L) := HL.strsOf (xs := [firstB k a]) HV8 (by unfold maxLen; simp)
  clear m0 y0 HV8
  generalize World.setCell _ _ _ = W6 at *
  go_upto_region 27 with (fail)
  have HLS := Lib.hid (show linesR k a = [firstB k a] ++ a.events.map evS by rw [HLN.out, HNR.out]; rfl)
  have HLL := Lib.hid (show [firstB k a].length ≤ 4194305 by simp)
  have c2 : World.cell? _ ⟨b1, 2, none⟩ = some (.slice Ae a.events.length ce) := HL.cell H6.tail.tail 2
  have hEr := fun W' v l (HH : HL w0 W' (strs w0.heap.size v l :: boxJ bj a.job (.slice As a.job.set.length cs) :: boxA b1 a (.slice Ae a.events.length ce) (.slice As a.job.set.length cs) (.slice Ar a.ranks.length cr) :: L)) => (((HE.out.cons _).cons _).cons _).rd W' HH
  have hEo := fun p hp A4 A5 => (((((HE.out.own p hp).cons (boxA b1 a (.slice Ae a.events.length ce) (.slice As a.job.set.length cs) (.slice Ar a.ranks.length cr))).cons (boxJ bj a.job (.slice As a.job.set.length cs))).cons A4)).cons A5
  have HER := Lib.hid hEr; have HEO := Lib.hid hEo
  obtain ⟨-, -, aE, cE, hvE, hE1, hE2, -, -⟩ := hEr _ _ _ H6
  simp only [Value.slice.injEq] at hvE
  obtain ⟨rfl, hlE, rfl⟩ := hvE
  unfold maxLen at hE2
  rw [← hlE] at hE1
  have HLE := Lib.hid hlE
  have hev := fun e he (W' : World) v L' (HH : HL w0 W' L') (h : Ints w0 L' v e.list) => Ref.event_ok HD.out HH e h (HOK.out.events e he) (HFW.out e he)
  have HEV := Lib.hid hev
  clear hev hEr hEo hlE
  go_wp2
  clear c2
  go_loopg [6, 148] a.events.length (fun g t6 i wr => ∃ (n : Nat) (v : Value), i = .int .i64 n ∧ n + g = a.events.length ∧ t6 = v ∧ HL w0 wr (strs w0.heap.size v ([firstB k a] ++ (a.events.take n).map evS) :: boxJ bj a.job (.slice As a.job.set.length cs) :: boxA b1 a (.slice Ae a.events.length ce) (.slice As a.job.set.length cs) (.slice Ar a.ranks.length cr) :: L))
  case atStart => exact ⟨0, _, rfl, by omega, rfl, by rw [List.take_zero, List.map_nil, List.append_nil]; exact H6⟩
  case round =>
   obtain ⟨n, v, rfl, hn, rfl, HK⟩ := hrel
   clear H6
   by_cases hlt : n < a.events.length
   ·obtain ⟨⟨e, u⟩, hp⟩ : ∃ p, ps[n]? = some p := ⟨_, List.getElem?_eq_getElem (by rw [← HLE.out]; exact hlt)⟩
    have hev : a.events[n]? = some e := by rw [HPS.out, List.getElem?_map, hp]; rfl
    obtain ⟨b', o', c', hv, d0, d1, d2, d3, d4, d5⟩ := ev_at (HER.out _ _ _ HK) hp
    simp only [Value.slice.injEq] at hv
    obtain ⟨rfl, -, rfl⟩ := hv
    have ho := HEO.out (e, u) (List.mem_of_getElem? hp)
    dsimp only at ho d0 d1 d2 d3 d4 d5
    have HA := HL.allocE HK e u
    obtain ⟨Au, cu, rfl, -, -⟩ := rd_shape (ho _ _ _ HA)
    have hnx : [firstB k a] ++ (a.events.take (n + 1)).map evS = ([firstB k a] ++ (a.events.take n).map evS) ++ [evS e] := by rw [List.take_add_one, hev]; simp
    have hlx : ([firstB k a] ++ (a.events.take n).map evS).length ≤ 4294967296 := by
     have h1 := HLL.out
     have h2 := HFE.out
     rw [List.length_append, List.length_map, List.length_take]
     omega
    have hri := HEV.out e (List.mem_of_getElem? hev) _ _ _ HA (ho _ _)
    unfold evV at hri
    obtain ⟨m0, m1, m2, m3, m4, m5⟩ := boxE_cells HA
    have HN := Lib.hid hnx; have HP2 := Lib.hid hp
    generalize [firstB k a] ++ (a.events.take n).map evS = l at *
    generalize evS e = es at *
    generalize evN e = en at *
    obtain ⟨A6, z6, rfl, hc1, hc2⟩ := rd_shape (entRow _ HK)
    unfold maxLen at hc2
    clear hnx hev hp ho
    go_wp2_with (first
     | (go_at_call 35; refine hri.mono ?_; rintro r w3 ⟨rfl, H3⟩; clear HA m0 m1 m2 m3 m4 m5; have HB := H3.tail.alloc' (.cells #[.string es] 9); have hr4 := rd_str (w := w3) (y := es))
     | (at_builtin; refine append_str (v := .slice A6 l.length z6) (xs := l) (y := es) (b := w3.heap.size) rfl _ _ rfl HB rfl rfl hr4 hlx ?_; intro z5 w8 H8; clear HB hr4 HK))
    go_roundg (gk - 1)
    case measure => omega
    case rel => exact ⟨n + 1, _, by go_num, by omega, rfl, by rw [HN.out]; exact H8⟩
   ·rw [List.take_of_length_le (by omega)] at HK
    rw [← HLS.out] at HK
    go_wp2
    go_ret
    exact ⟨_, rfl, HK.sel 3 [0]⟩
end
end Go.Proofs.YtdekbbffoaphhaaGreatDoor

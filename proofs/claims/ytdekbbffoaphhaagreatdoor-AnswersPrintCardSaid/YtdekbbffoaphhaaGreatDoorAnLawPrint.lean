/- The law AnswersPrint: which answers may be, the text of each, and back; what was read stays as it is, whatever becomes of another one. -/
import Derived.Test.YtdekbbffoaphhaaGreatDoorAnZipB
import Derived.Test.YtdekbbffoaphhaaGreatDoorAnLent
import Derived.Test.YtdekbbffoaphhaaGreatDoorAnSpoilB
import Derived.Test.YtdekbbffoaphhaaGreatDoorAnJoinsP
import Derived.Test.YtdekbbffoaphhaaGreatDoorAnShown
import Derived.Test.YtdekbbffoaphhaaGreatDoorAnRefSame
import Derived.Test.YtdekbbffoaphhaaGreatDoorAnPkI
import Derived.Test.YtdekbbffoaphhaaGreatDoorAnRefCk
set_option linter.unusedVariables false
set_option linter.unusedSimpArgs false
set_option maxRecDepth 100000
set_option maxHeartbeats 8000000
namespace Go.Proofs.YtdekbbffoaphhaaGreatDoor
open Go.RowKit Go.Proofs.HL Go.Proofs.An
/-- The lists of an answer, as they can be read. -/
def Lst (w0 : World) (L : List At) (a : Ans) (Ae As Ar : Option Addr) (ce cs cr : Nat) : Prop := ∃ ps : List (Ev × Value), a.events = ps.map (·.1) ∧ Evs w0 L (.slice Ae a.events.length ce) ps ∧ Ints w0 L (.slice As a.job.set.length cs) a.job.set ∧ Rks w0 L (.slice Ar a.ranks.length cr) a.ranks
theorem Lst.mono {w0 : World} {L M : List At} {a : Ans} {Ae As Ar : Option Addr} {ce cs cr : Nat} (h : Lst w0 L a Ae As Ar ce cs cr) (f : ∀ w, HL w0 w M → HL w0 w L) : Lst w0 M a Ae As Ar ce cs cr := by
  obtain ⟨ps, h1, h2, h3, h4⟩ := h
  exact ⟨ps, h1, ⟨fun w H => h2.rd w (f w H), fun p hp w H => h2.own p hp w (f w H)⟩, fun w H => h3 w (f w H), fun w H => h4 w (f w H)⟩
theorem hlNone {w0 w : World} {L : List At} (H : HL w0 w L) : HL w0 w [] := ⟨H.below, (fun _ h => nomatch h), List.Pairwise.nil⟩
theorem Lst.same {w0 w : World} {L : List At} {a : Ans} {Ae As Ar Ae' As' Ar' : Option Addr} {ce cs cr ce' cs' cr' : Nat} (h : Lst w0 L a Ae As Ar ce cs cr) (h' : Lst w0 L a Ae' As' Ar' ce' cs' cr') (H : HL w0 w L) :
    Calls Tryz.prog 12 #[.agg (ansA a (.slice Ae a.events.length ce) (.slice As a.job.set.length cs) (.slice Ar a.ranks.length cr)), .agg (ansA a (.slice Ae' a.events.length ce') (.slice As' a.job.set.length cs') (.slice Ar' a.ranks.length cr'))] w fun r w' => r = .returned (.bool true) ∧ HL w0 w' L := by
  obtain ⟨ps, h1, h2, h3, h4⟩ := h
  obtain ⟨qs, k1, k2, k3, k4⟩ := h'
  have := Ref.Same_ok H a a Ae As Ar Ae' As' Ar' ce cs cr ce' cs' cr' h1 k1 h2 h3 h4 k2 k3 k4
  rw [show sameA a a = true by rw [sameA_eq]; simp] at this
  exact this
theorem run_load_row {P : Program} {o : Oper} {f : Operand → Value} {w : World} (ty : TypeId) (x : Operand) (ho : o.op = .load ty x) (g : Nat) (hx : f x = .pointer (some ⟨g, 0, none⟩)) (t : TypeId) (cs : Array Value) (fr : Nat × Nat) (d : TypeDesc) (hg : w.heap[g]? = some (.cells cs t fr))
    (hu : P.underlying ty = some d) (hd : (match d with | .struct _ | .array _ _ => true | _ => false) = true) (hi : (P.info? ty).map (·.size) = some cs.size) : (execOp f o).run P w = .ok (.value (.agg cs)) w := by
  unfold execOp
  simp only [ho, hx, Instr.loadAt, Instr.sureAddr, Sem.run_bind, Sem.run_pure, Result.andThen_ok, run_loadVar_row w g t ty cs fr d hg hu hd hi]
/-- What the reader of an answer's text makes may be written over. -/
theorem spoil_read {w0 w : World} {K L : List At} (H : HL w0 w (K ++ L)) {a : Ans} {Ae As Ar : Option Addr} {ce cs cr : Nat} {ps : List (Ev × Value)} (hps : a.events = ps.map (·.1)) (hE : Evs w0 K (.slice Ae a.events.length ce) ps)
    (hW : Wrs w0.heap.size K (.slice Ae a.events.length ce) (.slice As a.job.set.length cs) (.slice Ar a.ranks.length cr) ps) (ht : total a ≤ 4194304) :
    Calls Tryz.prog 14 #[.agg (ansA a (.slice Ae a.events.length ce) (.slice As a.job.set.length cs) (.slice Ar a.ranks.length cr))] w fun e w' => e = .returned (.tuple #[]) ∧ HL w0 w' L := by
  have hl : a.events.length = ps.length := by rw [hps, List.length_map]
  obtain ⟨M, G, Gr, pe, H1, h1, h2, h3, h4, h5⟩ := spoil_frame (B := 4294967296) H hl hW (fun p hp => by
    obtain ⟨Au, cu, e, -, -⟩ := rd_shape (hE.own p hp w H.left)
    have hm : p.1 ∈ a.events := by rw [hps]; exact List.mem_map_of_mem hp
    have := lens_mem hm
    unfold total at ht
    exact ⟨Au, _, cu, e, by omega⟩)
  unfold total at ht
  refine (spoil_ok H1 h1 h2 h3 (fun p hp => List.mem_append_left _ (h4 p hp)) (fun p hp => List.mem_append_left _ (h5 p hp)) (by omega) (by omega) (by omega) (Nat.le_refl _)).mono ?_
  rintro e w' ⟨rfl, h⟩
  exact ⟨rfl, h.drops⟩
theorem answersPrint_law {w : World} (hD : Doors w) (k : Int) (a : Ans) (Ae As Ar : Option Addr) (ce cs cr : Nat) {ps : List (Ev × Value)} (hps : a.events = ps.map (·.1)) (hE : Evs w [] (.slice Ae a.events.length ce) ps) (hI : Ints w [] (.slice As a.job.set.length cs) a.job.set) (hR : Rks w [] (.slice Ar a.ranks.length cr) a.ranks) (hp : AnsPre a) :
    Calls Tryz.prog 3 #[.int .i64 k, ansV a (.slice Ae a.events.length ce) (.slice As a.job.set.length cs) (.slice Ar a.ranks.length cr)] w fun e w' => e = .returned (.bool true) ∧ Below w.heap.size w w' := by
  have H1 := HL.allocA (HL.start w) a (.slice Ae a.events.length ce) (.slice As a.job.set.length cs) (.slice Ar a.ranks.length cr)
  have hlv : ∀ M, Lst w M a Ae As Ar ce cs cr := fun M => Lst.mono ⟨ps, hps, hE, hI, hR⟩ (fun _ H => hlNone H)
  have G1 : _ = some (Obj.cells (ansA a (.slice Ae a.events.length ce) (.slice As a.job.set.length cs) (.slice Ar a.ranks.length cr)) 32 (0, 0)) := H1.head
  have hhv : Calls Tryz.prog 5 #[.agg (ansA a (.slice Ae a.events.length ce) (.slice As a.job.set.length cs) (.slice Ar a.ranks.length cr))] _ _ := heavy_ok H1 a Ae As Ar ce cs cr hps (hE.cons _) hp.lenS hp.lenR hp.lenE (fun e he => (hp.events e he).len)
  have HLV := Lib.hid hlv
  unfold ansV
  generalize hb1 : w.heap.size = b1 at *
  have HB1 := Lib.hid hb1
  clear hE hI hR hps hlv
  by_cases hh : 4194304 < total a
  · rw [decide_eq_true hh] at hhv
    clear hh
    go_enter Tryz.func3, Tryz.ntmps3
    go_wp2_with (first
      | (have g1 := G1; refine wpList_load_row rfl 32 _ rfl b1 rfl 32 _ (0, 0) _ g1 Tryz.underlying32 rfl (ansA_size _ _ _ _) ?_; clear g1)
      | (go_at_call 5; (with_reducible refine hhv.mono ?_); rintro r w2 ⟨rfl, H2⟩; clear hhv))
    go_ret
    exact ⟨rfl, by rw [← HB1.out]; exact H2.below⟩
  have htot : total a ≤ 4194304 := by omega
  rw [decide_eq_false hh] at hhv
  have hok := hp.ok htot
  have hsz := printT_most (k := k) hok htot
  have hel : a.events.length ≤ 4194304 := by unfold total at htot; omega
  have hes : a.job.set.length ≤ 4194304 := by unfold total at htot; omega
  have her : a.ranks.length ≤ 4194304 := by unfold total at htot; omega
  have hew : ∀ e ∈ a.events, e.list.length ≤ 4194304 := fun e he => by have := lens_mem he; unfold total at htot; omega
  have HOK := Lib.hid hok; have HSZ := Lib.hid hsz; have HTOT := Lib.hid htot; have HEW := Lib.hid hew
  clear hh hp hok hsz htot hew
  go_enter Tryz.func3, Tryz.ntmps3
  go_upto_region 5 with (first
    | (have g1 := G1; refine wpList_load_row rfl 32 _ rfl b1 rfl 32 _ (0, 0) _ g1 Tryz.underlying32 rfl (ansA_size _ _ _ _) ?_; clear g1)
    | (go_at_call 5; (with_reducible refine hhv.mono ?_); rintro r w2 ⟨rfl, H2⟩; clear hhv H1; have hs := shown_ok hD H2)
    | (go_at_call 6; refine hs.mono ?_; rintro r w3 ⟨rfl, H3⟩; clear hs H2; have G1 : _ = some (Obj.cells (ansA a (.slice Ae a.events.length ce) (.slice As a.job.set.length cs) (.slice Ar a.ranks.length cr)) 32 (0, 0)) := H3.head))
  obtain ⟨ps0, q1, q2, q3, q4⟩ := HLV.out [boxA b1 a (.slice Ae a.events.length ce) (.slice As a.job.set.length cs) (.slice Ar a.ranks.length cr)]
  have hln : Calls Tryz.prog 7 #[.agg (ansA a (.slice Ae a.events.length ce) (.slice As a.job.set.length cs) (.slice Ar a.ranks.length cr))] _ _ := lent_ok H3 a Ae As Ar ce cs cr q1 q2 q3 q4 hel hes her (fun e he => by have := HEW.out e he; omega)
  unfold LentPost at hln
  clear q1 q2 q3 q4 ps0
  go_upto_region 6 with (first
    | (have g1 := G1; refine wpList_load_row rfl 32 _ rfl b1 rfl 32 _ (0, 0) _ g1 Tryz.underlying32 rfl (ansA_size _ _ _ _) ?_; clear g1)
    | (go_at_call 7; (with_reducible refine hln.mono ?_); rintro r w4 ⟨K1, Ae1, As1, Ar1, ce1, cs1, cr1, ps1, rfl, p1, p2, p3, p4, H4⟩; clear hln H3; have hl1 : Lst w K1 a Ae1 As1 Ar1 ce1 cs1 cr1 := ⟨ps1, p1, p2, p3, p4⟩; have HL1 := Lib.hid hl1; clear p1 p2 p3 p4 hl1; have H5 := HL.bzA H4; have G4 : _ = some (Obj.cells _ 32 (0, 0)) := H5.head; have H6 : HL w _ (boxA w4.heap.size a (.slice Ae1 a.events.length ce1) (.slice As1 a.job.set.length cs1) (.slice Ar1 a.ranks.length cr1) :: _) := HL.setWhole (cells := ansA a (.slice Ae1 a.events.length ce1) (.slice As1 a.job.set.length cs1) (.slice Ar1 a.ranks.length cr1)) H5)
    | (refine wpList_store_row rfl 32 _ _ rfl w4.heap.size (ansA a (.slice Ae1 a.events.length ce1) (.slice As1 a.job.set.length cs1) (.slice Ar1 a.ranks.length cr1)) rfl rfl 32 _ G4 (ansA_size _ _ _ _) rfl (ansA_one _ _ _ _ _ _ _ _ _ _) ?_))
  clear H5 G4 H4
  generalize World.setRow _ _ _ = W6 at *
  generalize w4.heap.size = b4 at *
  have hl1 : Lst w (boxA b4 a (.slice Ae1 a.events.length ce1) (.slice As1 a.job.set.length cs1) (.slice Ar1 a.ranks.length cr1) :: (K1 ++ [boxA b1 a (.slice Ae a.events.length ce) (.slice As a.job.set.length cs) (.slice Ar a.ranks.length cr)])) a Ae1 As1 Ar1 ce1 cs1 cr1 := HL1.out.mono (fun _ H => HL.left H.tail)
  have HL4 := Lib.hid hl1
  have g1 : ∀ W, HL w W (boxA b4 a (.slice Ae1 a.events.length ce1) (.slice As1 a.job.set.length cs1) (.slice Ar1 a.ranks.length cr1) :: (K1 ++ [boxA b1 a (.slice Ae a.events.length ce) (.slice As a.job.set.length cs) (.slice Ar a.ranks.length cr)])) → W.heap[b1]? = some (Obj.cells (ansA a (.slice Ae a.events.length ce) (.slice As a.job.set.length cs) (.slice Ar a.ranks.length cr)) 32 (0, 0)) := fun W H => HL.head (A := boxA b1 a (.slice Ae a.events.length ce) (.slice As a.job.set.length cs) (.slice Ar a.ranks.length cr)) (HL.drops (K := K1) H.tail)
  have g4 : ∀ W, HL w W (boxA b4 a (.slice Ae1 a.events.length ce1) (.slice As1 a.job.set.length cs1) (.slice Ar1 a.ranks.length cr1) :: (K1 ++ [boxA b1 a (.slice Ae a.events.length ce) (.slice As a.job.set.length cs) (.slice Ar a.ranks.length cr)])) → W.heap[b4]? = some (Obj.cells (ansA a (.slice Ae1 a.events.length ce1) (.slice As1 a.job.set.length cs1) (.slice Ar1 a.ranks.length cr1)) 32 (0, 0)) := fun W H => HL.head (A := boxA b4 a (.slice Ae1 a.events.length ce1) (.slice As1 a.job.set.length cs1) (.slice Ar1 a.ranks.length cr1)) H
  have GG1 := Lib.hid g1; have GG4 := Lib.hid g4
  clear g1 g4 hl1 G1
  have hpr : Calls Tryz.prog 8 #[.int .i64 k, .agg (ansA a (.slice Ae1 a.events.length ce1) (.slice As1 a.job.set.length cs1) (.slice Ar1 a.ranks.length cr1))] W6 fun r w' => r = .returned (.tuple #[.string (printS k a), .int .i64 (checkA k a)]) ∧ HL w w' (boxA b4 a (.slice Ae1 a.events.length ce1) (.slice As1 a.job.set.length cs1) (.slice Ar1 a.ranks.length cr1) :: (K1 ++ [boxA b1 a (.slice Ae a.events.length ce) (.slice As a.job.set.length cs) (.slice Ar a.ranks.length cr)])) := by
    obtain ⟨qs, q1, q2, q3, q4⟩ := HL4.out
    exact print_ok hD fmtU_all H6 k a Ae1 As1 Ar1 ce1 cs1 cr1 q1 q2 q3 q4 HOK.out (by have := HSZ.out; omega)
  go_upto_region 7 with (first
    | (have g1 := GG4.out _ H6; refine wpList_load_row rfl 32 _ rfl b4 rfl 32 _ (0, 0) _ g1 Tryz.underlying32 rfl (ansA_size _ _ _ _) ?_; clear g1)
    | (go_at_call 8; (with_reducible refine hpr.mono ?_); rintro r w7 ⟨rfl, H7⟩; clear hpr H6))
  have hpr : Calls Tryz.prog 9 #[.int .i64 k, .agg (ansA a (.slice Ae a.events.length ce) (.slice As a.job.set.length cs) (.slice Ar a.ranks.length cr))] w7 fun r w' => r = .returned (.tuple #[.string (printS k a), .int .i64 (checkA k a)]) ∧ HL w w' (boxA b4 a (.slice Ae1 a.events.length ce1) (.slice As1 a.job.set.length cs1) (.slice Ar1 a.ranks.length cr1) :: (K1 ++ [boxA b1 a (.slice Ae a.events.length ce) (.slice As a.job.set.length cs) (.slice Ar a.ranks.length cr)])) := by
    obtain ⟨qs, q1, q2, q3, q4⟩ := HLV.out (boxA b4 a (.slice Ae1 a.events.length ce1) (.slice As1 a.job.set.length cs1) (.slice Ar1 a.ranks.length cr1) :: (K1 ++ [boxA b1 a (.slice Ae a.events.length ce) (.slice As a.job.set.length cs) (.slice Ar a.ranks.length cr)]))
    exact Ref.print_ok hD fmtU_all H7 k a Ae As Ar ce cs cr q1 q2 q3 q4 HOK.out (fun e he => by have := HEW.out e he; omega) hel her hes HSZ.out
  go_upto_region 8 with (first
    | (have g1 := GG1.out _ H7; refine wpList_load_row rfl 32 _ rfl b1 rfl 32 _ (0, 0) _ g1 Tryz.underlying32 rfl (ansA_size _ _ _ _) ?_; clear g1)
    | (go_at_call 9; (with_reducible refine hpr.mono ?_); rintro r w8 ⟨rfl, H8⟩; clear hpr H7))
  have hck : ∀ W, HL w W (boxA b4 a (.slice Ae1 a.events.length ce1) (.slice As1 a.job.set.length cs1) (.slice Ar1 a.ranks.length cr1) :: (K1 ++ [boxA b1 a (.slice Ae a.events.length ce) (.slice As a.job.set.length cs) (.slice Ar a.ranks.length cr)])) → Calls Tryz.prog 10 #[.int .i64 k, .agg (ansA a (.slice Ae1 a.events.length ce1) (.slice As1 a.job.set.length cs1) (.slice Ar1 a.ranks.length cr1))] W fun r w' => r = .returned (.int .i64 (checkA k a)) ∧ HL w w' (boxA b4 a (.slice Ae1 a.events.length ce1) (.slice As1 a.job.set.length cs1) (.slice Ar1 a.ranks.length cr1) :: (K1 ++ [boxA b1 a (.slice Ae a.events.length ce) (.slice As a.job.set.length cs) (.slice Ar a.ranks.length cr)])) := fun W HW => by
    obtain ⟨qs, q1, q2, q3, q4⟩ := HL4.out
    exact check_ok HW k a Ae1 As1 Ar1 ce1 cs1 cr1 q1 q2 q3 q4
  have hcr : ∀ W, HL w W (boxA b4 a (.slice Ae1 a.events.length ce1) (.slice As1 a.job.set.length cs1) (.slice Ar1 a.ranks.length cr1) :: (K1 ++ [boxA b1 a (.slice Ae a.events.length ce) (.slice As a.job.set.length cs) (.slice Ar a.ranks.length cr)])) → Calls Tryz.prog 11 #[.int .i64 k, .agg (ansA a (.slice Ae a.events.length ce) (.slice As a.job.set.length cs) (.slice Ar a.ranks.length cr))] W fun r w' => r = .returned (.int .i64 (checkA k a)) ∧ HL w w' (boxA b4 a (.slice Ae1 a.events.length ce1) (.slice As1 a.job.set.length cs1) (.slice Ar1 a.ranks.length cr1) :: (K1 ++ [boxA b1 a (.slice Ae a.events.length ce) (.slice As a.job.set.length cs) (.slice Ar a.ranks.length cr)])) := fun W HW => by
    obtain ⟨qs, q1, q2, q3, q4⟩ := HLV.out (boxA b4 a (.slice Ae1 a.events.length ce1) (.slice As1 a.job.set.length cs1) (.slice Ar1 a.ranks.length cr1) :: (K1 ++ [boxA b1 a (.slice Ae a.events.length ce) (.slice As a.job.set.length cs) (.slice Ar a.ranks.length cr)]))
    exact Ref.check_ok hD HW k a Ae As Ar ce cs cr q1 q2 q3 q4 HOK.out (fun e he => by have := HEW.out e he; omega)
  have hsm : ∀ W, HL w W (boxA b4 a (.slice Ae1 a.events.length ce1) (.slice As1 a.job.set.length cs1) (.slice Ar1 a.ranks.length cr1) :: (K1 ++ [boxA b1 a (.slice Ae a.events.length ce) (.slice As a.job.set.length cs) (.slice Ar a.ranks.length cr)])) → Calls Tryz.prog 12 #[.agg (ansA a (.slice Ae1 a.events.length ce1) (.slice As1 a.job.set.length cs1) (.slice Ar1 a.ranks.length cr1)), .agg (ansA a (.slice Ae a.events.length ce) (.slice As a.job.set.length cs) (.slice Ar a.ranks.length cr))] W fun r w' => r = .returned (.bool true) ∧ HL w w' (boxA b4 a (.slice Ae1 a.events.length ce1) (.slice As1 a.job.set.length cs1) (.slice Ar1 a.ranks.length cr1) :: (K1 ++ [boxA b1 a (.slice Ae a.events.length ce) (.slice As a.job.set.length cs) (.slice Ar a.ranks.length cr)])) := fun W HW => HL4.out.same (HLV.out _) HW
  have cq : (checkA k a != checkA k a) = false := by simp
  have sq : ((printS k a).toList == (printS k a).toList) = true := beq_self_eq_true _

  refine wp_region_held_drew (S := fun W => HL w W (boxA b4 a (.slice Ae1 a.events.length ce1) (.slice As1 a.job.set.length cs1) (.slice Ar1 a.ranks.length cr1) :: (K1 ++ [boxA b1 a (.slice Ae a.events.length ce) (.slice As a.job.set.length cs) (.slice Ar a.ranks.length cr)]))) (by kernel_rfl) (H8.drew) (fun hHeld => ?_)
  refine wpAnyH_take (i := 0) (v := ?_) rfl (by kernel_rfl) (by kernel_rfl) (by kernel_rfl) (fun _ _ _ h => h) (Or.inl ⟨by rfl, ?_⟩) (by assumption) ?_
  rotate_left
  · (intro w hSw; go_simp; try with_reducible rfl)
  simp only [Act.put, List.getElem_toArray, List.getElem_cons_zero, List.getElem_cons_succ, List.setIfInBounds_toArray, List.set_cons_zero, List.set_cons_succ]
  refine wpAnyH_take (i := 1) (v := .agg (ansA a (.slice Ae1 a.events.length ce1) (.slice As1 a.job.set.length cs1) (.slice Ar1 a.ranks.length cr1))) rfl (by kernel_rfl) (by kernel_rfl) (by kernel_rfl) (fun _ _ _ h => h) (Or.inl ⟨by rfl, ?_⟩) (by assumption) ?_
  · (intro w hSw; exact run_load_row 32 _ rfl b4 rfl 32 _ (0, 0) _ (GG4.out _ hSw) Tryz.underlying32 rfl (ansA_size _ _ _ _))
  simp only [Act.put, List.getElem_toArray, List.getElem_cons_zero, List.getElem_cons_succ, List.setIfInBounds_toArray, List.set_cons_zero, List.set_cons_succ]
  refine wpAnyH_take (i := 3) (v := ?_) rfl (by kernel_rfl) (by kernel_rfl) (by kernel_rfl) (fun _ _ _ h => h) (Or.inl ⟨by rfl, ?_⟩) (by assumption) ?_
  rotate_left
  · (intro w hSw; go_simp; try with_reducible rfl)
  simp only [Act.put, List.getElem_toArray, List.getElem_cons_zero, List.getElem_cons_succ, List.setIfInBounds_toArray, List.set_cons_zero, List.set_cons_succ]
  refine wpAnyH_take (i := 4) (v := .agg (ansA a (.slice Ae a.events.length ce) (.slice As a.job.set.length cs) (.slice Ar a.ranks.length cr))) rfl (by kernel_rfl) (by kernel_rfl) (by kernel_rfl) (fun _ _ _ h => h) (Or.inl ⟨by rfl, ?_⟩) (by assumption) ?_
  · (intro w hSw; exact run_load_row 32 _ rfl b1 rfl 32 _ (0, 0) _ (GG1.out _ hSw) Tryz.underlying32 rfl (ansA_size _ _ _ _))
  simp only [Act.put, List.getElem_toArray, List.getElem_cons_zero, List.getElem_cons_succ, List.setIfInBounds_toArray, List.set_cons_zero, List.set_cons_succ]
  refine wpAnyH_ready (rs := [2]) (by kernel_rfl) (by simp) ?_
  refine AllReadyH.cons rfl (fun K' hK' => ?_) AllReadyH.nil
  dsimp only [List.getElem_toArray, List.getElem_cons_succ, List.getElem_cons_zero]
  go_simp
  go_at_call 10; (with_reducible refine (hck _ (by assumption)).mono ?_); rintro r wc ⟨rfl, HC⟩
  try go_simp
  refine hK'.out _ _ HC (fun hHeld => ?_)
  clear hK' K'
  try simp only [Act.put, List.getElem_toArray, List.getElem_cons_zero, List.getElem_cons_succ, List.setIfInBounds_toArray, List.set_cons_zero, List.set_cons_succ]
  refine wpAnyH_ready (rs := [5]) (by kernel_rfl) (by simp) ?_
  refine AllReadyH.cons rfl (fun K' hK' => ?_) AllReadyH.nil
  dsimp only [List.getElem_toArray, List.getElem_cons_succ, List.getElem_cons_zero]
  go_simp
  go_at_call 11; (with_reducible refine (hcr _ (by assumption)).mono ?_); rintro r wc ⟨rfl, HC⟩
  try go_simp
  refine hK'.out _ _ HC (fun hHeld => ?_)
  clear hK' K'
  try simp only [Act.put, List.getElem_toArray, List.getElem_cons_zero, List.getElem_cons_succ, List.setIfInBounds_toArray, List.set_cons_zero, List.set_cons_succ]
  refine wpAnyH_take (i := 6) (v := ?_) rfl (by kernel_rfl) (by kernel_rfl) (by kernel_rfl) (fun _ _ _ h => h) (Or.inl ⟨by rfl, ?_⟩) (by assumption) ?_
  rotate_left
  · (intro w hSw; go_simp; try with_reducible rfl)
  simp only [Act.put, List.getElem_toArray, List.getElem_cons_zero, List.getElem_cons_succ, List.setIfInBounds_toArray, List.set_cons_zero, List.set_cons_succ]
  refine wpAnyH_take (i := 7) (v := ?_) rfl (by kernel_rfl) (by kernel_rfl) (by kernel_rfl) (fun _ _ _ h => h) (Or.inl ⟨by rfl, ?_⟩) (by assumption) ?_
  rotate_left
  · (intro w hSw; go_simp; try with_reducible rfl)
  simp only [Act.put, List.getElem_toArray, List.getElem_cons_zero, List.getElem_cons_succ, List.setIfInBounds_toArray, List.set_cons_zero, List.set_cons_succ]
  refine wpAnyH_take (i := 8) (v := ?_) rfl (by kernel_rfl) (by kernel_rfl) (by kernel_rfl) (fun _ _ _ h => h) (Or.inl ⟨by rfl, ?_⟩) (by assumption) ?_
  rotate_left
  · (intro w hSw; go_simp; try with_reducible rfl)
  simp only [Act.put, List.getElem_toArray, List.getElem_cons_zero, List.getElem_cons_succ, List.setIfInBounds_toArray, List.set_cons_zero, List.set_cons_succ]
  refine wpAnyH_take (i := 9) (v := ?_) rfl (by kernel_rfl) (by kernel_rfl) (by kernel_rfl) (fun _ _ _ h => h) (Or.inl ⟨by rfl, ?_⟩) (by assumption) ?_
  rotate_left
  · (intro w hSw; go_simp; try with_reducible rfl)
  simp only [Act.put, List.getElem_toArray, List.getElem_cons_zero, List.getElem_cons_succ, List.setIfInBounds_toArray, List.set_cons_zero, List.set_cons_succ]
  refine wpAnyH_take (i := 10) (v := ?_) rfl (by kernel_rfl) (by kernel_rfl) (by kernel_rfl) (fun _ _ _ h => h) (Or.inl ⟨by rfl, ?_⟩) (by assumption) ?_
  rotate_left
  · (intro w hSw; go_simp; try with_reducible rfl)
  simp only [Act.put, List.getElem_toArray, List.getElem_cons_zero, List.getElem_cons_succ, List.setIfInBounds_toArray, List.set_cons_zero, List.set_cons_succ]
  refine wpAnyH_take (i := 11) (v := ?_) rfl (by kernel_rfl) (by kernel_rfl) (by kernel_rfl) (fun _ _ _ h => h) (Or.inl ⟨by rfl, ?_⟩) (by assumption) ?_
  rotate_left
  · (intro w hSw; go_simp; try with_reducible rfl)
  simp only [Act.put, List.getElem_toArray, List.getElem_cons_zero, List.getElem_cons_succ, List.setIfInBounds_toArray, List.set_cons_zero, List.set_cons_succ]
  refine wpAnyH_take (i := 12) (v := ?_) rfl (by kernel_rfl) (by kernel_rfl) (by kernel_rfl) (fun _ _ _ h => h) (Or.inl ⟨by rfl, ?_⟩) (by assumption) ?_
  rotate_left
  · (intro w hSw; go_simp; try with_reducible rfl)
  simp only [Act.put, List.getElem_toArray, List.getElem_cons_zero, List.getElem_cons_succ, List.setIfInBounds_toArray, List.set_cons_zero, List.set_cons_succ]
  refine wpAnyH_take (i := 13) (v := ?_) rfl (by kernel_rfl) (by kernel_rfl) (by kernel_rfl) (fun _ _ _ h => h) (Or.inl ⟨by rfl, ?_⟩) (by assumption) ?_
  rotate_left
  · (intro w hSw; go_simp; try with_reducible rfl)
  simp only [Act.put, List.getElem_toArray, List.getElem_cons_zero, List.getElem_cons_succ, List.setIfInBounds_toArray, List.set_cons_zero, List.set_cons_succ]
  refine wpAnyH_take (i := 14) (v := ?_) rfl (by kernel_rfl) (by kernel_rfl) (by kernel_rfl) (fun _ _ _ h => h) (Or.inl ⟨by rfl, ?_⟩) (by assumption) ?_
  rotate_left
  · (intro w hSw; go_simp; try with_reducible rfl)
  simp only [Act.put, List.getElem_toArray, List.getElem_cons_zero, List.getElem_cons_succ, List.setIfInBounds_toArray, List.set_cons_zero, List.set_cons_succ]
  refine wpAnyH_take (i := 15) (v := ?_) rfl (by kernel_rfl) (by kernel_rfl) (by kernel_rfl) (fun _ _ _ h => h) (Or.inl ⟨by rfl, ?_⟩) (by assumption) ?_
  rotate_left
  · (intro w hSw; go_simp; try with_reducible rfl)
  simp only [Act.put, List.getElem_toArray, List.getElem_cons_zero, List.getElem_cons_succ, List.setIfInBounds_toArray, List.set_cons_zero, List.set_cons_succ]
  refine wpAnyH_take (i := 16) (v := ?_) rfl (by kernel_rfl) (by kernel_rfl) (by kernel_rfl) (fun _ _ _ h => h) (Or.inl ⟨by rfl, ?_⟩) (by assumption) ?_
  rotate_left
  · (intro w hSw; go_simp; try with_reducible rfl)
  simp only [Act.put, List.getElem_toArray, List.getElem_cons_zero, List.getElem_cons_succ, List.setIfInBounds_toArray, List.set_cons_zero, List.set_cons_succ]
  refine wpAnyH_take (i := 17) (v := ?_) rfl (by kernel_rfl) (by kernel_rfl) (by kernel_rfl) (fun _ _ _ h => h) (Or.inl ⟨by rfl, ?_⟩) (by assumption) ?_
  rotate_left
  · (intro w hSw; go_simp; try with_reducible rfl)
  simp only [Act.put, List.getElem_toArray, List.getElem_cons_zero, List.getElem_cons_succ, List.setIfInBounds_toArray, List.set_cons_zero, List.set_cons_succ]
  refine wpAnyH_take (i := 18) (v := .agg (ansA a (.slice Ae1 a.events.length ce1) (.slice As1 a.job.set.length cs1) (.slice Ar1 a.ranks.length cr1))) rfl (by kernel_rfl) (by kernel_rfl) (by kernel_rfl) (fun _ _ _ h => h) (Or.inl ⟨by rfl, ?_⟩) (by assumption) ?_
  · (intro w hSw; exact run_load_row 32 _ rfl b4 rfl 32 _ (0, 0) _ (GG4.out _ hSw) Tryz.underlying32 rfl (ansA_size _ _ _ _))
  simp only [Act.put, List.getElem_toArray, List.getElem_cons_zero, List.getElem_cons_succ, List.setIfInBounds_toArray, List.set_cons_zero, List.set_cons_succ]
  refine wpAnyH_take (i := 19) (v := .agg (ansA a (.slice Ae a.events.length ce) (.slice As a.job.set.length cs) (.slice Ar a.ranks.length cr))) rfl (by kernel_rfl) (by kernel_rfl) (by kernel_rfl) (fun _ _ _ h => h) (Or.inl ⟨by rfl, ?_⟩) (by assumption) ?_
  · (intro w hSw; exact run_load_row 32 _ rfl b1 rfl 32 _ (0, 0) _ (GG1.out _ hSw) Tryz.underlying32 rfl (ansA_size _ _ _ _))
  simp only [Act.put, List.getElem_toArray, List.getElem_cons_zero, List.getElem_cons_succ, List.setIfInBounds_toArray, List.set_cons_zero, List.set_cons_succ]
  refine wpAnyH_ready (rs := [20]) (by kernel_rfl) (by simp) ?_
  refine AllReadyH.cons rfl (fun K' hK' => ?_) AllReadyH.nil
  dsimp only [List.getElem_toArray, List.getElem_cons_succ, List.getElem_cons_zero]
  go_simp
  go_at_call 12; (with_reducible refine (hsm _ (by assumption)).mono ?_); rintro r wc ⟨rfl, HC⟩
  try go_simp
  refine hK'.out _ _ HC (fun hHeld => ?_)
  clear hK' K'
  try simp only [Act.put, List.getElem_toArray, List.getElem_cons_zero, List.getElem_cons_succ, List.setIfInBounds_toArray, List.set_cons_zero, List.set_cons_succ]
  refine wpAnyH_take (i := 21) (v := ?_) rfl (by kernel_rfl) (by kernel_rfl) (by kernel_rfl) (fun _ _ _ h => h) (Or.inl ⟨by rfl, ?_⟩) (by assumption) ?_
  rotate_left
  · (intro w hSw; go_simp; try with_reducible rfl)
  simp only [Act.put, List.getElem_toArray, List.getElem_cons_zero, List.getElem_cons_succ, List.setIfInBounds_toArray, List.set_cons_zero, List.set_cons_succ]
  refine wpAnyH_take (i := 22) (v := ?_) rfl (by kernel_rfl) (by kernel_rfl) (by kernel_rfl) (fun _ _ _ h => h) (Or.inl ⟨by rfl, ?_⟩) (by assumption) ?_
  rotate_left
  · (intro w hSw; go_simp; try with_reducible rfl)
  simp only [Act.put, List.getElem_toArray, List.getElem_cons_zero, List.getElem_cons_succ, List.setIfInBounds_toArray, List.set_cons_zero, List.set_cons_succ]
  refine wpAnyH_done (by kernel_rfl) ?_ _
  by_cases hc : checkA k a = 0
  case neg =>
    have q : (checkA k a != 0) = true := by simp [hc]
    have HB := Lib.hid HC.below
    clear hc
    go_wp2
    go_ret
    exact ⟨rfl, by rw [← HB1.out]; exact HB.out⟩
  have hpa : (parseA k (printS k a)) = (a, 0) := parse_back hc HOK.out
  have hsz : (printS k a).size ≤ 1000000000 := by
    unfold printS
    rw [if_pos hc]
    have := HSZ.out
    simpa [ByteArray.size] using this
  have hps := fun W L' (HW : HL w W L') => parse_ok2 hD HW k (printS k a) hsz
  rw [hpa] at hps
  unfold ParsePost2 at hps
  dsimp only at hps
  have hc0 := Lib.hid hc
  rw [hc] at *
  clear hpa hc cq hck hcr hsm
  go_upto_region 13 with (first
    | (go_at_call 13; refine (hps _ _ (by assumption)).mono ?_; rintro r w10 ⟨K2, Ae2, As2, Ar2, ce2, cs2, cr2, ps2, rfl, p1, p2, p3, p4, p5, H10⟩; have hl2 : Lst w K2 a Ae2 As2 Ar2 ce2 cs2 cr2 := ⟨ps2, p1, p2, p3, p4⟩; have HL2 := Lib.hid hl2; have P1 := Lib.hid p1; have P2 := Lib.hid p2; have P5 := Lib.hid p5; clear p1 p2 p3 p4 p5 hl2; have H11 := HL.bzA H10; have G10 : _ = some (Obj.cells _ 32 (0, 0)) := H11.head; have HX : HL w _ (boxA w10.heap.size a (.slice Ae2 a.events.length ce2) (.slice As2 a.job.set.length cs2) (.slice Ar2 a.ranks.length cr2) :: _) := HL.setWhole (cells := ansA a (.slice Ae2 a.events.length ce2) (.slice As2 a.job.set.length cs2) (.slice Ar2 a.ranks.length cr2)) H11)
    | (refine wpList_store_row rfl 32 _ _ rfl w10.heap.size (ansA a (.slice Ae2 a.events.length ce2) (.slice As2 a.job.set.length cs2) (.slice Ar2 a.ranks.length cr2)) rfl rfl 32 _ G10 (ansA_size _ _ _ _) rfl (ansA_one _ _ _ _ _ _ _ _ _ _) ?_))
  generalize World.setRow _ _ _ = W10 at *
  generalize w10.heap.size = b10 at *
  clear H11 G10 H10 HC hHeld H8
  go_upto_region 14 with (first
    | (go_at_call 13; refine (hps _ _ HX).mono ?_; rintro r w12 ⟨K3, Ae3, As3, Ar3, ce3, cs3, cr3, ps3, rfl, p1, p2, p3, p4, p5, H12⟩; have hl3 : Lst w K3 a Ae3 As3 Ar3 ce3 cs3 cr3 := ⟨ps3, p1, p2, p3, p4⟩; have HL3 := Lib.hid hl3; clear p1 p2 p3 p4 p5 hl3 HX hps; have H13 := HL.bzA H12; have G12 : _ = some (Obj.cells _ 32 (0, 0)) := H13.head; have HX : HL w _ (boxA w12.heap.size a (.slice Ae3 a.events.length ce3) (.slice As3 a.job.set.length cs3) (.slice Ar3 a.ranks.length cr3) :: _) := HL.setWhole (cells := ansA a (.slice Ae3 a.events.length ce3) (.slice As3 a.job.set.length cs3) (.slice Ar3 a.ranks.length cr3)) H13)
    | (refine wpList_store_row rfl 32 _ _ rfl w12.heap.size (ansA a (.slice Ae3 a.events.length ce3) (.slice As3 a.job.set.length cs3) (.slice Ar3 a.ranks.length cr3)) rfl rfl 32 _ G12 (ansA_size _ _ _ _) rfl (ansA_one _ _ _ _ _ _ _ _ _ _) ?_))
  generalize World.setRow _ _ _ = W12 at *
  generalize w12.heap.size = b12 at *
  clear H13 G12 H12
  replace HX : HL w W12 (boxA b12 a (.slice Ae3 a.events.length ce3) (.slice As3 a.job.set.length cs3) (.slice Ar3 a.ranks.length cr3) :: (K3 ++ (boxA b10 a (.slice Ae2 a.events.length ce2) (.slice As2 a.job.set.length cs2) (.slice Ar2 a.ranks.length cr2) :: (K2 ++ (boxA b4 a (.slice Ae1 a.events.length ce1) (.slice As1 a.job.set.length cs1) (.slice Ar1 a.ranks.length cr1) :: (K1 ++ [boxA b1 a (.slice Ae a.events.length ce) (.slice As a.job.set.length cs) (.slice Ar a.ranks.length cr)])))))) := HX
  have gg12 : ∀ W, HL w W (boxA b12 a (.slice Ae3 a.events.length ce3) (.slice As3 a.job.set.length cs3) (.slice Ar3 a.ranks.length cr3) :: (K3 ++ (boxA b10 a (.slice Ae2 a.events.length ce2) (.slice As2 a.job.set.length cs2) (.slice Ar2 a.ranks.length cr2) :: (K2 ++ (boxA b4 a (.slice Ae1 a.events.length ce1) (.slice As1 a.job.set.length cs1) (.slice Ar1 a.ranks.length cr1) :: (K1 ++ [boxA b1 a (.slice Ae a.events.length ce) (.slice As a.job.set.length cs) (.slice Ar a.ranks.length cr)])))))) → W.heap[b12]? = some (Obj.cells (ansA a (.slice Ae3 a.events.length ce3) (.slice As3 a.job.set.length cs3) (.slice Ar3 a.ranks.length cr3)) 32 (0, 0)) := fun W H => HL.head (A := boxA b12 a (.slice Ae3 a.events.length ce3) (.slice As3 a.job.set.length cs3) (.slice Ar3 a.ranks.length cr3)) H
  have gg10 : ∀ W, HL w W (boxA b12 a (.slice Ae3 a.events.length ce3) (.slice As3 a.job.set.length cs3) (.slice Ar3 a.ranks.length cr3) :: (K3 ++ (boxA b10 a (.slice Ae2 a.events.length ce2) (.slice As2 a.job.set.length cs2) (.slice Ar2 a.ranks.length cr2) :: (K2 ++ (boxA b4 a (.slice Ae1 a.events.length ce1) (.slice As1 a.job.set.length cs1) (.slice Ar1 a.ranks.length cr1) :: (K1 ++ [boxA b1 a (.slice Ae a.events.length ce) (.slice As a.job.set.length cs) (.slice Ar a.ranks.length cr)])))))) → W.heap[b10]? = some (Obj.cells (ansA a (.slice Ae2 a.events.length ce2) (.slice As2 a.job.set.length cs2) (.slice Ar2 a.ranks.length cr2)) 32 (0, 0)) := fun W H => HL.head (A := boxA b10 a (.slice Ae2 a.events.length ce2) (.slice As2 a.job.set.length cs2) (.slice Ar2 a.ranks.length cr2)) (HL.drops (K := K3) H.tail)
  have gg1 : ∀ W, HL w W (boxA b12 a (.slice Ae3 a.events.length ce3) (.slice As3 a.job.set.length cs3) (.slice Ar3 a.ranks.length cr3) :: (K3 ++ (boxA b10 a (.slice Ae2 a.events.length ce2) (.slice As2 a.job.set.length cs2) (.slice Ar2 a.ranks.length cr2) :: (K2 ++ (boxA b4 a (.slice Ae1 a.events.length ce1) (.slice As1 a.job.set.length cs1) (.slice Ar1 a.ranks.length cr1) :: (K1 ++ [boxA b1 a (.slice Ae a.events.length ce) (.slice As a.job.set.length cs) (.slice Ar a.ranks.length cr)])))))) → W.heap[b1]? = some (Obj.cells (ansA a (.slice Ae a.events.length ce) (.slice As a.job.set.length cs) (.slice Ar a.ranks.length cr)) 32 (0, 0)) := fun W H => HL.head (A := boxA b1 a (.slice Ae a.events.length ce) (.slice As a.job.set.length cs) (.slice Ar a.ranks.length cr)) (HL.drops (K := K1) (HL.tail (HL.drops (K := K2) (HL.tail (HL.drops (K := K3) H.tail)))))
  have lb : Lst w (boxA b12 a (.slice Ae3 a.events.length ce3) (.slice As3 a.job.set.length cs3) (.slice Ar3 a.ranks.length cr3) :: (K3 ++ (boxA b10 a (.slice Ae2 a.events.length ce2) (.slice As2 a.job.set.length cs2) (.slice Ar2 a.ranks.length cr2) :: (K2 ++ (boxA b4 a (.slice Ae1 a.events.length ce1) (.slice As1 a.job.set.length cs1) (.slice Ar1 a.ranks.length cr1) :: (K1 ++ [boxA b1 a (.slice Ae a.events.length ce) (.slice As a.job.set.length cs) (.slice Ar a.ranks.length cr)])))))) a Ae2 As2 Ar2 ce2 cs2 cr2 := HL2.out.mono (fun _ H => HL.left (HL.drops (K := K3) H.tail).tail)
  have lc : Lst w (boxA b12 a (.slice Ae3 a.events.length ce3) (.slice As3 a.job.set.length cs3) (.slice Ar3 a.ranks.length cr3) :: (K3 ++ (boxA b10 a (.slice Ae2 a.events.length ce2) (.slice As2 a.job.set.length cs2) (.slice Ar2 a.ranks.length cr2) :: (K2 ++ (boxA b4 a (.slice Ae1 a.events.length ce1) (.slice As1 a.job.set.length cs1) (.slice Ar1 a.ranks.length cr1) :: (K1 ++ [boxA b1 a (.slice Ae a.events.length ce) (.slice As a.job.set.length cs) (.slice Ar a.ranks.length cr)])))))) a Ae3 As3 Ar3 ce3 cs3 cr3 := HL3.out.mono (fun _ H => HL.left H.tail)
  have LB := Lib.hid lb; have LC := Lib.hid lc
  clear lb lc
  go_upto_region 16 with (first
    | (have g1 := gg10 _ HX; refine wpList_load_if (by rfl) 32 _ rfl b10 rfl 32 _ (0, 0) _ g1 Tryz.underlying32 rfl (ansA_size _ _ _ _) ?_; clear g1)
    | (have g1 := gg12 _ HX; refine wpList_load_if (by rfl) 32 _ rfl b12 rfl 32 _ (0, 0) _ g1 Tryz.underlying32 rfl (ansA_size _ _ _ _) ?_; clear g1)
    | (have g1 := gg1 _ HX; refine wpList_load_if (by rfl) 32 _ rfl b1 rfl 32 _ (0, 0) _ g1 Tryz.underlying32 rfl (ansA_size _ _ _ _) ?_; clear g1)
    | (go_at_call 12; (with_reducible refine (LB.out.same (HLV.out _) HX).mono ?_); rintro r wn ⟨rfl, HN⟩; clear HX LB; have HX := HN; clear HN)
    | (go_at_call 12; (with_reducible refine (LC.out.same (HLV.out _) HX).mono ?_); rintro r wn' ⟨rfl, HN⟩; clear HX LC; have HX := HN; clear HN))
  have hsp := spoil_read (L := (boxA b12 a (.slice Ae3 a.events.length ce3) (.slice As3 a.job.set.length cs3) (.slice Ar3 a.ranks.length cr3) :: (K3 ++ (boxA b10 a (.slice Ae2 a.events.length ce2) (.slice As2 a.job.set.length cs2) (.slice Ar2 a.ranks.length cr2) :: (boxA b4 a (.slice Ae1 a.events.length ce1) (.slice As1 a.job.set.length cs1) (.slice Ar1 a.ranks.length cr1) :: (K1 ++ [boxA b1 a (.slice Ae a.events.length ce) (.slice As a.job.set.length cs) (.slice Ar a.ranks.length cr)])))))) (HX.perm (by
    have := List.perm_append_comm_assoc ((boxA b12 a (.slice Ae3 a.events.length ce3) (.slice As3 a.job.set.length cs3) (.slice Ar3 a.ranks.length cr3)) :: (K3 ++ [boxA b10 a (.slice Ae2 a.events.length ce2) (.slice As2 a.job.set.length cs2) (.slice Ar2 a.ranks.length cr2)])) K2 (boxA b4 a (.slice Ae1 a.events.length ce1) (.slice As1 a.job.set.length cs1) (.slice Ar1 a.ranks.length cr1) :: (K1 ++ [boxA b1 a (.slice Ae a.events.length ce) (.slice As a.job.set.length cs) (.slice Ar a.ranks.length cr)]))
    simpa using this)) P1.out P2.out P5.out HTOT.out
  go_upto_region 17 with (first
    | (have g1 := gg10 _ HX; refine wpList_load_row rfl 32 _ rfl b10 rfl 32 _ (0, 0) _ g1 Tryz.underlying32 rfl (ansA_size _ _ _ _) ?_; clear g1)
    | (go_at_call 14; (with_reducible refine hsp.mono ?_); rintro r w16 ⟨rfl, HN⟩; clear HX hsp; have HX := HN; clear HN))
  clear gg12 gg10 gg1
  have hh12 : ∀ W, HL w W (boxA b12 a (.slice Ae3 a.events.length ce3) (.slice As3 a.job.set.length cs3) (.slice Ar3 a.ranks.length cr3) :: (K3 ++ (boxA b10 a (.slice Ae2 a.events.length ce2) (.slice As2 a.job.set.length cs2) (.slice Ar2 a.ranks.length cr2) :: (boxA b4 a (.slice Ae1 a.events.length ce1) (.slice As1 a.job.set.length cs1) (.slice Ar1 a.ranks.length cr1) :: (K1 ++ [boxA b1 a (.slice Ae a.events.length ce) (.slice As a.job.set.length cs) (.slice Ar a.ranks.length cr)]))))) → W.heap[b12]? = some (Obj.cells (ansA a (.slice Ae3 a.events.length ce3) (.slice As3 a.job.set.length cs3) (.slice Ar3 a.ranks.length cr3)) 32 (0, 0)) := fun W H => HL.head (A := boxA b12 a (.slice Ae3 a.events.length ce3) (.slice As3 a.job.set.length cs3) (.slice Ar3 a.ranks.length cr3)) H
  have hh1 : ∀ W, HL w W (boxA b12 a (.slice Ae3 a.events.length ce3) (.slice As3 a.job.set.length cs3) (.slice Ar3 a.ranks.length cr3) :: (K3 ++ (boxA b10 a (.slice Ae2 a.events.length ce2) (.slice As2 a.job.set.length cs2) (.slice Ar2 a.ranks.length cr2) :: (boxA b4 a (.slice Ae1 a.events.length ce1) (.slice As1 a.job.set.length cs1) (.slice Ar1 a.ranks.length cr1) :: (K1 ++ [boxA b1 a (.slice Ae a.events.length ce) (.slice As a.job.set.length cs) (.slice Ar a.ranks.length cr)]))))) → W.heap[b1]? = some (Obj.cells (ansA a (.slice Ae a.events.length ce) (.slice As a.job.set.length cs) (.slice Ar a.ranks.length cr)) 32 (0, 0)) := fun W H => HL.head (A := boxA b1 a (.slice Ae a.events.length ce) (.slice As a.job.set.length cs) (.slice Ar a.ranks.length cr)) (HL.drops (K := K1) (HL.tail (HL.tail (HL.drops (K := K3) H.tail))))
  have hh4 : ∀ W, HL w W (boxA b12 a (.slice Ae3 a.events.length ce3) (.slice As3 a.job.set.length cs3) (.slice Ar3 a.ranks.length cr3) :: (K3 ++ (boxA b10 a (.slice Ae2 a.events.length ce2) (.slice As2 a.job.set.length cs2) (.slice Ar2 a.ranks.length cr2) :: (boxA b4 a (.slice Ae1 a.events.length ce1) (.slice As1 a.job.set.length cs1) (.slice Ar1 a.ranks.length cr1) :: (K1 ++ [boxA b1 a (.slice Ae a.events.length ce) (.slice As a.job.set.length cs) (.slice Ar a.ranks.length cr)]))))) → W.heap[b4]? = some (Obj.cells (ansA a (.slice Ae1 a.events.length ce1) (.slice As1 a.job.set.length cs1) (.slice Ar1 a.ranks.length cr1)) 32 (0, 0)) := fun W H => HL.head (A := boxA b4 a (.slice Ae1 a.events.length ce1) (.slice As1 a.job.set.length cs1) (.slice Ar1 a.ranks.length cr1)) (HL.tail (HL.drops (K := K3) H.tail))
  have lc : Lst w (boxA b12 a (.slice Ae3 a.events.length ce3) (.slice As3 a.job.set.length cs3) (.slice Ar3 a.ranks.length cr3) :: (K3 ++ (boxA b10 a (.slice Ae2 a.events.length ce2) (.slice As2 a.job.set.length cs2) (.slice Ar2 a.ranks.length cr2) :: (boxA b4 a (.slice Ae1 a.events.length ce1) (.slice As1 a.job.set.length cs1) (.slice Ar1 a.ranks.length cr1) :: (K1 ++ [boxA b1 a (.slice Ae a.events.length ce) (.slice As a.job.set.length cs) (.slice Ar a.ranks.length cr)]))))) a Ae3 As3 Ar3 ce3 cs3 cr3 := HL3.out.mono (fun _ H => HL.left H.tail)
  have lo : Lst w (boxA b12 a (.slice Ae3 a.events.length ce3) (.slice As3 a.job.set.length cs3) (.slice Ar3 a.ranks.length cr3) :: (K3 ++ (boxA b10 a (.slice Ae2 a.events.length ce2) (.slice As2 a.job.set.length cs2) (.slice Ar2 a.ranks.length cr2) :: (boxA b4 a (.slice Ae1 a.events.length ce1) (.slice As1 a.job.set.length cs1) (.slice Ar1 a.ranks.length cr1) :: (K1 ++ [boxA b1 a (.slice Ae a.events.length ce) (.slice As a.job.set.length cs) (.slice Ar a.ranks.length cr)]))))) a Ae1 As1 Ar1 ce1 cs1 cr1 := HL4.out.mono (fun _ H => HL.tail (HL.drops (K := K3) H.tail))
  have LC := Lib.hid lc; have LO := Lib.hid lo
  clear lc lo
  go_wp2_with (first
    | (have g1 := hh12 _ HX; refine wpList_load_row rfl 32 _ rfl b12 rfl 32 _ (0, 0) _ g1 Tryz.underlying32 rfl (ansA_size _ _ _ _) ?_; clear g1)
    | (have g1 := hh1 _ HX; refine wpList_load_row rfl 32 _ rfl b1 rfl 32 _ (0, 0) _ g1 Tryz.underlying32 rfl (ansA_size _ _ _ _) ?_; clear g1)
    | (have g1 := hh4 _ HX; refine wpList_load_if (by rfl) 32 _ rfl b4 rfl 32 _ (0, 0) _ g1 Tryz.underlying32 rfl (ansA_size _ _ _ _) ?_; clear g1)
    | (have g1 := hh1 _ HX; refine wpList_load_if (by rfl) 32 _ rfl b1 rfl 32 _ (0, 0) _ g1 Tryz.underlying32 rfl (ansA_size _ _ _ _) ?_; clear g1)
    | (go_at_call 12; (with_reducible refine (LC.out.same (HLV.out _) HX).mono ?_); rintro r wn ⟨rfl, HN⟩; clear HX LC; have HX := HN; clear HN)
    | (go_at_call 12; (with_reducible refine (LO.out.same (HLV.out _) HX).mono ?_); rintro r wn' ⟨rfl, HN⟩; clear HX LO; have HX := HN; clear HN))
  have HB := Lib.hid HX.below
  go_ret
  exact ⟨rfl, by rw [← HB1.out]; exact HB.out⟩
end Go.Proofs.YtdekbbffoaphhaaGreatDoor

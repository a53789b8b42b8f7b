/- The law ProfileGoes. -/
import Derived.Test.YtebibcaahjmjfaaPrShown
import Derived.Test.YtebibcaahjmjfaaMarks
import Derived.Test.YtebibcaahjmjfaaIterKB
set_option linter.unusedVariables false
set_option linter.unusedSimpArgs false
namespace Go.Proofs.Ytebibcaahjmjfaa
open Go.RowKit Go.Proofs.HL Go.Proofs.HL.Pr
attribute [local go_sem] Oper.semAt_some
theorem run_store_fn {P : Program} {w : World} {a : Addr} {m : Mode} (f : Fn) (ts : Array Value) (cs : Array Value) : (store a (.func f ts cs) m).run P w = stored P w a (.func f ts cs) m := run_store P w a _ m rfl
attribute [local go_sem] run_store_fn

/-- What the law owns: boxes; the steps that are wanted; the runs; what All keeps. -/
def ownG (base b7 b8 b9 b11 b12 : Nat) (vl u9 fv u10 : Value) (i : Int) (T : List Sp) (m : List Rn) (K : List At) : List At :=
  blk b12 (.cells #[.int .i64 i] 3) :: blk b7 (.cells #[vl] 36) :: blk b8 (.cells #[.bool false] 4) :: blk b9 (.cells #[u9] 26) :: blk b11 (.cells #[fv] 38) :: stpsAt base u9 T :: runsAt base u10 m :: K
section
variable {w0 w : World} {R : List At} {base b7 b8 b9 b11 b12 : Nat} {vl u9 fv u10 : Value} {i : Int} {T : List Sp} {m : List Rn} {K : List At}
theorem ownG_cells {X : List At} (H : HL w0 w (X ++ (ownG base b7 b8 b9 b11 b12 vl u9 fv u10 i T m K ++ R))) :
    w.cell? ⟨b12, 0, none⟩ = some (.int .i64 i) ∧ w.cell? ⟨b7, 0, none⟩ = some vl ∧ w.cell? ⟨b9, 0, none⟩ = some u9 ∧ w.cell? ⟨b11, 0, none⟩ = some fv ∧ w.cell? ⟨b8, 0, none⟩ = some (.bool false) ∧ w.frozen? ⟨b12, 0, none⟩ = false := by
  have c (b : Nat) (v : Value) (E : TypeId) (hm : blk b (.cells #[v] E) ∈ X ++ (ownG base b7 b8 b9 b11 b12 vl u9 fv u10 i T m K ++ R)) : w.cell? ⟨b, 0, none⟩ = some v := by rw [H.cellOf hm 0]; rfl
  exact ⟨c b12 _ 3 (by simp [ownG]), c b7 _ 36 (by simp [ownG]), c b9 _ 26 (by simp [ownG]), c b11 _ 38 (by simp [ownG]), c b8 _ 4 (by simp [ownG]), H.frozenOf (b := b12) (vs := #[.int .i64 i]) (E := 3) (by simp [ownG]) 0⟩
theorem ownG_steps {X : List At} (H : HL w0 w (X ++ (ownG base b7 b8 b9 b11 b12 vl u9 fv u10 i T m K ++ R))) : Rd 2 u9 T.length (T.flatMap encS) w :=
  rd_row (H.get (show stpsAt base u9 T ∈ _ by simp [ownG]))
theorem ownG_next {D b13 : Nat} {x : Obj} {i' : Int} {ds : List Nat} (H : HL w0 w (blk D (.deferred (some [])) :: blk b13 x :: (ownG base b7 b8 b9 b11 b12 vl u9 fv u10 i T m K ++ marksAt ds))) :
    HL w0 (w.alloc (.cells #[.int .i64 i'] 3)) (ownG base b7 b8 b9 b11 w.heap.size vl u9 fv u10 i' T m K ++ marksAt (D :: ds)) := by
  have h1 := (show HL w0 _ (_ :: _ :: _ :: _ :: (_ :: _ :: _ :: _ :: _ :: _ :: K ++ marksAt ds)) from H.alloc (.cells #[.int .i64 i'] 3)).sel 4 [0, 1]
  exact HL.perm (show HL w0 _ (_ :: _ :: (_ :: _ :: _ :: _ :: _ :: _ :: K ++ marksAt ds)) from h1) (List.Perm.cons _ List.perm_middle.symm)
theorem ownG_keep {Kp : World → Prop} {X : List At} (h : Ent w0 K Kp) : Ent w0 (X ++ ownG base b7 b8 b9 b11 b12 vl u9 fv u10 i T m K) Kp := by
  intro W hW
  exact h W (HL.drops (K := [_, _, _, _, _, _, _]) (HL.drops hW))
end

set_option maxRecDepth 100000 in
theorem frameF {c0 c1 c2 c3 c4 c5 c6 c7 c8 c9 c10 c11 c12 v13 v14 v15 v16 v17 v18 v19 v20 v21 v22 v23 v24 v25 v26 v27 v28 v29 v30 v31 v32 v33 v34 v35 v36 v37 v38 v39 v40 v41 v42 v43 v44 v45 v46 v47 v48 v49 v50 v51 v52 v53 v54 v55 v56 v57 v58 v59 v60 v61 v62 v63 v64 v65 v66 v67 v68 v69 v70 v71 v72 v73 v74 v75 v76 v77 v78 v79 v80 v81 v82 v83 v84 v85 v86 v87 v88 v89 v90 v91 v92 v93 v94 v95 v96 v97 v98 v99 v100 v101 v102 v103 v104 v105 v106 v107 v108 v109 v110 v111 v112 v113 v114 v115 v116 : Value} {D : List Deferred} : ∃ f : Nat → Value, ({ tmps := #[c0, c1, c2, c3, c4, c5, c6, c7, c8, c9, c10, c11, c12, v13, v14, v15, v16, v17, v18, v19, v20, v21, v22, v23, v24, v25, v26, v27, v28, v29, v30, v31, v32, v33, v34, v35, v36, v37, v38, v39, v40, v41, v42, v43, v44, v45, v46, v47, v48, v49, v50, v51, v52, v53, v54, v55, v56, v57, v58, v59, v60, v61, v62, v63, v64, v65, v66, v67, v68, v69, v70, v71, v72, v73, v74, v75, v76, v77, v78, v79, v80, v81, v82, v83, v84, v85, v86, v87, v88, v89, v90, v91, v92, v93, v94, v95, v96, v97, v98, v99, v100, v101, v102, v103, v104, v105, v106, v107, v108, v109, v110, v111, v112, v113, v114, v115, v116], defers := D } : Act) = { tmps := #[c0, c1, c2, c3, c4, c5, c6, c7, c8, c9, c10, c11, c12, f 13, f 14, f 15, f 16, f 17, f 18, f 19, f 20, f 21, f 22, f 23, f 24, f 25, f 26, f 27, f 28, f 29, f 30, f 31, f 32, f 33, f 34, f 35, f 36, f 37, f 38, f 39, f 40, f 41, f 42, f 43, f 44, f 45, f 46, f 47, f 48, f 49, f 50, f 51, f 52, f 53, f 54, f 55, f 56, f 57, f 58, f 59, f 60, f 61, f 62, f 63, f 64, f 65, f 66, f 67, f 68, f 69, f 70, f 71, f 72, f 73, f 74, f 75, f 76, f 77, f 78, f 79, f 80, f 81, f 82, f 83, f 84, f 85, f 86, f 87, f 88, f 89, f 90, f 91, f 92, f 93, f 94, f 95, f 96, f 97, f 98, f 99, f 100, f 101, f 102, f 103, f 104, f 105, f 106, f 107, f 108, f 109, f 110, f 111, f 112, f 113, f 114, f 115, f 116], defers := D } := ⟨fun k => [v13, v14, v15, v16, v17, v18, v19, v20, v21, v22, v23, v24, v25, v26, v27, v28, v29, v30, v31, v32, v33, v34, v35, v36, v37, v38, v39, v40, v41, v42, v43, v44, v45, v46, v47, v48, v49, v50, v51, v52, v53, v54, v55, v56, v57, v58, v59, v60, v61, v62, v63, v64, v65, v66, v67, v68, v69, v70, v71, v72, v73, v74, v75, v76, v77, v78, v79, v80, v81, v82, v83, v84, v85, v86, v87, v88, v89, v90, v91, v92, v93, v94, v95, v96, v97, v98, v99, v100, v101, v102, v103, v104, v105, v106, v107, v108, v109, v110, v111, v112, v113, v114, v115, v116].getD (k - 13) undef, rfl⟩

set_option maxRecDepth 100000 in
set_option maxHeartbeats 4000000 in
theorem goes_law {w : World} {v vl : Value} {l : List Rn} {xs : List Int} (hv : Rd 2 v l.length (l.flatMap encR) w) (hl : l.length ≤ 8796093021952) (hx : Rd 1 vl xs.length (xs.flatMap fun i => [Value.int .i64 i]) w) (hxl : xs.length ≤ 17592186043904) (now free : Int) :
    Calls Try.prog 4 #[.int .i64 now, .int .i64 free, v, vl] w fun e w' => e = .returned (.bool true) ∧ Below w.heap.size w w' := by
  have hl0 := hl
  replace hl : l.length ≤ 8796093022000 := by omega
  have hR : ∀ L, Runs w L v l := fun L W H => rd_old H hv
  obtain ⟨A, c, rfl, hc1, hc2⟩ := rd_shape hv
  obtain ⟨A7, c7, rfl, hc3, hc4⟩ := rd_shape hx
  unfold maxLen at hc2 hc4
  have hlen := stepsAll_length now free l
  have hsteps := fun L W (H : HL w W L) => Ref.steps_ok H (hR L) hl now free
  have hP7 := fun (A7 : Option Addr) (c7 : Nat) (L' : List At) => (show Runs w (runsAt w.heap.size (.slice A7 (l.length + 1) c7) (l ++ [mark77]) :: L') (.slice A7 l.length c7) l from by
    have := entPrefix (w0 := w) (A := A7) (n := l.length + 1) (c := c7) (base := w.heap.size) (m := l ++ [mark77]) (L' := L') (k := l.length) (by simp) (by simp)
    rwa [List.take_left] at this)
  have hq := func_not_nil
  refine calls_of_marks Try.func4 rfl ?_
  simp only [Try.ntmps4, List.size_toArray, List.length_cons, List.length_nil, Nat.reduceAdd, Nat.reduceSub, Array.replicate_succ, Array.replicate_zero, List.push_toArray, List.append_toArray, List.nil_append, List.cons_append]
  have HA := ((HL.start w).alloc (.cells #[.slice A7 xs.length c7] 36)).alloc (.cells #[.bool false] 4)
  rw [World.size_alloc] at HA
  go_wp2_with (first
    | (go_at_call 12; refine (shown_ok HA).mono ?_; rintro e w1 ⟨rfl, H1⟩; clear HA)
    | (go_at_call 18; refine (hsteps _ _ H1).mono ?_; rintro e w2 ⟨u9, rfl, H2⟩; clear H1 hsteps; obtain ⟨A9, c9, hu, hc5, hc6⟩ := rd_shape (ownStps H2); subst hu; unfold maxLen at hc6; have H3 := H2.alloc (.cells #[.slice A9 (stepsAll now free l).length c9] 26); clear H2)
    | (go_at_call 13; refine (lend_ok H3 (hR _) hl).mono ?_; rintro e w4 ⟨u10, rfl, H4⟩; clear H3; obtain ⟨A10, c10, hu, -, hcu, hcv⟩ := row_shape H4.head; subst hu; rw [show (l ++ [mark77]).length = l.length + 1 by simp] at H4 hcu ⊢; unfold maxLen at hcv)
    | (go_at_call 22; refine (all_ok (l := l) H4 (hP7 _ _ _) hl now free).mono ?_; rintro e w5 ⟨fv, K, Kp, rfl, ⟨gf, lb, rfl, eg, hit⟩, hK, H5⟩; clear H4; have H6 := H5.alloc (.cells #[.func (.func gf) #[] lb] 38); clear H5)
    | (go_at_call 21; have H7 := HL.perm (show HL w _ ((_ :: K) ++ _ :: _) from H6) List.perm_middle; refine (still_ok H7 (hR _) hl).mono ?_; rintro e w7 ⟨m', rfl, hm', H8⟩; clear H6 H7 hm'; have H9 := H8.alloc (.cells #[.int .i64 0] 3); clear H8))
  generalize stepsAll now free l = T at *
  have H10 : HL w (w7.alloc (.cells #[.int .i64 0] 3)) (ownG w.heap.size w.heap.size (w.heap.size + 1) w2.heap.size w5.heap.size w7.heap.size (.slice A7 xs.length c7) (.slice A9 T.length c9) (.func (.func gf) #[] lb) (.slice A10 (l.length + 1) c10) (0 : Nat) T m' K ++ marksAt []) := by
    have h1 := HL.perm (show HL w (w7.alloc (.cells #[.int .i64 0] 3)) ([_, _, _] ++ (K ++ [_, _, _, _])) from H9) (List.Perm.append_left _ List.perm_append_comm)
    have h2 := (show HL w (w7.alloc (.cells #[.int .i64 0] 3)) (_ :: _ :: _ :: _ :: _ :: _ :: _ :: K) from h1).sel 7 [0, 6, 5, 3, 2, 4, 1]
    rw [show marksAt [] = [] from rfl, List.append_nil]
    exact h2
  have Hx := Lib.hid hx; have Hit := Lib.hid hit
  clear H9 hx hit hP7 hR hq hv hl0 hc1 hc2
  refine wp_loop_ghost_k (fun n a' w' => ∃ (i b12 : Nat) (ds : List Nat), i + n = xs.length ∧ HL w w' (ownG w.heap.size w.heap.size (w.heap.size + 1) w2.heap.size w5.heap.size b12 (.slice A7 xs.length c7) (.slice A9 T.length c9) (.func (.func gf) #[] lb) (.slice A10 (l.length + 1) c10) (i : Nat) T m' K ++ marksAt ds) ∧ ∃ f : Nat → Value, a' = { tmps := #[.int .i64 now, .int .i64 free, .slice A l.length c, .slice A7 xs.length c7, undef, undef, undef, .pointer (some ⟨w.heap.size, 0, none⟩), .pointer (some ⟨w.heap.size + 1, 0, none⟩), .pointer (some ⟨w2.heap.size, 0, none⟩), .slice A10 (l.length + 1) c10, .pointer (some ⟨w5.heap.size, 0, none⟩), .pointer (some ⟨b12, 0, none⟩), f 13, f 14, f 15, f 16, f 17, f 18, f 19, f 20, f 21, f 22, f 23, f 24, f 25, f 26, f 27, f 28, f 29, f 30, f 31, f 32, f 33, f 34, f 35, f 36, f 37, f 38, f 39, f 40, f 41, f 42, f 43, f 44, f 45, f 46, f 47, f 48, f 49, f 50, f 51, f 52, f 53, f 54, f 55, f 56, f 57, f 58, f 59, f 60, f 61, f 62, f 63, f 64, f 65, f 66, f 67, f 68, f 69, f 70, f 71, f 72, f 73, f 74, f 75, f 76, f 77, f 78, f 79, f 80, f 81, f 82, f 83, f 84, f 85, f 86, f 87, f 88, f 89, f 90, f 91, f 92, f 93, f 94, f 95, f 96, f 97, f 98, f 99, f 100, f 101, f 102, f 103, f 104, f 105, f 106, f 107, f 108, f 109, f 110, f 111, f 112, f 113, f 114, f 115, f 116], defers := marksD ds }) xs.length ?_ ?_
  · exact ⟨0, w7.heap.size, [], Nat.zero_add _, H10, frameF⟩
  clear H10
  rintro n a' w' ⟨i, b12, ds, hin, HK, f, rfl⟩ J' K' hJ hKK
  obtain ⟨c12, c7v, c9v, c11, c8, f12⟩ := ownG_cells (X := []) (show HL w w' ([] ++ (ownG w.heap.size w.heap.size (w.heap.size + 1) w2.heap.size w5.heap.size b12 (.slice A7 xs.length c7) (.slice A9 T.length c9) (.func (.func gf) #[] lb) (.slice A10 (l.length + 1) c10) (i : Nat) T m' K ++ marksAt ds)) from HK)
  by_cases hgo : i < xs.length ∧ i < 50
  · obtain ⟨hlt, h50⟩ := hgo
    have h50' : (i : Int) < 50 := by omega
    have HA := HK.alloc (.cells #[.int .i64 0] 3)
    have hcf : (w'.alloc (.cells #[.int .i64 0] 3)).cell? ⟨w5.heap.size, 0, none⟩ = some (.func (.func gf) #[] lb) := by
      rw [HA.cellOf (b := w5.heap.size) (vs := #[.func (.func gf) #[] lb]) (E := 38) (fz := (0, 0)) (by simp [ownG]) 0]; rfl
    obtain ⟨leaf, hlf⟩ : ∃ z, xs[i]? = some z := ⟨_, List.getElem?_eq_getElem hlt⟩
    obtain ⟨g7, o7, q7, hv, -, -, hcd⟩ := rd_plain Hx.out (by intro e; have := congrArg List.length e; rw [← List.map_eq_flatMap] at this; simp at this; rw [this] at hlt; simp at hlt)
    simp only [Value.slice.injEq] at hv
    obtain ⟨rfl, -, rfl⟩ := hv
    have hcw := Lib.hid (hcd i (.int .i64 leaf) (by rw [← List.map_eq_flatMap, List.getElem?_map, hlf]; rfl))
    have Hin := Lib.hid hin
    clear hcd hlf hin
    go_wp2
    clear c12 c7v c9v c11 c8 f12 hcf
    generalize hb13 : w'.heap.size = b13 at HA ⊢
    generalize (w'.alloc (.cells #[.int .i64 0] 3)) = W1 at HA ⊢
    clear HK hb13
    refine wp_rangeFunc_KB (encs := encIt) (xs := T) (fun x => .cells #[.int .i64 x.at_, .int .i64 x.free] 34) 14 rfl eg Hit.out (fun _ => rfl) (show HL w W1 ((blk b13 (.cells #[.int .i64 (0 : Nat)] 3) :: (ownG w.heap.size w.heap.size (w.heap.size + 1) w2.heap.size w5.heap.size b12 (.slice (some ⟨g7, o7, none⟩) xs.length c7) (.slice A9 T.length c9) (.func (.func gf) #[] lb) (.slice A10 (l.length + 1) c10) (i : Nat) T m' K ++ marksAt ds)) ++ []) from by rw [List.append_nil]; exact HA)
      (fun k L' => L' = blk b13 (.cells #[.int .i64 (k : Nat)] 3) :: (ownG w.heap.size w.heap.size (w.heap.size + 1) w2.heap.size w5.heap.size b12 (.slice (some ⟨g7, o7, none⟩) xs.length c7) (.slice A9 T.length c9) (.func (.func gf) #[] lb) (.slice A10 (l.length + 1) c10) (i : Nat) T m' K ++ marksAt ds) ∧ ∀ j : Nat, 1 ≤ j → j ≤ k → (j : Int) ≠ leaf)
      (fun c L' => c = .exit 2 ∧ ∃ k : Nat, L' = blk b13 (.cells #[.int .i64 (k : Nat)] 3) :: (ownG w.heap.size w.heap.size (w.heap.size + 1) w2.heap.size w5.heap.size b12 (.slice (some ⟨g7, o7, none⟩) xs.length c7) (.slice A9 T.length c9) (.func (.func gf) #[] lb) (.slice A10 (l.length + 1) c10) (i : Nat) T m' K ++ marksAt ds) ∧ 1 ≤ k ∧ k ≤ T.length ∧ (k : Int) = leaf)
      ⟨rfl, fun j h1 h2 => by omega⟩ ?keep ?assign ?body ?done ?stop
    case keep =>
      rintro k L' ⟨rfl, -⟩
      intro W HW
      exact hK W (HL.drops (K := [_, _, _, _, _, _, _]) (HL.left (L := _ :: _ :: _ :: _ :: _ :: _ :: _ :: K) HW.tail))
    case assign =>
      intro lp x W J hJ2
      clear HA hJ hKK
      dsimp only [encIt]
      gi_wp2
      simpa [encIt] using hJ2
    case done =>
      rintro D W L' ⟨rfl, hno⟩ HW
      clear HA
      obtain ⟨c12, c7v, c9v, c11, c8, f12⟩ := ownG_cells (X := [_, _]) (show HL w W ([_, _] ++ (ownG w.heap.size w.heap.size (w.heap.size + 1) w2.heap.size w5.heap.size b12 (.slice (some ⟨g7, o7, none⟩) xs.length c7) (.slice A9 T.length c9) (.func (.func gf) #[] lb) (.slice A10 (l.length + 1) c10) (i : Nat) T m' K ++ marksAt ds)) from HW)
      have cb13 : W.cell? ⟨b13, 0, none⟩ = some (.int .i64 (T.length : Nat)) := by rw [HW.cellOf (b := b13) (vs := #[.int .i64 (T.length : Nat)]) (E := 3) (fz := (0, 0)) (by simp) 0]; rfl
      have clf := HW.old hcw.out
      by_cases h1 : leaf < 1
      · go_wp2
        go_quiet (fail)
        have HW2 := HW.drewN nq
        generalize W.drewN nq = W2 at HW2 ⊢
        clear c12 c7v c9v c11 c8 f12 cb13 clf HW
        obtain ⟨c12, c7v, c9v, c11, c8, f12⟩ := ownG_cells (X := [_, _]) (show HL w W2 ([_, _] ++ (ownG w.heap.size w.heap.size (w.heap.size + 1) w2.heap.size w5.heap.size b12 (.slice (some ⟨g7, o7, none⟩) xs.length c7) (.slice A9 T.length c9) (.func (.func gf) #[] lb) (.slice A10 (l.length + 1) c10) (i : Nat) T m' K ++ marksAt ds)) from HW2)
        have cb13 : W2.cell? ⟨b13, 0, none⟩ = some (.int .i64 (T.length : Nat)) := by rw [HW2.cellOf (b := b13) (vs := #[.int .i64 (T.length : Nat)]) (E := 3) (fz := (0, 0)) (by simp) 0]; rfl
        go_wp2
        exact Handed.intro (n - 1) (by have := Hin.out; omega) (hJ _ _ _ ⟨i + 1, W2.heap.size, D :: ds, by have := Hin.out; omega, by have := ownG_next (i' := (i : Int) + 1) HW2; rwa [show ((i + 1 : Nat) : Int) = (i : Int) + 1 from by omega], frameF⟩)
      · by_cases h2 : (T.length : Int) < leaf
        · go_wp2
          go_quiet (fail)
          have HW2 := HW.drewN nq
          generalize W.drewN nq = W2 at HW2 ⊢
          clear c12 c7v c9v c11 c8 f12 cb13 clf HW
          obtain ⟨c12, c7v, c9v, c11, c8, f12⟩ := ownG_cells (X := [_, _]) (show HL w W2 ([_, _] ++ (ownG w.heap.size w.heap.size (w.heap.size + 1) w2.heap.size w5.heap.size b12 (.slice (some ⟨g7, o7, none⟩) xs.length c7) (.slice A9 T.length c9) (.func (.func gf) #[] lb) (.slice A10 (l.length + 1) c10) (i : Nat) T m' K ++ marksAt ds)) from HW2)
          have cb13 : W2.cell? ⟨b13, 0, none⟩ = some (.int .i64 (T.length : Nat)) := by rw [HW2.cellOf (b := b13) (vs := #[.int .i64 (T.length : Nat)]) (E := 3) (fz := (0, 0)) (by simp) 0]; rfl
          go_wp2
          exact Handed.intro (n - 1) (by have := Hin.out; omega) (hJ _ _ _ ⟨i + 1, W2.heap.size, D :: ds, by have := Hin.out; omega, by have := ownG_next (i' := (i : Int) + 1) HW2; rwa [show ((i + 1 : Nat) : Int) = (i : Int) + 1 from by omega], frameF⟩)
        · go_wp2
          go_quiet (fail)
          have HW2 := HW.drewN nq
          generalize W.drewN nq = W2 at HW2 ⊢
          clear c12 c7v c9v c11 c8 f12 cb13 clf HW
          obtain ⟨c12, c7v, c9v, c11, c8, f12⟩ := ownG_cells (X := [_, _]) (show HL w W2 ([_, _] ++ (ownG w.heap.size w.heap.size (w.heap.size + 1) w2.heap.size w5.heap.size b12 (.slice (some ⟨g7, o7, none⟩) xs.length c7) (.slice A9 T.length c9) (.func (.func gf) #[] lb) (.slice A10 (l.length + 1) c10) (i : Nat) T m' K ++ marksAt ds)) from HW2)
          have cb13 : W2.cell? ⟨b13, 0, none⟩ = some (.int .i64 (T.length : Nat)) := by rw [HW2.cellOf (b := b13) (vs := #[.int .i64 (T.length : Nat)]) (E := 3) (fz := (0, 0)) (by simp) 0]; rfl
          go_wp2
          exact Handed.intro (n - 1) (by have := Hin.out; omega) (hJ _ _ _ ⟨i + 1, W2.heap.size, D :: ds, by have := Hin.out; omega, by have := ownG_next (i' := (i : Int) + 1) HW2; rwa [show ((i + 1 : Nat) : Int) = (i : Int) + 1 from by omega], frameF⟩)
    case body =>
      rintro lp r k x W b14 L1 R a' ha hx ⟨rfl, hno⟩ HW
      simp [encIt] at ha
      subst ha
      clear hJ hKK HA
      have hkT : k < T.length := (List.getElem?_eq_some_iff.1 hx).1
      have HW' : HL w W ([blk b14 (.cells #[.int .i64 x.at_, .int .i64 x.free] 34), blk b13 (.cells #[.int .i64 (k : Nat)] 3)] ++ (ownG w.heap.size w.heap.size (w.heap.size + 1) w2.heap.size w5.heap.size b12 (.slice (some ⟨g7, o7, none⟩) xs.length c7) (.slice A9 T.length c9) (.func (.func gf) #[] lb) (.slice A10 (l.length + 1) c10) (i : Nat) T m' K ++ (marksAt ds ++ blk lp (.loop r) :: R))) := by
        have := HW
        simpa [List.append_assoc] using this
      obtain ⟨g9, o9, q9, hv, d0, d1⟩ := stp_at (ownG_steps HW') hx
      simp only [Value.slice.injEq] at hv
      obtain ⟨rfl, -, rfl⟩ := hv
      obtain ⟨c12, c7v, c9v, c11, c8, f12⟩ := ownG_cells HW'
      have clf := HW'.old hcw.out
      have cb13 : W.cell? ⟨b13, 0, none⟩ = some (.int .i64 (k : Nat)) := by rw [HW'.cellOf (b := b13) (vs := #[.int .i64 (k : Nat)]) (E := 3) (fz := (0, 0)) (by simp) 0]; rfl
      have f13 : W.frozen? ⟨b13, 0, none⟩ = false := HW'.frozenOf (b := b13) (vs := #[.int .i64 (k : Nat)]) (E := 3) (by simp) 0
      have cg0 : W.cell? ⟨b14, 0, none⟩ = some (.int .i64 x.at_) := by rw [HW'.cellOf (b := b14) (vs := #[.int .i64 x.at_, .int .i64 x.free]) (E := 34) (fz := (0, 0)) (by simp) 0]; rfl
      have cg1 : W.cell? ⟨b14, 1, none⟩ = some (.int .i64 x.free) := by rw [HW'.cellOf (b := b14) (vs := #[.int .i64 x.at_, .int .i64 x.free]) (E := 34) (fz := (0, 0)) (by simp) 1]; rfl
      have hq := sameSteps_neq
      have hge : decide (T.length ≤ k) = false := decide_eq_false (by omega)
      clear HW hx
      gi_wp2
      refine wpIn_region_cut 11 (by kernel_rfl) (by kernel_rfl) (fun ⟨_, _, h⟩ => h) ?_
      simp only [List.take_succ_cons, List.take_zero, List.drop_succ_cons, List.drop_zero]
      repeat (go_big_quiet_step ((fail)))
      refine wpQuiet_nil ?_
      intro nq
      have HW2 := HW'.drewN nq
      generalize W.drewN nq = W2 at HW2 ⊢
      clear c12 c7v c9v c11 c8 f12 cb13 f13 clf cg0 cg1 d0 d1 HW'
      have cb13 : W2.cell? ⟨b13, 0, none⟩ = some (.int .i64 (k : Nat)) := by rw [HW2.cellOf (b := b13) (vs := #[.int .i64 (k : Nat)]) (E := 3) (fz := (0, 0)) (by simp) 0]; rfl
      have f13 : W2.frozen? ⟨b13, 0, none⟩ = false := HW2.frozenOf (b := b13) (vs := #[.int .i64 (k : Nat)]) (E := 3) (by simp) 0
      have HS := HL.setAt [_] (h := (show HL w W2 ([_] ++ blk b13 (.cells #[.int .i64 (k : Nat)] 3) :: (ownG w.heap.size w.heap.size (w.heap.size + 1) w2.heap.size w5.heap.size b12 (.slice (some ⟨g7, o7, none⟩) xs.length c7) (.slice (some ⟨g9, o9, none⟩) T.length c9) (.func (.func gf) #[] lb) (.slice A10 (l.length + 1) c10) (i : Nat) T m' K ++ (marksAt ds ++ blk lp (.loop r) :: R))) from HW2)) 0 (.int .i64 ((k + 1 : Nat) : Int))
      have hk1 : ((k : Int) + 1) = ((k + 1 : Nat) : Int) := by omega
      have Hk1 := Lib.hid hk1
      clear hk1
      go_wp2
      gi_wp2
      rw [Hk1.out]
      generalize W2.setCell _ _ = W3 at HS ⊢
      clear cb13 f13 HW2
      have HS3 : HL w W3 ([blk b14 (.cells #[.int .i64 x.at_, .int .i64 x.free] 34), blk b13 (.cells #[.int .i64 ((k + 1 : Nat) : Int)] 3)] ++ (ownG w.heap.size w.heap.size (w.heap.size + 1) w2.heap.size w5.heap.size b12 (.slice (some ⟨g7, o7, none⟩) xs.length c7) (.slice (some ⟨g9, o9, none⟩) T.length c9) (.func (.func gf) #[] lb) (.slice A10 (l.length + 1) c10) (i : Nat) T m' K ++ (marksAt ds ++ blk lp (.loop r) :: R))) := HS
      clear HS
      obtain ⟨c12, c7v, c9v, c11, c8, f12⟩ := ownG_cells HS3
      have clf := HS3.old hcw.out
      have cb13 : W3.cell? ⟨b13, 0, none⟩ = some (.int .i64 ((k + 1 : Nat) : Int)) := by rw [HS3.cellOf (b := b13) (vs := #[.int .i64 ((k + 1 : Nat) : Int)]) (E := 3) (fz := (0, 0)) (by simp) 0]; rfl
      have HR : HL w W3 (blk b13 (.cells #[.int .i64 ((k + 1 : Nat) : Int)] 3) :: (ownG w.heap.size w.heap.size (w.heap.size + 1) w2.heap.size w5.heap.size b12 (.slice (some ⟨g7, o7, none⟩) xs.length c7) (.slice (some ⟨g9, o9, none⟩) T.length c9) (.func (.func gf) #[] lb) (.slice A10 (l.length + 1) c10) (i : Nat) T m' K ++ marksAt ds) ++ blk lp (.loop r) :: R) := by
        have := (show HL w W3 (_ :: blk b13 (.cells #[.int .i64 ((k + 1 : Nat) : Int)] 3) :: (ownG w.heap.size w.heap.size (w.heap.size + 1) w2.heap.size w5.heap.size b12 (.slice (some ⟨g7, o7, none⟩) xs.length c7) (.slice (some ⟨g9, o9, none⟩) T.length c9) (.func (.func gf) #[] lb) (.slice A10 (l.length + 1) c10) (i : Nat) T m' K ++ (marksAt ds ++ blk lp (.loop r) :: R))) from HS3).tail
        simpa [List.append_assoc] using this
      by_cases hlf : ((k + 1 : Nat) : Int) = leaf
      · have hbe : (((k + 1 : Nat) : Int) == leaf) = true := by simp [hlf]
        have Hlf := Lib.hid hlf
        clear hlf
        refine wpIn_region_cut 5 (by kernel_rfl) (by kernel_rfl) (fun ⟨_, _, h⟩ => h) ?_
        simp only [List.take_succ_cons, List.take_zero, List.drop_succ_cons, List.drop_zero]
        repeat (go_big_quiet_step ((fail)))
        refine wpQuiet_nil ?_
        intro nq2
        go_wp2
        gi_wp2
        exact ⟨_, ⟨rfl, k + 1, rfl, by omega, by omega, Hlf.out⟩, HR.drewN _⟩
      · have hbe : (((k + 1 : Nat) : Int) == leaf) = false := by simp; omega
        have Hlf := Lib.hid hlf
        clear hlf
        refine wpIn_region_cut 5 (by kernel_rfl) (by kernel_rfl) (fun ⟨_, _, h⟩ => h) ?_
        simp only [List.take_succ_cons, List.take_zero, List.drop_succ_cons, List.drop_zero]
        repeat (go_big_quiet_step ((fail)))
        refine wpQuiet_nil ?_
        intro nq2
        have HR2 := HR.drewN nq2
        generalize W3.drewN nq2 = W4 at HR2 ⊢
        clear c12 c7v c9v c11 c8 f12 cb13 clf HR HS3
        have HS4 : HL w W4 ([blk b13 (.cells #[.int .i64 ((k + 1 : Nat) : Int)] 3)] ++ (ownG w.heap.size w.heap.size (w.heap.size + 1) w2.heap.size w5.heap.size b12 (.slice (some ⟨g7, o7, none⟩) xs.length c7) (.slice (some ⟨g9, o9, none⟩) T.length c9) (.func (.func gf) #[] lb) (.slice A10 (l.length + 1) c10) (i : Nat) T m' K ++ (marksAt ds ++ blk lp (.loop r) :: R))) := by
          have := HR2
          simpa [List.append_assoc] using this
        obtain ⟨c12, c7v, c9v, c11, c8, f12⟩ := ownG_cells HS4
        have cb13 : W4.cell? ⟨b13, 0, none⟩ = some (.int .i64 ((k + 1 : Nat) : Int)) := by rw [HS4.cellOf (b := b13) (vs := #[.int .i64 ((k + 1 : Nat) : Int)]) (E := 3) (fz := (0, 0)) (by simp) 0]; rfl
        have hno' : ∀ j : Nat, 1 ≤ j → j ≤ k + 1 → (j : Int) ≠ leaf := fun j h1 h2 => by
          rcases Nat.lt_or_ge k j with h | h
          · obtain rfl : j = k + 1 := by omega
            exact Hlf.out
          · exact hno j h1 h
        have Hno := Lib.hid hno'
        clear hno' hno
        by_cases hi2 : (2 : Int) < i
        · go_wp2
          gi_wp2
          exact ⟨_, ⟨rfl, Hno.out⟩, HR2⟩
        · by_cases hk3 : (3 : Int) < ((k + 1 : Nat) : Int)
          · have hk3' : 3 < k + 1 := by omega
            go_wp2
            gi_wp2
            exact ⟨_, ⟨rfl, Hno.out⟩, HR2⟩
          · have hk3' : ¬ 3 < k + 1 := by omega
            have HA := HR2.alloc (.cells #[.int .i64 0] 3)
            have hcf : (W4.alloc (.cells #[.int .i64 0] 3)).cell? ⟨w5.heap.size, 0, none⟩ = some (.func (.func gf) #[] lb) := by
              rw [HA.cellOf (b := w5.heap.size) (vs := #[.func (.func gf) #[] lb]) (E := 38) (fz := (0, 0)) (by simp [ownG]) 0]; rfl
            go_wp2
            gi_wp2
            clear c12 c7v c9v c11 c8 f12 hcf cb13 HS4
            generalize hb15 : W4.heap.size = b15 at HA ⊢
            generalize (W4.alloc (.cells #[.int .i64 0] 3)) = W5 at HA ⊢
            clear HR2 hb15
            have hlp : W5.heap[lp]? = some (.loop r) := HA.get (A := blk lp (.loop r)) (by simp)
            refine wpIn_rangeFunc_KB (encs := encIt) (xs := T) (fun x => .cells #[.int .i64 x.at_, .int .i64 x.free] 34) 16 rfl eg Hit.out (fun _ => rfl) hlp (show HL w W5 ((blk b15 (.cells #[.int .i64 (0 : Nat)] 3) :: (blk b13 (.cells #[.int .i64 ((k + 1 : Nat) : Int)] 3) :: (ownG w.heap.size w.heap.size (w.heap.size + 1) w2.heap.size w5.heap.size b12 (.slice (some ⟨g7, o7, none⟩) xs.length c7) (.slice (some ⟨g9, o9, none⟩) T.length c9) (.func (.func gf) #[] lb) (.slice A10 (l.length + 1) c10) (i : Nat) T m' K ++ marksAt ds) ++ blk lp (.loop r) :: R)) ++ []) from by rw [List.append_nil]; exact HA)
              (fun m L' => L' = blk b15 (.cells #[.int .i64 (m : Nat)] 3) :: (blk b13 (.cells #[.int .i64 ((k + 1 : Nat) : Int)] 3) :: (ownG w.heap.size w.heap.size (w.heap.size + 1) w2.heap.size w5.heap.size b12 (.slice (some ⟨g7, o7, none⟩) xs.length c7) (.slice (some ⟨g9, o9, none⟩) T.length c9) (.func (.func gf) #[] lb) (.slice A10 (l.length + 1) c10) (i : Nat) T m' K ++ marksAt ds) ++ blk lp (.loop r) :: R)) (fun c L' => False) rfl ?keep2 ?assign2 ?body2 ?done2 ?stop2
            case keep2 =>
              rintro m L' rfl
              intro W HW
              exact hK W (HL.drops (K := [_, _, _, _, _, _, _]) (HL.left (L := _ :: _ :: _ :: _ :: _ :: _ :: _ :: K) (HL.left (L := _ :: _ :: _ :: _ :: _ :: _ :: _ :: (K ++ marksAt ds)) HW.tail.tail)))
            case assign2 =>
              intro lq x W J hJ2
              clear HA
              dsimp only [encIt]
              gi_wp2
              simpa [encIt] using hJ2
            case done2 =>
              rintro W L' rfl HW
              have cb15 : W.cell? ⟨b15, 0, none⟩ = some (.int .i64 (T.length : Nat)) := by rw [HW.cellOf (b := b15) (vs := #[.int .i64 (T.length : Nat)]) (E := 3) (fz := (0, 0)) (by simp) 0]; rfl
              have c9v : W.cell? ⟨w2.heap.size, 0, none⟩ = some (.slice (some ⟨g9, o9, none⟩) T.length c9) := by rw [HW.cellOf (b := w2.heap.size) (vs := #[.slice (some ⟨g9, o9, none⟩) T.length c9]) (E := 26) (fz := (0, 0)) (by simp [ownG]) 0]; rfl
              gi_wp2
              exact ⟨_, ⟨rfl, Hno.out⟩, HW.tail⟩
            case body2 =>
              rintro lq r' m y W b16 L1 R' a' ha hy rfl HW
              simp [encIt] at ha
              subst ha
              clear hge hbe HA hlp hi2 hk3 hk3'
              have hmT : m < T.length := (List.getElem?_eq_some_iff.1 hy).1
              have HW' : HL w W ([blk b16 (.cells #[.int .i64 y.at_, .int .i64 y.free] 34), blk b15 (.cells #[.int .i64 (m : Nat)] 3), blk b13 (.cells #[.int .i64 ((k + 1 : Nat) : Int)] 3)] ++ (ownG w.heap.size w.heap.size (w.heap.size + 1) w2.heap.size w5.heap.size b12 (.slice (some ⟨g7, o7, none⟩) xs.length c7) (.slice (some ⟨g9, o9, none⟩) T.length c9) (.func (.func gf) #[] lb) (.slice A10 (l.length + 1) c10) (i : Nat) T m' K ++ (marksAt ds ++ blk lp (.loop r) :: (R ++ blk lq (.loop r') :: R')))) := by
                have := HW
                simpa [List.append_assoc] using this
              obtain ⟨g0, o0, q0, hv, d0, d1⟩ := stp_at (ownG_steps HW') hy
              simp only [Value.slice.injEq, Option.some.injEq, Addr.mk.injEq] at hv
              obtain ⟨⟨rfl, rfl, -⟩, -, rfl⟩ := hv
              obtain ⟨c12, c7v, c9v, c11, c8, f12⟩ := ownG_cells HW'
              have cb15 : W.cell? ⟨b15, 0, none⟩ = some (.int .i64 (m : Nat)) := by rw [HW'.cellOf (b := b15) (vs := #[.int .i64 (m : Nat)]) (E := 3) (fz := (0, 0)) (by simp) 0]; rfl
              have cg0 : W.cell? ⟨b16, 0, none⟩ = some (.int .i64 y.at_) := by rw [HW'.cellOf (b := b16) (vs := #[.int .i64 y.at_, .int .i64 y.free]) (E := 34) (fz := (0, 0)) (by simp) 0]; rfl
              have cg1 : W.cell? ⟨b16, 1, none⟩ = some (.int .i64 y.free) := by rw [HW'.cellOf (b := b16) (vs := #[.int .i64 y.at_, .int .i64 y.free]) (E := 34) (fz := (0, 0)) (by simp) 1]; rfl
              have hge : decide (T.length ≤ m) = false := decide_eq_false (by omega)
              clear HW' hy
              gi_wp2
              refine wpIn_region_cut 11 (by kernel_rfl) (by kernel_rfl) (fun ⟨_, _, h⟩ => h) ?_
              simp only [List.take_succ_cons, List.take_zero, List.drop_succ_cons, List.drop_zero]
              repeat (go_big_quiet_step ((fail)))
              refine wpQuiet_nil ?_
              intro nq
              have HW2 := HW.drewN nq
              generalize W.drewN nq = W2 at HW2 ⊢
              clear c12 c7v c9v c11 c8 f12 cb15 cg0 cg1 d0 d1 HW
              have cb15 : W2.cell? ⟨b15, 0, none⟩ = some (.int .i64 (m : Nat)) := by rw [HW2.cellOf (b := b15) (vs := #[.int .i64 (m : Nat)]) (E := 3) (fz := (0, 0)) (by simp) 0]; rfl
              have f15 : W2.frozen? ⟨b15, 0, none⟩ = false := HW2.frozenOf (b := b15) (vs := #[.int .i64 (m : Nat)]) (E := 3) (by simp) 0
              have HS := HL.setAt [] (h := (show HL w W2 ([] ++ blk b15 (.cells #[.int .i64 (m : Nat)] 3) :: ((blk b13 (.cells #[.int .i64 ((k + 1 : Nat) : Int)] 3) :: (ownG w.heap.size w.heap.size (w.heap.size + 1) w2.heap.size w5.heap.size b12 (.slice (some ⟨g7, o7, none⟩) xs.length c7) (.slice (some ⟨g9, o9, none⟩) T.length c9) (.func (.func gf) #[] lb) (.slice A10 (l.length + 1) c10) (i : Nat) T m' K ++ marksAt ds) ++ blk lp (.loop r) :: R) ++ blk lq (.loop r') :: R')) from HW2.tail)) 0 (.int .i64 ((m + 1 : Nat) : Int))
              have hk1 : ((m : Int) + 1) = ((m + 1 : Nat) : Int) := by omega
              have Hk2 := Lib.hid hk1
              clear hk1
              go_wp2
              gi_wp2
              rw [Hk2.out]
              exact ⟨_, rfl, HS⟩
            case stop2 =>
              rintro c W L' h
              exact h.elim
    case stop =>
      rintro D c W L' ⟨rfl, k, rfl, hk1, hk2, hk3⟩ HW
      clear HA
      obtain ⟨c12, c7v, c9v, c11, c8, f12⟩ := ownG_cells (X := [_, _]) (show HL w W ([_, _] ++ (ownG w.heap.size w.heap.size (w.heap.size + 1) w2.heap.size w5.heap.size b12 (.slice (some ⟨g7, o7, none⟩) xs.length c7) (.slice A9 T.length c9) (.func (.func gf) #[] lb) (.slice A10 (l.length + 1) c10) (i : Nat) T m' K ++ marksAt ds)) from HW)
      have cb13 : W.cell? ⟨b13, 0, none⟩ = some (.int .i64 (k : Nat)) := by rw [HW.cellOf (b := b13) (vs := #[.int .i64 (k : Nat)]) (E := 3) (fz := (0, 0)) (by simp) 0]; rfl
      have clf := HW.old hcw.out
      have h1 : ¬ leaf < 1 := by omega
      have h2 : ¬ (T.length : Int) < leaf := by omega
      go_wp2
      go_quiet (fail)
      have HW2 := HW.drewN nq
      generalize W.drewN nq = W2 at HW2 ⊢
      clear c12 c7v c9v c11 c8 f12 cb13 clf HW
      obtain ⟨c12, c7v, c9v, c11, c8, f12⟩ := ownG_cells (X := [_, _]) (show HL w W2 ([_, _] ++ (ownG w.heap.size w.heap.size (w.heap.size + 1) w2.heap.size w5.heap.size b12 (.slice (some ⟨g7, o7, none⟩) xs.length c7) (.slice A9 T.length c9) (.func (.func gf) #[] lb) (.slice A10 (l.length + 1) c10) (i : Nat) T m' K ++ marksAt ds)) from HW2)
      have cb13 : W2.cell? ⟨b13, 0, none⟩ = some (.int .i64 (k : Nat)) := by rw [HW2.cellOf (b := b13) (vs := #[.int .i64 (k : Nat)]) (E := 3) (fz := (0, 0)) (by simp) 0]; rfl
      go_wp2
      exact Handed.intro (n - 1) (by have := Hin.out; omega) (hJ _ _ _ ⟨i + 1, W2.heap.size, D :: ds, by have := Hin.out; omega, by have := ownG_next (i' := (i : Int) + 1) HW2; rwa [show ((i + 1 : Nat) : Int) = (i : Int) + 1 from by omega], frameF⟩)
  · clear hJ hKK hin
    have HS := HL.setAt [_, _] (h := (show HL w w' ([_, _] ++ blk (w.heap.size + 1) (.cells #[.bool false] 4) :: (_ :: _ :: _ :: _ :: K ++ marksAt ds)) from HK)) 0 (.bool true)
    have f8 : w'.frozen? ⟨w.heap.size + 1, 0, none⟩ = false := HK.frozenOf (b := w.heap.size + 1) (vs := #[.bool false]) (E := 4) (by simp [ownG]) 0
    clear HK
    have HS2 : HL w _ (marksAt ds ++ (_ :: _ :: blk (w.heap.size + 1) (.cells #[.bool true] 4) :: _ :: _ :: _ :: _ :: K)) := HL.perm (show HL w _ ((_ :: _ :: _ :: _ :: _ :: _ :: _ :: K) ++ marksAt ds) from HS) List.perm_append_comm
    clear HS
    have HSh := Lib.hid HS2
    clear HS2
    by_cases hlt : i < xs.length
    · have h50 : ¬ i < 50 := fun h => hgo ⟨hlt, h⟩
      have h50' : ¬ (i : Int) < 50 := by omega
      go_wp2
      exact bodyPostM_marks ds rfl HSh.out (fun W hW => ⟨.bool true, by have c := hW.cellOf (b := w.heap.size + 1) (vs := #[.bool true]) (E := 4) (fz := (0, 0)) (by simp) 0; simp only [List.getElem?_toArray, List.getElem?_cons_zero] at c; simp [results, Try.results4, go_sem, c], rfl, hW.below⟩)
    · go_wp2
      exact bodyPostM_marks ds rfl HSh.out (fun W hW => ⟨.bool true, by have c := hW.cellOf (b := w.heap.size + 1) (vs := #[.bool true]) (E := 4) (fz := (0, 0)) (by simp) 0; simp only [List.getElem?_toArray, List.getElem?_cons_zero] at c; simp [results, Try.results4, go_sem, c], rfl, hW.below⟩)
end Go.Proofs.Ytebibcaahjmjfaa

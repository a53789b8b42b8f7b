/- Whoever has an answer writes all over it and lets its lists grow (the law's spoil): only the blocks of its own lists, and new ones, are written. -/
import Derived.Test.YtdekbbffoaphhaaGreatDoorProg
import Derived.Test.YtdekbbffoaphhaaGreatDoorAnWildB
import Derived.Test.YtdekbbffoaphhaaGreatDoorView
import Derived.Test.YtdekbbffoaphhaaGreatDoorOwn
import Derived.Test.YtdekbbffoaphhaaGreatDoorRegion
import Derived.WalkKit
import Derived.LoopTactic
import Derived.Deep.LoopGhost
import Derived.Deep.QuietTactic
import Derived.Deep.DeepCutAuto
import Derived.Deep.CutBlock
import Derived.BigQuiet
set_option linter.unusedVariables false
set_option linter.unusedSimpArgs false
set_option maxRecDepth 100000
set_option maxHeartbeats 8000000
namespace Go.Proofs.YtdekbbffoaphhaaGreatDoor
open Go.RowKit Go.Proofs.HL
section
variable {w0 w : World} {L : List At}
abbrev boxS (b : Nat) (cs : Array Value) : At := blk b (.cells cs 32)
theorem sliceI3 : SliceOf Tryz.prog 24 3 1 8 := sliceOf (z := .int .i64 0) Tryz.underlying24 (by kernel_rfl) rfl (by decide)
theorem sliceE46 : SliceOf Tryz.prog 23 46 6 64 := sliceOf (z := .agg #[.int .i64 0, .int .i64 0, .int .i64 0, .int .i64 0, .int .i64 0, .slice none 0 0]) Tryz.underlying23 (by kernel_rfl) rfl (by decide)
theorem sliceR62 : SliceOf Tryz.prog 27 62 2 16 := sliceOf (z := .agg #[.int .i64 0, .int .i64 0]) Tryz.underlying27 (by kernel_rfl) rfl (by decide)
theorem spoil_ok { x0 x1 x3 x4 x5 x6 x7 x8 x9 x12 x13 x14 x15 x16 x17 x18 x19 x20 x21 x22 x23 x24 x25 x26 : Value} {Ae As Ar : Option Addr} {ce cs cr ne ns nr B : Nat} {pe : Option (Nat × Nat)} {G Gr : List (Nat × Nat)} (H : HL w0 w (evW 46 G B 0 ne pe :: L)) (hE : LiesE pe ne (.slice Ae ne ce)) (hS : LiesW 1 G ns (.slice As ns cs)) (hR : LiesW 2 Gr nr (.slice Ar nr cr))
    (hG : ∀ p ∈ G, wild 3 p ∈ L) (hGr : ∀ p ∈ Gr, wild 62 p ∈ L) (hne : ne ≤ 4194304) (hns : ns ≤ 4194304) (hnr : nr ≤ 4194304) (hB : B ≤ 4294967296) :
    Calls Tryz.prog 14 #[.agg #[x0, x1, .slice Ae ne ce, x3, x4, x5, x6, x7, x8, x9, .slice As ns cs, .slice Ar nr cr, x12, x13, x14, x15, x16, x17, x18, x19, x20, x21, x22, x23, x24, x25, x26]] w fun e w' => e = .returned (.tuple #[]) ∧ HL w0 w' L := by
  have H1 : HL w0 _ (boxS w.heap.size #[x0, x1, .slice Ae ne ce, x3, x4, x5, x6, x7, x8, x9, .slice As ns cs, .slice Ar nr cr, x12, x13, x14, x15, x16, x17, x18, x19, x20, x21, x22, x23, x24, x25, x26] :: _) := H.alloc _
  generalize hb1 : w.heap.size = b1 at *
  have HE := Lib.hid hE; have HS := Lib.hid hS; have HR := Lib.hid hR; have HS2 := Lib.hid hS; have HR2 := Lib.hid hR; have HG := Lib.hid hG; have HGR := Lib.hid hGr
  clear H hE hS hR hG hGr
  go_enter Tryz.func14, Tryz.ntmps14
  go_upto_region 1 with (fail)
  have HB1 := Lib.hid hb1
  clear hb1
  generalize World.alloc w _ = W at *
  have k10 := HL.cell H1 10
  go_wp2
  go_loopg [15] ns (fun g i wr => ∃ (n : Nat), i = .int .i64 n ∧ n + g = ns ∧ HL w0 wr (boxS b1 #[x0, x1, .slice Ae ne ce, x3, x4, x5, x6, x7, x8, x9, .slice As ns cs, .slice Ar nr cr, x12, x13, x14, x15, x16, x17, x18, x19, x20, x21, x22, x23, x24, x25, x26] :: evW 46 G B 0 ne pe :: L))
  case atStart => exact ⟨0, rfl, by omega, H1⟩
  case round =>
    obtain ⟨n, rfl, hn, HK⟩ := hrel
    clear H1 k10
    by_cases hlt : n < ns
    · obtain ⟨g, o, m, hgm, rfl, hom⟩ := HS.out.at1 hlt
      have hw := fun A B => List.mem_cons_of_mem A (List.mem_cons_of_mem B (HG.out _ hgm))
      obtain ⟨⟨u, hu⟩, hf⟩ := HK.wildCell (hw _ _) hom
      have k10 := HL.cell HK 10
      have H2 := HK.wildSet (hw _ _) (o + n) (.int .i64 (-9))
      go_wp2
      go_roundg (gk - 1)
      case measure => omega
      case rel => exact ⟨n + 1, by go_num, by omega, H2⟩
    · have k11 := HL.cell HK 11
      clear HS
      go_upto_region 6 with (fail)
      clear hlt hn
      go_wp2
      go_loopg [27] nr (fun g i wr => ∃ (n : Nat), i = .int .i64 n ∧ n + g = nr ∧ HL w0 wr (boxS b1 #[x0, x1, .slice Ae ne ce, x3, x4, x5, x6, x7, x8, x9, .slice As ns cs, .slice Ar nr cr, x12, x13, x14, x15, x16, x17, x18, x19, x20, x21, x22, x23, x24, x25, x26] :: evW 46 G B 0 ne pe :: L))
      case atStart => exact ⟨0, rfl, by omega, HK⟩
      case round =>
        obtain ⟨n', rfl, hn', HK'⟩ := hrel
        clear HK k11
        by_cases hlt : n' < nr
        · obtain ⟨g, o, m, hgm, rfl, hom⟩ := HR.out.at2 hlt
          have hw := fun A B => List.mem_cons_of_mem A (List.mem_cons_of_mem B (HGR.out _ hgm))
          obtain ⟨⟨u, hu⟩, hf⟩ := HK'.wildCell (i := o + n' * 2) (hw _ _) (by omega)
          obtain ⟨⟨u', hu'⟩, hf'⟩ := HK'.wildCell (i := o + n' * 2 + 1) (hw _ _) (by omega)
          have k11 := HL.cell HK' 11
          have H2 := (HK'.wildSet (hw _ _) (o + n' * 2) (.int .i64 (-9))).wildSet (hw _ _) (o + n' * 2 + 1) (.int .i64 0)
          go_wp2
          go_roundg (gk - 1)
          case measure => omega
          case rel => exact ⟨n' + 1, by go_num, by omega, H2⟩
        · clear HR
          have k2 := HL.cell HK' 2
          go_upto_region 11 with (fail)
          clear hlt hn'
          go_wp2
          go_loopg [39] ne (fun g i wr => ∃ (n : Nat), i = .int .i64 n ∧ n + g = ne ∧ HL w0 wr (boxS b1 #[x0, x1, .slice Ae ne ce, x3, x4, x5, x6, x7, x8, x9, .slice As ns cs, .slice Ar nr cr, x12, x13, x14, x15, x16, x17, x18, x19, x20, x21, x22, x23, x24, x25, x26] :: evW 46 G B 0 ne pe :: L))
          case atStart => exact ⟨0, rfl, by omega, HK'⟩
          case round =>
            obtain ⟨n2, rfl, hn2, H3⟩ := hrel
            clear HK' k2
            obtain ⟨gko, hgo⟩ : ∃ x, x = gk := ⟨_, rfl⟩
            subst hgo
            by_cases hlt : n2 < ne
            · obtain ⟨b, m, rfl, rfl, hbm⟩ := HE.out.at hlt
              obtain ⟨k, u, hkB, hcu, hlu⟩ := H3.evList (List.mem_cons_of_mem _ (List.mem_cons_self ..)) rfl (Nat.zero_le _) hlt
              obtain ⟨Au, cu, rfl, hk1, hk2⟩ := hlu.shape
              have HLU := Lib.hid hlu
              have k2 := HL.cell H3 2
              clear hlu
              go_upto_region 15 with (fail)
              go_loopg [49] k (fun g i wr => ∃ (j : Nat), i = .int .i64 j ∧ j + g = k ∧ wr.cell? ⟨b, n2 * 6 + 5, none⟩ = some (.slice Au k cu) ∧ HL w0 wr (boxS b1 #[x0, x1, .slice (some ⟨b, 0, none⟩) ne ce, x3, x4, x5, x6, x7, x8, x9, .slice As ns cs, .slice Ar nr cr, x12, x13, x14, x15, x16, x17, x18, x19, x20, x21, x22, x23, x24, x25, x26] :: evW 46 G B 0 ne (some (b, m)) :: L))
              case atStart => exact ⟨0, rfl, by omega, hcu, H3⟩
              case round =>
                obtain ⟨j, rfl, hj, hcu', H4⟩ := hrel
                clear H3 k2 hcu
                by_cases hltj : j < k
                · obtain ⟨g, o, m', hgm, rfl, hom⟩ := HLU.out.at1 hltj
                  have hw := fun A B => List.mem_cons_of_mem A (List.mem_cons_of_mem B (HG.out _ hgm))
                  obtain ⟨⟨u, hu⟩, hf⟩ := H4.wildCell (hw _ _) hom
                  have k2 := HL.cell H4 2
                  have H5 := H4.wildSet (hw _ _) (o + j) (.int .i64 (-9))
                  have c5 := cell_other (i := o + j) (u := .int .i64 (-9)) (H4.evApart (HG.out _ hgm)) hcu'
                  go_wp2
                  go_roundg (gk - 1)
                  case measure => omega
                  case rel => exact ⟨j + 1, by go_num, by omega, c5, H5⟩
                · go_wp2
                  go_roundg (gko - 1)
                  case measure => omega
                  case rel => exact ⟨n2 + 1, by go_num, by omega, H4⟩
            · have k2 := HL.cell H3 2
              go_upto_region 20 with (fail)
              clear hlt hn2
              go_wp2
              go_loopg [65] ne (fun g i wr => ∃ (n : Nat) (M : List (Nat × Nat)), i = .int .i64 n ∧ n + g = ne ∧ HL w0 wr (boxS b1 #[x0, x1, .slice Ae ne ce, x3, x4, x5, x6, x7, x8, x9, .slice As ns cs, .slice Ar nr cr, x12, x13, x14, x15, x16, x17, x18, x19, x20, x21, x22, x23, x24, x25, x26] :: evW 46 (M ++ G) B n ne pe :: (M.map (wild 3) ++ L)))
              case atStart => exact ⟨0, [], rfl, by omega, H3⟩
              case round =>
                obtain ⟨n3, M, rfl, hn3, H4⟩ := hrel
                clear H3 k2
                obtain ⟨gko, hgo⟩ : ∃ x, x = gk := ⟨_, rfl⟩
                subst hgo
                by_cases hlt : n3 < ne
                · obtain ⟨b, m, rfl, rfl, hbm⟩ := HE.out.at hlt
                  obtain ⟨k, u, hkB, hcu, hlu⟩ := H4.evList (List.mem_cons_of_mem _ (List.mem_cons_self ..)) rfl (Nat.le_refl _) hlt
                  obtain ⟨Au, cu, rfl, hk1, hk2⟩ := hlu.shape
                  have HLU := Lib.hid hlu
                  have k2 := HL.cell H4 2
                  clear hlu
                  go_upto_region 24 with (fail)
                  clear hcu k2
                  go_wp2
                  go_loopg [7, 74] 4 (fun g l i wr => ∃ (j : Nat) (M : List (Nat × Nat)) (v : Value), i = .int .i64 j ∧ j + g = 4 ∧ l = v ∧ LiesW 1 (M ++ G) (k + j) v ∧ HL w0 wr (boxS b1 #[x0, x1, .slice (some ⟨b, 0, none⟩) ne ce, x3, x4, x5, x6, x7, x8, x9, .slice As ns cs, .slice Ar nr cr, x12, x13, x14, x15, x16, x17, x18, x19, x20, x21, x22, x23, x24, x25, x26] :: evW 46 (M ++ G) B n3 ne (some (b, m)) :: (M.map (wild 3) ++ L)))
                  case atStart => exact ⟨0, M, _, rfl, by omega, rfl, HLU.out, H4⟩
                  case round =>
                    obtain ⟨j, M', v, rfl, hj, rfl, hlv, H5⟩ := hrel
                    clear H4 HLU
                    by_cases hltj : j < 4
                    · have HA := H5.alloc (.cells #[.int .i64 (-9)] 3)
                      have HLV := Lib.hid hlv
                      obtain ⟨Av, cv, rfl, -, -⟩ := hlv.shape
                      clear hlv
                      go_wp2_with (at_builtin; refine wpList_append_wild sliceI3 rfl _ _ rfl (G := M' ++ G) (news := [.int .i64 (-9)]) HA (fun p hp => List.mem_cons_of_mem _ (List.mem_cons_of_mem _ (List.mem_cons_of_mem _ (wild_more HG.out p hp)))) HLV.out rfl rfl (rd_one rfl) (by simp [Value.oneCell']) (by unfold maxLen; omega) (by omega) ?_; intro v' w' M2 H6 h6; clear HA HLV)
                      go_roundg (gk - 1)
                      case measure => omega
                      case rel =>
                        have H7 := H6.front3
                        rw [← List.append_assoc, ← List.map_append] at H7
                        rw [← List.append_assoc] at h6
                        exact ⟨j + 1, M2 ++ M', v', by go_num, by omega, rfl, h6, H7.swap.evMore (fun q hq => by rw [List.append_assoc]; exact List.mem_append_right _ hq) (Nat.le_refl _) |>.swap⟩
                    · have H6 := (H5.swap.evMore (fun q hq => hq) (Nat.le_succ n3)).swap
                      obtain ⟨⟨y0, hy0⟩, f0⟩ := H6.evCell (j := n3 * 6) (List.mem_cons_of_mem _ (List.mem_cons_self ..)) rfl (by omega)
                      obtain ⟨⟨y1, hy1⟩, f1⟩ := H6.evCell (j := n3 * 6 + 1) (List.mem_cons_of_mem _ (List.mem_cons_self ..)) rfl (by omega)
                      obtain ⟨⟨y2, hy2⟩, f2⟩ := H6.evCell (j := n3 * 6 + 2) (List.mem_cons_of_mem _ (List.mem_cons_self ..)) rfl (by omega)
                      obtain ⟨⟨y3, hy3⟩, f3⟩ := H6.evCell (j := n3 * 6 + 3) (List.mem_cons_of_mem _ (List.mem_cons_self ..)) rfl (by omega)
                      obtain ⟨⟨y4, hy4⟩, f4⟩ := H6.evCell (j := n3 * 6 + 4) (List.mem_cons_of_mem _ (List.mem_cons_self ..)) rfl (by omega)
                      obtain ⟨⟨y5, hy5⟩, f5⟩ := H6.evCell (j := n3 * 6 + 5) (List.mem_cons_of_mem _ (List.mem_cons_self ..)) rfl (by omega)
                      have k2 := HL.cell H6 2
                      obtain ⟨Av, cv, rfl, -, -⟩ := hlv.shape
                      have H7 := (((((((H6.swap.evSet rfl (j := n3 * 6) (by omega) (.int .i64 (-9))).evSet rfl (j := n3 * 6 + 1) (by omega) (.int .i64 0)).evSet rfl (j := n3 * 6 + 2) (by omega) (.int .i64 0)).evSet rfl (j := n3 * 6 + 3) (by omega) (.int .i64 0)).evSet rfl (j := n3 * 6 + 4) (by omega) (.int .i64 0)).evSet rfl (j := n3 * 6 + 5) (by omega) (.slice Av (k + j) cv))).swap
                      clear hlv H5 H6
                      go_wp2
                      go_roundg (gko - 1)
                      case measure => omega
                      case rel => exact ⟨n3 + 1, M', by go_num, by omega, H7⟩
                · have k2 := HL.cell H4 2
                  have k10 := HL.cell H4 10
                  have k11 := HL.cell H4 11
                  have hE := HE.out.wild; have hS := HS2.out; have hR := HR2.out
                  have hw6 : ∀ p ∈ pe.toList, wild 46 p ∈ pe.toList.map (wild 46) ++ (M.map (wild 3) ++ L) := fun p hp => List.mem_append_left _ (List.mem_map_of_mem hp)
                  have hw3 : ∀ p ∈ G, wild 3 p ∈ pe.toList.map (wild 46) ++ (M.map (wild 3) ++ L) := fun p hp => List.mem_append_right _ (List.mem_append_right _ (HG.out p hp))
                  have hw2 : ∀ p ∈ Gr, wild 62 p ∈ pe.toList.map (wild 46) ++ (M.map (wild 3) ++ L) := fun p hp => List.mem_append_right _ (List.mem_append_right _ (HGR.out p hp))
                  have H5 := H4.tail.evWild
                  rw [← List.append_assoc] at H5 hw6 hw3 hw2
                  generalize pe.toList.map (wild 46) ++ M.map (wild 3) = K at H5 hw6 hw3 hw2
                  generalize pe.toList = G6 at hE hw6
                  have HE6 := Lib.hid hE; have HS6 := Lib.hid hS; have HR6 := Lib.hid hR; have HW6 := Lib.hid hw6; have HW3 := Lib.hid hw3; have HW2 := Lib.hid hw2
                  clear H4 hE hS hR hw6 hw3 hw2 HE HG HGR HS2 HR2
                  go_upto_region 30 with (fail)
                  clear hn3
                  go_quiet (fail)
                  have H5 := H5.drewN nq
                  generalize World.drewN wr nq = wq at *
                  clear hlt k2 k10 k11
                  go_wp2
                  go_loopg [8, 9, 10, 94] 4 (fun g e s r i wr => ∃ (j : Nat) (K : List At) (G6 G3 G2 : List (Nat × Nat)) (v6 v3 v2 : Value), i = .int .i64 j ∧ j + g = 4 ∧ e = v6 ∧ s = v3 ∧ r = v2 ∧ LiesW 6 G6 (ne + j) v6 ∧ LiesW 1 G3 (ns + j) v3 ∧ LiesW 2 G2 (nr + j) v2 ∧ (∀ p ∈ G6, wild 46 p ∈ K ++ L) ∧ (∀ p ∈ G3, wild 3 p ∈ K ++ L) ∧ (∀ p ∈ G2, wild 62 p ∈ K ++ L) ∧ HL w0 wr (K ++ L))
                  case atStart => exact ⟨0, K, G6, G, Gr, _, _, _, rfl, by omega, rfl, rfl, rfl, HE6.out, HS6.out, HR6.out, HW6.out, HW3.out, HW2.out, H5⟩
                  case round =>
                    obtain ⟨j, K', G6', G3', G2', v6, v3, v2, rfl, hj, rfl, rfl, rfl, h6, h3, h2, w6, w3, w2, H6⟩ := hrel
                    have W6 := Lib.hid w6; have W3 := Lib.hid w3; have W2 := Lib.hid w2; have HV6 := Lib.hid h6; have HV3 := Lib.hid h3; have HV2 := Lib.hid h2
                    clear w6 w3 w2 H5 HE6 HS6 HR6 HW6 HW3 HW2
                    by_cases hltj : j < 4
                    · obtain ⟨a6, c6, rfl, -, -⟩ := h6.shape
                      obtain ⟨a3, c3, rfl, -, -⟩ := h3.shape
                      obtain ⟨a2, c2, rfl, -, -⟩ := h2.shape
                      clear h6 h3 h2
                      have HA := H6.alloc (.cells #[.int .i64 (-9), .int .i64 0, .int .i64 0, .int .i64 0, .int .i64 0, .slice none 0 0] 46)
                      go_upto_region 34 with (at_builtin; refine wpList_append_wild sliceE46 rfl _ _ rfl (G := G6') (news := [.int .i64 (-9), .int .i64 0, .int .i64 0, .int .i64 0, .int .i64 0, .slice none 0 0]) HA (fun p hp => List.mem_cons_of_mem _ (W6.out p hp)) HV6.out rfl rfl (rd_new (n := 1) (k := 6) rfl rfl (by unfold maxLen; omega)) (by simp [Value.oneCell']) (by unfold maxLen; omega) (by omega) ?_; intro z6 w7 M6 H7 l6; clear HA HV6)
                      have HA := H7.alloc (.cells #[.int .i64 (-9)] 3)
                      obtain ⟨b6, d6, rfl, -, -⟩ := l6.shape
                      have L6 := Lib.hid l6
                      clear l6 H6
                      go_upto_region 35 with (at_builtin; refine wpList_append_wild sliceI3 rfl _ _ rfl (G := G3') (news := [.int .i64 (-9)]) HA (fun p hp => List.mem_cons_of_mem _ (List.mem_append_right _ (List.mem_cons_of_mem _ (W3.out p hp)))) HV3.out rfl rfl (rd_one rfl) (by simp [Value.oneCell']) (by unfold maxLen; omega) (by omega) ?_; intro z3 w8 M3 H8 l3; clear HA HV3)
                      have HA := H8.alloc (.cells #[.int .i64 (-9), .int .i64 0] 62)
                      obtain ⟨b3, d3, rfl, -, -⟩ := l3.shape
                      have L3 := Lib.hid l3
                      clear l3 H7
                      go_wp2_with (at_builtin; refine wpList_append_wild sliceR62 rfl _ _ rfl (G := G2') (news := [.int .i64 (-9), .int .i64 0]) HA (fun p hp => List.mem_cons_of_mem _ (List.mem_append_right _ (List.mem_cons_of_mem _ (List.mem_append_right _ (List.mem_cons_of_mem _ (W2.out p hp)))))) HV2.out rfl rfl (rd_new (n := 1) (k := 2) rfl rfl (by unfold maxLen; omega)) (by simp [Value.oneCell']) (by unfold maxLen; omega) (by omega) ?_; intro z2 w9 M2 H9 l2; clear HA HV2)
                      go_roundg (gk - 1)
                      case measure => omega
                      case rel =>
                        have hp : ∀ (A B C : List At) (x y z : At), A ++ (x :: (B ++ (y :: (C ++ (z :: (K' ++ L)))))) = (A ++ (x :: (B ++ (y :: (C ++ (z :: K')))))) ++ L := fun A B C x y z => by simp
                        rw [hp] at H9
                        refine ⟨j + 1, _, M6 ++ G6', M3 ++ G3', M2 ++ G2', _, _, _, by go_num, by omega, rfl, rfl, rfl, L6.out, L3.out, l2, ?_, ?_, ?_, H9⟩
                        · intro p hp
                          have := wild_more W6.out p hp
                          simp only [List.mem_append, List.mem_cons] at this ⊢
                          rcases this with h | h | h <;> simp only [h, true_or, or_true]
                        · intro p hp
                          have := wild_more W3.out p hp
                          simp only [List.mem_append, List.mem_cons] at this ⊢
                          rcases this with h | h | h <;> simp only [h, true_or, or_true]
                        · intro p hp
                          have := wild_more W2.out p hp
                          simp only [List.mem_append, List.mem_cons] at this ⊢
                          rcases this with h | h | h <;> simp only [h, true_or, or_true]
                    · clear h6 h3 h2
                      have HF := H6.drops
                      go_wp2
                      go_end0
                      exact ⟨rfl, HF⟩
end
end Go.Proofs.YtdekbbffoaphhaaGreatDoor

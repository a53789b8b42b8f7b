/- The document's examples of answers. -/
import Derived.Test.YtdekbbffoaphhaaGreatDoorAnZipB
import Derived.Test.YtdekbbffoaphhaaGreatDoorAnParse
import Derived.Test.YtdekbbffoaphhaaGreatDoorAnPkA
set_option linter.unusedVariables false
set_option linter.unusedSimpArgs false
set_option maxRecDepth 100000
set_option maxHeartbeats 8000000
namespace Go.Proofs.An
def exE : Ev := ⟨2, 2, 7, 0, 0, [0, 3]⟩
def exR : Ev := ⟨3, 2, 9, 4, 0, []⟩
def exH : Ans := ⟨0, 0, [], zJ, [], 0, 0, 0, 0, -1, 0, zC, 0⟩
def exF : Ans := ⟨0, 0, [], zJ, [], 0, 0, 0, 3, 0, 0, zC, 0⟩
theorem ex1 : evS exE = ⟨#[115, 116, 97, 114, 116, 32, 50, 32, 55, 32, 48, 32, 51]⟩ ∧ evN exE = 0 := by decide +kernel
theorem ex2 : readE ⟨#[101, 110, 100, 32, 50, 32, 57, 32, 107, 105, 108, 108, 101, 100]⟩ = (exR, 0) := by decide +kernel
theorem ex3 : printS 10 exH = ⟨#[104, 111, 108, 100, 101, 114, 32, 45, 49, 32, 48, 10]⟩ ∧ checkA 10 exH = 0 := by decide +kernel
theorem ex4 : parseA 12 ⟨#[102, 114, 101, 101, 32, 51, 10]⟩ = (exF, 0) := by decide +kernel
theorem ex5 : checkA 14 exF = 90 := by decide +kernel
theorem ex6 : sameB exR exR = true := by decide +kernel
theorem exE_ok : EvOk exE := ⟨by decide, by decide, by decide, by decide, fun n hn => by
 simp only [exE, List.mem_cons, List.not_mem_nil, or_false] at hn
 omega, by decide⟩
theorem exH_ok : AnsOk exH := by
 have z := tail_ok (k := 10) (st := 0) (us := 0) (fa := 0) (n := [-1, 0]) (fun n hn => by
  simp only [List.mem_cons, List.not_mem_nil, or_false] at hn
  omega) (by decide) int0 (by decide) (by decide)
 exact z
end Go.Proofs.An
namespace Go.Proofs.YtdekbbffoaphhaaGreatDoor
open Go.RowKit Go.Proofs.HL Go.Proofs.An
section
variable {w0 w : World} {L : List At}
theorem shown_ok (hD : Doors w0) (H : HL w0 w L) : Calls Tryz.prog 6 #[] w fun e w' => e = .returned (.bool true) ∧ HL w0 w' L := by
 have H1 := H.alloc (.cells (intC [0, 3]).toArray 3)
 have hev := event_ok hD H1 exE (v := .slice (some ⟨w.heap.size, 0, none⟩) 2 2) (entBlk (k := 1) (n := 2) (cs := intC [0, 3]) rfl (by unfold maxLen; simp)) exE_ok
 rw [ex1.1, ex1.2] at hev
 simp only [evV, exE] at hev
 go_enter Tryz.func6, Tryz.ntmps6
 go_upto_region 2 with (go_at_call 16; refine hev.mono ?_; rintro r w2 ⟨rfl, H2⟩; clear hev H1 H)
 have hre := read_ok hD H2 ⟨#[101, 110, 100, 32, 50, 32, 57, 32, 107, 105, 108, 108, 101, 100]⟩ (by decide)
 unfold ReadPost at hre
 rw [ex2] at hre
 go_upto_region 3 with (go_at_call 17; refine hre.mono ?_; rintro r w3 ⟨u, K, rfl, hu, H3⟩; clear hre H2; obtain ⟨Au, cu, rfl, -, -⟩ := rd_shape (hu w3 H3.left); have H4 := HL.allocE H3 exR (.slice Au exR.list.length cu); simp only [evV, exR])
 replace H4 : HL w0 (w3.alloc (.cells #[.int .i64 3, .int .i64 2, .int .i64 9, .int .i64 4, .int .i64 0, .slice Au 0 cu] 46)) (boxE w3.heap.size exR (.slice Au 0 cu) :: _) := H4
 generalize World.alloc w3 _ = W4 at *
 generalize w3.heap.size = b4 at *
 have hpr := print_ok hD fmtU_all H4 10 exH none none none 0 0 0 (ps := []) rfl ⟨fun W _ => rd_nil, fun p hp => by simp at hp⟩ (fun W _ => rd_nil) (fun W _ => rd_nil) exH_ok (by decide +kernel)
 rw [ex3.1, ex3.2] at hpr
 have hpr : Calls Tryz.prog 8 #[.int .i64 10, .agg #[.int .i64 0, .int .i64 0, .slice none 0 0, .int .i64 0, .int .i64 0, .int .i64 0, .int .i64 0, .int .i64 0, .int .i64 0, .int .i64 0, .slice none 0 0, .slice none 0 0, .int .i64 0, .int .u64 0, .int .u64 0, .int .i64 0, .int .i64 (-1), .int .i64 0, .int .i64 0, .int .i64 0, .int .i64 0, .int .i64 0, .int .i64 0, .int .i64 0, .int .i64 0, .int .i64 0, .int .i64 0]] _ _ := hpr
 go_upto_region 4 with (go_at_call 8; (with_reducible refine hpr.mono ?_); rintro r w5 ⟨rfl, H5⟩; clear hpr H4)
 have hpa := parse_ok hD H5 12 ⟨#[102, 114, 101, 101, 32, 51, 10]⟩ (by decide)
 unfold ParsePost at hpa
 rw [ex4] at hpa
 go_upto_region 5 with (first
  | (go_at_call 13; (with_reducible refine hpa.mono ?_); rintro r w6 ⟨K6, Ae, As, Ar, ce, cs, cr, ps, rfl, hev6, hE6, hI6, hR6, H6⟩; have HEV := Lib.hid hev6; clear hpa H5 hev6; have H7 := HL.bzA H6; have G7 : _ = some (Obj.cells _ 32 (0, 0)) := H7.head; have H8 : HL w0 _ (boxA w6.heap.size exF (.slice Ae exF.events.length ce) (.slice As exF.job.set.length cs) (.slice Ar exF.ranks.length cr) :: _) := HL.setWhole (cells := ansA exF (.slice Ae exF.events.length ce) (.slice As exF.job.set.length cs) (.slice Ar exF.ranks.length cr)) H7)
  | (refine wpList_store_row rfl 32 _ _ rfl w6.heap.size (ansA exF (.slice Ae exF.events.length ce) (.slice As exF.job.set.length cs) (.slice Ar exF.ranks.length cr)) rfl rfl 32 _ G7 (ansA_size _ _ _ _) rfl (ansA_one _ _ _ _ _ _ _ _ _ _) ?_; clear G7 H7 H6))
 generalize World.setRow _ _ _ = W8 at *
 generalize w6.heap.size = b8 at *
 obtain ⟨n0, n1, n2, n3, n4, n5⟩ := boxE_cells (HL.drops (K := K6) H8.tail)
 have hsm := same_ok H8 exR exR (.slice Au 0 cu) (.slice none 0 0) (Ent.cons (Ent.right (Ent.cons (Ent.left hu) _)) _) (fun W _ => rd_nil)
 rw [ex6] at hsm
 have hsm : Calls Tryz.prog 18 #[.agg #[.int .i64 3, .int .i64 2, .int .i64 9, .int .i64 4, .int .i64 0, .slice Au 0 cu], .agg #[.int .i64 3, .int .i64 2, .int .i64 9, .int .i64 4, .int .i64 0, .slice none 0 0]] _ _ := hsm
 simp only [exR] at n0 n1 n2 n3 n4 n5
 go_wp2_with (first
  | (go_at_call 18; (with_reducible refine hsm.mono ?_); rintro r w9 ⟨rfl, H9⟩; clear hsm n0 n1 n2 n3 n4 n5 H8; have c15 : w9.cell? ⟨b8, 15, none⟩ = some (.int .i64 3) := HL.cell H9 15; have G9 : _ = some (Obj.cells (ansA exF (.slice Ae exF.events.length ce) (.slice As exF.job.set.length cs) (.slice Ar exF.ranks.length cr)) 32 (0, 0)) := H9.head; have hck : Calls Tryz.prog 10 #[.int .i64 14, .agg (ansA exF (.slice Ae exF.events.length ce) (.slice As exF.job.set.length cs) (.slice Ar exF.ranks.length cr))] _ _ := check_ok H9 14 exF Ae As Ar ce cs cr HEV.out (hE6.left.cons _) (Ent.cons (Ent.left hI6) _) (Ent.cons (Ent.left hR6) _); rw [ex5] at hck)
  | (have g1 := G9; refine wpList_load_if (by rfl) 32 _ rfl b8 rfl 32 _ (0, 0) _ g1 Tryz.underlying32 rfl (ansA_size _ _ _ _) ?_; clear g1 G9)
  | (go_at_call 10; (with_reducible refine hck.mono ?_); rintro r w10 ⟨rfl, H10⟩; clear hck))
 go_ret
 exact ⟨rfl, (HL.drops (K := K) (HL.drops (K := K6) H10.tail).tail).tail⟩
end
end Go.Proofs.YtdekbbffoaphhaaGreatDoor

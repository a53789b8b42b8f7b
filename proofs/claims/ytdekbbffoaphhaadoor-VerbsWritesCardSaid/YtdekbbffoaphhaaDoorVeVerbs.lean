/- The table of the verbs: thirteen rows, made anew by each call. -/
import Derived.Test.YtdekbbffoaphhaaDoorVeSmall
set_option linter.unusedVariables false
set_option linter.unusedSimpArgs false
namespace Go.Proofs.YtdekbbffoaphhaaDoor
open Go.RowKit Go.Proofs.HL Go.Proofs.Ve
def encV (p : Verb × Value) : List Value := [.int .i64 p.1.kind, .string p.1.word, p.2]
/-- The table, as it is read. -/
structure VRd (w : World) (v : Value) (us : List Value) : Prop where
  len : us.length = 13
  tab : Rd 3 v 13 ((verbL.zip us).flatMap encV) w
  fs : ∀ (i : Nat) V u, verbL[i]? = some V → us[i]? = some u → Rd 1 u V.fs.length (V.fs.map fun f : Nat => .int .i64 (f : Int)) w
section
variable {w0 w : World} {L : List At}
set_option maxRecDepth 100000 in
set_option maxHeartbeats 2000000 in
theorem verbs_ok (H : HL w0 w L) : Calls Tryd.prog 28 #[] w fun e w' => ∃ v us K, e = .returned v ∧ HL w0 w' (K ++ L) ∧ (∀ W L', HL w0 W (K ++ L') → VRd W v us) := by
  have H0 := (H.alloc (.cells #[.int .i64 0, .int .i64 3, .int .i64 4] 3)).rowOf (k := 1) (n := 3) (cs := [.int .i64 0, .int .i64 3, .int .i64 4]) rfl (by decide)
  have H1 := (H0.alloc (.cells #[.int .i64 5] 3)).rowOf (k := 1) (n := 1) (cs := [.int .i64 5]) rfl (by decide)
  have H2 := (H1.alloc (.cells #[.int .i64 5] 3)).rowOf (k := 1) (n := 1) (cs := [.int .i64 5]) rfl (by decide)
  have H3 := (H2.alloc (.cells #[.int .i64 6] 3)).rowOf (k := 1) (n := 1) (cs := [.int .i64 6]) rfl (by decide)
  have H4 := (H3.alloc (.cells #[.int .i64 0, .int .i64 1, .int .i64 2] 3)).rowOf (k := 1) (n := 3) (cs := [.int .i64 0, .int .i64 1, .int .i64 2]) rfl (by decide)
  have H5 := (H4.alloc (.cells #[.int .i64 0, .int .i64 2] 3)).rowOf (k := 1) (n := 2) (cs := [.int .i64 0, .int .i64 2]) rfl (by decide)
  have H6 := (H5.alloc (.cells #[.int .i64 0, .int .i64 1] 3)).rowOf (k := 1) (n := 2) (cs := [.int .i64 0, .int .i64 1]) rfl (by decide)
  have H7 := (H6.alloc (.cells #[.int .i64 0] 3)).rowOf (k := 1) (n := 1) (cs := [.int .i64 0]) rfl (by decide)
  have H8 := (H7.alloc (.cells #[.int .i64 5] 3)).rowOf (k := 1) (n := 1) (cs := [.int .i64 5]) rfl (by decide)
  have H9 := (H8.alloc (.cells #[.int .i64 0] 3)).rowOf (k := 1) (n := 1) (cs := [.int .i64 0]) rfl (by decide)
  have HT := (H9.alloc (.cells #[.int .i64 1, .string ⟨#[115, 117, 98, 109, 105, 116]⟩, .slice (some ⟨w.heap.size, 0, none⟩) 3 3, .int .i64 2, .string ⟨#[99, 97, 110, 99, 101, 108]⟩, .slice (some ⟨w.heap.size + 1, 0, none⟩) 1 1, .int .i64 3, .string ⟨#[99, 111, 109, 112, 108, 101, 116, 101]⟩, .slice (some ⟨w.heap.size + 1 + 1, 0, none⟩) 1 1, .int .i64 4, .string ⟨#[116, 105, 99, 107]⟩, .slice (some ⟨w.heap.size + 1 + 1 + 1, 0, none⟩) 1 1, .int .i64 5, .string ⟨#[97, 99, 99, 111, 117, 110, 116]⟩, .slice (some ⟨w.heap.size + 1 + 1 + 1 + 1, 0, none⟩) 3 3, .int .i64 6, .string ⟨#[115, 104, 97, 114, 101, 115]⟩, .slice (some ⟨w.heap.size + 1 + 1 + 1 + 1 + 1, 0, none⟩) 2 2, .int .i64 7, .string ⟨#[109, 111, 118, 101]⟩, .slice (some ⟨w.heap.size + 1 + 1 + 1 + 1 + 1 + 1, 0, none⟩) 2 2, .int .i64 8, .string ⟨#[99, 108, 111, 115, 101]⟩, .slice (some ⟨w.heap.size + 1 + 1 + 1 + 1 + 1 + 1 + 1, 0, none⟩) 1 1, .int .i64 9, .string ⟨#[106, 111, 98]⟩, .slice (some ⟨w.heap.size + 1 + 1 + 1 + 1 + 1 + 1 + 1 + 1, 0, none⟩) 1 1, .int .i64 10, .string ⟨#[113, 117, 101, 117, 101]⟩, .slice none 0 0, .int .i64 11, .string ⟨#[117, 115, 97, 103, 101]⟩, .slice (some ⟨w.heap.size + 1 + 1 + 1 + 1 + 1 + 1 + 1 + 1 + 1, 0, none⟩) 1 1, .int .i64 12, .string ⟨#[110, 111, 100, 101, 115]⟩, .slice none 0 0, .int .i64 13, .string ⟨#[99, 111, 110, 102, 105, 103]⟩, .slice none 0 0] 60)).rowOf (k := 3) (n := 13) (cs := [.int .i64 1, .string ⟨#[115, 117, 98, 109, 105, 116]⟩, .slice (some ⟨w.heap.size, 0, none⟩) 3 3, .int .i64 2, .string ⟨#[99, 97, 110, 99, 101, 108]⟩, .slice (some ⟨w.heap.size + 1, 0, none⟩) 1 1, .int .i64 3, .string ⟨#[99, 111, 109, 112, 108, 101, 116, 101]⟩, .slice (some ⟨w.heap.size + 1 + 1, 0, none⟩) 1 1, .int .i64 4, .string ⟨#[116, 105, 99, 107]⟩, .slice (some ⟨w.heap.size + 1 + 1 + 1, 0, none⟩) 1 1, .int .i64 5, .string ⟨#[97, 99, 99, 111, 117, 110, 116]⟩, .slice (some ⟨w.heap.size + 1 + 1 + 1 + 1, 0, none⟩) 3 3, .int .i64 6, .string ⟨#[115, 104, 97, 114, 101, 115]⟩, .slice (some ⟨w.heap.size + 1 + 1 + 1 + 1 + 1, 0, none⟩) 2 2, .int .i64 7, .string ⟨#[109, 111, 118, 101]⟩, .slice (some ⟨w.heap.size + 1 + 1 + 1 + 1 + 1 + 1, 0, none⟩) 2 2, .int .i64 8, .string ⟨#[99, 108, 111, 115, 101]⟩, .slice (some ⟨w.heap.size + 1 + 1 + 1 + 1 + 1 + 1 + 1, 0, none⟩) 1 1, .int .i64 9, .string ⟨#[106, 111, 98]⟩, .slice (some ⟨w.heap.size + 1 + 1 + 1 + 1 + 1 + 1 + 1 + 1, 0, none⟩) 1 1, .int .i64 10, .string ⟨#[113, 117, 101, 117, 101]⟩, .slice none 0 0, .int .i64 11, .string ⟨#[117, 115, 97, 103, 101]⟩, .slice (some ⟨w.heap.size + 1 + 1 + 1 + 1 + 1 + 1 + 1 + 1 + 1, 0, none⟩) 1 1, .int .i64 12, .string ⟨#[110, 111, 100, 101, 115]⟩, .slice none 0 0, .int .i64 13, .string ⟨#[99, 111, 110, 102, 105, 103]⟩, .slice none 0 0]) rfl (by decide)
  simp only [World.size_alloc] at HT
  go_enter Tryd.func28, Tryd.ntmps28
  go_wp2
  go_ret
  refine ⟨_, [.slice (some ⟨w.heap.size, 0, none⟩) 3 3, .slice (some ⟨w.heap.size + 1, 0, none⟩) 1 1, .slice (some ⟨w.heap.size + 1 + 1, 0, none⟩) 1 1, .slice (some ⟨w.heap.size + 1 + 1 + 1, 0, none⟩) 1 1, .slice (some ⟨w.heap.size + 1 + 1 + 1 + 1, 0, none⟩) 3 3, .slice (some ⟨w.heap.size + 1 + 1 + 1 + 1 + 1, 0, none⟩) 2 2, .slice (some ⟨w.heap.size + 1 + 1 + 1 + 1 + 1 + 1, 0, none⟩) 2 2, .slice (some ⟨w.heap.size + 1 + 1 + 1 + 1 + 1 + 1 + 1, 0, none⟩) 1 1, .slice (some ⟨w.heap.size + 1 + 1 + 1 + 1 + 1 + 1 + 1 + 1, 0, none⟩) 1 1, .slice none 0 0, .slice (some ⟨w.heap.size + 1 + 1 + 1 + 1 + 1 + 1 + 1 + 1 + 1, 0, none⟩) 1 1, .slice none 0 0, .slice none 0 0], [row w0.heap.size 60 3 (.slice (some ⟨w.heap.size + 1 + 1 + 1 + 1 + 1 + 1 + 1 + 1 + 1 + 1, 0, none⟩) 13 13) 13 [.int .i64 1, .string ⟨#[115, 117, 98, 109, 105, 116]⟩, .slice (some ⟨w.heap.size, 0, none⟩) 3 3, .int .i64 2, .string ⟨#[99, 97, 110, 99, 101, 108]⟩, .slice (some ⟨w.heap.size + 1, 0, none⟩) 1 1, .int .i64 3, .string ⟨#[99, 111, 109, 112, 108, 101, 116, 101]⟩, .slice (some ⟨w.heap.size + 1 + 1, 0, none⟩) 1 1, .int .i64 4, .string ⟨#[116, 105, 99, 107]⟩, .slice (some ⟨w.heap.size + 1 + 1 + 1, 0, none⟩) 1 1, .int .i64 5, .string ⟨#[97, 99, 99, 111, 117, 110, 116]⟩, .slice (some ⟨w.heap.size + 1 + 1 + 1 + 1, 0, none⟩) 3 3, .int .i64 6, .string ⟨#[115, 104, 97, 114, 101, 115]⟩, .slice (some ⟨w.heap.size + 1 + 1 + 1 + 1 + 1, 0, none⟩) 2 2, .int .i64 7, .string ⟨#[109, 111, 118, 101]⟩, .slice (some ⟨w.heap.size + 1 + 1 + 1 + 1 + 1 + 1, 0, none⟩) 2 2, .int .i64 8, .string ⟨#[99, 108, 111, 115, 101]⟩, .slice (some ⟨w.heap.size + 1 + 1 + 1 + 1 + 1 + 1 + 1, 0, none⟩) 1 1, .int .i64 9, .string ⟨#[106, 111, 98]⟩, .slice (some ⟨w.heap.size + 1 + 1 + 1 + 1 + 1 + 1 + 1 + 1, 0, none⟩) 1 1, .int .i64 10, .string ⟨#[113, 117, 101, 117, 101]⟩, .slice none 0 0, .int .i64 11, .string ⟨#[117, 115, 97, 103, 101]⟩, .slice (some ⟨w.heap.size + 1 + 1 + 1 + 1 + 1 + 1 + 1 + 1 + 1, 0, none⟩) 1 1, .int .i64 12, .string ⟨#[110, 111, 100, 101, 115]⟩, .slice none 0 0, .int .i64 13, .string ⟨#[99, 111, 110, 102, 105, 103]⟩, .slice none 0 0], row w0.heap.size 3 1 (.slice (some ⟨w.heap.size + 1 + 1 + 1 + 1 + 1 + 1 + 1 + 1 + 1, 0, none⟩) 1 1) 1 [.int .i64 0], row w0.heap.size 3 1 (.slice (some ⟨w.heap.size + 1 + 1 + 1 + 1 + 1 + 1 + 1 + 1, 0, none⟩) 1 1) 1 [.int .i64 5], row w0.heap.size 3 1 (.slice (some ⟨w.heap.size + 1 + 1 + 1 + 1 + 1 + 1 + 1, 0, none⟩) 1 1) 1 [.int .i64 0], row w0.heap.size 3 1 (.slice (some ⟨w.heap.size + 1 + 1 + 1 + 1 + 1 + 1, 0, none⟩) 2 2) 2 [.int .i64 0, .int .i64 1], row w0.heap.size 3 1 (.slice (some ⟨w.heap.size + 1 + 1 + 1 + 1 + 1, 0, none⟩) 2 2) 2 [.int .i64 0, .int .i64 2], row w0.heap.size 3 1 (.slice (some ⟨w.heap.size + 1 + 1 + 1 + 1, 0, none⟩) 3 3) 3 [.int .i64 0, .int .i64 1, .int .i64 2], row w0.heap.size 3 1 (.slice (some ⟨w.heap.size + 1 + 1 + 1, 0, none⟩) 1 1) 1 [.int .i64 6], row w0.heap.size 3 1 (.slice (some ⟨w.heap.size + 1 + 1, 0, none⟩) 1 1) 1 [.int .i64 5], row w0.heap.size 3 1 (.slice (some ⟨w.heap.size + 1, 0, none⟩) 1 1) 1 [.int .i64 5], row w0.heap.size 3 1 (.slice (some ⟨w.heap.size, 0, none⟩) 3 3) 3 [.int .i64 0, .int .i64 3, .int .i64 4]], rfl, HT, fun W L' HW => ?_⟩
  have hnil : Rd 1 (.slice none 0 0) ([] : List Nat).length (([] : List Nat).map fun f : Nat => Value.int .i64 (f : Int)) W := rd_nil
  have r0 := rd_row (HW.sel 11 [10]).head
  have r1 := rd_row (HW.sel 10 [9]).head
  have r2 := rd_row (HW.sel 9 [8]).head
  have r3 := rd_row (HW.sel 8 [7]).head
  have r4 := rd_row (HW.sel 7 [6]).head
  have r5 := rd_row (HW.sel 6 [5]).head
  have r6 := rd_row (HW.sel 5 [4]).head
  have r7 := rd_row (HW.sel 4 [3]).head
  have r8 := rd_row (HW.sel 3 [2]).head
  have r10 := rd_row (HW.sel 2 [1]).head
  refine ⟨rfl, rd_row HW.head, fun i V u hV hu => ?_⟩
  match i, hV, hu with
  | 0, hV, hu => obtain rfl := Option.some.inj hV; obtain rfl := Option.some.inj hu; exact r0
  | 1, hV, hu => obtain rfl := Option.some.inj hV; obtain rfl := Option.some.inj hu; exact r1
  | 2, hV, hu => obtain rfl := Option.some.inj hV; obtain rfl := Option.some.inj hu; exact r2
  | 3, hV, hu => obtain rfl := Option.some.inj hV; obtain rfl := Option.some.inj hu; exact r3
  | 4, hV, hu => obtain rfl := Option.some.inj hV; obtain rfl := Option.some.inj hu; exact r4
  | 5, hV, hu => obtain rfl := Option.some.inj hV; obtain rfl := Option.some.inj hu; exact r5
  | 6, hV, hu => obtain rfl := Option.some.inj hV; obtain rfl := Option.some.inj hu; exact r6
  | 7, hV, hu => obtain rfl := Option.some.inj hV; obtain rfl := Option.some.inj hu; exact r7
  | 8, hV, hu => obtain rfl := Option.some.inj hV; obtain rfl := Option.some.inj hu; exact r8
  | 9, hV, hu => obtain rfl := Option.some.inj hV; obtain rfl := Option.some.inj hu; exact hnil
  | 10, hV, hu => obtain rfl := Option.some.inj hV; obtain rfl := Option.some.inj hu; exact r10
  | 11, hV, hu => obtain rfl := Option.some.inj hV; obtain rfl := Option.some.inj hu; exact hnil
  | 12, hV, hu => obtain rfl := Option.some.inj hV; obtain rfl := Option.some.inj hu; exact hnil
  | i + 13, hV, hu => simp [verbL] at hV
end
end Go.Proofs.YtdekbbffoaphhaaDoor

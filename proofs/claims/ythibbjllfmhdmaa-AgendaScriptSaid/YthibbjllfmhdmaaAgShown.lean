/- The document's example. -/
import Derived.Test.YthibbjllfmhdmaaAgDueStr
import Derived.Test.YthibbjllfmhdmaaAgSmall
set_option linter.unusedVariables false
set_option linter.unusedSimpArgs false
namespace Go.Proofs.Ythibbjllfmhdmaa
open Go.RowKit Go.Proofs.HL

def tA : ByteArray := ⟨#[97]⟩
def tB : ByteArray := ⟨#[98]⟩
def tD : ByteArray := ⟨#[100]⟩
def shownM : List (AgE ByteArray) := [⟨7, 5, tA⟩, ⟨3, 5, tB⟩]
theorem shown_spots : AgStr.spotsOf shownM = [(5, 3), (5, 7)] := by
  unfold AgStr.spotsOf shownM
  have h : AgSort.sortSp [((5 : Int), (7 : Int)), (5, 3)] = AgSort.sortSp [(5, 3), (5, 7)] := AgSort.sortSp_perm (List.Perm.swap _ _ _)
  refine h.trans ?_
  unfold AgSort.sortSp
  exact List.mergeSort_of_pairwise (by decide)

theorem func_not_nil (f : Fn) (cs : Array Value) (w : World) : (binOp .eql 50 (.func f #[] cs) Value.nilFunc).run Try.prog w = .ok (.bool false) w := by kernel_rfl
set_option maxRecDepth 100000 in
set_option maxHeartbeats 1000000 in
theorem shown_ok {w0 w : World} {L : List At} (H : HL w0 w L) : Calls Try.prog 8 #[] w fun e w' => e = .returned (.bool true) ∧ HL w0 w' L := by
  go_enter Try.func8, Try.ntmps8
  have hq := func_not_nil
  go_wp2_with (first
    | (go_at_call 32; refine (AgStr.new_ok H).mono ?_; rintro e w1 ⟨bp, mb, rfl, H1⟩; clear H)
    | (go_at_call 33; refine (AgStr.all_ok H1 bp).mono ?_; rintro e w2 ⟨cb, rfl, H2⟩; replace H2 := H2.tail; clear H1)
    | (go_at_call_of 34 (Value.string ⟨#[97]⟩); refine (AgStr.add_ok H2 7 5 tA).mono ?_; rintro e w3 ⟨he, H3⟩; obtain rfl : e = .returned (.int .i64 0) := he; clear H2; replace H3 : HL w0 w3 (blk bp (AgStr.obj mb) :: mp mb (kv AgStr.enc [⟨7, 5, tA⟩]) :: L) := H3)
    | (go_at_call_of 34 (Value.string ⟨#[98]⟩); refine (AgStr.add_ok H3 3 5 tB).mono ?_; rintro e w4 ⟨he, H4⟩; obtain rfl : e = .returned (.int .i64 0) := he; clear H3; replace H4 : HL w0 w4 (blk bp (AgStr.obj mb) :: mp mb (kv AgStr.enc shownM) :: L) := H4)
    | (go_at_call_of 34 (Value.string ⟨#[100]⟩); refine (AgStr.add_ok H4 7 1 tD).mono ?_; rintro e w5 ⟨he, H5⟩; obtain rfl : e = .returned (.int .i64 30) := he; clear H4; replace H5 : HL w0 w5 (blk bp (AgStr.obj mb) :: mp mb (kv AgStr.enc shownM) :: L) := H5)
    | (go_at_call 35; refine (AgStr.first_ok H5 (by decide)).mono ?_; rw [shown_spots]; rintro e w6 ⟨he, H6⟩; obtain rfl : e = .returned (.tuple #[.int .i64 3, .int .i64 5, .bool true]) := he; clear H5)
    | (go_at_call 36; refine (AgStr.get_ok H6 7).mono ?_; rintro e w7 ⟨he, H7⟩; obtain rfl : e = .returned (.tuple #[.int .i64 5, .string ⟨#[97]⟩, .bool true]) := he; clear H6)
    | (go_at_call 37; refine (AgStr.len_ok H7).mono ?_; rintro e w8 ⟨he, rfl⟩; obtain rfl : e = .returned (.int .i64 2) := he)
    | (go_at_call 38; refine (AgStr.clone_ok H7).mono ?_; rintro e w9 ⟨cp, mc, M', rfl, -, H9⟩; clear H7; replace H9 := H9.tail.tail)
    | (go_at_call 39; refine (AgStr.due_ok H9 (by decide) 5).mono ?_; rw [shown_spots]; rintro e w10 ⟨v, rfl, H10⟩; clear H9; replace H10 : HL w0 w10 (AgInt.intsAt w0.heap.size v [3, 7] :: blk bp (AgStr.obj mb) :: mp mb (kv AgStr.enc []) :: L) := H10; have H11 := H10.alloc (.cells #[.int .i64 3, .int .i64 7] 3))
    | (go_at_call 14; refine (AgInt.numbers_ok H11 [3, 7] [3, 7] (AgInt.ent_ints (base := w0.heap.size) (by simp)) (AgInt.ent_lit (xs := [3, 7]) (E := 3) (List.mem_cons_self ..) (by decide))).mono ?_; rintro e w12 ⟨he, H12⟩; obtain rfl : e = .returned (.bool true) := he; clear H11)
    | (go_at_call 37; refine (AgStr.len_ok H12.tail.tail).mono ?_; rintro e w13 ⟨he, rfl⟩; obtain rfl : e = .returned (.int .i64 0) := he))
  go_ret
  exact ⟨rfl, H12.sel 4 []⟩
end Go.Proofs.Ythibbjllfmhdmaa

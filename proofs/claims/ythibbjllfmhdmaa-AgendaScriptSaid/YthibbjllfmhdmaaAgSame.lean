/- The law's same: an agenda stands as the reference's. -/
import Derived.Test.YthibbjllfmhdmaaAgRel
set_option linter.unusedVariables false
set_option linter.unusedSimpArgs false
namespace Go.Proofs.Ythibbjllfmhdmaa
open Go.RowKit Go.Proofs.HL AgInt
open Ref (Th ltT cut)

/-- An agenda and the reference's beside it. -/
def pair (ap ma p : Nat) (v : Value) (M : List Ent1) (l : List Th) : List At := [blk ap (obj ma), mp ma (kv enc M), blk p (Ref.ob v), Ref.vw v l]
section
variable {w0 w : World} {L : List At} {ap ma p : Nat} {v : Value} {M : List Ent1} {l : List Th}
theorem first_alike (h : Rel M l) : ∃ i t b, firstOf (spotsOf M) = .tuple #[.int .i64 i, .int .i64 t, .bool b] ∧
    Ref.firstT l = .tuple #[.int .i64 i, .int .i64 t, .bool b] := by
  rw [h.spots]
  cases l with
  | nil => exact ⟨0, 0, false, rfl, rfl⟩
  | cons t l => exact ⟨t.id, t.at_, true, rfl, rfl⟩

set_option maxRecDepth 100000 in
set_option maxHeartbeats 2000000 in
theorem same_ok (H : HL w0 w (pair ap ma p v M l ++ L)) (hR : Rel M l) (hl : l.length ≤ 4398046511104) :
    Calls Try.prog 23 #[.pointer (some ⟨ap, 0, none⟩), .pointer (some ⟨p, 0, none⟩)] w fun e w' => e = .returned (.bool true) ∧ HL w0 w' (pair ap ma p v M l ++ L) := by
  have hM : M.length ≤ 8796093022208 := by rw [hR.length]; omega
  have hn := hR.length
  obtain ⟨fi, ft, fb, hf1, hf2⟩ := first_alike hR
  have hi : idsL (spotsOf M) = l.map (·.id) := by rw [hR.spots]; unfold idsL; rw [List.map_map]; rfl
  have ha : atsL (spotsOf M) = l.map (·.at_) := by rw [hR.spots]; unfold atsL; rw [List.map_map]; rfl
  have F1 := Lib.hid hf1; have F2 := Lib.hid hf2; have HI := Lib.hid hi; have HA := Lib.hid ha; have Hn := Lib.hid hn
  have htk : (spotsOf M).take ((l.length : Int) + 1).toNat = spotsOf M := take_all (by omega)
  have Htk := Lib.hid htk
  clear hf1 hf2 hi ha htk hn
  go_enter Try.func23, Try.ntmps23
  go_wp2_with (first
    | (go_at_call 46; refine (Ref.len_ok (l := l) (v := v) (H.sel 4 [2, 3])).mono ?_; rintro e w1 ⟨rfl, rfl⟩; have H1 := H; clear H)
    | (go_at_call 11; refine (listed_ok H1 hM _).mono ?_; rw [Htk.out, HI.out, HA.out]; rintro e w2 ⟨u5, u6, rfl, H2⟩; clear H1)
    | (go_at_call 45; refine (Ref.all_ok (l := l) (v := v) (H2.sel 6 [4, 5, 2, 3, 0, 1]) hl).mono ?_; rintro e w3 ⟨u7, u8, rfl, H3⟩; clear H2)
    | (go_at_call 13; refine (first_ok (H3.sel 8 [4, 5, 0, 1, 2, 3, 6, 7]) hM).mono ?_; rw [F1.out]; rintro e w4 ⟨rfl, H4⟩; clear H3)
    | (go_at_call 47; refine (Ref.first_ok (l := l) (v := v) (H4.sel 8 [4, 5, 0, 1, 2, 3, 6, 7]) (by omega)).mono ?_; rw [F2.out]; rintro e w5 ⟨rfl, H5⟩; clear H4)
    | (go_at_call 10; refine (len_ok (H5.sel 4 [2, 3])).mono ?_; rintro e w6 ⟨he, rfl⟩; rw [Hn.out] at he; subst he; have H6 : HL w0 w5 (blk p (Ref.ob v) :: Ref.vw v l :: blk ap (obj ma) :: mp ma (kv enc M) :: intsAt w0.heap.size u7 (l.map (·.id)) :: intsAt w0.heap.size u8 (l.map (·.at_)) :: intsAt w0.heap.size u5 (l.map (·.id)) :: intsAt w0.heap.size u6 (l.map (·.at_)) :: L) := H5; clear H5)
    | (go_at_call 46; refine (Ref.len_ok (l := l) (v := v) H6).mono ?_; rintro e w7 ⟨rfl, rfl⟩; have H7 := H6; clear H6)
    | (go_at_call_of 14 u5; refine (numbers_ok H7 (l.map (·.id)) (l.map (·.id)) (ent_ints (base := w0.heap.size) (by simp)) (ent_ints (base := w0.heap.size) (by simp))).mono ?_; rw [beq_self_eq_true]; rintro e w8 ⟨rfl, H8⟩; clear H7)
    | (go_at_call_of 14 u6; refine (numbers_ok H8 (l.map (·.at_)) (l.map (·.at_)) (ent_ints (base := w0.heap.size) (by simp)) (ent_ints (base := w0.heap.size) (by simp))).mono ?_; rw [beq_self_eq_true]; rintro e w9 ⟨rfl, H9⟩; clear H8))
  go_ret
  exact ⟨rfl, H9.sel 8 [2, 3, 0, 1]⟩
end
end Go.Proofs.Ythibbjllfmhdmaa

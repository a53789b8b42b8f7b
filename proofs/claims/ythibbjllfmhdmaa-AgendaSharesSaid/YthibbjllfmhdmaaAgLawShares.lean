/- The law AgendaShares. -/
import Derived.Test.YthibbjllfmhdmaaAgLawOrder
import Derived.Test.YthibbjllfmhdmaaAgDueLst
import Derived.Test.YthibbjllfmhdmaaOwn
set_option linter.unusedVariables false
set_option linter.unusedSimpArgs false
namespace Go.Proofs.Ythibbjllfmhdmaa
open Go.RowKit Go.Proofs.HL AgInt

theorem find_one (id at_ : Int) (x : Option Addr × Nat × Nat) : findE [⟨id, at_, x⟩] id = some ⟨id, at_, x⟩ := by simp [findE]
theorem drop_one (id at_ : Int) (x : Option Addr × Nat × Nat) : dropE [⟨id, at_, x⟩] id = [] := by simp [dropE]

set_option maxRecDepth 100000 in
set_option maxHeartbeats 2000000 in
theorem shares_law {w : World} {v : Value} {xs : List Int} (hx : Rd 1 v xs.length (ints xs) w) (hb : xs.length * 8 ≤ 140737488351232) (id at_ : Int) :
    Calls Try.prog 7 #[.int .i64 id, .int .i64 at_, v] w fun e w' => e = .returned (.bool true) ∧ Below w.heap.size w w' := by
  have hb1 : ([1] : List Int).length + xs.length ≤ 17592186044416 := by simp only [List.length_cons, List.length_nil]; omega
  go_enter Try.func7, Try.ntmps7
  go_wp2_with (first
    | (go_at_call 8; refine (shown_ok (HL.start w)).mono ?_; rintro e w1 ⟨rfl, H1⟩)
    | (go_at_call 26; refine (AgLst.new_ok H1).mono ?_; rintro e w2 ⟨ap, ma, rfl, H2⟩; clear H1;
        have H3 := (H2.alloc (.cells #[.int .i64 1] 3)).rowOf (k := 1) (n := 1) (cs := [.int .i64 1]) rfl (by decide); have r3 := rd_old H3 hx; clear H2)
    | (at_builtin; refine append_ints (v := .slice (some ⟨w2.heap.size, 0, none⟩) 1 1) (xv := v) (xs := [1]) (ys := xs) rfl _ _ rfl H3 rfl rfl r3 hb1 ?_; intro u4 w4 H4; clear H3 r3; obtain ⟨A4, c4, h4, hA4⟩ := ints_shape H4 (List.mem_cons_self ..); obtain ⟨g, rfl⟩ := hA4.resolve_left (by simp); have hNp : 0 < ([1] ++ xs).length := (by simp); unfold intsAt at H4; generalize ([1] ++ xs).length = N at h4 H4 hNp; subst h4; clear hA4)
    | (go_at_call 27; refine (AgLst.add_ok (H4.sel 3 [1, 2, 0]) id at_ (some ⟨g, 0, none⟩, N, c4)).mono ?_; rintro e w5 ⟨he, H5'⟩; obtain rfl : e = .returned (.int .i64 0) := he; clear H4;
        have H5 : HL w w5 (blk ap (AgLst.obj ma) :: mp ma (kv AgLst.enc [⟨id, at_, (some ⟨g, 0, none⟩, N, c4)⟩]) :: [row w.heap.size 3 1 (.slice (some ⟨g, 0, none⟩) N c4) N  (([1] ++ xs).map encI)]) := H5'; clear H5')
    | (go_at_call 28; refine (AgLst.clone_ok H5).mono ?_; rintro e w6 ⟨cp, mc, M', rfl, hp, H6⟩; obtain rfl := List.perm_singleton.1 hp; clear H5 hp;
        have f6 : w6.frozen? ⟨g, 0, none⟩ = false := (H6.sel 5 [4]).rowFrozen (List.mem_cons_self ..) 0;
        have c6 : w6.cell? ⟨g, 0, none⟩ = some (.int .i64 1) := (H6.sel 5 [4]).rowCell (List.mem_cons_self ..) 0 _ rfl;
        have H7 : HL w (w6.setCell ⟨g, 0, none⟩ (.int .i64 7)) [blk ap (AgLst.obj ma), mp ma (kv AgLst.enc [⟨id, at_, (some ⟨g, 0, none⟩, N, c4)⟩]), blk cp (AgLst.obj mc), mp mc (kv AgLst.enc [⟨id, at_, (some ⟨g, 0, none⟩, N, c4)⟩]), row w.heap.size 3 1 (.slice (some ⟨g, 0, none⟩) N c4) N  (.int .i64 7 :: xs.map encI)] := ((H6.sel 5 [4, 0, 1, 2, 3]).setRow 0 (.int .i64 7)).sel 5 [3, 4, 1, 2, 0]; clear H6)
    | (go_at_call_of 29 (Value.pointer (some ⟨ap, 0, none⟩)); refine (AgLst.get_ok H7 id).mono ?_; rw [find_one]; rintro e w8 ⟨he, H8⟩; obtain rfl : e = .returned (.tuple #[.int .i64 at_, .slice (some ⟨g, 0, none⟩) N c4, .bool true]) := he; clear H7 f6 c6)
    | (go_at_call_of 29 (Value.pointer (some ⟨cp, 0, none⟩)); refine (AgLst.get_ok (H8.sel 5 [2, 3, 0, 1, 4]) id).mono ?_; rw [find_one]; rintro e w9 ⟨he, H9'⟩; obtain rfl : e = .returned (.tuple #[.int .i64 at_, .slice (some ⟨g, 0, none⟩) N c4, .bool true]) := he; clear H8;
        have H9 := H9'.sel 5 [2, 3, 0, 1, 4]; clear H9'; have c9 : w9.cell? ⟨g, 0, none⟩ = some (.int .i64 7) := (H9.sel 5 [4]).rowCell (List.mem_cons_self ..) 0 _ rfl)
    | (go_at_call 30; refine (AgLst.drop_ok H9 id).mono ?_; rw [find_one, drop_one]; rintro e wa ⟨he, Ha⟩; obtain rfl : e = .returned (.bool true) := he; clear H9 c9)
    | (go_at_call_of 31 (Value.pointer (some ⟨ap, 0, none⟩)); refine (AgLst.len_ok Ha).mono ?_; rintro e wb ⟨he, rfl⟩; obtain rfl : e = .returned (.int .i64 0) := he)
    | (go_at_call_of 31 (Value.pointer (some ⟨cp, 0, none⟩)); refine (AgLst.len_ok (Ha.sel 5 [2, 3])).mono ?_; rintro e wb ⟨he, rfl⟩; obtain rfl : e = .returned (.int .i64 1) := he)
    | (go_at_call 30; refine (AgLst.drop_ok Ha id).mono ?_; rintro e wc ⟨he, Hc⟩; obtain rfl : e = .returned (.bool false) := he; clear Ha))
  go_ret
  exact ⟨rfl, Hc.below⟩
end Go.Proofs.Ythibbjllfmhdmaa

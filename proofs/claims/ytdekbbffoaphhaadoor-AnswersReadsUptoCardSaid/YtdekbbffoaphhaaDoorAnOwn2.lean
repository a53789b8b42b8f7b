/- An answer that was read, in memory of its own (answers.own2). -/
import Derived.Test.YtdekbbffoaphhaaDoorAnOwn
set_option linter.unusedVariables false
set_option linter.unusedSimpArgs false
namespace Go.Proofs.YtdekbbffoaphhaaDoor
open Go.RowKit Go.Proofs.HL Go.Proofs.An
section
variable {w0 w : World} {L : List At}
def Own2Post (w0 : World) (L : List At) (a r : Ans) (Ae Ar : Option Addr) (ce cr : Nat) (e : Ending) (w' : World) : Prop := ∃ (K : List At) (Ae' As' Ar' : Option Addr) (ce' cs' cr' : Nat),
  e = .returned (ansV r (.slice Ae' r.events.length ce') (.slice As' r.job.set.length cs') (.slice Ar' r.ranks.length cr')) ∧ Same a.events r.events Ae Ae' ce ce' ∧ Same a.ranks r.ranks Ar Ar' cr cr' ∧ Ints w0 K (.slice As' r.job.set.length cs') r.job.set ∧ HL w0 w' (K ++ L)
set_option maxRecDepth 100000 in
set_option maxHeartbeats 8000000 in
theorem own2_ok (H : HL w0 w L) (k : Int) (a : Ans) (Ae As Ar : Option Addr) (ce cs cr : Nat) (hI : Ints w0 L (.slice As a.job.set.length cs) a.job.set) (hl : a.job.set.length ≤ 4294967296) : Calls Tryd.prog 67 #[.int .i64 k, ansV a (.slice Ae a.events.length ce) (.slice As a.job.set.length cs) (.slice Ar a.ranks.length cr)] w (Own2Post w0 L a (own2A k a) Ae Ar ce cr) := by
  have H1 := HL.allocA H a (.slice Ae a.events.length ce) (.slice As a.job.set.length cs) (.slice Ar a.ranks.length cr)
  have H2 : HL w0 _ (boxA (World.alloc w _).heap.size zA (.slice none 0 0) (.slice none 0 0) (.slice none 0 0) :: _) := H1.alloc (.cells #[.int .i64 0, .int .i64 0, .slice none 0 0, .int .i64 0, .int .i64 0, .int .i64 0, .int .i64 0, .int .i64 0, .int .i64 0, .int .i64 0, .slice none 0 0, .slice none 0 0, .int .i64 0, .int .u64 0, .int .u64 0, .int .i64 0, .int .i64 0, .int .i64 0, .int .i64 0, .int .i64 0, .int .i64 0, .int .i64 0, .int .i64 0, .int .i64 0, .int .i64 0, .int .i64 0, .int .i64 0] 50)
  rw [World.size_alloc] at H2
  have hraw : own2A k a = if a.code = 0 then ownA k a else { zA with code := a.code } := rfl
  unfold ansV
  generalize hb1 : w.heap.size = b1 at *
  clear H H1
  by_cases hc : a.code = 0
  · have hq : (a.code != 0) = false := by simp [hc]
    have hx0 : own2A k a = ownA k a := by rw [hraw, if_pos hc]
    have HX0 := Lib.hid hx0
    clear hc hx0 hraw
    go_enter Tryd.func67, Tryd.ntmps67
    go_upto_region 1 with (fail)
    have HB1 := Lib.hid hb1
    clear hb1
    generalize World.alloc (World.alloc _ _) _ = W at *
    have n0 : W.cell? ⟨b1, 0, none⟩ = some (.int .i64 a.code) := HL.cell H2.tail 0
    have G1 : _ = some (Obj.cells (ansA a (.slice Ae a.events.length ce) (.slice As a.job.set.length cs) (.slice Ar a.ranks.length cr)) 50 (0, 0)) := H2.tail.head
    have hown : Calls Tryd.prog 87 #[.int .i64 k, .agg (ansA a (.slice Ae a.events.length ce) (.slice As a.job.set.length cs) (.slice Ar a.ranks.length cr))] _ _ := own_ok H2 k a Ae As Ar ce cs cr
    go_upto_region 4 with (first
      | (have g1 := G1; refine wpList_load_row rfl 50 _ rfl b1 rfl 50 _ (0, 0) _ g1 Tryd.underlying50 rfl (ansA_size _ _ _ _) ?_; clear g1 G1)
      | (go_at_call 87; (with_reducible refine hown.mono ?_); rintro e w3 ⟨Ae', As', Ar', ce', cs', cr', rfl, hse, hss, hsr, H3⟩; clear hown H2 n0; generalize ownA k a = r at *; have H4 : HL w0 _ (boxA w3.heap.size zA (.slice none 0 0) (.slice none 0 0) (.slice none 0 0) :: _) := H3.alloc (.cells #[.int .i64 0, .int .i64 0, .slice none 0 0, .int .i64 0, .int .i64 0, .int .i64 0, .int .i64 0, .int .i64 0, .int .i64 0, .int .i64 0, .slice none 0 0, .slice none 0 0, .int .i64 0, .int .u64 0, .int .u64 0, .int .i64 0, .int .i64 0, .int .i64 0, .int .i64 0, .int .i64 0, .int .i64 0, .int .i64 0, .int .i64 0, .int .i64 0, .int .i64 0, .int .i64 0, .int .i64 0] 50); have G4 : _ = some (Obj.cells _ 50 (0, 0)) := H4.head; have H5 : HL w0 _ (boxA w3.heap.size r (.slice Ae' r.events.length ce') (.slice As' r.job.set.length cs') (.slice Ar' r.ranks.length cr') :: _) := HL.setWhole (cells := ansA r (.slice Ae' r.events.length ce') (.slice As' r.job.set.length cs') (.slice Ar' r.ranks.length cr')) H4)
      | (refine wpList_store_row rfl 50 _ _ rfl w3.heap.size (ansA r (.slice Ae' r.events.length ce') (.slice As' r.job.set.length cs') (.slice Ar' r.ranks.length cr')) rfl rfl 50 _ G4 (ansA_size _ _ _ _) rfl (ansA_one _ _ _ _ _ _ _ _ _ _) ?_; clear G4 H4 H3))
    generalize World.setRow _ _ _ = W5 at *
    generalize w3.heap.size = b5 at *
    have c10 : W5.cell? ⟨b5, 10, none⟩ = some (.slice As' r.job.set.length cs') := HL.cell H5 10
    have y10 : W5.frozen? ⟨b5, 10, none⟩ = false := HL.frozen H5 10
    have hIr : Ints w0 (boxA b5 r (.slice Ae' r.events.length ce') (.slice As' r.job.set.length cs') (.slice Ar' r.ranks.length cr') :: boxA (b1 + 1) zA (.slice none 0 0) (.slice none 0 0) (.slice none 0 0) :: boxA b1 a (.slice Ae a.events.length ce) (.slice As a.job.set.length cs) (.slice Ar a.ranks.length cr) :: L) (.slice As' r.job.set.length cs') r.job.set := by
      rcases hss with ⟨e1, rfl, rfl⟩ | ⟨e1, rfl, rfl⟩
      · rw [e1]; exact ((hI.cons _).cons _).cons _
      · rw [e1]; exact fun W _ => rd_nil
    have hlr : r.job.set.length ≤ 4294967296 := by
      rcases hss with ⟨e1, -⟩ | ⟨e1, -⟩
      · rw [e1]; exact hl
      · rw [e1]; simp
    have hcl := clone_ok H5 (hIr _ H5) hlr
    have HSE := Lib.hid hse; have HSR := Lib.hid hsr
    clear hse hss hsr hIr hI
    go_upto_region 5 with (go_at_call 88; refine hcl.mono ?_; rintro e w6 ⟨A6, c6, rfl, H6⟩; clear hcl c10 y10 H5; have H7 := H6.swap; have c10 := HL.cell H7 10; have y10 := HL.frozen H7 10)
    have H8 : HL w0 (w6.setCell ⟨b5, 10, none⟩ (.slice A6 r.job.set.length c6)) (boxA b5 r (.slice Ae' r.events.length ce') (.slice A6 r.job.set.length c6) (.slice Ar' r.ranks.length cr') :: intsR w0.heap.size (.slice A6 r.job.set.length c6) r.job.set :: boxA (b1 + 1) zA (.slice none 0 0) (.slice none 0 0) (.slice none 0 0) :: boxA b1 a (.slice Ae a.events.length ce) (.slice As a.job.set.length cs) (.slice Ar a.ranks.length cr) :: L) := HL.setCell H7 10 (.slice A6 r.job.set.length c6)
    clear c10 y10 H6 H7
    generalize World.setCell _ _ _ = W8 at *
    have G1 : _ = some (Obj.cells (ansA r (.slice Ae' r.events.length ce') (.slice A6 r.job.set.length c6) (.slice Ar' r.ranks.length cr')) 50 (0, 0)) := H8.head
    have G3 : _ = some (Obj.cells _ 50 (0, 0)) := H8.tail.tail.head
    have HS := HL.setWhole (cells := ansA r (.slice Ae' r.events.length ce') (.slice A6 r.job.set.length c6) (.slice Ar' r.ranks.length cr')) (H8.sel 4 [2, 1])
    go_wp2_with (first
      | (refine wpList_load_row rfl 50 _ rfl b5 rfl 50 _ (0, 0) _ G1 Tryd.underlying50 rfl (ansA_size _ _ _ _) ?_)
      | (refine wpList_store_row rfl 50 _ _ rfl (b1 + 1) (ansA r (.slice Ae' r.events.length ce') (.slice A6 r.job.set.length c6) (.slice Ar' r.ranks.length cr')) rfl rfl 50 _ G3 (ansA_size _ _ _ _) rfl (ansA_one _ _ _ _ _ _ _ _ _ _) ?_))
    have G5 := HS.head
    refine bodyPost_ret (results_cell_row (by rfl) _ _ (b1 + 1) 50 _ (0, 0) _ (by rfl) G5 Tryd.underlying50 rfl (ansA_size _ _ _ _)) rfl ?_
    rw [HX0.out]
    exact ⟨[intsR w0.heap.size (.slice A6 r.job.set.length c6) r.job.set], Ae', A6, Ar', ce', c6, cr', rfl, HSE.out, HSR.out, entRow, HS.tail⟩
  · have hq : (a.code != 0) = true := by simp [hc]
    have hx0 : own2A k a = { zA with code := a.code } := by rw [hraw, if_neg hc]
    have HX := Lib.hid hx0
    clear hc hx0 hraw
    go_enter Tryd.func67, Tryd.ntmps67
    go_upto_region 1 with (fail)
    have HB1 := Lib.hid hb1
    clear hb1
    generalize World.alloc (World.alloc _ _) _ = W at *
    have n0 : W.cell? ⟨b1, 0, none⟩ = some (.int .i64 a.code) := HL.cell H2.tail 0
    have G3 : _ = some (Obj.cells _ 50 (0, 0)) := H2.head
    have HS := HL.setWhole (cells := ansA { zA with code := a.code } (.slice none 0 0) (.slice none 0 0) (.slice none 0 0)) H2
    go_wp2_with (refine wpList_store_row rfl 50 _ _ rfl (b1 + 1) (ansA { zA with code := a.code } (.slice none 0 0) (.slice none 0 0) (.slice none 0 0)) rfl rfl 50 _ G3 (ansA_size _ _ _ _) rfl (ansA_one _ _ _ _ _ _ _ _ _ _) ?_)
    have G5 := HS.head
    refine bodyPost_ret (results_cell_row (by rfl) _ _ (b1 + 1) 50 _ (0, 0) _ (by rfl) G5 Tryd.underlying50 rfl (ansA_size _ _ _ _)) rfl ?_
    rw [HX.out]
    exact ⟨[], none, none, none, 0, 0, 0, rfl, .inr ⟨rfl, rfl, rfl⟩, .inr ⟨rfl, rfl, rfl⟩, fun W _ => rd_nil, HS.tail.tail⟩
end
end Go.Proofs.YtdekbbffoaphhaaDoor

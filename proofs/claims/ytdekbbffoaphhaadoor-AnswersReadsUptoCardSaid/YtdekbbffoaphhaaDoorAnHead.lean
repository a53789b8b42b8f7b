/- An answer's first line, read (answers.head). -/
import Derived.Test.YtdekbbffoaphhaaDoorAnLib
import Derived.Test.YtdekbbffoaphhaaDoorAnZeros
import Derived.Test.YtdekbbffoaphhaaDoorAnCheck
import Derived.WalkSpells
set_option linter.unusedVariables false
set_option linter.unusedSimpArgs false
namespace Go.Proofs.An
theorem tailA_plain (k st us fa : Int) (n : List Int) : (tailA k st us fa n).events = [] ∧ (tailA k st us fa n).ranks = [] := by
  unfold tailA
  repeat' split
  all_goals exact ⟨rfl, rfl⟩
theorem headA_plain (k : Int) (ws : List ByteArray) : (headA k ws).events = [] ∧ (headA k ws).ranks = [] := by
  unfold headA
  split
  · split <;> exact ⟨rfl, rfl⟩
  · exact tailA_plain _ _ _ _ _
end Go.Proofs.An
namespace Go.Proofs.YtdekbbffoaphhaaDoor
open Go.RowKit Go.Proofs.HL Go.Proofs.An
section
variable {w0 w : World} {L : List At}
/-- Words read as numbers: those numbers, or none. -/
theorem reads_num {v : Value} (hD : Doors w0) (H : HL w0 w L) {ws : List ByteArray} (h : Strs w0 L v ws) (hz : ∀ s ∈ ws, s.size ≤ 140737488351232) (hl : ws.length ≤ 4294967296) :
    Calls Tryd.prog 52 #[v] w fun e w' => ∃ u, e = .returned (.tuple #[u, .bool (numsW ws).isSome]) ∧ HL w0 w' (intsR w0.heap.size u ((numsW ws).getD []) :: L) := by
  refine (reads_any hD H h hz hl).mono ?_
  intro e w' hp
  unfold ReadsPost at hp
  cases hn : numsW ws with
  | none =>
    rw [hn] at hp
    obtain ⟨rfl, H'⟩ := hp
    exact ⟨_, rfl, H'.nilRow _ _ _⟩
  | some l =>
    rw [hn] at hp
    exact hp
def HeadPost (w0 : World) (L : List At) (r : Ans) (e : Ending) (w' : World) : Prop :=
  ∃ (K : List At) (As : Option Addr) (cs : Nat), e = .returned (ansV r (.slice none 0 0) (.slice As r.job.set.length cs) (.slice none 0 0)) ∧ Ints w0 K (.slice As r.job.set.length cs) r.job.set ∧ HL w0 w' (K ++ L)
theorem headPost_plain {r : Ans} (hs : r.job.set = []) {w' : World} (K : List At) (H : HL w0 w' (K ++ L)) : HeadPost w0 L r (.returned (ansV r (.slice none 0 0) (.slice none 0 0) (.slice none 0 0))) w' := by
  refine ⟨K, none, 0, by rw [hs]; rfl, ?_, H⟩
  rw [hs]
  exact fun W _ => rd_nil
/-- What lies behind the first word. -/
theorem strs_behind {b c : Nat} {s0 : ByteArray} {wr : List ByteArray} {A' : Option Addr} (hA' : (if c = 1 then some (⟨b, 0, none⟩ : Addr) else some ⟨b, 1, none⟩) = A') {W : World} (h : Rd 1 (.slice (some ⟨b, 0, none⟩) (wr.length + 1) c) (wr.length + 1) (strC (s0 :: wr)) W) : Rd 1 (.slice A' wr.length (c - 1)) wr.length (strC wr) W := by
  subst hA'
  have hc : wr.length + 1 ≤ c := by
    obtain ⟨-, -, A, c', h3, h4, -⟩ := h
    simp only [Value.slice.injEq] at h3
    obtain ⟨-, -, rfl⟩ := h3
    exact h4
  by_cases hc1 : c = 1
  · rw [if_pos hc1]
    have h0 : wr.length = 0 := by omega
    have := rd_suffix (a' := ⟨b, 0, none⟩) h 1 (by omega) (.inr (by omega))
    simpa using this
  · rw [if_neg hc1]
    have := rd_suffix (a' := ⟨b, 1, none⟩) h 1 (by omega) (.inl (by rw [add_plain]))
    simpa using this
set_option maxRecDepth 100000 in
set_option maxHeartbeats 8000000 in
theorem head_err (hD : Doors w0) (k : Int) {s0 : ByteArray} {wr : List ByteArray} {b c : Nat} (H : HL w0 w (strs w0.heap.size (.slice (some ⟨b, 0, none⟩) (wr.length + 1) c) (s0 :: wr) :: L)) (hz : ∀ s ∈ s0 :: wr, s.size ≤ 1000000000) (hl : wr.length ≤ 1000000000) (he : s0 = errorW) :
    Calls Tryd.prog 65 #[.int .i64 k, .slice (some ⟨b, 0, none⟩) (wr.length + 1) c] w (HeadPost w0 L (headA k (s0 :: wr))) := by
  have H1 : HL w0 _ (boxA w.heap.size zA (.slice none 0 0) (.slice none 0 0) (.slice none 0 0) :: _) := H.alloc (.cells #[.int .i64 0, .int .i64 0, .slice none 0 0, .int .i64 0, .int .i64 0, .int .i64 0, .int .i64 0, .int .i64 0, .int .i64 0, .int .i64 0, .slice none 0 0, .slice none 0 0, .int .i64 0, .int .u64 0, .int .u64 0, .int .i64 0, .int .i64 0, .int .i64 0, .int .i64 0, .int .i64 0, .int .i64 0, .int .i64 0, .int .i64 0, .int .i64 0, .int .i64 0, .int .i64 0, .int .i64 0] 50)
  have H2 : HL w0 _ (boxA (World.alloc w _).heap.size zA (.slice none 0 0) (.slice none 0 0) (.slice none 0 0) :: _) := H1.alloc (.cells #[.int .i64 0, .int .i64 0, .slice none 0 0, .int .i64 0, .int .i64 0, .int .i64 0, .int .i64 0, .int .i64 0, .int .i64 0, .int .i64 0, .slice none 0 0, .slice none 0 0, .int .i64 0, .int .u64 0, .int .u64 0, .int .i64 0, .int .i64 0, .int .i64 0, .int .i64 0, .int .i64 0, .int .i64 0, .int .i64 0, .int .i64 0, .int .i64 0, .int .i64 0, .int .i64 0, .int .i64 0] 50)
  rw [World.size_alloc] at H2
  obtain ⟨A0, c0, hv0, -, hc1, hc2⟩ := row_shape (show w.ownsRow w0.heap.size 9 1 (.slice (some ⟨b, 0, none⟩) (wr.length + 1) c) (wr.length + 1) (strC (s0 :: wr)) from H.head)
  simp only [Value.slice.injEq] at hv0
  obtain ⟨-, -, rfl⟩ := hv0
  unfold maxLen at hc2
  have G2 : _ = some (Obj.cells _ 50 (0, 0)) := H2.head
  have HS := HL.setWhole (cells := ansA zA (.slice none 0 0) (.slice none 0 0) (.slice none 0 0)) H2
  have hq : (s0.toList == [101, 114, 114, 111, 114]) = true := by rw [he]; decide +kernel
  have hh : headA k (s0 :: wr) = match numsW wr with | some [n] => { zA with code := n } | _ => zA := by unfold headA; rw [List.headD_cons, if_pos he]; rfl
  have HH := Lib.hid hh
  generalize hb4 : w.heap.size = b4 at *
  clear H H1 H2 he hh
  go_enter Tryd.func65, Tryd.ntmps65
  go_upto_region 2 with (refine wpList_store_row rfl 50 _ _ rfl (b4 + 1) (ansA zA (.slice none 0 0) (.slice none 0 0) (.slice none 0 0)) rfl rfl 50 _ G2 (ansA_size _ _ _ _) rfl (ansA_one _ _ _ _ _ _ _ _ _ _) ?_)
  have HB4 := Lib.hid hb4
  clear hb4 G2
  generalize World.setRow _ _ _ = W at *
  have e0 : W.cell? ⟨b, 0, none⟩ = some (.string s0) := HS.tail.tail.rowCell (E := 9) (k := 1) (xs := strC (s0 :: wr)) (List.mem_cons_self ..) 0 _ rfl
  have hB := fun W' L' (HW : HL w0 W' (strs w0.heap.size (.slice (some ⟨b, 0, none⟩) (wr.length + 1) c) (s0 :: wr) :: L')) => entRow W' HW
  obtain ⟨A', hA'⟩ : ∃ A', (if c = 1 then some (⟨b, 0, none⟩ : Addr) else some ⟨b, 1, none⟩) = A' := ⟨_, rfl⟩
  have hrd := reads_num hD HS (v := .slice A' wr.length (c - 1)) (ws := wr) (fun W' HW => strs_behind hA' (hB W' _ HW.tail.tail)) (fun s hs => by have := hz s (List.mem_cons_of_mem _ hs); omega) (by omega)
  clear hB hz
  cases hn : numsW wr with
  | none =>
    rw [hn] at hrd
    have hx : headA k (s0 :: wr) = zA := by rw [HH.out, hn]
    have HX := Lib.hid hx
    clear hn hx
    go_upto_region 6 with (go_at_call 52; refine hrd.mono ?_; rintro e w3 ⟨u, rfl, H3⟩; clear hrd HS e0)
    simp only [Option.getD_none] at H3
    have G1 : _ = some (Obj.cells (ansA zA (.slice none 0 0) (.slice none 0 0) (.slice none 0 0)) 50 (0, 0)) := H3.tail.head
    have G3 : _ = some (Obj.cells _ 50 (0, 0)) := H3.tail.tail.head
    have HS := HL.setWhole (cells := ansA zA (.slice none 0 0) (.slice none 0 0) (.slice none 0 0)) (H3.sel 3 [2, 0])
    go_wp2_with (first
      | (refine wpList_load_row rfl 50 _ rfl (b4 + 1) rfl 50 _ (0, 0) _ G1 Tryd.underlying50 rfl (ansA_size _ _ _ _) ?_)
      | (refine wpList_store_row rfl 50 _ _ rfl b4 (ansA zA (.slice none 0 0) (.slice none 0 0) (.slice none 0 0)) rfl rfl 50 _ G3 (ansA_size _ _ _ _) rfl (ansA_one _ _ _ _ _ _ _ _ _ _) ?_))
    have G5 := HS.head
    refine bodyPost_ret (results_cell_row (by rfl) _ _ b4 50 _ (0, 0) _ (by rfl) G5 Tryd.underlying50 rfl (ansA_size _ _ _ _)) rfl ?_
    rw [HX.out]
    exact headPost_plain (r := zA) rfl [_] (HL.drop2 HS.tail)
  | some l =>
    rw [hn] at hrd
    simp only [Option.isSome_some, Option.getD_some] at hrd
    by_cases h1 : l.length = 1
    · obtain ⟨n, rfl⟩ : ∃ n, l = [n] := List.length_eq_one_iff.1 h1
      have hx : headA k (s0 :: wr) = { zA with code := n } := by rw [HH.out, hn]
      have HX := Lib.hid hx
      clear hn hx h1
      go_upto_region 4 with (go_at_call 52; refine hrd.mono ?_; rintro e w3 ⟨u, rfl, H3⟩; clear hrd HS e0)
      have H4 : HL w0 w3 (boxA (b4 + 1) zA (.slice none 0 0) (.slice none 0 0) (.slice none 0 0) :: intsR w0.heap.size u [n] :: boxA b4 zA (.slice none 0 0) (.slice none 0 0) (.slice none 0 0) :: strs w0.heap.size (.slice (some ⟨b, 0, none⟩) (wr.length + 1) c) (s0 :: wr) :: L) := H3.swap
      clear H3
      obtain ⟨g, og, cg, rfl, d0⟩ := int_at (l := [n]) (k := 0) (rd_row H4.tail.head) rfl
      have n0 : w3.cell? ⟨b4 + 1, 0, none⟩ = some (.int .i64 0) := HL.cell H4 0
      have y0 : w3.frozen? ⟨b4 + 1, 0, none⟩ = false := HL.frozen H4 0
      have H5 : HL w0 (w3.setCell ⟨b4 + 1, 0, none⟩ (.int .i64 n)) (boxA (b4 + 1) { zA with code := n } (.slice none 0 0) (.slice none 0 0) (.slice none 0 0) :: _) := HL.setCell H4 0 (.int .i64 n)
      rw [Nat.add_zero] at d0
      clear H4
      go_upto_region 6 with (fail)
      clear d0 n0 y0
      generalize World.setCell _ _ _ = W5 at *
      have H3 := H5.swap
      have G1 : _ = some (Obj.cells (ansA { zA with code := n } (.slice none 0 0) (.slice none 0 0) (.slice none 0 0)) 50 (0, 0)) := H3.tail.head
      have G3 : _ = some (Obj.cells _ 50 (0, 0)) := H3.tail.tail.head
      have HS := HL.setWhole (cells := ansA { zA with code := n } (.slice none 0 0) (.slice none 0 0) (.slice none 0 0)) (H3.sel 3 [2, 0])
      go_wp2_with (first
        | (refine wpList_load_row rfl 50 _ rfl (b4 + 1) rfl 50 _ (0, 0) _ G1 Tryd.underlying50 rfl (ansA_size _ _ _ _) ?_)
        | (refine wpList_store_row rfl 50 _ _ rfl b4 (ansA { zA with code := n } (.slice none 0 0) (.slice none 0 0) (.slice none 0 0)) rfl rfl 50 _ G3 (ansA_size _ _ _ _) rfl (ansA_one _ _ _ _ _ _ _ _ _ _) ?_))
      have G5 := HS.head
      refine bodyPost_ret (results_cell_row (by rfl) _ _ b4 50 _ (0, 0) _ (by rfl) G5 Tryd.underlying50 rfl (ansA_size _ _ _ _)) rfl ?_
      rw [HX.out]
      exact headPost_plain (r := { zA with code := n }) rfl [_] (HL.drop2 HS.tail)
    · have hx : headA k (s0 :: wr) = zA := by
        rw [HH.out, hn]
        match l, h1 with
        | [], _ => rfl
        | _ :: _ :: _, _ => rfl
        | [_], h => exact absurd rfl h
      have HX := Lib.hid hx
      have q1 : ((l.length : Int) == 1) = false := by simp; omega
      clear hn hx h1
      go_upto_region 4 with (go_at_call 52; refine hrd.mono ?_; rintro e w3 ⟨u, rfl, H3⟩; clear hrd HS e0)
      obtain ⟨Au, cu, rfl, -⟩ := row_shape (show w3.ownsRow w0.heap.size 3 1 u l.length (intC l) from H3.head)
      go_upto_region 6 with (fail)
      have G1 : _ = some (Obj.cells (ansA zA (.slice none 0 0) (.slice none 0 0) (.slice none 0 0)) 50 (0, 0)) := H3.tail.head
      have G3 : _ = some (Obj.cells _ 50 (0, 0)) := H3.tail.tail.head
      have HS := HL.setWhole (cells := ansA zA (.slice none 0 0) (.slice none 0 0) (.slice none 0 0)) (H3.sel 3 [2, 0])
      go_wp2_with (first
        | (refine wpList_load_row rfl 50 _ rfl (b4 + 1) rfl 50 _ (0, 0) _ G1 Tryd.underlying50 rfl (ansA_size _ _ _ _) ?_)
        | (refine wpList_store_row rfl 50 _ _ rfl b4 (ansA zA (.slice none 0 0) (.slice none 0 0) (.slice none 0 0)) rfl rfl 50 _ G3 (ansA_size _ _ _ _) rfl (ansA_one _ _ _ _ _ _ _ _ _ _) ?_))
      have G5 := HS.head
      refine bodyPost_ret (results_cell_row (by rfl) _ _ b4 50 _ (0, 0) _ (by rfl) G5 Tryd.underlying50 rfl (ansA_size _ _ _ _)) rfl ?_
      rw [HX.out]
      exact headPost_plain (r := zA) rfl [_] (HL.drop2 HS.tail)
end
end Go.Proofs.YtdekbbffoaphhaaDoor

/- strconv.ParseUint, slices.Clone, slices.Delete, in the words of what a call owns. -/
import Derived.Test.YtdekbbffoaphhaaDoorShelfB
import Derived.Test.YtdekbbffoaphhaaDoorAnBase
import Derived.Test.YtdekbbffoaphhaaDoorAnParseP
import Derived.Lib.ParseIntBCases
set_option linter.unusedVariables false
set_option linter.unusedSimpArgs false
namespace Go.Proofs.HL
open Go.RowKit
theorem HL.setCells {w0 : World} {L : List At} {base g n c : Nat} {E : TypeId} : ∀ (cs : List Value) (o : Nat) (xs : List Value) (w : World), HL w0 w (row base E 1 (.slice (some ⟨g, 0, none⟩) n c) n xs :: L) → o + cs.length ≤ xs.length →
    HL w0 (w.setCells g o cs) (row base E 1 (.slice (some ⟨g, 0, none⟩) n c) n (xs.take o ++ cs ++ xs.drop (o + cs.length)) :: L)
  | [], o, xs, w, H, _ => by simpa [World.setCells] using H
  | v :: r, o, xs, w, H, hl => by
    simp only [List.length_cons] at hl
    have h1 := HL.setCells r (o + 1) (xs.set o v) _ (H.setRow o v) (by simp; omega)
    show HL w0 ((w.setCell ⟨g, o, none⟩ v).setCells g (o + 1) r) _
    have e : (xs.set o v).take (o + 1) ++ r ++ (xs.set o v).drop (o + 1 + r.length) = xs.take o ++ v :: r ++ xs.drop (o + (v :: r).length) := by
      have e1 : (xs.set o v).take (o + 1) = xs.take o ++ [v] := by
        rw [List.take_add_one, List.take_set_of_le (Nat.le_refl _), List.getElem?_set_self (by omega)]
        rfl
      have e2 : (xs.set o v).drop (o + 1 + r.length) = xs.drop (o + 1 + r.length) := by rw [List.drop_set_of_lt (by omega)]
      rw [e1, e2]
      simp [show o + (r.length + 1) = o + 1 + r.length by omega]
    rw [e] at h1
    exact h1
theorem ownsRow_lower {w : World} {a b k n : Nat} {E : TypeId} {v : Value} {xs : List Value} (h : w.ownsRow a E k v n xs) (hab : b ≤ a) : w.ownsRow b E k v n xs := by
  obtain ⟨h1, h2⟩ := h
  rcases h2 with h2 | ⟨g, cap, cur, e1, e2, e3⟩
  · exact ⟨h1, .inl h2⟩
  · exact ⟨h1, .inr ⟨g, cap, cur, e1, by omega, e3⟩⟩
end Go.Proofs.HL
namespace Go.Proofs.YtdekbbffoaphhaaDoor
open Go.RowKit Go.Proofs.HL Go.Proofs.An
section
variable {w0 w : World} {L : List At}
theorem pu_ok (hD : Doors w0) (H : HL w0 w L) (s : ByteArray) (hs : s.size ≤ 140737488351232) :
    Calls Tryd.prog 85 #[.string s, .int .i64 10, .int .i64 64] w fun e w' => ∃ x, e = .returned (.tuple #[.int .u64 (puV s), x]) ∧ HL w0 w' L := by
  obtain ⟨-, -, ⟨t1, p1, h1⟩, ⟨t2, p2, h2⟩, -⟩ := hD.keep H
  have e64 := Lib.parseUintB_64 s.data.toList
  unfold puV
  cases hA : Lib.parseMag s.data.toList with
  | ok u =>
    rw [hA] at e64
    refine (Tryd.strconv_ParseUint_10_at64_ok s (by omega) u e64 w).mono ?_
    rintro e w' ⟨rfl, rfl | rfl⟩
    · exact ⟨_, rfl, H⟩
    · exact ⟨_, rfl, HL.ofBelow H (Lib.bytesWorld_below w _ _)⟩
  | «syntax» =>
    rw [hA] at e64
    refine (Tryd.strconv_ParseUint_10_at64_syntax_var s (by omega) e64 t1 p1 w h1).mono ?_
    rintro e w' ⟨N, rfl, -, -, hb⟩
    exact ⟨_, rfl, HL.ofBelow H hb⟩
  | range =>
    rw [hA] at e64
    refine (Tryd.strconv_ParseUint_10_at64_range_var s (by omega) e64 t2 p2 w h2).mono ?_
    rintro e w' ⟨N, rfl, -, -, hb⟩
    exact ⟨_, rfl, HL.ofBelow H hb⟩
theorem clone_ok (H : HL w0 w L) {A : Option Addr} {c : Nat} {l : List Int} (h : Rd 1 (.slice A l.length c) l.length (intC l) w) (hl : l.length ≤ 4294967296) :
    Calls Tryd.prog 88 #[.slice A l.length c] w fun e w' => ∃ A' c', e = .returned (.slice A' l.length c') ∧ HL w0 w' (intsR w0.heap.size (.slice A' l.length c') l :: L) := by
  have fresh : ∀ (W : World) (v' : Value), W.ownsRow w.heap.size 3 1 v' l.length (intC l) → Below w.heap.size w W → ∃ A' c', v' = .slice A' l.length c' ∧ HL w0 W (intsR w0.heap.size (.slice A' l.length c') l :: L) := fun W v' hr hb => by
    have hs : ∃ A' c', v' = .slice A' l.length c' := by
      rcases hr.2 with ⟨rfl, e⟩ | ⟨g, cap, cur, rfl, -⟩
      · exact ⟨none, 0, by rw [e]⟩
      · exact ⟨_, _, rfl⟩
    obtain ⟨A', c', rfl⟩ := hs
    refine ⟨A', c', rfl, H.new (A' := intsR w0.heap.size (.slice A' l.length c') l) ⟨hb.os, hb.tape, hb.output, hb.size, fun k hk _ => hb.block k hk⟩ (ownsRow_lower hr H.size) (fun b e => ?_)⟩
    exact (hr.lt b e).1
  by_cases h0 : l = []
  · subst h0
    cases A with
    | none =>
      refine (Tryd.slices_Clone_int_nil 0 c w).mono ?_
      rintro e w' ⟨rfl, rfl⟩
      exact ⟨none, 0, rfl, H.nilRow _ _ _⟩
    | some a =>
      refine (Tryd.slices_Clone_int_zero a c w).mono ?_
      rintro e w' ⟨v', rfl, hr, -, hb⟩
      obtain ⟨A', c', rfl, hh⟩ := fresh w' v' hr hb
      exact ⟨A', c', rfl, hh⟩
  · obtain ⟨b, o, c2, hv, hc1, hc2, hcell⟩ := rd_plain h (by simpa using h0)
    simp only [Value.slice.injEq] at hv
    obtain ⟨rfl, -, rfl⟩ := hv
    refine (Tryd.slices_Clone_int b o l.length c l w (Nat.le_refl _) (by omega) (fun j hj => hcell j _ (by simp [List.getElem?_eq_getElem hj]))).mono ?_
    rintro e w' ⟨v', rfl, hr, -, hb⟩
    rw [List.take_length] at hr
    obtain ⟨A', c', rfl, hh⟩ := fresh w' v' hr hb
    exact ⟨A', c', rfl, hh⟩
theorem delete_ok {b c i j : Nat} {xs : List ByteArray} (H : HL w0 w (strs w0.heap.size (.slice (some ⟨b, 0, none⟩) xs.length c) xs :: L)) (hij : i ≤ j) (hj : j ≤ xs.length) :
    Calls Tryd.prog 86 #[.slice (some ⟨b, 0, none⟩) xs.length c, .int .i64 i, .int .i64 j] w fun e w' => e = .returned (.slice (some ⟨b, 0, none⟩) (xs.length - (j - i)) c) ∧
      ∃ ys : List ByteArray, ys.length = xs.length ∧ ys.take (xs.length - (j - i)) = xs.take i ++ xs.drop j ∧ HL w0 w' (strs w0.heap.size (.slice (some ⟨b, 0, none⟩) xs.length c) ys :: L) := by
  obtain ⟨A, cc, hv, -, hc1, hc2⟩ := row_shape (show w.ownsRow w0.heap.size 9 1 (.slice (some ⟨b, 0, none⟩) xs.length c) xs.length (strC xs) from H.head)
  simp only [Value.slice.injEq] at hv
  obtain ⟨-, -, rfl⟩ := hv
  unfold maxLen at hc2
  refine (Tryd.slices_Delete_string_cells b 0 xs.length c i j (fun i => xs.getD i ⟨#[]⟩) w hc1 (by omega) hij hj (fun i hi => ?_) (fun j hj => ?_)).mono ?_
  · rw [Nat.zero_add]
    exact H.rowCell (E := 9) (k := 1) (List.mem_cons_self ..) i _ (by simp [List.getElem?_eq_getElem hi])
  · rw [Nat.zero_add]
    exact H.rowFrozen (E := 9) (k := 1) (xs := strC xs) (List.mem_cons_self ..) j
  · rintro e w' ⟨rfl, q, rfl⟩
    have hsx : Lib.strsOf (fun i => xs.getD i ⟨#[]⟩) xs.length = xs.map (·.data.toList) := by
      unfold Lib.strsOf
      apply List.ext_getElem
      · simp
      · intro k h1 h2
        simp at h2
        simp [List.getElem?_eq_getElem h2]
    have hys : ((Lib.strsOf (fun i => xs.getD i ⟨#[]⟩) xs.length).take i ++ (Lib.strsOf (fun i => xs.getD i ⟨#[]⟩) xs.length).drop j ++ List.replicate (j - i) []).map encStr = strC (xs.take i ++ xs.drop j ++ List.replicate (j - i) ⟨#[]⟩) := by
      rw [hsx]
      simp [encStr, List.map_take, List.map_drop, Function.comp_def]
      try rfl
    have hlen : (xs.take i ++ xs.drop j ++ List.replicate (j - i) (⟨#[]⟩ : ByteArray)).length = xs.length := by simp; omega
    refine ⟨rfl, xs.take i ++ xs.drop j ++ List.replicate (j - i) ⟨#[]⟩, hlen, ?_, ?_⟩
    · have : (xs.take i ++ xs.drop j).length = xs.length - (j - i) := by simp; omega
      rw [← this]
      exact List.take_left
    · rw [hys]
      have h2 := HL.setCells (strC (xs.take i ++ xs.drop j ++ List.replicate (j - i) ⟨#[]⟩)) 0 (strC xs) _ (H.drewN q) (by rw [Nat.zero_add, List.length_map, hlen, List.length_map]; exact Nat.le_refl _)
      rw [List.take_zero, List.nil_append, Nat.zero_add, List.length_map, hlen, show (strC xs).drop xs.length = [] from List.drop_of_length_le (by rw [List.length_map]; exact Nat.le_refl _), List.append_nil] at h2
      unfold strs
      rw [hlen]
      exact h2
end
end Go.Proofs.YtdekbbffoaphhaaDoor

/- The law's act: All. -/
import Derived.Test.YthibbjllfmhdmaaAgActB
set_option linter.unusedVariables false
set_option linter.unusedSimpArgs false
namespace Go.Proofs.Ythibbjllfmhdmaa
open Go.RowKit Go.Proofs.HL AgInt
open Ref (Th ltT cut)

section
variable {w0 w : World} {L : List At} {ap ma p : Nat} {v : Value} {M : List Ent1} {l : List Th}
theorem ent_take {base c m n : Nat} {A : Option Addr} {xs : List Int} (hm : intsAt base (.slice A n c) xs ∈ L) (h : m ≤ xs.length) : Ent w0 L (Rd 1 (.slice A m c) (xs.take m).length (ints (xs.take m))) := fun w H => by
  have h1 : Rd 1 (.slice A n c) xs.length (ints xs) w := rd_row (H.get hm)
  obtain rfl : n = xs.length := by obtain ⟨-, -, a, c', h3, -⟩ := id h1; simp only [Value.slice.injEq] at h3; exact h3.2.1
  have h2 := rd_prefix h1 m h
  rw [List.length_take, Nat.min_eq_left h]
  unfold ints at h2 ⊢
  rw [List.map_take]
  simpa using h2

set_option maxRecDepth 100000 in
set_option maxHeartbeats 2000000 in
theorem act_all (H : HL w0 w (pair ap ma p v M l ++ L)) (hR : Rel M l) (hl : l.length ≤ 4398046511104) (kind which id at_ x : Int) (hk : amongI kind 6 = 5) :
    Calls Try.prog 22 #[.agg #[.int .i64 kind, .int .i64 which, .int .i64 id, .int .i64 at_, .int .i64 x], .pointer (some ⟨ap, 0, none⟩), .pointer (some ⟨p, 0, none⟩)] w fun e w' => ActPost w0 ap ma p l.length L e w' := by
  have H1 := H.alloc (.cells #[.int .i64 kind, .int .i64 which, .int .i64 id, .int .i64 at_, .int .i64 x] 45)
  have ha := among_ok kind 6
  rw [hk] at ha
  have hb := among_ok x 9
  have hM : M.length ≤ 8796093022208 := by rw [hR.length]; omega
  obtain ⟨m, hm⟩ : ∃ m : Nat, amongI x 9 = m := ⟨(amongI x 9).toNat, by have := among_lt x 9 (by omega) (by omega); omega⟩
  rw [hm] at hb
  have hi : idsL (spotsOf M) = l.map (·.id) := by rw [hR.spots]; unfold idsL; rw [List.map_map]; rfl
  have hat : atsL (spotsOf M) = l.map (·.at_) := by rw [hR.spots]; unfold atsL; rw [List.map_map]; rfl
  obtain ⟨q, hq⟩ : ∃ q : Nat, q = min m l.length := ⟨_, rfl⟩
  have hqi : min (m : Int) (l.length : Int) = (q : Int) := by omega
  have hql : q ≤ l.length := by omega
  have tq : ∀ xs : List Int, xs.length = l.length → xs.take m = xs.take q := fun xs hx => by
    rcases Nat.le_total m l.length with h | h
    · rw [show q = m by omega]
    · rw [List.take_of_length_le (by omega), List.take_of_length_le (by omega)]
  have HI := Lib.hid (show idsL ((spotsOf M).take m) = (l.map (·.id)).take q by rw [← tq _ (by simp), ← hi]; unfold idsL; rw [List.map_take])
  have HA := Lib.hid (show atsL ((spotsOf M).take m) = (l.map (·.at_)).take q by rw [← tq _ (by simp), ← hat]; unfold atsL; rw [List.map_take])
  clear tq hq
  clear hi hat hm
  go_enter Try.func22, Try.ntmps22
  go_wp2_with (first
    | (go_at_call_of 19 (Value.int .i64 6); refine (ha _).mono ?_; rintro e w1 ⟨rfl, rfl⟩)
    | (go_at_call_of 19 (Value.int .i64 9); refine (hb _).mono ?_; rintro e w1 ⟨rfl, rfl⟩)
    | (go_at_call 11; refine (listed_ok (H1.sel 5 [1, 2, 3, 4, 0]) hM m).mono ?_; rw [Int.toNat_natCast, HI.out, HA.out]; rintro e w3 ⟨u5, u6, rfl, H3⟩; clear H1)
    | (go_at_call 45; refine (Ref.all_ok (l := l) (v := v) (H3.sel 7 [4, 5, 0, 1, 2, 3, 6]) hl).mono ?_; rintro e w4 ⟨u7, u8, rfl, H4⟩; clear H3; obtain ⟨A7, c7, h7, -, hc7, -⟩ := row_shape H4.head; obtain ⟨A8, c8, h8, -, hc8, -⟩ := row_shape H4.tail.head; rw [List.length_map] at h7 h8 hc7 hc8; subst h7 h8)
    | (go_at_call_of 14 u5; refine (numbers_ok H4 ((l.map (·.id)).take q) ((l.map (·.id)).take q) (ent_ints (base := w0.heap.size) (by simp)) (ent_take (n := l.length) (c := c7) (base := w0.heap.size) (List.mem_cons_self ..) (by simpa using hql))).mono ?_; rw [beq_self_eq_true]; rintro e w8 ⟨rfl, H8⟩; clear H4)
    | (go_at_call_of 14 u6; refine (numbers_ok H8 ((l.map (·.at_)).take q) ((l.map (·.at_)).take q) (ent_ints (base := w0.heap.size) (by simp)) (ent_take (n := l.length) (c := c8) (base := w0.heap.size) (List.mem_cons_of_mem _ (List.mem_cons_self ..)) (by simpa using hql))).mono ?_; rw [beq_self_eq_true]; rintro e w9 ⟨rfl, H9⟩; clear H8))
  go_ret
  exact ⟨rfl, v, M, l, hR, by omega, H9.sel 9 [6, 7, 2, 3]⟩
end
end Go.Proofs.Ythibbjllfmhdmaa

/- The law's own small helpers: numbers, among. -/
import Derived.Test.YthibbjllfmhdmaaAgListed
set_option linter.unusedVariables false
set_option linter.unusedSimpArgs false
namespace Go.Proofs.Ythibbjllfmhdmaa.AgInt
open Go.RowKit Go.Proofs.HL

def ints (xs : List Int) : List Value := xs.map (Value.int .i64)

theorem ints_eq (xs : List Int) : xs.map encI = ints xs := rfl
theorem ent_ints {w0 : World} {L : List At} {base : Nat} {v : Value} {xs : List Int} (hm : intsAt base v xs ∈ L) : Ent w0 L (Rd 1 v xs.length (ints xs)) := fun w H => rd_row (H.get hm)
theorem rd_int {v : Value} {n : Nat} {xs : List Int} {w : World} (h : Rd 1 v n (ints xs) w) :
   n = xs.length ∧ xs.length ≤ maxLen ∧ ∃ a c, v = .slice a xs.length c ∧ xs.length ≤ c ∧ c ≤ maxLen ∧ (a = none → xs.length = 0) ∧ ∀ ad, a = some ad → ∀ j, j < xs.length → w.cell? (ad.add j) = some (.int .i64 (xs[j]?.getD 0)) := by
  obtain ⟨h1, h2, a, c, h3, h4, h5, h6, h7⟩ := h
  obtain rfl : n = xs.length := by simpa [ints] using h1.symm
  refine ⟨rfl, h2, a, c, h3, h4, h5, fun e => (h6 e).1, fun ad hd j hj => h7 ad hd j _ ?_⟩
  simp [ints, List.getElem?_eq_getElem hj]

set_option maxHeartbeats 400000 in
theorem numbers_ok {w0 w : World} {L : List At} (H : HL w0 w L) {u v : Value} {m n : Nat} (xs ys : List Int) (hu : Ent w0 L (Rd 1 u m (ints xs))) (hv : Ent w0 L (Rd 1 v n (ints ys))) :
    Calls Try.prog 14 #[u, v] w fun e w' => e = .returned (.bool (xs == ys)) ∧ HL w0 w' L := by
  obtain ⟨-, hm, a, c, rfl, hc1, hc2, hz, -⟩ := rd_int (hu w H)
  obtain ⟨-, hn, b, d, rfl, hd1, hd2, hy, -⟩ := rd_int (hv w H)
  unfold maxLen at hm hn
  by_cases hne : xs.length = ys.length
  · have hlb : ((xs.length : Int) != (ys.length : Int)) = false := by simp [hne]
    have Hl := Lib.hid hne; clear hne
    go_enter Try.func14, Try.ntmps14
    go_wp2
    go_loopw [5, 13] (fun i t wr => ∃ k : Nat, k ≤ xs.length ∧ t = .int .i64 k ∧ xs.take k = ys.take k ∧ HL w0 wr L) (fun _ t _ => xs.length - (intOf t).toNat)
    case atStart => exact ⟨0, Nat.zero_le _, rfl, rfl, H⟩
    case round =>
      obtain ⟨k, hk, rfl, he, HK⟩ := hrel
      have He := Lib.hid he; clear he
      by_cases hlt : k < xs.length
      · obtain ⟨-, -, a', c', e1, -, -, hz', hcell⟩ := rd_int (hu _ HK)
        simp only [Value.slice.injEq] at e1
        obtain ⟨rfl, -, rfl⟩ := e1
        obtain ⟨-, -, b', d', e1, -, -, hy', hcelly⟩ := rd_int (hv _ HK)
        simp only [Value.slice.injEq] at e1
        obtain ⟨rfl, -, rfl⟩ := e1
        have hlt2 : k < ys.length := by rw [← Hl.out]; exact hlt
        obtain ⟨a, rfl⟩ : ∃ a1, a = some a1 := by
          cases a with
          | none => have := hz rfl; omega
          | some a1 => exact ⟨a1, rfl⟩
        obtain ⟨b, rfl⟩ : ∃ a1, b = some a1 := by
          cases b with
          | none => have := hy rfl; omega
          | some a1 => exact ⟨a1, rfl⟩
        have c1 := hcell a rfl k hlt
        have c2 := hcelly b rfl k hlt2
        clear hcell hcelly
        go_wp2
        go_quiet (fail)
        go_wp2
        · have hx : (xs[k] != ys[k]) = true := by assumption
          go_ret
          refine ⟨?_, HK.drewN nq⟩
          have : (xs == ys) = false := by
            rw [beq_eq_false_iff_ne]
            rintro rfl
            simp at hx
          rw [this]
          rfl
        · have hx : (xs[k] != ys[k]) = false := by assumption
          go_roundw
          case rel =>
            refine ⟨k + 1, by omega, by go_num, ?_, HK.drewN nq⟩
            have h2 : xs[k] = ys[k] := by simpa using hx
            rw [List.take_succ_eq_append_getElem hlt, List.take_succ_eq_append_getElem hlt2, He.out, h2]
          case measure => simp [intOf]; omega
      · go_wp2
        go_ret
        refine ⟨?_, HK⟩
        have h1 : k = xs.length := by omega
        have h2 := He.out
        rw [h1, List.take_length, Hl.out, List.take_length] at h2
        rw [h2]
        simp
  · have hlb : ((xs.length : Int) != (ys.length : Int)) = true := by simp; omega
    have hx : (xs == ys) = false := by
      rw [beq_eq_false_iff_ne]
      rintro rfl
      exact hne rfl
    clear hne
    go_enter Try.func14, Try.ntmps14
    go_wp2
    go_ret
    rw [hx]
    exact ⟨rfl, H⟩

theorem ent_lit {w0 : World} {L : List At} {xs : List Int} {b : Nat} {E : TypeId} (hm : blk b (.cells (ints xs).toArray E) ∈ L) (hn : xs.length ≤ maxLen) :
    Ent w0 L (Rd 1 (.slice (some ⟨b, 0, none⟩) xs.length xs.length) xs.length (ints xs)) := fun w H => by
  refine ⟨by simp [ints], hn, some ⟨b, 0, none⟩, xs.length, rfl, Nat.le_refl _, hn, (fun e => nomatch e), fun ad hd j u hu => ?_⟩
  cases hd
  rw [add_zero_block, H.cellOf hm j]
  simpa using hu
/-- A place among n. -/
def amongI (i n : Int) : Int := if n < 1 then 0 else if i.tmod n < 0 then wrap64 (i.tmod n + n) else i.tmod n
theorem among_lt (i n : Int) (h : 1 ≤ n) (h2 : n ≤ 4611686018427387904) : 0 ≤ amongI i n ∧ amongI i n < n := by
  unfold amongI
  have h3 : i.tmod n < n := Int.tmod_lt_of_pos i (by omega)
  have h4 : -n < i.tmod n := by
    have h5 := Int.tmod_lt_of_pos (-i) (show 0 < n by omega)
    rw [Int.neg_tmod] at h5
    omega
  rw [if_neg (by omega)]
  by_cases h0 : i.tmod n < 0
  · rw [if_pos h0]
    have : wrap64 (i.tmod n + n) = i.tmod n + n := by
      unfold wrap64; omega
    rw [this]
    omega
  · rw [if_neg h0]
    omega
set_option maxHeartbeats 400000 in
theorem among_ok (i n : Int) (w : World) : Calls Try.prog 19 #[.int .i64 i, .int .i64 n] w fun e w' => e = .returned (.int .i64 (amongI i n)) ∧ w = w' := by
  unfold amongI
  by_cases h1 : n < 1
  · rw [if_pos h1]
    go_enter Try.func19, Try.ntmps19
    go_wp2
    go_ret
    exact ⟨rfl, rfl⟩
  · rw [if_neg h1]
    by_cases h2 : i.tmod n < 0
    · rw [if_pos h2]
      go_enter Try.func19, Try.ntmps19
      go_wp2
      go_ret
      exact ⟨rfl, rfl⟩
    · rw [if_neg h2]
      go_enter Try.func19, Try.ntmps19
      go_wp2
      go_ret
      exact ⟨rfl, rfl⟩
end Go.Proofs.Ythibbjllfmhdmaa.AgInt

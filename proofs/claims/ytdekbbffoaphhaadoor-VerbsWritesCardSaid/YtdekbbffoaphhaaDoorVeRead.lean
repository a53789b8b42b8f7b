/- A field is read. -/
import Derived.Test.YtdekbbffoaphhaaDoorVeWords
import Derived.Lib.AtoiAllCases
import Derived.Lib.AtoiErrMem
set_option linter.unusedVariables false
set_option linter.unusedSimpArgs false
namespace Go.Proofs.Ve
/-- A field that is read of a word; none: it may not be. -/
def readF (o : Cm) (f : Nat) (s : ByteArray) : Option Cm :=
  if f < 2 then (if validB s then some (setT o f s) else none)
  else match Lib.atoiAll s.data.toList with
    | .ok n => if 0 ≤ n ∧ Lib.itoa n = s.data.toList then some (setN o f n) else none
    | _ => none
end Go.Proofs.Ve
namespace Go.Proofs.YtdekbbffoaphhaaDoor
open Go.RowKit Go.Proofs.HL Go.Proofs.Ve
section
variable {w0 w : World} {L : List At} {b : Nat} {o : Cm}
def ReadPost (w0 : World) (b : Nat) (o : Cm) (f : Nat) (s : ByteArray) (L : List At) (B : Bool) (w' : World) : Prop :=
  ∃ o', HL w0 w' (boxC b o' :: L) ∧ (match readF o f s with | some p => B = true ∧ o' = p | none => B = false)
def ReadSome (w0 : World) (b : Nat) (o : Cm) (f : Nat) (s : ByteArray) (L : List At) (e : Ending) (w' : World) : Prop := ∃ B, e = .returned (.bool B) ∧ ReadPost w0 b o f s L B w'
theorem atoi_ok (hD : Doors w0) (H : HL w0 w L) (s : ByteArray) (hs : s.size ≤ 140737488351232) :
    Calls Tryd.prog 61 #[.string s] w fun e w' => (∃ n, Lib.atoiAll s.data.toList = .ok n ∧ e = .returned (.tuple #[.int .i64 n, .nilIface]) ∧ HL w0 w' L) ∨
      ((∀ n, Lib.atoiAll s.data.toList ≠ .ok n) ∧ ∃ n t p, e = .returned (.tuple #[.int .i64 n, .iface t (.pointer (some p))]) ∧ HL w0 w' L) := by
  obtain ⟨-, -, ⟨t1, p1, h1⟩, ⟨t2, p2, h2⟩, -⟩ := hD.keep H
  cases hA : Lib.atoiAll s.data.toList with
  | ok n =>
    refine (Tryd.strconv_Atoi_ok s (by omega) n hA w).mono ?_
    rintro e w' ⟨rfl, rfl | ⟨t, rfl⟩⟩
    · exact .inl ⟨n, rfl, rfl, H⟩
    · exact .inl ⟨n, rfl, rfl, HL.ofBelow H (Lib.bytesWorld_below w _ t)⟩
  | «syntax» =>
    refine (Tryd.strconv_Atoi_syntax_var s (by omega) hA t1 p1 w h1).mono ?_
    rintro e w' ⟨N, rfl, -, -, hb⟩
    exact .inr ⟨(fun n h => by cases h), 0, _, _, rfl, HL.ofBelow H hb⟩
  | range =>
    refine (Tryd.strconv_Atoi_range_var s (by omega) hA t2 p2 w h2).mono ?_
    rintro e w' ⟨N, rfl, -, -, hb⟩
    exact .inr ⟨(fun n h => by cases h), _, _, _, rfl, HL.ofBelow H hb⟩
set_option maxRecDepth 100000 in
set_option maxHeartbeats 4000000 in
theorem read_ok (hD : Doors w0) (H : HL w0 w (boxC b o :: L)) (f : Nat) (hf : f ≤ 6) (s : ByteArray) (hs : s.size ≤ 140737488351232) :
    Calls Tryd.prog 29 #[.pointer (some ⟨b, 0, none⟩), .int .i64 (f : Int), .string s] w (ReadSome w0 b o f s L) := by
  by_cases hf2 : f < 2
  · have z1 := boxC_frozen H (List.mem_cons_self ..) (f + 1)
    have z2 := boxC_txt H (List.mem_cons_self ..) hf2
    have HS := boxC_setT H hf2 s
    have hpost : ∀ W, HL w0 W (boxC b (setT o f s) :: L) → ReadPost w0 b o f s L (validB s) W := fun W HW => by
      refine ⟨setT o f s, HW, ?_⟩
      unfold readF
      rw [if_pos hf2]
      cases validB s <;> simp
    have HP := Lib.hid (hpost _ HS)
    clear hpost HS H
    go_enter Tryd.func29, Tryd.ntmps29
    go_wp2_with (first
      | (go_at_call 36; refine (text_yes b f hf2 _).mono ?_; rintro e w2 ⟨rfl, rfl⟩)
      | (go_at_call 13; refine (valid_ok s (by omega) _).mono ?_; rintro e w2 ⟨rfl, rfl⟩))
    go_ret
    exact ⟨_, rfl, HP.out⟩
  · have hf2' : 2 ≤ f := by omega
    have hat := atoi_ok hD H s hs
    have hno : (∀ n, Lib.atoiAll s.data.toList ≠ .ok n) → ∀ n W, HL w0 W (boxC b (setN o f n) :: L) → ReadPost w0 b o f s L false W := fun h n W HW => by
      refine ⟨setN o f n, HW, ?_⟩
      unfold readF
      rw [if_neg hf2]
      cases hA : Lib.atoiAll s.data.toList with
      | ok m => exact absurd hA (h m)
      | «syntax» => rfl
      | range => rfl
    have hyes : ∀ n, Lib.atoiAll s.data.toList = .ok n → ∀ W, HL w0 W (boxC b (setN o f n) :: L) → ReadPost w0 b o f s L (decide (0 ≤ n) && decide (Lib.itoa n = s.data.toList)) W := fun n hA W HW => by
      refine ⟨setN o f n, HW, ?_⟩
      unfold readF
      rw [if_neg hf2, hA]
      by_cases h0 : 0 ≤ n <;> by_cases h1 : Lib.itoa n = s.data.toList <;> simp [h0, h1]
    have HNO := Lib.hid hno; have HYES := Lib.hid hyes
    clear hno hyes H
    go_enter Tryd.func29, Tryd.ntmps29
    go_upto_region 6 with (first
      | (go_at_call 36; refine (text_no b f hf2' hf _).mono ?_; rintro e w2 ⟨rfl, rfl⟩)
      | (go_at_call 61; refine hat.mono ?_; rintro e w2 (⟨n, hA, rfl, H2⟩ | ⟨hA, n, t, p, rfl, H2⟩)))
    · obtain ⟨bd1, bd2⟩ := Lib.atoiAll_bounds hA
      have HA := Lib.hid hA
      clear hA hat
      have z1 := boxC_frozen H2 (List.mem_cons_self ..) (f + 1)
      have z2 := boxC_num H2 (List.mem_cons_self ..) hf2' hf
      have HS := boxC_setN H2 hf2' hf n
      clear H2
      by_cases h0 : 0 ≤ n
      · have hit := itoa_ok hD HS n bd1 bd2
        have hpost := HYES.out n HA.out
        have hbeq : decide (Lib.itoa n = s.data.toList) = (Lib.itoa n == s.toList) := by rw [Go.ByteArray.toList_eq, Bool.eq_iff_iff]; simp
        rw [decide_eq_true h0, hbeq, Bool.true_and] at hpost
        have HP := Lib.hid hpost
        clear hpost hbeq
        go_wp2_with (first
          | (go_at_call 38; refine (number_ok b f hf2' hf _).mono ?_; rintro e w3 ⟨rfl, rfl⟩)
          | (go_at_call 37; refine hit.mono ?_; rintro e w7 ⟨rfl, H7⟩; clear hit HS z1 z2))
        go_ret
        exact ⟨_, rfl, HP.out _ H7⟩
      · have hpost := HYES.out n HA.out _ HS
        rw [decide_eq_false h0] at hpost
        have HP := Lib.hid hpost
        clear hpost HS
        go_wp2_with (go_at_call 38; refine (number_ok b f hf2' hf _).mono ?_; rintro e w3 ⟨rfl, rfl⟩)
        go_ret
        exact ⟨_, rfl, HP.out⟩
    · have z1 := boxC_frozen H2 (List.mem_cons_self ..) (f + 1)
      have z2 := boxC_num H2 (List.mem_cons_self ..) hf2' hf
      have HP := Lib.hid (HNO.out hA n _ (boxC_setN H2 hf2' hf n))
      clear hA H2 hat
      go_wp2_with (go_at_call 38; refine (number_ok b f hf2' hf _).mono ?_; rintro e w3 ⟨rfl, rfl⟩)
      go_ret
      exact ⟨_, rfl, HP.out⟩
end
end Go.Proofs.YtdekbbffoaphhaaDoor

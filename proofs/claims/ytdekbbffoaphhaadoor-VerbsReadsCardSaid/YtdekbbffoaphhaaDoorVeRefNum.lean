/- The reference's number. -/
import Derived.Test.YtdekbbffoaphhaaDoorVeRef
import Derived.Test.YtdekbbffoaphhaaDoorVeNum
import Derived.Deep.DeepCutAuto
set_option linter.unusedVariables false
set_option linter.unusedSimpArgs false
namespace Go.Proofs.Ve
/-- A number and whether it is one. -/
def numV (s : ByteArray) : Int × Bool := match numR 9223372036854775807 s.data.toList with | some n => ((n : Int), true) | none => (0, false)
theorem numV_none {s : ByteArray} (h : numR 9223372036854775807 s.data.toList = none) : numV s = (0, false) := by unfold numV; rw [h]
theorem numV_some {s : ByteArray} {n : Nat} (h : numR 9223372036854775807 s.data.toList = some n) : numV s = ((n : Int), true) := by unfold numV; rw [h]
end Go.Proofs.Ve
namespace Go.Proofs.YtdekbbffoaphhaaDoor
open Go.RowKit Go.Proofs.HL Go.Proofs.Ve
theorem ret2N {a b : Int × Bool} (h : a = b) : Ending.returned (.tuple #[.int .i64 b.1, .bool b.2]) = .returned (.tuple #[.int .i64 a.1, .bool a.2]) := by rw [h]
set_option maxRecDepth 100000 in
set_option maxHeartbeats 2000000 in
theorem Ref.number_ok (s : ByteArray) (hs : s.size ≤ 9223372036854775807) (w : World) :
    Calls Tryd.prog 34 #[.string s] w fun e w' => e = .returned (.tuple #[.int .i64 (numV s).1, .bool (numV s).2]) ∧ w = w' := by
  have hlen : s.data.toList.length = s.size := rfl
  by_cases h1 : s.size < 1
  · have hf := numV_none (s := s) (numR_bad (fun h => h.1 (List.eq_nil_of_length_eq_zero (by omega))))
    have HF := Lib.hid hf
    clear hf
    go_enter Tryd.func34, Tryd.ntmps34
    go_wp2
    go_ret2
    exact ⟨ret2N HF.out, rfl⟩
  · by_cases h2 : 19 < s.size
    · have hf := numV_none (s := s) (numR_long (k := 18) (by decide) (by omega))
      have HF := Lib.hid hf
      clear hf
      go_enter Tryd.func34, Tryd.ntmps34
      go_wp2
      go_ret2
      exact ⟨ret2N HF.out, rfl⟩
    · have hp0 : 0 < s.size := by omega
      have hd0 : s.data.toList.head? = some s[0] := by rw [List.head?_eq_getElem?, List.getElem?_eq_getElem (by omega)]; rfl
      by_cases h3 : 1 < s.size ∧ (s[0].toNat : Int) = 48
      · have hf := numV_none (s := s) (numR_bad (fun h => by
          rcases h.2.2 with e | e
          · omega
          · rw [hd0] at e
            exact e (congrArg some (UInt8.toNat_inj.1 (by have : (48 : UInt8).toNat = 48 := rfl; omega)))))
        have HF := Lib.hid hf
        obtain ⟨h3, h4⟩ := h3
        clear hf hd0 hlen
        have e1 : ((s[0].toNat : Int) == 48) = true := by simp [h4]
        go_enter Tryd.func34, Tryd.ntmps34
        go_wp2
        go_ret2
        exact ⟨ret2N HF.out, rfl⟩
      · have hok : s.size = 1 ∨ s.data.toList.head? ≠ some 48 := by
          rcases Nat.lt_or_ge 1 s.size with h | h
          · refine .inr (fun e => h3 ⟨h, ?_⟩)
            rw [hd0] at e
            have := congrArg UInt8.toNat (Option.some.inj e)
            have e48 : (48 : UInt8).toNat = 48 := rfl
            omega
          · exact .inl (by omega)
        have hloop : ∀ (w : World), True := fun _ => trivial
        have HOK := Lib.hid hok
        have HLEN := Lib.hid hlen
        clear hok hd0 hloop hlen
        have hcase : (s.size = 1) ∨ (1 < s.size ∧ (s[0].toNat : Int) ≠ 48) := by
          by_cases h : 1 < s.size
          · exact .inr ⟨h, fun h4 => h3 ⟨h, h4⟩⟩
          · exact .inl (by omega)
        clear h3
        go_enter Tryd.func34, Tryd.ntmps34
        go_upto_region 1 with (fail)
        go_cut [24] (fun t24 wc => t24 = .bool false ∧ w = wc)
        case first =>
          rcases hcase with h | ⟨h, h4⟩
          · have d1 : decide ((s.size : Int) < 1) = false := decide_eq_false (by omega)
            have d2 : decide (19 < (s.size : Int)) = false := decide_eq_false (by omega)
            go_wp2
            go_meet
            exact ⟨by first | rfl | (rw [d1, d2]; rfl), rfl⟩
          · have e1 : ((s[0].toNat : Int) == 48) = false := by simp [h4]
            have d1 : decide ((s.size : Int) < 1) = false := decide_eq_false (by omega)
            have d2 : decide (19 < (s.size : Int)) = false := decide_eq_false (by omega)
            go_wp2
            go_meet
            exact ⟨by first | rfl | (rw [d1, d2]; rfl), rfl⟩
        case rest =>
          obtain ⟨rfl, rfl⟩ := hcut
          go_wp2
          go_loopg [4, 5] s.size (fun g n i wr => ∃ k : Nat, i = .int .i64 k ∧ k + g = s.size ∧ n = .int .i64 (valD (s.data.toList.take k) : Nat) ∧ valD (s.data.toList.take k) ≤ 9223372036854775807 ∧ (∀ c ∈ s.data.toList.take k, digU c = true) ∧ w = wr)
          case atStart => exact ⟨0, rfl, by omega, rfl, by simp [valD], (fun c h => by simp at h), rfl⟩
          case round =>
            obtain ⟨k, rfl, hk, rfl, hv, hdig, rfl⟩ := hrel
            have HDG := Lib.hid hdig
            clear hdig
            by_cases hlt : k < s.size
            · have hd : s.data.toList[k]? = some s[k] := by rw [List.getElem?_eq_getElem (by simpa using hlt)]; rfl
              have htk : s.data.toList.take (k + 1) = s.data.toList.take k ++ [s[k]] := by rw [List.take_add_one, hd]; rfl
              have hmem : s[k] ∈ s.data.toList := List.mem_of_getElem? hd
              have hval : valD (s.data.toList.take (k + 1)) = 10 * valD (s.data.toList.take k) + (s[k].toNat - 48) := by rw [htk, valD_snoc]
              have hmono : valD (s.data.toList.take (k + 1)) ≤ valD s.data.toList := by
                have := valD_mono (s.data.toList.take (k + 1)) (s.data.toList.drop (k + 1))
                rwa [List.take_append_drop] at this
              have hbad : digU s[k] = false → numV s = (0, false) := fun h => numV_none (numR_bad (fun hn => by rw [hn.2.1 _ hmem] at h; cases h))
              have hnx : digU s[k] = true → ∀ c ∈ s.data.toList.take (k + 1), digU c = true := fun h c hc => by
                rw [htk] at hc
                rcases List.mem_append.1 hc with hc | hc
                · exact HDG.out c hc
                · rw [List.mem_singleton.1 hc]; exact h
              generalize valD (s.data.toList.take k) = V at *
              generalize hV1 : valD (s.data.toList.take (k + 1)) = V1 at *
              have HB := Lib.hid hbad; have HN := Lib.hid hnx; have HV1 := Lib.hid hV1
              have hgr : 9223372036854775807 < V1 → numV s = (0, false) := fun h => numV_none (numR_great (by omega))
              have HGR := Lib.hid hgr
              have HVAL := Lib.hid hval
              clear hbad hnx hd htk hmem hmono hgr hV1 hval
              obtain ⟨m, hm⟩ : ∃ m : Nat, s[k].toNat = m := ⟨_, rfl⟩
              have HM := Lib.hid hm
              by_cases c1 : (s[k].toNat : Int) < 48
              · have HV := Lib.hid (HB.out (by simp [digU]; omega))
                clear hm
                go_wp2
                go_ret2
                exact ⟨ret2N HV.out, rfl⟩
              · by_cases c2 : 57 < (s[k].toNat : Int)
                · have HV := Lib.hid (HB.out (by simp [digU]; omega))
                  clear hm
                  go_wp2
                  go_ret2
                  exact ⟨ret2N HV.out, rfl⟩
                · have c3 : (48 : Int) ≤ (s[k].toNat : Int) := by omega
                  have c4 : (s[k].toNat : Int) ≤ 57 := by omega
                  have e3 : decide (57 < (s[k].toNat : Int)) = false := decide_eq_false c2
                  have hdg : digU s[k] = true := by simp [digU]; omega
                  have HND := Lib.hid (HN.out hdg)
                  clear hdg hm
                  by_cases c5 : (V : Int) ≤ (9223372036854775807 - ((s[k].toNat : Int) - 48)) / 10
                  · have hv1 : V1 ≤ 9223372036854775807 := by have := HVAL.out; omega
                    have hval : ((V1 : Nat) : Int) = 10 * (V : Int) + ((s[k].toNat : Int) - 48) := by have := HVAL.out; omega
                    have HVL := Lib.hid hval
                    clear hval
                    go_wp2
                    go_roundg (gk - 1)
                    case measure => omega
                    case rel => exact ⟨k + 1, by go_num, by omega, by rw [HV1.out, HVL.out], by rw [HV1.out]; exact hv1, HND.out, rfl⟩
                  · have hv1 : 9223372036854775807 < V1 := by have := HVAL.out; omega
                    have HV := Lib.hid (HGR.out hv1)
                    clear hv1
                    go_wp2
                    go_ret2
                    exact ⟨ret2N HV.out, rfl⟩
            · have hnum : numV s = (((valD (s.data.toList.take k) : Nat) : Int), true) := by
                rw [List.take_of_length_le (by rw [HLEN.out]; omega)] at hv HDG ⊢
                exact numV_some (numR_good ⟨(fun e => by rw [e] at HLEN; have := HLEN.out; simp at this; omega), HDG.out, HOK.out.imp (fun h => by rw [HLEN.out]; exact h) id⟩ hv)
              have HV := Lib.hid hnum
              clear hnum hv
              generalize valD (s.data.toList.take k) = V at *
              go_wp2
              go_ret2
              exact ⟨ret2N HV.out, rfl⟩
end Go.Proofs.YtdekbbffoaphhaaDoor

/- The law AnswersEvents: the line of any event is the document's, and is read as that event. -/
import Derived.Test.YtdekbbffoaphhaaDoorAnShown
import Derived.Test.YtdekbbffoaphhaaDoorAnRefEv
set_option linter.unusedVariables false
set_option linter.unusedSimpArgs false
namespace Go.Proofs.An
theorem evT_most {e : Ev} (hok : EvOk e) : (evT e).length ≤ 22 * e.list.length + 120 := by
  have n4 := numsT_len [e.job, e.tm, e.nd, e.lm] (fits4 hok)
  have n2 := numsT_len [e.job, e.tm] (fits2 hok)
  have n1 := numsT_len [e.tm] (fits1 hok)
  have nl := numsT_len e.list hok.fits
  have s1 : (stW e.nd).data.toList.length ≤ 9 := stW_size e.nd
  simp only [List.length_cons, List.length_nil] at n4 n2 n1
  unfold evT
  repeat' split
  all_goals
    simp only [List.length_append, List.length_cons, List.length_nil]
    omega
theorem evS_most {e : Ev} (hok : EvOk e) : (evS e).size ≤ 22 * e.list.length + 120 := by
  have := evT_most hok
  unfold evS
  split
  · simpa [ByteArray.size] using this
  · exact Nat.zero_le _
theorem sameB_self (e : Ev) : sameB e e = true := by simp [sameB]
end Go.Proofs.An
namespace Go.Proofs.YtdekbbffoaphhaaDoor
open Go.RowKit Go.Proofs.HL Go.Proofs.An
set_option maxRecDepth 100000 in
set_option maxHeartbeats 8000000 in
theorem answersEvents_law {w : World} (hD : Doors w) (x : Ev) {v : Value} (h : Rd 1 v x.list.length (intC x.list) w) (h1 : Int64 x.job) (h2 : Int64 x.tm) (h3 : Int64 x.nd) (h4 : Int64 x.lm) (hf : Fits x.list) :
    Calls Tryd.prog 7 #[evV x v] w fun e w' => e = .returned (.bool true) ∧ Below w.heap.size w w' := by
  have hI : Ints w [] v x.list := fun W HW => rd_old HW h
  obtain ⟨A, c, rfl, hc1, hc2⟩ := rd_shape h
  unfold maxLen at hc2
  have H1 := HL.allocE (HL.start w) x (.slice A x.list.length c)
  have hI1 := hI.cons (boxE w.heap.size x (.slice A x.list.length c))
  obtain ⟨n0, n1, n2, n3, n4, n5⟩ := boxE_cells H1
  unfold evV
  generalize hb1 : w.heap.size = b1 at *
  by_cases hlen : 4194304 < x.list.length
  · have d : decide ((4194304 : Int) < (x.list.length : Int)) = true := decide_eq_true (by omega)
    have HB := Lib.hid H1.below
    rw [hb1] at HB
    clear hI h hI1
    go_enter Tryd.func7, Tryd.ntmps7
    go_wp2
    go_ret
    exact ⟨rfl, HB.out⟩
  · have d : decide ((4194304 : Int) < (x.list.length : Int)) = false := decide_eq_false (by omega)
    have hok : EvOk x := ⟨h1, h2, h3, h4, hf, by omega⟩
    have hs := shown_ok hD H1
    have hsz := evS_most hok
    have hev := fun W L' (HW : HL w W L') (hi : Ints w L' (.slice A x.list.length c) x.list) => event_ok hD HW x hi hok
    have hrf := fun W L' (HW : HL w W L') (hi : Ints w L' (.slice A x.list.length c) x.list) => Ref.event_ok hD HW x hi hok (by omega)
    have hrd := fun W L' (HW : HL w W L') => read_ok hD HW (evS x) (by omega)
    have hz : evN x = 0 ∧ readE (evS x) = (x, 0) ∨ evN x = 90 := by
      cases hr : right x with
      | true => exact .inl ⟨by unfold evN; rw [hr]; rfl, read_back hr hok⟩
      | false => exact .inr (by unfold evN; rw [hr]; rfl)
    have HZ := Lib.hid hz
    generalize evN x = cn at *
    unfold ReadPost at hrd
    obtain ⟨rd, hrdx⟩ : ∃ rd, readE (evS x) = rd := ⟨_, rfl⟩
    simp only [hrdx] at hrd HZ
    unfold evV at hev hrf
    generalize evS x = es at *
    have HI := Lib.hid hI1
    clear hI h hlen hok h1 h2 h3 h4 hf hI1 hz hrdx
    go_enter Tryd.func7, Tryd.ntmps7
    go_upto_region 10 with (first
      | (go_at_call 19; refine hs.mono ?_; rintro e w2 ⟨rfl, H2⟩; clear hs H1 n0 n1 n2 n3 n4 n5; obtain ⟨n0, n1, n2, n3, n4, n5⟩ := boxE_cells H2)
      | (go_at_call 20; refine (hev _ _ H2 HI.out).mono ?_; rintro e w3 ⟨rfl, H3⟩; clear hev H2 n0 n1 n2 n3 n4 n5; obtain ⟨n0, n1, n2, n3, n4, n5⟩ := boxE_cells H3)
      | (go_at_call 21; refine (hrf _ _ H3 HI.out).mono ?_; rintro e w4 ⟨rfl, H4⟩; clear hrf H3 n0 n1 n2 n3 n4 n5)
      | (go_at_call 22; refine (hrd _ _ H4).mono ?_; rintro e w5 ⟨u, K, rfl, hu, H5⟩; clear hrd H4; obtain ⟨y, hy⟩ : ∃ y, rd.1 = y := ⟨_, rfl⟩; rw [hy] at hu; simp only [hy]; have HY := Lib.hid hy; clear hy; obtain ⟨Au, cu, rfl, -, -⟩ := rd_shape (hu w5 H5.left); have H6 := HL.allocE H5 y (.slice Au y.list.length cu); unfold evV))
    have hI6 : Ints w (boxE w5.heap.size y (.slice Au y.list.length cu) :: (K ++ [boxE b1 x (.slice A x.list.length c)])) (.slice A x.list.length c) x.list := Ent.cons (Ent.right HI.out) _
    have hu6 : Ints w (boxE w5.heap.size y (.slice Au y.list.length cu) :: (K ++ [boxE b1 x (.slice A x.list.length c)])) (.slice Au y.list.length cu) y.list := Ent.cons (Ent.left hu) _
    generalize World.alloc w5 _ = W6 at *
    generalize w5.heap.size = b6 at *
    have HB := Lib.hid H6.below
    rw [hb1] at HB
    rcases HZ.out with ⟨rfl, rfl⟩ | rfl
    · obtain rfl : x = y := HY.out
      obtain ⟨m0, m1, m2, m3, m4, m5⟩ := boxE_cells H6
      obtain ⟨n0, n1, n2, n3, n4, n5⟩ := boxE_cells (HL.drops (K := K) H6.tail)
      have hsm := same_ok H6 x x _ _ hI6 hu6
      rw [sameB_self] at hsm
      unfold evV at hsm
      clear HB hI6 hu6
      go_wp2_with (go_at_call 23; refine hsm.mono ?_; rintro e w7 ⟨rfl, H7⟩; have HB := Lib.hid H7.below; rw [hb1] at HB; clear hsm H6 m0 m1 m2 m3 m4 m5 n0 n1 n2 n3 n4 n5)
      go_ret
      exact ⟨rfl, HB.out⟩
    · go_wp2
      go_ret
      exact ⟨rfl, HB.out⟩
end Go.Proofs.YtdekbbffoaphhaaDoor

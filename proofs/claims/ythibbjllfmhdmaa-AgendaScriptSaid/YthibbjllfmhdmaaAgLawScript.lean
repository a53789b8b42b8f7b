/- The law AgendaScript. -/
import Derived.Test.YthibbjllfmhdmaaAgDuo2
import Derived.Test.YthibbjllfmhdmaaAgShown
import Derived.Deep.DeepCutAuto
set_option linter.unusedVariables false
set_option linter.unusedSimpArgs false
namespace Go.Proofs.Ythibbjllfmhdmaa
open Go.RowKit Go.Proofs.HL AgInt
open Ref (Th ltT cut)

theorem sliceA : SliceOf Try.prog 40 24 1 8 :=
  sliceOf (z := .pointer none) Try.underlying40 (by kernel_rfl) rfl (by decide)
theorem sliceB : SliceOf Try.prog 43 41 1 8 :=
  sliceOf (z := .pointer none) Try.underlying43 (by kernel_rfl) rfl (by decide)
def rowA (base : Nat) (v : Value) (Qs : List Duo) : At := row base 24 1 v Qs.length (Qs.map Duo.ptrA)
def rowB (base : Nat) (v : Value) (Qs : List Duo) : At := row base 41 1 v Qs.length (Qs.map Duo.ptrB)
/-- The agendas stand as they may. -/
structure Fine (Qs : List Duo) (n : Nat) : Prop where
  rel : ∀ d ∈ Qs, Rel d.M d.l
  len : ∀ d ∈ Qs, d.l.length ≤ n
  some : 1 ≤ Qs.length
  few : Qs.length ≤ 6
theorem Fine.mono {Qs : List Duo} {n m : Nat} (h : Fine Qs n) (hm : n ≤ m) : Fine Qs m := ⟨h.rel, fun d hd => Nat.le_trans (h.len d hd) hm, h.some, h.few⟩
theorem Fine.more {Qs : List Duo} {n : Nat} (h : Fine Qs n) {d : Duo} (hr : Rel d.M d.l) (hl : d.l.length ≤ n) (h6 : Qs.length < 6) : Fine (Qs ++ [d]) n := by
  refine ⟨fun x hx => ?_, fun x hx => ?_, by simp, by simp; omega⟩
  · rcases List.mem_append.1 hx with hx | hx
    · exact h.rel x hx
    · obtain rfl := List.mem_singleton.1 hx; exact hr
  · rcases List.mem_append.1 hx with hx | hx
    · exact h.len x hx
    · obtain rfl := List.mem_singleton.1 hx; exact hl
theorem Fine.set {Qs : List Duo} {n j : Nat} (h : Fine Qs n) {d : Duo} (hr : Rel d.M d.l) (hl : d.l.length ≤ n) : Fine (Qs.set j d) n := by
  refine ⟨fun x hx => ?_, fun x hx => ?_, by simpa using h.some, by simpa using h.few⟩
  · rcases List.mem_or_eq_of_mem_set hx with hx | rfl
    · exact h.rel x hx
    · exact hr
  · rcases List.mem_or_eq_of_mem_set hx with hx | rfl
    · exact h.len x hx
    · exact hl
/-- The lists of pointers, where they lie. -/
theorem row_at {w0 w : World} {L : List At} {E : TypeId} {A : Option Addr} {n c j : Nat} {xs : List Value} {u : Value} (H : HL w0 w L) (hm : row w0.heap.size E 1 (.slice A n c) n xs ∈ L) (hu : xs[j]? = some u) :
    ∃ g, A = some ⟨g, 0, none⟩ ∧ w.cell? ⟨g, j, none⟩ = some u := by
  have ho : w.ownsRow w0.heap.size E 1 (.slice A n c) n xs := H.get hm
  obtain ⟨A', c', h1, h2, -, -⟩ := row_shape ho
  simp only [Value.slice.injEq] at h1
  obtain ⟨rfl, -, rfl⟩ := h1
  have hlt := (List.getElem?_eq_some_iff.1 hu).1
  rw [ho.1] at hlt
  obtain ⟨g, rfl⟩ := h2.resolve_left (by omega)
  exact ⟨g, rfl, H.rowCell hm j u hu⟩
def boxX (B : Nat) (x : ActD) : At := blk B (.cells #[.int .i64 x.kind, .int .i64 x.which, .int .i64 x.id, .int .i64 x.at_, .int .i64 x.x] 45)
/-- What stands behind the clone. -/
def Mid (w wr : World) (k n j : Nat) (x : ActD) (s3 s4 s6 s7 : Value) (wc : World) : Prop :=
  ∃ (Q2 : List Duo) (d : Duo) (B : Nat), s7 = .int .i64 j ∧ s6 = .pointer (some ⟨B, 0, none⟩) ∧ Fine Q2 k ∧ Q2[j]? = some d ∧ HL w wc (boxX B x :: rowA w.heap.size s3 Q2 :: rowB w.heap.size s4 Q2 :: Q2.flatMap Duo.ats)

theorem rowA_more {base : Nat} {v : Value} {Qs : List Duo} {d : Duo} : row base 24 1 v (Qs.length + 1) (Qs.map Duo.ptrA ++ [d.ptrA]) = rowA base v (Qs ++ [d]) := by
  unfold rowA; simp
theorem rowB_more {base : Nat} {v : Value} {Qs : List Duo} {d : Duo} : row base 41 1 v (Qs.length + 1) (Qs.map Duo.ptrB ++ [d.ptrB]) = rowB base v (Qs ++ [d]) := by
  unfold rowB; simp
theorem rowA_set {base : Nat} {v : Value} {Qs : List Duo} {j : Nat} {d d' : Duo} (hd : Qs[j]? = some d) (he : d'.ptrA = d.ptrA) : rowA base v (Qs.set j d') = rowA base v Qs := by
  unfold rowA
  rw [List.length_set, List.map_set, he]
  congr 1
  apply List.ext_getElem?
  intro i
  rw [List.getElem?_set]
  split
  · rename_i h; subst h
    rw [List.getElem?_map, hd]
    have := (List.getElem?_eq_some_iff.1 hd).1
    simp [this]
  · rfl
theorem rowB_set {base : Nat} {v : Value} {Qs : List Duo} {j : Nat} {d d' : Duo} (hd : Qs[j]? = some d) (he : d'.ptrB = d.ptrB) : rowB base v (Qs.set j d') = rowB base v Qs := by
  unfold rowB
  rw [List.length_set, List.map_set, he]
  congr 1
  apply List.ext_getElem?
  intro i
  rw [List.getElem?_set]
  split
  · rename_i h; subst h
    rw [List.getElem?_map, hd]
    have := (List.getElem?_eq_some_iff.1 hd).1
    simp [this]
  · rfl

set_option maxRecDepth 100000 in
set_option maxHeartbeats 4000000 in
theorem script_law {w : World} {v : Value} {l : List ActD} (hl : Acts w v l) (hb : l.length ≤ 3518437208784) :
    Calls Try.prog 5 #[v] w fun e w' => e = .returned (.bool true) ∧ Below w.heap.size w w' := by
  obtain ⟨va, ca, rfl⟩ : ∃ a c, v = .slice a l.length c := by obtain ⟨-, -, a, c, h, -⟩ := id hl; exact ⟨a, c, h⟩
  go_enter Try.func5, Try.ntmps5
  go_wp2_with (first
    | (go_at_call 8; refine (shown_ok (HL.start w)).mono ?_; rintro e w1 ⟨rfl, H1⟩)
    | (go_at_call 15; refine (new_ok H1).mono ?_; rintro e w2 ⟨ap, ma, rfl, H2⟩; clear H1; have H3 := (H2.alloc (.cells #[.pointer (some ⟨ap, 0, none⟩)] 24)).rowOf (k := 1) (n := 1) (cs := [.pointer (some ⟨ap, 0, none⟩)]) rfl (by decide); clear H2)
    | (go_at_call 18; refine (Ref.new_ok H3).mono ?_; rintro e w4 ⟨p, rfl, H4⟩; clear H3; have H5 := (H4.alloc (.cells #[.pointer (some ⟨p, 0, none⟩)] 41)).rowOf (k := 1) (n := 1) (cs := [.pointer (some ⟨p, 0, none⟩)]) rfl (by decide); clear H4; go_frame))
  have H6 : HL w _ (rowA w.heap.size (.slice (some ⟨w2.heap.size, 0, none⟩) 1 1) [⟨ap, ma, p, .slice none 0 0, [], []⟩] :: rowB w.heap.size (.slice (some ⟨w4.heap.size, 0, none⟩) 1 1) [⟨ap, ma, p, .slice none 0 0, [], []⟩] :: ([⟨ap, ma, p, .slice none 0 0, [], []⟩] : List Duo).flatMap Duo.ats) := H5.sel 6 [3, 0, 4, 5, 1, 2]
  have F0 : Fine [⟨ap, ma, p, .slice none 0 0, [], []⟩] 0 := ⟨fun d hd => by simp at hd; subst hd; exact Rel.nil, fun d hd => by simp at hd; subst hd; simp, by simp, by simp⟩
  clear H5
  go_loopg [3, 4, 17] l.length (fun g ta tb i wr => ∃ (k : Nat) (Qs : List Duo), i = .int .i64 k ∧ k + g = l.length ∧ Fine Qs k ∧ HL w wr (rowA w.heap.size ta Qs :: rowB w.heap.size tb Qs :: Qs.flatMap Duo.ats))
  case atStart => exact ⟨0, _, rfl, by omega, F0, H6⟩
  case round =>
    obtain ⟨k, Qs, rfl, hk, F, HK⟩ := hrel
    clear H6 F0
    obtain ⟨A3, c3, rfl, -, -, -⟩ := row_shape (show wr.ownsRow w.heap.size _ 1 u3 Qs.length (Qs.map Duo.ptrA) from HK.head)
    obtain ⟨A4, c4, rfl, -, -, -⟩ := row_shape (show wr.ownsRow w.heap.size _ 1 u4 Qs.length (Qs.map Duo.ptrB) from HK.tail.head)
    have hs := F.some; have h6 := F.few
    by_cases hlt : k < l.length
    · obtain ⟨x, hx⟩ : ∃ x, l[k]? = some x := ⟨_, List.getElem?_eq_getElem hlt⟩
      obtain ⟨b, o, c', hv, d0, d1, d2, d3, d4⟩ := acts_at HK hl k x hx
      simp only [Value.slice.injEq] at hv
      obtain ⟨rfl, -, rfl⟩ := hv
      have hj := among_lt x.which Qs.length (by omega) (by omega)
      obtain ⟨j, hj1⟩ := Int.eq_ofNat_of_zero_le hj.1
      have hj2 : j < Qs.length := by omega
      obtain ⟨d, hd⟩ : ∃ d, Qs[j]? = some d := ⟨_, List.getElem?_eq_getElem hj2⟩
      have ha1 : ∀ w, Calls Try.prog 19 #[.int .i64 x.which, .int .i64 Qs.length] w fun e w' => e = .returned (.int .i64 j) ∧ w = w' := fun w => by have := among_ok x.which Qs.length w; rwa [hj1] at this
      obtain ⟨K, hK⟩ : ∃ K, amongI x.kind 6 = K := ⟨_, rfl⟩
      have ha2 : ∀ w, Calls Try.prog 19 #[.int .i64 x.kind, .int .i64 6] w fun e w' => e = .returned (.int .i64 K) ∧ w = w' := fun w => by have := among_ok x.kind 6 w; rwa [hK] at this
      have Hd := Lib.hid hd; have HF := Lib.hid F
      have Hj := Lib.hid hj2
      have hp := F.rel d (List.mem_of_getElem? hd)
      have hq := F.len d (List.mem_of_getElem? hd)
      clear hx hj hj1 hd F hj2
      obtain ⟨cb, hcb⟩ : ∃ cb : Bool, cb = (decide (K = 4) && decide (Qs.length < 6)) := ⟨_, rfl⟩
      have Hcb := Lib.hid hcb
      clear hcb
      go_upto_region 9 with (go_at_call 19; refine (ha1 _).mono ?_; rintro e w1 ⟨rfl, rfl⟩)
      go_cut [34] (fun s34 wc => s34 = .bool cb ∧ wc = wr.alloc (.cells #[.int .i64 x.kind, .int .i64 x.which, .int .i64 x.id, .int .i64 x.at_, .int .i64 x.x] 45))
      case first =>
        by_cases hK4 : K = 4
        · subst hK4
          by_cases h6' : Qs.length < 6
          · have hc : cb = true := by rw [Hcb.out]; simp [h6']
            subst hc
            go_wp2_with (go_at_call 19; refine (ha2 _).mono ?_; rintro e w1 ⟨rfl, rfl⟩)
            go_meet
            exact ⟨by simp; omega, rfl⟩
          · have hc : cb = false := by rw [Hcb.out]; simp [h6']
            subst hc
            go_wp2_with (go_at_call 19; refine (ha2 _).mono ?_; rintro e w1 ⟨rfl, rfl⟩)
            go_meet
            exact ⟨by simp; omega, rfl⟩
        · have hk2 : (K == 4) = false := by simp [hK4]
          have hc : cb = false := by rw [Hcb.out]; simp [hK4]
          subst hc
          go_wp2_with (go_at_call 19; refine (ha2 _).mono ?_; rintro e w1 ⟨rfl, rfl⟩)
          go_meet
          exact ⟨rfl, rfl⟩
      case rest =>
        obtain ⟨rfl, rfl⟩ := hcut
        clear ha1 ha2 d0 d1 d2 d3 d4 hK
        have HB : HL w _ (boxX wr.heap.size x :: rowA w.heap.size (.slice A3 Qs.length c3) Qs :: rowB w.heap.size (.slice A4 Qs.length c4) Qs :: Qs.flatMap Duo.ats) := HK.alloc _
        clear HK
        generalize hB : wr.heap.size = B at *
        generalize wr.alloc _ = W at *
        clear hB
        go_upto_if 34 with (fail)
        go_cut [3, 4] (fun s3 s4 wc => ∃ (Q2 : List Duo) (d2 : Duo), Fine Q2 k ∧ Q2[j]? = some d2 ∧ HL w wc (boxX B x :: rowA w.heap.size s3 Q2 :: rowB w.heap.size s4 Q2 :: Q2.flatMap Duo.ats))
        case first =>
          cases cb with
          | false =>
            go_wp2
            go_meet
            exact ⟨Qs, d, HF.out, Hd.out, HB⟩
          | true =>
            have h6' : Qs.length < 6 := by have := Hcb.out; simp at this; exact this.2
            obtain ⟨g3, rfl, c3'⟩ := row_at (E := 24) (j := j) (xs := Qs.map Duo.ptrA) HB (List.mem_cons_of_mem _ (List.mem_cons_self ..)) (u := d.ptrA) (by rw [List.getElem?_map, Hd.out]; rfl)
            obtain ⟨g4, rfl, -⟩ := row_at (E := 41) (j := j) (xs := Qs.map Duo.ptrB) HB (List.mem_cons_of_mem _ (List.mem_cons_of_mem _ (List.mem_cons_self ..))) (u := d.ptrB) (by rw [List.getElem?_map, Hd.out]; rfl)
            have HT := take_duo (X := [boxX B x, rowA w.heap.size (.slice (some ⟨g3, 0, none⟩) Qs.length c3) Qs, rowB w.heap.size (.slice (some ⟨g4, 0, none⟩) Qs.length c4) Qs]) HB Hd.out
            have hjl := Hj.out
            clear HB
            unfold Duo.ptrA at c3'
            replace HT : HL w W (blk d.ap (obj d.ma) :: mp d.ma (kv enc d.M) :: blk d.p (Ref.ob d.v) :: Ref.vw d.v d.l :: boxX B x :: rowA w.heap.size (.slice (some ⟨g3, 0, none⟩) Qs.length c3) Qs :: rowB w.heap.size (.slice (some ⟨g4, 0, none⟩) Qs.length c4) Qs :: (Qs.eraseIdx j).flatMap Duo.ats) := HT
            go_wp2_with (first
              | (go_at_call 20; refine (clone_ok HT).mono ?_; rintro e W2 ⟨cp, mc, M', rfl, hM', H2⟩; clear HT c3'; have H3 := (H2.alloc' (.cells #[.pointer (some ⟨cp, 0, none⟩)] 24)).sel 9 [7, 0, 1, 2, 3, 4, 5, 6, 8]; clear H2)
              | (at_builtin; refine wpList_append_hl sliceA rfl _ _ rfl (v := .slice (some ⟨g3, 0, none⟩) Qs.length c3) (xv := .slice (some ⟨W2.heap.size, 0, none⟩) 1 1) (n := Qs.length) (m := 1) (xs := Qs.map Duo.ptrA) (news := [.pointer (some ⟨cp, 0, none⟩)]) H3 rfl rfl (rd_one rfl) (by simp [Value.oneCell']) (by unfold maxLen; omega) (by omega) ?_; intro v3 W3 H5 _; clear H3;
                  have c4' : W3.cell? ⟨g4, j, none⟩ = some (.pointer (some ⟨d.p, 0, none⟩)) := (H5.sel 9 [8]).rowCell (E := 41) (xs := Qs.map Duo.ptrB) (List.mem_cons_self ..) j _ (by rw [List.getElem?_map, Hd.out]; rfl); have H6 := H5.sel 9 [5, 6, 0, 1, 2, 3, 4, 7, 8]; clear H5)
              | (go_at_call 21; refine (Ref.clone_ok (l := d.l) (v := d.v) H6 (by omega)).mono ?_; rintro e W4 ⟨q, u, rfl, H7⟩; clear H6 c4'; have H8 := (H7.alloc' (.cells #[.pointer (some ⟨q, 0, none⟩)] 41)).sel 11 [10, 0, 1, 2, 3, 4, 5, 6, 7, 8, 9]; clear H7)
              | (at_builtin; refine wpList_append_hl sliceB rfl _ _ rfl (v := .slice (some ⟨g4, 0, none⟩) Qs.length c4) (xv := .slice (some ⟨W4.heap.size, 0, none⟩) 1 1) (n := Qs.length) (m := 1) (xs := Qs.map Duo.ptrB) (news := [.pointer (some ⟨q, 0, none⟩)]) H8 rfl rfl (rd_one rfl) (by simp [Value.oneCell']) (by unfold maxLen; omega) (by omega) ?_; intro v4 W5 H9 _; clear H8))
            go_meet
            have H10 := H9.sel 11 [6, 7, 1, 2, 10, 5, 0, 8, 9, 3, 4]
            refine ⟨Qs ++ [⟨cp, mc, q, u, M', d.l⟩], d, HF.out.more (hp.clone hM') hq h6', by rw [List.getElem?_append_left hjl]; exact Hd.out, ?_⟩
            rw [← rowA_more, ← rowB_more]
            exact more_duo (X := [_, _, _]) (d' := ⟨cp, mc, q, u, M', d.l⟩) (H10.perm (((duo_take Qs j d Hd.out).symm.append_left [_, _, _]).append_left [_, _, _, _]))
        case rest =>
          obtain ⟨Q2, d2, F2, hd2, H2⟩ := hcut
          have hr2 := F2.rel d2 (List.mem_of_getElem? hd2)
          have hl2 := F2.len d2 (List.mem_of_getElem? hd2)
          have hj2 : j < Q2.length := (List.getElem?_eq_some_iff.1 hd2).1
          obtain ⟨A3', q3, rfl, -, -, -⟩ := row_shape (show wc.ownsRow w.heap.size _ 1 u3 Q2.length (Q2.map Duo.ptrA) from H2.tail.head)
          obtain ⟨A4', q4, rfl, -, -, -⟩ := row_shape (show wc.ownsRow w.heap.size _ 1 u4 Q2.length (Q2.map Duo.ptrB) from H2.tail.tail.head)
          obtain ⟨g3, rfl, c3'⟩ := row_at (E := 24) (j := j) (xs := Q2.map Duo.ptrA) H2 (List.mem_cons_of_mem _ (List.mem_cons_self ..)) (u := .pointer (some ⟨d2.ap, 0, none⟩)) (by rw [List.getElem?_map, hd2]; rfl)
          obtain ⟨g4, rfl, c4'⟩ := row_at (E := 41) (j := j) (xs := Q2.map Duo.ptrB) H2 (List.mem_cons_of_mem _ (List.mem_cons_of_mem _ (List.mem_cons_self ..))) (u := .pointer (some ⟨d2.p, 0, none⟩)) (by rw [List.getElem?_map, hd2]; rfl)
          have e0 : wc.cell? ⟨B, 0, none⟩ = some (.int .i64 x.kind) := by unfold boxX at H2; rw [H2.cell 0]; rfl
          have e1 : wc.cell? ⟨B, 1, none⟩ = some (.int .i64 x.which) := by unfold boxX at H2; rw [H2.cell 1]; rfl
          have e2 : wc.cell? ⟨B, 2, none⟩ = some (.int .i64 x.id) := by unfold boxX at H2; rw [H2.cell 2]; rfl
          have e3 : wc.cell? ⟨B, 3, none⟩ = some (.int .i64 x.at_) := by unfold boxX at H2; rw [H2.cell 3]; rfl
          have e4 : wc.cell? ⟨B, 4, none⟩ = some (.int .i64 x.x) := by unfold boxX at H2; rw [H2.cell 4]; rfl
          have HF2 := Lib.hid F2; have Hd2 := Lib.hid hd2
          have HT := take_duo (X := [boxX B x, rowA w.heap.size (.slice (some ⟨g3, 0, none⟩) Q2.length q3) Q2, rowB w.heap.size (.slice (some ⟨g4, 0, none⟩) Q2.length q4) Q2]) H2 hd2
          clear F2 hd2 HB H2
          go_wp2
          refine wp_region_plan [(15, 4), (8, 3)] (by kernel_rfl) (by kernel_rfl) ⟨fun w' => ∃ k, w' = wc.drewN k, ⟨1, rfl⟩, ?_⟩
          simp only [List.take_succ_cons, List.take_zero, List.drop_succ_cons, List.drop_zero]
          repeat (go_big_quiet_step ((fail)))
          refine wpQuiet_nil ?_
          rintro _ ⟨nq, rfl⟩
          have HT1 := HT.drewN nq
          clear HT c3' c4' e0 e1 e2 e3 e4
          go_wp2_with (go_at_call 22; refine (act_ok (ap := d2.ap) (ma := d2.ma) (p := d2.p) (v := d2.v) HT1 hr2 (by omega) x).mono ?_; rintro e W6 ⟨rfl, u', M', l', hR', hl', H6⟩)
          have c3' : W6.cell? ⟨g3, j, none⟩ = some (.pointer (some ⟨d2.ap, 0, none⟩)) := (H6.sel 7 [5]).rowCell (E := 24) (xs := Q2.map Duo.ptrA) (List.mem_cons_self ..) j _ (by rw [List.getElem?_map, Hd2.out]; rfl)
          have c4' : W6.cell? ⟨g4, j, none⟩ = some (.pointer (some ⟨d2.p, 0, none⟩)) := (H6.sel 7 [6]).rowCell (E := 41) (xs := Q2.map Duo.ptrB) (List.mem_cons_self ..) j _ (by rw [List.getElem?_map, Hd2.out]; rfl)
          clear HT1
          refine ⟨fun w' => ∃ k, w' = W6.drewN k, ⟨0, rfl⟩, ?_⟩
          simp only [List.take_succ_cons, List.take_zero, List.drop_succ_cons, List.drop_zero]
          repeat (go_big_quiet_step ((fail)))
          refine wpQuiet_nil ?_
          rintro _ ⟨nq2, rfl⟩
          have HT2 := H6.drewN nq2
          clear H6 c3' c4'
          go_wp2_with (go_at_call 23; refine (same_ok (ap := d2.ap) (ma := d2.ma) (p := d2.p) HT2 hR' (by omega)).mono ?_; rintro e W7 ⟨rfl, H7⟩)
          clear HT2
          have H8 := put_duo (d' := ⟨d2.ap, d2.ma, d2.p, u', M', l'⟩) (X := [_, _, _]) H7 Hd2.out
          have H9 := H8.tail
          rw [← rowA_set (d' := ⟨d2.ap, d2.ma, d2.p, u', M', l'⟩) Hd2.out rfl, ← rowB_set (d' := ⟨d2.ap, d2.ma, d2.p, u', M', l'⟩) Hd2.out rfl] at H9
          have F3 := (HF2.out.mono (Nat.le_succ k)).set (j := j) (d := ⟨d2.ap, d2.ma, d2.p, u', M', l'⟩) hR' (by simp only; omega)
          have HF3 := Lib.hid F3
          clear H7 H8 F3
          unfold wpPlan
          go_wp2
          go_roundg (gk - 1)
          case measure => omega
          case rel => exact ⟨k + 1, _, by go_num, by omega, HF3.out, H9⟩
    · have HF := Lib.hid F
      clear F
      go_wp2
      go_loopg [84] Qs.length (fun g i wq => ∃ k2 : Nat, i = .int .i64 k2 ∧ k2 + g = Qs.length ∧ HL w wq (rowA w.heap.size (.slice A3 Qs.length c3) Qs :: rowB w.heap.size (.slice A4 Qs.length c4) Qs :: Qs.flatMap Duo.ats))
      case atStart => exact ⟨0, rfl, by omega, HK⟩
      case round =>
        obtain ⟨k2, rfl, hk2, HQ⟩ := hrel
        clear HK
        by_cases hlt2 : k2 < Qs.length
        · obtain ⟨d2, hd2⟩ : ∃ d, Qs[k2]? = some d := ⟨_, List.getElem?_eq_getElem hlt2⟩
          have hr2 := HF.out.rel d2 (List.mem_of_getElem? hd2)
          have hl2 := HF.out.len d2 (List.mem_of_getElem? hd2)
          obtain ⟨g3, rfl, c3'⟩ := row_at (E := 24) (j := k2) (xs := Qs.map Duo.ptrA) HQ (List.mem_cons_self ..) (u := .pointer (some ⟨d2.ap, 0, none⟩)) (by rw [List.getElem?_map, hd2]; rfl)
          obtain ⟨g4, rfl, c4'⟩ := row_at (E := 41) (j := k2) (xs := Qs.map Duo.ptrB) HQ (List.mem_cons_of_mem _ (List.mem_cons_self ..)) (u := .pointer (some ⟨d2.p, 0, none⟩)) (by rw [List.getElem?_map, hd2]; rfl)
          have Hd2 := Lib.hid hd2
          have HT := take_duo (X := [_, _]) HQ hd2
          clear HQ hd2
          go_wp2
          refine wp_region_cut 14 (by kernel_rfl) (by kernel_rfl) ?_
          simp only [List.take_succ_cons, List.take_zero, List.drop_succ_cons, List.drop_zero]
          repeat (go_big_quiet_step ((fail)))
          refine wpQuiet_nil ?_
          intro nq
          have HT1 := HT.drewN nq
          clear HT c3' c4'
          go_wp2_with (go_at_call 23; refine (same_ok (ap := d2.ap) (ma := d2.ma) (p := d2.p) (v := d2.v) HT1 hr2 (by omega)).mono ?_; rintro e W7 ⟨rfl, H7⟩; clear HT1)
          have H8 := back_duo (d := d2) (X := [_, _]) H7 Hd2.out
          go_roundg (gk - 1)
          case measure => omega
          case rel => exact ⟨k2 + 1, by go_num, by omega, H8⟩
        · go_wp2
          go_ret
          exact ⟨rfl, HQ.below⟩
end Go.Proofs.Ythibbjllfmhdmaa

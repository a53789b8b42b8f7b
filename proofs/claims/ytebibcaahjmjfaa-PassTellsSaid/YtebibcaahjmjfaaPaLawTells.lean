/- The law PassTells. -/
import Derived.Test.YtebibcaahjmjfaaPaAsked
import Derived.Test.YtebibcaahjmjfaaPaRefU
import Derived.Test.YtebibcaahjmjfaaPaWholeQ
import Derived.Test.YtebibcaahjmjfaaPaOpen
import Derived.Deep.RegionHeld
set_option linter.unusedVariables false
set_option linter.unusedSimpArgs false
namespace Go.Proofs.Ytebibcaahjmjfaa
open Go.RowKit Go.Proofs.HL Go.Proofs.HL.Pr Go.Proofs.HL.Pa

section
variable {w0 w : World} {L : List At} {v u : Value} {ws : List Wn} {l : List Rn}
set_option maxRecDepth 100000 in
set_option maxHeartbeats 4000000 in
theorem Ref.pass_no (H : HL w0 w L) (hW : Wants w0 L v ws) (hr : Runs w0 L u l) (hl : l.length ≤ 8796093021952) (now free holder : Int) (hm : mayB now free ws holder l = false) :
    Calls Try.prog 25 #[.int .i64 now, .int .i64 free, v, .int .i64 holder, u] w fun e w' => e = .returned (.tuple #[.agg #[.slice none 0 0, .int .i64 0, .int .i64 0, .int .i64 0], .int .i64 150]) ∧ HL w0 w' L := by
  have H1 := HL.allocP H (.slice none 0 0) 0 0 0
  have hck := Ref.check_ok H1 (hW.cons _) (hr.cons _) (by omega) now free holder
  rw [hm] at hck
  simp only [ckN] at hck
  generalize hb10 : w.heap.size = b10 at *
  go_enter Try.func25, Try.ntmps25
  go_wp2_with (go_at_call 31; refine hck.mono ?_; rintro e w1 ⟨rfl, H2⟩; clear hck H1; obtain ⟨q0, q1, q2, q3⟩ := boxP_cells H2; obtain ⟨y0, y1, y2, y3⟩ := boxP_frozen H2)
  have HG := boxP_set (u' := .slice none 0 0) (h' := 0) (s' := 0) (e' := 0) H2
  clear y0 y1 y2 y3 q0 q1 q2 q3 H2
  generalize World.setCell _ _ _ = W9 at *
  obtain ⟨c0, c1, c2, c3⟩ := boxP_cells HG
  (try simp only [Exit.inBlock, Exit.then]); refine bodyPost_ret (by simp [results, Try.results25, go_sem, c0, c1, c2, c3]; try rfl) rfl ?_
  exact ⟨rfl, HG.tail⟩
end
theorem passIs_det {now free holder : Int} {ws : List Wn} {l : List Rn} {er h s e er' h' s' e' : Int} {S S' : List Int} (h1 : PassIs now free ws holder l er h s e S) (h2 : PassIs now free ws holder l er' h' s' e' S') :
    er = er' ∧ h = h' ∧ s = s' ∧ e = e' ∧ S = S' := by
  rcases h1 with ⟨m1, rfl, rfl, rfl, rfl, rfl⟩ | ⟨m1, rfl, rfl, rfl, rfl, rfl⟩ <;> rcases h2 with ⟨m2, rfl, rfl, rfl, rfl, rfl⟩ | ⟨m2, rfl, rfl, rfl, rfl, rfl⟩
  · exact ⟨rfl, rfl, rfl, rfl, rfl⟩
  · rw [m1] at m2; cases m2
  · rw [m1] at m2; cases m2
  · exact ⟨rfl, rfl, rfl, rfl, rfl⟩
theorem passIs_few {now free holder : Int} {ws : List Wn} {l : List Rn} {er h s e : Int} {S : List Int} (h1 : PassIs now free ws holder l er h s e S) : S.length ≤ 256 := by
  rcases h1 with ⟨m1, rfl, rfl, rfl, rfl, rfl⟩ | ⟨m1, rfl, rfl, rfl, rfl, rfl⟩
  · obtain ⟨T, told, -⟩ := whole m1
    rw [told.tstarts, List.length_map]
    exact told.few m1
  · simp
section
variable {w0 w : World} {L : List At} {v u : Value} {ws : List Wn} {l : List Rn}
/-- Both answers of the reference's pass in one. -/
theorem Ref.pass_any (H : HL w0 w L) (hW : Wants w0 L v ws) (hr : Runs w0 L u l) (hwl : ws.length ≤ 5864062014634) (hl : l.length ≤ 8796093021952) (now free holder : Int) :
    Calls Try.prog 25 #[.int .i64 now, .int .i64 free, v, .int .i64 holder, u] w fun e w' => ∃ pv er, e = .returned (.tuple #[pv, .int .i64 er]) ∧ PassPost w0 now free ws holder l L pv er w' := by
  cases hm : mayB now free ws holder l with
  | true =>
    refine (Ref.pass_ok H hW hr (by omega) hl now free holder hm).mono ?_
    rintro e w' ⟨u', rfl, H'⟩
    exact ⟨_, _, rfl, u', _, _, _, _, rfl, H', .inl ⟨hm, rfl, rfl, rfl, rfl, rfl⟩⟩
  | false =>
    refine (Ref.pass_no H hW hr hl now free holder hm).mono ?_
    rintro e w' ⟨rfl, H'⟩
    exact ⟨_, _, rfl, .slice none 0 0, 0, 0, 0, [], rfl, H'.nilRow _ _ _, .inr ⟨hm, rfl, rfl, rfl, rfl, rfl⟩⟩
theorem sliceOuts : SliceOf Try.prog 48 36 1 24 := sliceOf (z := .slice none 0 0) Try.underlying48 (by kernel_rfl) rfl (by decide)
def rowO (base : Nat) (u : Value) (Q : List (Value × List Int)) : At := row base 36 1 u Q.length (Q.map Prod.fst)
def atsI (base : Nat) (Q : List (Value × List Int)) : List At := Q.map fun q => intsR base q.1 q.2
theorem outs_more2 {u5 u6 v5 v6 : Value} {Q R : List (Value × List Int)} {T1 T2 : List Int} {a b : At} (H : HL w0 w (row w0.heap.size 36 1 u6 (R.length + 1) (R.map Prod.fst ++ [v6]) :: row w0.heap.size 36 1 u5 (Q.length + 1) (Q.map Prod.fst ++ [v5]) :: intsR w0.heap.size v5 T1 :: intsR w0.heap.size v6 T2 :: a :: b :: (atsI w0.heap.size Q ++ atsI w0.heap.size R))) :
    HL w0 w (a :: b :: rowO w0.heap.size u5 (Q ++ [(v5, T1)]) :: rowO w0.heap.size u6 (R ++ [(v6, T2)]) :: (atsI w0.heap.size (Q ++ [(v5, T1)]) ++ atsI w0.heap.size (R ++ [(v6, T2)]))) := by
  have H2 := H.sel 6 [4, 5, 1, 0, 2, 3]
  unfold rowO
  rw [List.length_append, List.length_append, List.map_append, List.map_append]
  refine H2.perm (List.Perm.cons _ (List.Perm.cons _ (List.Perm.cons _ (List.Perm.cons _ ?_))))
  unfold atsI
  rw [List.map_append, List.map_append, List.append_assoc]
  show List.Perm (intsR w0.heap.size v5 T1 :: intsR w0.heap.size v6 T2 :: (Q.map _ ++ R.map _)) (Q.map _ ++ (intsR w0.heap.size v5 T1 :: (R.map _ ++ [intsR w0.heap.size v6 T2])))
  refine List.Perm.trans (List.Perm.cons _ ?_) List.perm_middle.symm
  rw [← List.append_assoc]
  exact (List.perm_append_singleton _ _).symm
theorem ats_take {base : Nat} : ∀ (Q : List (Value × List Int)) (k : Nat) (q : Value × List Int), Q[k]? = some q → (atsI base Q).Perm (intsR base q.1 q.2 :: atsI base (Q.eraseIdx k))
  | [], k, q, h => by simp at h
  | x :: Q, 0, q, h => by
    simp only [List.getElem?_cons_zero, Option.some.injEq] at h
    subst h
    exact List.Perm.refl _
  | x :: Q, k + 1, q, h => by
    simp only [List.getElem?_cons_succ] at h
    exact ((ats_take Q k q h).cons _).trans (List.Perm.swap ..)
theorem ats_set {base : Nat} (Q : List (Value × List Int)) (k : Nat) (q q' : Value × List Int) (h : Q[k]? = some q) : (atsI base (Q.set k q')).Perm (intsR base q'.1 q'.2 :: atsI base (Q.eraseIdx k)) := by
  have hk := (List.getElem?_eq_some_iff.1 h).1
  have := ats_take (base := base) (Q.set k q') k q' (by rw [List.getElem?_set_self hk])
  rwa [List.eraseIdx_set_eq] at this
theorem ats_take2 {base : Nat} {Q R : List (Value × List Int)} {k : Nat} {q r : Value × List Int} (hq : Q[k]? = some q) (hr : R[k]? = some r) : (atsI base Q ++ atsI base R).Perm (intsR base q.1 q.2 :: intsR base r.1 r.2 :: (atsI base (Q.eraseIdx k) ++ atsI base (R.eraseIdx k))) :=
  ((ats_take Q k q hq).append (ats_take R k r hr)).trans (List.Perm.cons _ List.perm_middle)
theorem set_same {α : Type} {l : List α} {k : Nat} {a : α} (h : l[k]? = some a) : l.set k a = l := by
  obtain ⟨h1, h2⟩ := List.getElem?_eq_some_iff.1 h
  have h3 := List.set_getElem_self h1
  rwa [h2] at h3
end

set_option maxRecDepth 100000 in
set_option maxHeartbeats 16000000 in
theorem tells15_law {w : World} {a b : AskD} (hv1 : Rd 3 a.vw a.ws.length (a.ws.flatMap encW) w) (hr1 : Rd 2 a.vr a.l.length (a.l.flatMap encR) w) (hv2 : Rd 3 b.vw b.ws.length (b.ws.flatMap encW) w) (hr2 : Rd 2 b.vr b.l.length (b.l.flatMap encR) w)
    (hws1 : a.ws.length * 24 ≤ 140737488351232) (hl1 : a.l.length * 16 ≤ 140737488351232) (hws2 : b.ws.length * 24 ≤ 140737488351232) (hl2 : b.l.length * 16 ≤ 140737488351232) :
    Calls Try.prog 7 #[a.v, b.v] w fun e w' => e = .returned (.bool true) ∧ Below w.heap.size w w' := by
  obtain ⟨now1, free1, vw1, holder1, vr1, ws1, l1⟩ := a
  obtain ⟨now2, free2, vw2, holder2, vr2, ws2, l2⟩ := b
  dsimp only [AskD.v] at *
  have hW1 : ∀ L, Wants w L vw1 ws1 := fun L W H => rd_old H hv1
  have hR1 : ∀ L, Runs w L vr1 l1 := fun L W H => rd_old H hr1
  have hW2 : ∀ L, Wants w L vw2 ws2 := fun L W H => rd_old H hv2
  have hR2 : ∀ L, Runs w L vr2 l2 := fun L W H => rd_old H hr2
  have hwl1 : ws1.length ≤ 5864062014634 := by omega
  have hwl2 : ws2.length ≤ 5864062014634 := by omega
  replace hl1 : l1.length ≤ 8796093021952 := by omega
  replace hl2 : l2.length ≤ 8796093021952 := by omega
  obtain ⟨A1, c1, rfl, h11, h12⟩ := rd_shape hv1
  obtain ⟨B1, d1, rfl, h13, h14⟩ := rd_shape hr1
  obtain ⟨A2, c2, rfl, h21, h22⟩ := rd_shape hv2
  obtain ⟨B2, d2, rfl, h23, h24⟩ := rd_shape hr2
  unfold maxLen at h12 h14 h22 h24
  clear hv1 hr1 hv2 hr2 hws1 hws2
  have H0 := ((HL.allocA (HL.allocA (HL.start w) now1 free1 (.slice A1 ws1.length c1) holder1 (.slice B1 l1.length d1)) now2 free2 (.slice A2 ws2.length c2) holder2 (.slice B2 l2.length d2))).swap
  rw [World.size_alloc] at H0
  go_enter Try.func7, Try.ntmps7
  go_wp2_with (go_at_call 23; refine (shown15_ok H0).mono ?_; rintro e w1 ⟨rfl, H⟩; clear H0; have H1 := ((H.alloc (.cells #[] 36)).rowOf (k := 1) (n := 0) (cs := []) rfl (by decide)); have H2 := ((H1.alloc (.cells #[] 36)).rowOf (k := 1) (n := 0) (cs := []) rfl (by decide)); rw [World.size_alloc] at H2; replace H2 := H2.sel 4 [2, 3, 1, 0]; clear H H1)
  go_loopg [7, 5, 6] 3 (fun g i u5 u6 wr => ∃ (k : Nat) (Q R : List (Value × List Int)), i = .int .i64 k ∧ k + g = 3 ∧ Q.length = k ∧ R.length = k ∧ Q.map Prod.snd = R.map Prod.snd ∧ (∀ q ∈ Q, q.2.length ≤ 256) ∧ HL w wr (boxA w.heap.size now1 free1 (.slice A1 ws1.length c1) holder1 (.slice B1 l1.length d1) :: boxA (w.heap.size + 1) now2 free2 (.slice A2 ws2.length c2) holder2 (.slice B2 l2.length d2) :: rowO w.heap.size u5 Q :: rowO w.heap.size u6 R :: (atsI w.heap.size Q ++ atsI w.heap.size R)))
  case atStart => exact ⟨0, [], [], rfl, rfl, rfl, rfl, rfl, (fun q h => by simp at h), H2⟩
  case round =>
   obtain ⟨k, Q, R, rfl, hk, hQl, hRl, hQR, hQ3, HK⟩ := hrel
   have HQR := Lib.hid hQR; have HQ3 := Lib.hid hQ3; have Hk := Lib.hid hQl; have HkR := Lib.hid hRl
   clear H2 hQR hQ3
   by_cases hlt : k < 3
   · obtain ⟨a0, a1, a2, a3, a4⟩ := boxA_cells HK
     have HN := HL.allocA HK now1 free1 (.slice A1 ws1.length c1) holder1 (.slice B1 l1.length d1)
     by_cases hk1 : k = 1
     · subst hk1
       clear HN
       obtain ⟨e0, e1, e2, e3, e4⟩ := boxA_cells ((HL.allocA HK now1 free1 (.slice A1 ws1.length c1) holder1 (.slice B1 l1.length d1)).sel 3 [2])
       have H1 := HL.allocA HK now2 free2 (.slice A2 ws2.length c2) holder2 (.slice B2 l2.length d2)
       obtain ⟨b0, b1, b2, b3, b4⟩ := boxA_cells H1
       clear HK
       go_wp2_with (first
         | (go_at_call 24; refine (asked_ok H1 (hW2 _) (hR2 _) hwl2 hl2).mono ?_; rintro e w2 ⟨pv, er, rfl, u, h, s, e, T, rfl, H2, hq⟩; clear H1 b0 b1 b2 b3 b4; obtain ⟨A7, C7, e7, -, -, -⟩ := row_shape (show w2.ownsRow w.heap.size 3 1 u _ _ from H2.head); generalize T.length = n7 at e7; subst e7; have H3 := HL.allocP H2 (.slice A7 n7 C7) h s e; obtain ⟨b0, b1, b2, b3, b4⟩ := boxA_cells (H3.sel 3 [2]); have HQ1 := Lib.hid hq; clear hq)
         | (go_at_call 25; refine (Ref.pass_any H3 (hW2 _) (hR2 _) hwl2 hl2 now2 free2 holder2).mono ?_; rintro e w4 ⟨pv, er', rfl, u, h', s', e', T', rfl, H4, hq⟩; obtain ⟨rfl, rfl, rfl, rfl, rfl⟩ := passIs_det HQ1.out hq; clear H3 b0 b1 b2 b3 b4 hq; obtain ⟨A8, C8, e8, -, -, -⟩ := row_shape (show w4.ownsRow w.heap.size 3 1 u _ _ from H4.head); generalize T.length = n8 at e8; subst e8; have H5 := HL.allocP H4 (.slice A8 n8 C8) h s e; have hsm := same15_ok (h1 := h) (s1 := s) (e1 := e) (h2 := h) (s2 := s) (e2 := e) H5 (show Ints w _ (.slice A7 n7 C7) T from fun W HH => entInts _ W (HH.sel 4 [3])) (show Ints w _ (.slice A8 n8 C8) T from fun W HH => entInts _ W (HH.sel 2 [1])); rw [decide_eq_true ⟨rfl, rfl, rfl, rfl⟩] at hsm; obtain ⟨p0, p1, p2, p3⟩ := boxP_cells H5; obtain ⟨q0, q1, q2, q3⟩ := boxP_cells (H5.sel 3 [2]))
         | (go_at_call 26; refine hsm.mono ?_; rintro e w6 ⟨rfl, H6⟩; clear hsm H5 p0 p1 p2 p3 q0 q1 q2 q3; obtain ⟨q0, -, -, -⟩ := boxP_cells (H6.sel 3 [2]); have H7 := (H6.alloc' (.cells #[.slice A7 n7 C7] 36)).sel 9 [7, 8, 3, 1, 0, 5, 6]; clear H6)
         | (at_builtin; first
             | (refine wpList_append_hl sliceOuts rfl _ _ rfl (v := u5) (xv := .slice (some ⟨w6.heap.size, 0, none⟩) 1 1) (n := Q.length) (m := 1) (xs := Q.map Prod.fst) (news := [.slice A7 n7 C7]) H7 rfl rfl (rd_one rfl) (by simp [Value.oneCell']) (by unfold maxLen; omega) (by omega) ?_; intro v13 w13 H13 _; clear H7 q0; obtain ⟨q0, -, -, -⟩ := boxP_cells (H13.sel 5 [4]); have H14 := (H13.alloc' (.cells #[.slice A8 n8 C8] 36)).sel 7 [1, 0, 2, 3, 5, 6]; clear H13)
             | (refine wpList_append_hl sliceOuts rfl _ _ rfl (v := u6) (xv := .slice (some ⟨w13.heap.size, 0, none⟩) 1 1) (n := R.length) (m := 1) (xs := R.map Prod.fst) (news := [.slice A8 n8 C8]) H14 rfl rfl (rd_one rfl) (by simp [Value.oneCell']) (by unfold maxLen; omega) (by omega) ?_; intro v15 w15 H15 _; clear H14 q0)))
       go_roundg (gk - 1)
       case measure => omega
       case rel =>
         refine ⟨1 + 1, Q ++ [(.slice A7 n7 C7, T)], R ++ [(.slice A8 n8 C8, T)], by go_num, by omega, by rw [List.length_append, Hk.out]; rfl, by rw [List.length_append, HkR.out]; rfl, by rw [List.map_append, List.map_append, HQR.out]; rfl, fun q hq => ?_, outs_more2 H15⟩
         rcases List.mem_append.1 hq with hq | hq
         · exact HQ3.out q hq
         · obtain rfl := List.mem_singleton.1 hq
           exact passIs_few HQ1.out
     · have hne : ((k : Int) == 1) = false := by simp; omega
       have H1 := HN
       obtain ⟨b0, b1, b2, b3, b4⟩ := boxA_cells H1
       clear HN HK
       go_wp2_with (first
         | (go_at_call 24; refine (asked_ok H1 (hW1 _) (hR1 _) hwl1 hl1).mono ?_; rintro e w2 ⟨pv, er, rfl, u, h, s, e, T, rfl, H2, hq⟩; clear H1 b0 b1 b2 b3 b4; obtain ⟨A7, C7, e7, -, -, -⟩ := row_shape (show w2.ownsRow w.heap.size 3 1 u _ _ from H2.head); generalize T.length = n7 at e7; subst e7; have H3 := HL.allocP H2 (.slice A7 n7 C7) h s e; obtain ⟨b0, b1, b2, b3, b4⟩ := boxA_cells (H3.sel 3 [2]); have HQ1 := Lib.hid hq; clear hq)
         | (go_at_call 25; refine (Ref.pass_any H3 (hW1 _) (hR1 _) hwl1 hl1 now1 free1 holder1).mono ?_; rintro e w4 ⟨pv, er', rfl, u, h', s', e', T', rfl, H4, hq⟩; obtain ⟨rfl, rfl, rfl, rfl, rfl⟩ := passIs_det HQ1.out hq; clear H3 b0 b1 b2 b3 b4 hq; obtain ⟨A8, C8, e8, -, -, -⟩ := row_shape (show w4.ownsRow w.heap.size 3 1 u _ _ from H4.head); generalize T.length = n8 at e8; subst e8; have H5 := HL.allocP H4 (.slice A8 n8 C8) h s e; have hsm := same15_ok (h1 := h) (s1 := s) (e1 := e) (h2 := h) (s2 := s) (e2 := e) H5 (show Ints w _ (.slice A7 n7 C7) T from fun W HH => entInts _ W (HH.sel 4 [3])) (show Ints w _ (.slice A8 n8 C8) T from fun W HH => entInts _ W (HH.sel 2 [1])); rw [decide_eq_true ⟨rfl, rfl, rfl, rfl⟩] at hsm; obtain ⟨p0, p1, p2, p3⟩ := boxP_cells H5; obtain ⟨q0, q1, q2, q3⟩ := boxP_cells (H5.sel 3 [2]))
         | (go_at_call 26; refine hsm.mono ?_; rintro e w6 ⟨rfl, H6⟩; clear hsm H5 p0 p1 p2 p3 q0 q1 q2 q3; obtain ⟨q0, -, -, -⟩ := boxP_cells (H6.sel 3 [2]); have H7 := (H6.alloc' (.cells #[.slice A7 n7 C7] 36)).sel 9 [7, 8, 3, 1, 0, 5, 6]; clear H6)
         | (at_builtin; first
             | (refine wpList_append_hl sliceOuts rfl _ _ rfl (v := u5) (xv := .slice (some ⟨w6.heap.size, 0, none⟩) 1 1) (n := Q.length) (m := 1) (xs := Q.map Prod.fst) (news := [.slice A7 n7 C7]) H7 rfl rfl (rd_one rfl) (by simp [Value.oneCell']) (by unfold maxLen; omega) (by omega) ?_; intro v13 w13 H13 _; clear H7 q0; obtain ⟨q0, -, -, -⟩ := boxP_cells (H13.sel 5 [4]); have H14 := (H13.alloc' (.cells #[.slice A8 n8 C8] 36)).sel 7 [1, 0, 2, 3, 5, 6]; clear H13)
             | (refine wpList_append_hl sliceOuts rfl _ _ rfl (v := u6) (xv := .slice (some ⟨w13.heap.size, 0, none⟩) 1 1) (n := R.length) (m := 1) (xs := R.map Prod.fst) (news := [.slice A8 n8 C8]) H14 rfl rfl (rd_one rfl) (by simp [Value.oneCell']) (by unfold maxLen; omega) (by omega) ?_; intro v15 w15 H15 _; clear H14 q0)))
       go_roundg (gk - 1)
       case measure => omega
       case rel =>
         refine ⟨k + 1, Q ++ [(.slice A7 n7 C7, T)], R ++ [(.slice A8 n8 C8, T)], by go_num, by omega, by rw [List.length_append, Hk.out]; rfl, by rw [List.length_append, HkR.out]; rfl, by rw [List.map_append, List.map_append, HQR.out]; rfl, fun q hq => ?_, outs_more2 H15⟩
         rcases List.mem_append.1 hq with hq | hq
         · exact HQ3.out q hq
         · obtain rfl := List.mem_singleton.1 hq
           exact passIs_few HQ1.out
   · clear hQl hRl
     have hk3 : k = 3 := by omega
     subst hk3
     have hQ4 : ∀ j q, 0 ≤ j → Q[j]? = some q → ∃ r, R[j]? = some r ∧ r.2 = q.2 ∧ q.2.length ≤ 256 := fun j q _ hq => by
       have e : (Q.map Prod.snd)[j]? = (R.map Prod.snd)[j]? := by rw [HQR.out]
       rw [List.getElem?_map, List.getElem?_map, hq] at e
       cases hr : R[j]? with
       | none => rw [hr] at e; cases e
       | some r => exact ⟨r, rfl, (Option.some.inj (by rw [hr] at e; exact e)).symm, HQ3.out q (List.mem_of_getElem? hq)⟩
     have HK3 : HL w wr (row w.heap.size 36 1 u5 3 (Q.map Prod.fst) :: row w.heap.size 36 1 u6 3 (R.map Prod.fst) :: (atsI w.heap.size Q ++ atsI w.heap.size R)) := by
       have := HK.sel 4 [2, 3]; unfold rowO at this; rw [Hk.out, HkR.out] at this; exact this
     have HQ4 := Lib.hid hQ4
     clear HK hQ4
     obtain ⟨G5, d5, rfl, hG5, hd1, hd2⟩ := row_shape (show wr.ownsRow w.heap.size 36 1 u5 3 (Q.map Prod.fst) from HK3.head)
     obtain ⟨G6, d6, rfl, hG6, hd3, hd4⟩ := row_shape (show wr.ownsRow w.heap.size 36 1 u6 3 (R.map Prod.fst) from HK3.tail.head)
     obtain ⟨g5, rfl⟩ := hG5.resolve_left (by omega)
     obtain ⟨g6, rfl⟩ := hG6.resolve_left (by omega)
     unfold maxLen at hd2 hd4
     go_wp2
     go_loopg [14] 3 (fun g i wr => ∃ (k : Nat) (Q2 : List (Value × List Int)), i = .int .i64 k ∧ k + g = 3 ∧ Q2.length = 3 ∧ (∀ j q, k ≤ j → Q2[j]? = some q → ∃ r, R[j]? = some r ∧ r.2 = q.2 ∧ q.2.length ≤ 256) ∧ HL w wr (row w.heap.size 36 1 (.slice (some ⟨g5, 0, none⟩) 3 d5) 3 (Q2.map Prod.fst) :: row w.heap.size 36 1 (.slice (some ⟨g6, 0, none⟩) 3 d6) 3 (R.map Prod.fst) :: (atsI w.heap.size Q2 ++ atsI w.heap.size R)))
     case atStart => exact ⟨0, Q, rfl, rfl, Hk.out, HQ4.out, HK3⟩
     case round =>
      obtain ⟨k, Q2, rfl, hk, hQ2l, hQ2, HK⟩ := hrel
      clear HK3
      have Hk2 := Lib.hid hQ2l
      by_cases hlt2 : k < 3
      · obtain ⟨⟨a, T⟩, hq⟩ : ∃ q, Q2[k]? = some q := ⟨_, List.getElem?_eq_getElem (by omega)⟩
        obtain ⟨⟨b, T'⟩, hr, hT', hTl⟩ := hQ2 k _ (Nat.le_refl _) hq
        dsimp only at hT' hTl
        subst hT'
        have H1 := (HK.perm (List.Perm.cons _ (List.Perm.cons _ (ats_take2 hq hr)))).sel 4 [2, 3, 0, 1]
        dsimp only at H1
        generalize hK4 : atsI w.heap.size (Q2.eraseIdx k) ++ atsI w.heap.size (R.eraseIdx k) = K4 at *
        obtain ⟨A9, c9, ha, hA9, hd9, hd8⟩ := row_shape (show wr.ownsRow w.heap.size 3 1 a T'.length (T'.map fun j => .int .i64 j) from H1.head)
        obtain ⟨B9, e9, hb, -, he9, he8⟩ := row_shape (show wr.ownsRow w.heap.size 3 1 b T'.length (T'.map fun j => .int .i64 j) from H1.tail.head)
        subst ha hb
        unfold maxLen at hd8 he8
        have hvk : (Q2.map Prod.fst)[k]? = some (.slice A9 T'.length c9) := by rw [List.getElem?_map, hq]; rfl
        have hvr : (R.map Prod.fst)[k]? = some (.slice B9 T'.length e9) := by rw [List.getElem?_map, hr]; rfl
        have s5 : wr.cell? ⟨g5, k, none⟩ = some (.slice A9 T'.length c9) := (H1.sel 3 [2]).rowCell (E := 36) (List.mem_cons_self ..) k _ hvk
        have s6 : wr.cell? ⟨g6, k, none⟩ = some (.slice B9 T'.length e9) := (H1.sel 4 [3]).rowCell (E := 36) (List.mem_cons_self ..) k _ hvr
        have hsi := fun n => sameInts15_ok (a := T') (b := T') (H1.drewN n) (show Ints w _ (.slice A9 T'.length c9) T' from fun W HH => entInts _ W HH) (show Ints w _ (.slice B9 T'.length e9) T' from fun W HH => entInts _ W HH.tail)
        simp only [decide_true] at hsi
        have Hr := Lib.hid hr; have Hq := Lib.hid hq; have HQ2 := Lib.hid hQ2; have Hvk := Lib.hid hvk; have HK4 := Lib.hid hK4
        clear hq hr hQ2 hQ2l hvk hvr HK hK4
        go_wp2
        refine wp_region_cut 8 (by kernel_rfl) (by kernel_rfl) ?_
        simp only [List.take_succ_cons, List.take_zero, List.drop_succ_cons, List.drop_zero]
        repeat (go_big_quiet_step ((fail)))
        refine wpQuiet_nil ?_
        intro nq
        go_wp2_with (go_at_call 27; refine (hsi _).mono ?_; rintro e1 w12 ⟨rfl, H12⟩; clear hsi H1 s5 s6)
        have H5 : HL w w12 (intsR w.heap.size (.slice A9 T'.length c9) T' :: row w.heap.size 36 1 (.slice (some ⟨g5, 0, none⟩) 3 d5) 3 (Q2.map Prod.fst) :: intsR w.heap.size (.slice B9 T'.length e9) T' :: row w.heap.size 36 1 (.slice (some ⟨g6, 0, none⟩) 3 d6) 3 (R.map Prod.fst) :: K4) := H12.sel 3 [0, 2, 1]
        clear H12
        go_wp2
        go_loopg [15] T'.length (fun g4 i wq => ∃ (j : Nat) (T1 : List Int), i = .int .i64 j ∧ j + g4 = T'.length ∧ T1.length = T'.length ∧ HL w wq (row w.heap.size 3 1 (.slice A9 T'.length c9) T'.length (T1.map fun j => .int .i64 j) :: row w.heap.size 36 1 (.slice (some ⟨g5, 0, none⟩) 3 d5) 3 (Q2.map Prod.fst) :: intsR w.heap.size (.slice B9 T'.length e9) T' :: row w.heap.size 36 1 (.slice (some ⟨g6, 0, none⟩) 3 d6) 3 (R.map Prod.fst) :: K4))
        case atStart => exact ⟨0, T', rfl, by omega, rfl, H5⟩
        case round =>
          obtain ⟨j, T1, rfl, hj, hT1, HJ⟩ := hrel
          clear H5
          have S1 : wr.cell? ⟨g5, k, none⟩ = some (.slice A9 T'.length c9) := (HJ.swap).rowCell (E := 36) (List.mem_cons_self ..) k _ Hvk.out
          have HT1 := Lib.hid hT1
          by_cases hlt : j < T'.length
          · obtain ⟨ga, rfl⟩ := hA9.resolve_left (by omega)
            obtain ⟨x, hx⟩ : ∃ x, T1[j]? = some x := ⟨_, List.getElem?_eq_getElem (by omega)⟩
            have c0 : wr.cell? ⟨ga, j, none⟩ = some (.int .i64 x) := HJ.rowCell (List.mem_cons_self ..) j _ (by rw [List.getElem?_map, hx]; rfl)
            have f0 := HJ.rowFrozen (List.mem_cons_self ..) j
            have HS := HJ.setRow j (.int .i64 (-9))
            rw [show (T1.map fun j => Value.int .i64 j).set j (.int .i64 (-9)) = (T1.set j (-9)).map fun j => Value.int .i64 j from List.map_set.symm] at HS
            clear HJ hT1 hx
            go_wp2
            go_roundg (gk - 1)
            case measure => omega
            case rel => exact ⟨j + 1, T1.set j (-9), by go_num, by omega, by rw [List.length_set]; exact HT1.out, HS⟩
          · have H6 : HL w wr (intsR w.heap.size (.slice A9 T'.length c9) T1 :: row w.heap.size 36 1 (.slice (some ⟨g5, 0, none⟩) 3 d5) 3 ((Q2.map Prod.fst).set k (.slice A9 T'.length c9)) :: intsR w.heap.size (.slice B9 T'.length e9) T' :: row w.heap.size 36 1 (.slice (some ⟨g6, 0, none⟩) 3 d6) 3 (R.map Prod.fst) :: K4) := by
              unfold intsR
              rw [HT1.out, set_same Hvk.out]
              exact HJ
            clear HJ hT1
            go_wp2
            clear S1
            go_loopg [16] 9 (fun gz i wq => ∃ (j2 : Nat) (a1 : Value) (T2 : List Int), i = .int .i64 j2 ∧ j2 + gz = 9 ∧ T2.length = T'.length + j2 ∧ HL w wq (intsR w.heap.size a1 T2 :: row w.heap.size 36 1 (.slice (some ⟨g5, 0, none⟩) 3 d5) 3 ((Q2.map Prod.fst).set k a1) :: intsR w.heap.size (.slice B9 T'.length e9) T' :: row w.heap.size 36 1 (.slice (some ⟨g6, 0, none⟩) 3 d6) 3 (R.map Prod.fst) :: K4))
            case atStart => exact ⟨0, _, T1, rfl, rfl, HT1.out, H6⟩
            case round =>
              obtain ⟨j2, a1, T2, rfl, hj2, hT2, HJ2⟩ := hrel
              clear H6
              have HT2 := Lib.hid hT2
              have hkl : k < (Q2.map Prod.fst).length := by rw [List.length_map, Hk2.out]; omega
              have Hkl := Lib.hid hkl
              by_cases hlt3 : j2 < 9
              · obtain ⟨A1, c1, rfl, -, -, -⟩ := row_shape (show wr.ownsRow w.heap.size 3 1 a1 T2.length (T2.map fun j => .int .i64 j) from HJ2.head)
                have S1 : wr.cell? ⟨g5, k, none⟩ = some (.slice A1 T2.length c1) := (HJ2.swap).rowCell (E := 36) (List.mem_cons_self ..) k _ (List.getElem?_set_self hkl)
                have HA := HJ2.alloc' (.cells #[.int .i64 (-8)] 3)
                have hT2b : T2.length ≤ 265 := by omega
                clear HJ2 hT2 hkl
                go_wp2_with (at_builtin; refine wpList_append_hl sliceI rfl _ _ rfl (v := .slice A1 T2.length c1) (xv := .slice (some ⟨wr.heap.size, 0, none⟩) 1 1) (n := T2.length) (m := 1) (xs := T2.map fun j => .int .i64 j) (news := [.int .i64 (-8)]) HA rfl rfl (rd_one rfl) (by simp [Value.oneCell']) (by unfold maxLen; omega) (by omega) ?_; intro z w5 H7 _; clear HA S1; obtain ⟨A5, c5, hz, -, -, -⟩ := row_shape H7.head; generalize T2.length + 1 = n5 at hz; subst hz; have f5 := (H7.swap).rowFrozen (List.mem_cons_self ..) k; have S5 := (H7.swap).rowCell (E := 36) (List.mem_cons_self ..) k _ (List.getElem?_set_self Hkl.out); have HS := (H7.swap).setRow k (.slice A5 n5 c5); rw [List.set_set] at HS; clear H7)
                go_roundg (gk - 1)
                case measure => omega
                case rel => exact ⟨j2 + 1, .slice A5 n5 c5, T2 ++ [-8], by go_num, by omega, by rw [List.length_append, HT2.out]; rfl, by unfold intsR; rw [List.length_append, List.map_append]; exact HS.swap⟩
              · clear hT2 hkl
                go_wp2
                go_roundg (2 - k)
                case measure => omega
                case rel =>
                  refine ⟨k + 1, Q2.set k (a1, T2), by go_num, by omega, by rw [List.length_set]; exact Hk2.out, fun j q hj hq => ?_, ?_⟩
                  · rw [List.getElem?_set_ne (by omega)] at hq
                    exact HQ2.out j q (by omega) hq
                  · have e := ats_take2 (base := w.heap.size) (Q := Q2.set k (a1, T2)) (R := R) (k := k) (q := (a1, T2)) (r := (.slice B9 T'.length e9, T')) (List.getElem?_set_self (by rw [Hk2.out]; omega)) Hr.out
                    rw [List.eraseIdx_set_eq, HK4.out] at e
                    rw [List.map_set]
                    exact (HJ2.sel 4 [1, 3, 0, 2]).perm (List.Perm.cons _ (List.Perm.cons _ e.symm))
      · go_wp2
        go_ret
        exact ⟨rfl, HK.below⟩
end Go.Proofs.Ytebibcaahjmjfaa

/- The law PassKeeps. -/
import Derived.Test.YtebibcaahjmjfaaPaBefalls
import Derived.Test.YtebibcaahjmjfaaPaTakes
import Derived.Test.YtebibcaahjmjfaaPaTurns
import Derived.Test.YtebibcaahjmjfaaPaCheck
import Derived.Deep.RegionHeld3
set_option linter.unusedVariables false
set_option linter.unusedSimpArgs false
namespace Go.Proofs.Ytebibcaahjmjfaa
open Go.RowKit Go.Proofs.HL Go.Proofs.HL.Pr Go.Proofs.HL.Pa
theorem sumN_take_at {l : List Rn} {k : Nat} {x : Rn} (hx : l[k]? = some x) : sumN (l.take (k + 1)) = sumN (l.take k) + x.nodes := by
  rw [List.take_add_one, hx, sumN_append]
  simp [sumN]
/-- How a stage stands at the head of a pass. -/
structure Stands (n0 all : Int) (k : Nat) (till shadow now free held : Int) (ws : List Wn) (l : List Rn) : Prop where
  may : mayB now free ws held l = true
  sum : free + sumN l = all
  holds : Holds till shadow now free ws held l
  few : (ws.length : Int) ≤ n0 + 20 * k
  lo : -1 ≤ till
def KeepB (hd ch : Int) (s : Value) : Prop := s = .bool (decide (0 ≤ hd) && (ch == hd))
def KeepC (hd ch till : Int) (s : Value) : Prop := s = .bool ((ch != hd) || decide (till < 0))
def KeepD (till nw tk : Int) (s : Value) : Prop := s = .bool (decide (0 ≤ till) && decide (till < nw + tk))
section
variable {w0 w : World} {L : List At} {v u : Value} {ws : List Wn} {l : List Rn}
set_option maxRecDepth 100000 in
set_option maxHeartbeats 16000000 in
theorem keeps_law {a : AskD} {vt : Value} {T : List TurnD} (hv : Rd 3 a.vw a.ws.length (a.ws.flatMap encW) w) (hr : Rd 2 a.vr a.l.length (a.l.flatMap encR) w) (ht : Rd 5 vt T.length (T.flatMap encT) w) (hts : ∀ t ∈ T, TurnRd w t)
    (hws : a.ws.length ≤ 1048576) (hl : a.l.length ≤ 1048576) :
    Calls Try.prog 9 #[a.v, vt] w fun e w' => e = .returned (.bool true) ∧ Below w.heap.size w w' := by
  obtain ⟨A0, c0, hvw, h1, h2⟩ := rd_shape hv
  obtain ⟨B0, d0, hvr, h3, h4⟩ := rd_shape hr
  obtain ⟨C0, e0, rfl, h5, h6⟩ := rd_shape ht
  have hW : ∀ L, Wants w L (.slice A0 a.ws.length c0) a.ws := fun L W H => rd_old H (by rw [← hvw]; exact hv)
  have hR : ∀ L, Runs w L (.slice B0 a.l.length d0) a.l := fun L W H => rd_old H (by rw [← hvr]; exact hr)
  have hTT : ∀ L W, HL w W L → Rd 5 (.slice C0 T.length e0) T.length (T.flatMap encT) W := fun L W H => rd_old H ht
  unfold AskD.v
  rw [hvw, hvr]
  unfold maxLen at h2 h4 h6
  have H0 := HL.allocA (HL.start w) a.now a.free (.slice A0 a.ws.length c0) a.holder (.slice B0 a.l.length d0)
  have HT := Lib.hid hTT; have HTS := Lib.hid hts
  clear hv hr ht hts hTT hvw hvr
  cases hm : mayB a.now a.free a.ws a.holder a.l with
  | false =>
    go_enter Try.func9, Try.ntmps9
    go_wp2_with (first
      | (go_at_call 23; refine (shown15_ok H0).mono ?_; rintro e w1 ⟨rfl, H⟩; clear H0; obtain ⟨a0, a1, a2, a3, a4⟩ := boxA_cells H; have hck := Ref.check_ok H (hW _) (hR _) (by omega) a.now a.free a.holder; rw [hm] at hck; simp only [ckN] at hck)
      | (go_at_call 31; refine hck.mono ?_; rintro e w2 ⟨rfl, H2⟩; clear hck H a0 a1 a2 a3 a4))
    go_ret
    exact ⟨rfl, H2.below⟩
  | true =>
    obtain ⟨⟨m0, m1, m2, m3⟩, hrr, -, -, -⟩ := mayB_iff.1 hm
    have hrn : ∀ r ∈ a.l, 1 ≤ r.nodes ∧ r.nodes ≤ 256 := fun r h => ⟨(hrr r h).1, (hrr r h).2.1⟩
    have HRN := Lib.hid hrn
    have HM := Lib.hid hm
    have hck : ∀ W, HL w W (boxA w.heap.size a.now a.free (.slice A0 a.ws.length c0) a.holder (.slice B0 a.l.length d0) :: []) → Calls Try.prog 31 #[.int .i64 a.now, .int .i64 a.free, (.slice A0 a.ws.length c0), .int .i64 a.holder, (.slice B0 a.l.length d0)] W fun e w' => e = .returned (.int .i64 0) ∧ HL w w' (boxA w.heap.size a.now a.free (.slice A0 a.ws.length c0) a.holder (.slice B0 a.l.length d0) :: []) := fun W H => by
      have := Ref.check_ok H (hW _) (hR _) (by omega) a.now a.free a.holder
      rw [hm] at this
      simpa only [ckN] using this
    clear hrr hrn hm
    go_enter Try.func9, Try.ntmps9
    go_wp2_with (first
      | (go_at_call 23; refine (shown15_ok H0).mono ?_; rintro e w1 ⟨rfl, H⟩; clear H0; obtain ⟨a0, a1, a2, a3, a4⟩ := boxA_cells H)
      | (go_at_call 31; refine (hck _ H).mono ?_; rintro e w2 ⟨rfl, H2⟩; clear hck H a0 a1 a2 a3 a4; obtain ⟨a0, a1, a2, a3, a4⟩ := boxA_cells H2))
    go_loopg [5, 6] a.l.length (fun g s i wr => ∃ k : Nat, i = .int .i64 k ∧ k + g = a.l.length ∧ s = .int .i64 (a.free + sumN (a.l.take k)) ∧ HL w wr (boxA w.heap.size a.now a.free (.slice A0 a.ws.length c0) a.holder (.slice B0 a.l.length d0) :: []))
    case atStart => exact ⟨0, rfl, by omega, by simp [sumN], H2⟩
    case round =>
      obtain ⟨k, rfl, hk, rfl, HK⟩ := hrel
      clear H2 a0 a1 a2 a3 a4
      obtain ⟨a0, a1, a2, a3, a4⟩ := boxA_cells HK
      have hb1 := sumN_sub (List.take_sublist k a.l) HRN.out
      have hb2 := sumN_nn (l := a.l.take k) (fun r h => HRN.out r (List.mem_of_mem_take h))
      have hb3 := (sumN_bd (l := a.l) HRN.out).2
      by_cases hlt : k < a.l.length
      · obtain ⟨x, hx⟩ : ∃ x, a.l[k]? = some x := ⟨_, List.getElem?_eq_getElem hlt⟩
        obtain ⟨b2, o, c', hv, e0, e1⟩ := run_at (hR _ wr HK) hx
        simp only [Value.slice.injEq] at hv
        obtain ⟨rfl, -, rfl⟩ := hv
        have hxn := HRN.out x (List.mem_of_getElem? hx)
        obtain ⟨n1, n2⟩ := hxn
        have hs := Lib.hid (sumN_take_at hx)
        clear hx
        go_wp2
        go_roundg (gk - 1)
        case measure => omega
        case rel => exact ⟨k + 1, by go_num, by omega, by rw [hs.out]; go_num, HK⟩
      · rw [List.take_of_length_le (by omega)] at hb1 hb2 ⊢
        generalize hall : a.free + sumN a.l = all at *
        have HALL := Lib.hid hall
        by_cases hbig : 256 < all
        · clear hall
          go_wp2
          go_ret
          exact ⟨rfl, HK.below⟩
        · have hsum : a.free + sumN a.l ≤ 256 := by omega
          clear hall
          have HB := HL.alloc HK (.cells #[.int .i64 a.now, .int .i64 a.free, .slice none 0 0, .int .i64 a.holder, .slice none 0 0] 69)
          generalize hb : wr.heap.size = b at HB
          have HB2 : HL w _ (wantsAt w.heap.size (.slice none 0 0) [] :: boxS b a.now a.free (.slice none 0 0) a.holder (.slice none 0 0) :: boxA w.heap.size a.now a.free (.slice A0 a.ws.length c0) a.holder (.slice B0 a.l.length d0) :: []) := HL.nilRow HB _ _ _
          go_wp2
          have Hb := Lib.hid hb
          clear hb
          generalize World.alloc _ _ = W1 at *
          have HD := HB2.drew
          have k0 := boxS_mem HD (List.mem_cons_of_mem _ (List.mem_cons_self ..)) 2
          obtain ⟨-, -, a2, -, -⟩ := boxA_cells (HD.sel 3 [2])
          have hrd := hW _ _ HD
          go_cut [63] (fun s63 wc => ∃ (A1 : Option Addr) (c1 : Nat), HL w wc (boxS b a.now a.free (.slice A1 a.ws.length c1) a.holder (.slice none 0 0) :: wantsAt w.heap.size (.slice A1 a.ws.length c1) a.ws :: boxA w.heap.size a.now a.free (.slice A0 a.ws.length c0) a.holder (.slice B0 a.l.length d0) :: []))
          case first =>
            as_aux_lemma =>
            --<<
            go_region_law
              ((refine step_append_hl (ys := #[]) sliceWn rfl _ _ rfl (v := .slice none 0 0) (xv := (.slice A0 a.ws.length c0)) (n := 0) (m := a.ws.length) (xs := []) (news := a.ws.flatMap encW) HD rfl rfl hrd (one_encW _) (by unfold maxLen; omega) (by omega) ?_; intro v4 w4 H4; rw [Nat.zero_add, List.nil_append] at H4; obtain ⟨A1, c1, rfl, -, -, -⟩ := row_shape H4.head;
                have k6 := boxS_mem H4 (List.mem_cons_of_mem _ (List.mem_cons_self ..)) 2;
                have k7 := boxS_frozen H4 (List.mem_cons_of_mem _ (List.mem_cons_self ..)) 2))
            all_goals
              have HS2 := set_boxS2 (u := .slice A1 a.ws.length c1) (H4.sel 2 [1, 0])
              go_wp2
              go_meet
              case rel => exact ⟨A1, c1, HS2⟩
            -->>
          case rest =>
            as_aux_lemma =>
            obtain ⟨A1, c1, H1⟩ := hcut
            clear HB HB2 HD k0 a2 hrd
            have HB2 : HL w wc (runsAt w.heap.size (.slice none 0 0) [] :: boxS b a.now a.free (.slice A1 a.ws.length c1) a.holder (.slice none 0 0) :: wantsAt w.heap.size (.slice A1 a.ws.length c1) a.ws :: boxA w.heap.size a.now a.free (.slice A0 a.ws.length c0) a.holder (.slice B0 a.l.length d0) :: []) := HL.nilRow H1 _ _ _
            have HD := HB2.drew
            have k0 := boxS_mem HD (List.mem_cons_of_mem _ (List.mem_cons_self ..)) 4
            obtain ⟨-, -, -, -, a4⟩ := boxA_cells (HD.sel 4 [3])
            have hrd := hR _ _ HD
            go_wp2
            go_cut [73] (fun s73 wc => ∃ (B1 : Option Addr) (d1 : Nat), HL w wc (boxS b a.now a.free (.slice A1 a.ws.length c1) a.holder (.slice B1 a.l.length d1) :: wantsAt w.heap.size (.slice A1 a.ws.length c1) a.ws :: runsAt w.heap.size (.slice B1 a.l.length d1) a.l :: boxA w.heap.size a.now a.free (.slice A0 a.ws.length c0) a.holder (.slice B0 a.l.length d0) :: []))
            case first =>
              as_aux_lemma =>
              --<<
              go_region_law
                ((refine step_append_hl (ys := #[]) sliceRun rfl _ _ rfl (v := .slice none 0 0) (xv := (.slice B0 a.l.length d0)) (n := 0) (m := a.l.length) (xs := []) (news := a.l.flatMap encR) HD rfl rfl hrd (one_encR _) (by unfold maxLen; omega) (by omega) ?_; intro v4 w4 H4; rw [Nat.zero_add, List.nil_append] at H4; obtain ⟨B1, d1, rfl, -, -, -⟩ := row_shape H4.head;
                  have k6 := boxS_mem H4 (List.mem_cons_of_mem _ (List.mem_cons_self ..)) 4;
                  have k7 := boxS_frozen H4 (List.mem_cons_of_mem _ (List.mem_cons_self ..)) 4))
              all_goals
                have HS2 := set_boxS4 (u := .slice B1 a.l.length d1) (H4.sel 2 [1, 0])
                go_wp2
                go_meet
                case rel => exact ⟨B1, d1, HS2.sel 3 [0, 2, 1]⟩
              -->>
            case rest =>
              as_aux_lemma =>
              obtain ⟨B1, d1, H2⟩ := hcut
              clear H1 HB2 HD k0 a4 hrd
              have hst0 : Stands a.ws.length all 0 (-1) 0 a.now a.free a.holder a.ws a.l := ⟨HM.out, HALL.out, (fun h => by omega), by omega, by omega⟩
              have HST0 := Lib.hid hst0
              clear hst0
              go_wp2
              go_loopg [8, 9, 10] (T.length + 1) (fun g t8 t9 i wr => ∃ (k : Nat) (till shadow nw fr hd : Int) (ws2 : List Wn) (l2 : List Rn) (vw vr : Value), i = .int .i64 k ∧ t8 = .int .i64 till ∧ t9 = .int .i64 shadow ∧ k + g = T.length + 1 ∧ k ≤ 400 ∧ Stands a.ws.length all k till shadow nw fr hd ws2 l2 ∧ HL w wr (boxS b nw fr vw hd vr :: wantsAt w.heap.size vw ws2 :: runsAt w.heap.size vr l2 :: boxA w.heap.size a.now a.free (.slice A0 a.ws.length c0) a.holder (.slice B0 a.l.length d0) :: []))
              case atStart => exact ⟨0, -1, 0, a.now, a.free, a.holder, a.ws, a.l, _, _, rfl, rfl, rfl, by omega, by omega, HST0.out, H2⟩
              case round =>
                clear H2 HK
                obtain ⟨k, till, shadow, nw, fr, hd, ws2, l2, vw, vr, rfl, rfl, rfl, hk, hk4, hst, HK⟩ := hrel
                by_cases hgo : k ≤ T.length ∧ k < 400
                · obtain ⟨hgo1, hgo2⟩ := hgo
                  obtain ⟨A2, c2, rfl, -, hA1, hA2⟩ := row_shape (show wr.ownsRow w.heap.size 60 3 vw ws2.length (ws2.flatMap encW) from HK.tail.head)
                  obtain ⟨B2, d2, rfl, -, hB1, hB2⟩ := row_shape (show wr.ownsRow w.heap.size 42 2 vr l2.length (l2.flatMap encR) from HK.tail.tail.head)
                  unfold maxLen at hA2 hB2
                  have hfew := hst.few
                  have hlo := hst.lo
                  obtain ⟨⟨p0, p1, p2, p3⟩, hrr, -, -, -⟩ := mayB_iff.1 hst.may
                  have hl2n : ∀ r ∈ l2, 1 ≤ r.nodes ∧ r.nodes ≤ 256 := fun r h => ⟨(hrr r h).1, (hrr r h).2.1⟩
                  have hl2 : l2.length ≤ 256 := by
                    have := sumN_nn hl2n
                    have := hst.sum
                    omega
                  have HL2N := Lib.hid hl2n
                  clear hrr hl2n
                  obtain ⟨ch, hch⟩ : ∃ x, (passC nw fr ws2 hd l2).holder = x := ⟨_, rfl⟩
                  obtain ⟨csh, hcsh⟩ : ∃ x, (passC nw fr ws2 hd l2).shadow = x := ⟨_, rfl⟩
                  obtain ⟨cex, hcex⟩ : ∃ x, (passC nw fr ws2 hd l2).extra = x := ⟨_, rfl⟩
                  obtain ⟨SS, hSS⟩ : ∃ x, (passD nw fr ws2 hd l2).starts = x := ⟨_, rfl⟩
                  have EW : Wants w (boxS b nw fr (.slice A2 ws2.length c2) hd (.slice B2 l2.length d2) :: wantsAt w.heap.size (.slice A2 ws2.length c2) ws2 :: runsAt w.heap.size (.slice B2 l2.length d2) l2 :: boxA w.heap.size a.now a.free (.slice A0 a.ws.length c0) a.holder (.slice B0 a.l.length d0) :: []) (.slice A2 ws2.length c2) ws2 := fun W HH => rd_row (HH.sel 2 [1]).head
                  have ER : Runs w (boxS b nw fr (.slice A2 ws2.length c2) hd (.slice B2 l2.length d2) :: wantsAt w.heap.size (.slice A2 ws2.length c2) ws2 :: runsAt w.heap.size (.slice B2 l2.length d2) l2 :: boxA w.heap.size a.now a.free (.slice A0 a.ws.length c0) a.holder (.slice B0 a.l.length d0) :: []) (.slice B2 l2.length d2) l2 := fun W HH => rd_row (HH.sel 3 [2]).head
                  have hp1 : ∀ W, HL w W (boxS b nw fr (.slice A2 ws2.length c2) hd (.slice B2 l2.length d2) :: wantsAt w.heap.size (.slice A2 ws2.length c2) ws2 :: runsAt w.heap.size (.slice B2 l2.length d2) l2 :: boxA w.heap.size a.now a.free (.slice A0 a.ws.length c0) a.holder (.slice B0 a.l.length d0) :: []) → Calls Try.prog 28 #[.int .i64 nw, .int .i64 fr, .slice A2 ws2.length c2, .int .i64 hd, .slice B2 l2.length d2] W fun e w' => ∃ u', e = .returned (.tuple #[.agg #[u', .int .i64 ch, .int .i64 csh, .int .i64 cex], .int .i64 0]) ∧ HL w w' (intsR w.heap.size u' SS :: boxS b nw fr (.slice A2 ws2.length c2) hd (.slice B2 l2.length d2) :: wantsAt w.heap.size (.slice A2 ws2.length c2) ws2 :: runsAt w.heap.size (.slice B2 l2.length d2) l2 :: boxA w.heap.size a.now a.free (.slice A0 a.ws.length c0) a.holder (.slice B0 a.l.length d0) :: []) := fun W HH => by
                    have h := pass_ok HH EW ER (by omega) nw fr hd hst.may
                    unfold planV at h
                    rwa [hch, hcsh, hcex, hSS] at h
                  have hp2 : ∀ b7 W, HL w W (boxP b7 (.slice none 0 0) 0 0 0 :: boxS b nw fr (.slice A2 ws2.length c2) hd (.slice B2 l2.length d2) :: wantsAt w.heap.size (.slice A2 ws2.length c2) ws2 :: runsAt w.heap.size (.slice B2 l2.length d2) l2 :: boxA w.heap.size a.now a.free (.slice A0 a.ws.length c0) a.holder (.slice B0 a.l.length d0) :: []) → Calls Try.prog 28 #[.int .i64 nw, .int .i64 fr, .slice A2 ws2.length c2, .int .i64 hd, .slice B2 l2.length d2] W fun e w' => ∃ u', e = .returned (.tuple #[.agg #[u', .int .i64 ch, .int .i64 csh, .int .i64 cex], .int .i64 0]) ∧ HL w w' (intsR w.heap.size u' SS :: boxP b7 (.slice none 0 0) 0 0 0 :: boxS b nw fr (.slice A2 ws2.length c2) hd (.slice B2 l2.length d2) :: wantsAt w.heap.size (.slice A2 ws2.length c2) ws2 :: runsAt w.heap.size (.slice B2 l2.length d2) l2 :: boxA w.heap.size a.now a.free (.slice A0 a.ws.length c0) a.holder (.slice B0 a.l.length d0) :: []) := fun b7 W HH => by
                    have h := pass_ok HH (EW.cons _) (ER.cons _) (by omega) nw fr hd hst.may
                    unfold planV at h
                    rwa [hch, hcsh, hcex, hSS] at h
                  have HST := Lib.hid hst; have HCH := Lib.hid hch; have HCSH := Lib.hid hcsh; have HSS := Lib.hid hSS
                  have hk4' : decide ((k : Int) ≤ (T.length : Int)) = true := decide_eq_true (by omega)
                  clear hst hch hcsh hcex hSS EW ER
                  obtain ⟨s0, s1, s2, s3, s4⟩ := boxS_cells HK
                  go_wp2
                  clear s0 s1 s2 s3 s4
                  go_cut [12, 13] (fun s12 s13 wc => ∃ (b7 : Nat) (A7 : Option Addr) (c7 : Nat), s12 = .pointer (some ⟨b7, 0, none⟩) ∧ s13 = .int .i64 0 ∧ HL w wc (boxP b7 (.slice A7 SS.length c7) ch csh cex :: intsR w.heap.size (.slice A7 SS.length c7) SS :: boxS b nw fr (.slice A2 ws2.length c2) hd (.slice B2 l2.length d2) :: wantsAt w.heap.size (.slice A2 ws2.length c2) ws2 :: runsAt w.heap.size (.slice B2 l2.length d2) l2 :: boxA w.heap.size a.now a.free (.slice A0 a.ws.length c0) a.holder (.slice B0 a.l.length d0) :: []))
                  case first =>
                    as_aux_lemma =>
                    --<<
                    have HD := HK.drew
                    have HE := (HL.allocP HK (.slice none 0 0) 0 0 0).drew
                    have S1 := boxS_cells HD
                    have S2 := boxS_cells (HE.sel 2 [1, 0])
                    go_region_held3 (fun w' => w'.cell? ⟨b, 0, none⟩ = some (.int .i64 nw) ∧ w'.cell? ⟨b, 1, none⟩ = some (.int .i64 fr) ∧ w'.cell? ⟨b, 2, none⟩ = some (.slice A2 ws2.length c2) ∧ w'.cell? ⟨b, 3, none⟩ = some (.int .i64 hd) ∧ w'.cell? ⟨b, 4, none⟩ = some (.slice B2 l2.length d2)) (first | assumption | (exact S3) | (exact S4) | (exact S5) | go_keep)
                     ((go_at_call 28; first
                        | ((with_reducible refine (hp1 _ HD).mono ?_); rintro e w10 ⟨u, rfl, H10⟩; obtain ⟨A7, c7, e7, -, -, -⟩ := row_shape (show w10.ownsRow w.heap.size 3 1 u _ _ from H10.head); generalize hn7 : SS.length = n7 at e7; subst e7; have S3 := boxS_cells (H10.sel 2 [1, 0]); have H11 := HL.allocP H10 (.slice A7 n7 c7) ch csh cex; have S4 := boxS_cells (H11.sel 3 [2, 0, 1]); have S5 := boxS_cells ((HL.allocP H10 (.slice none 0 0) 0 0 0).sel 3 [2, 0, 1]))
                        | ((with_reducible refine (hp2 _ _ HE).mono ?_); rintro e w10 ⟨u, rfl, H10⟩; obtain ⟨A7, c7, e7, -, -, -⟩ := row_shape (show w10.ownsRow w.heap.size 3 1 u _ _ from H10.head); generalize hn7 : SS.length = n7 at e7; subst e7; have S3 := boxS_cells (H10.sel 3 [2, 0, 1]); have H12 := H10.sel 2 [1, 0]; obtain ⟨z0, z1, z2, z3⟩ := boxP_cells H12; obtain ⟨y0, y1, y2, y3⟩ := boxP_frozen H12; have H11 := boxP_set (u' := .slice A7 n7 c7) (h' := ch) (s' := csh) (e' := cex) H12; have S4 := boxS_cells (H11.sel 3 [2, 0, 1]); have S5 := S4)))
                    all_goals
                      subst hn7
                      go_wp2
                      go_meet
                      case rel => exact ⟨_, A7, c7, rfl, rfl, H11⟩
                    -->>
                  case rest =>
                    as_aux_lemma =>
                    obtain ⟨b7, A7, c7, rfl, rfl, H7⟩ := hcut
                    clear hp1 hp2 HK
                    obtain ⟨q0, q1, q2, q3⟩ := boxP_cells H7
                    obtain ⟨s0, s1, s2, s3, s4⟩ := boxS_cells (H7.sel 3 [2])
                    go_upto_region 24 with (fail)
                    go_cut [123] (fun s123 wc' => wc' = wc ∧ KeepB hd ch s123)
                    case first =>
                      as_aux_lemma =>
                      --<<
                      by_cases h0 : 0 ≤ hd
                      · by_cases hc : ch = hd
                        · have hc1 : (ch == hd) = true := by simp [hc]
                          have HC := Lib.hid hc
                          clear hc
                          go_wp2
                          go_meet
                          case rel => exact ⟨rfl, by simp [KeepB, h0, HC.out]⟩
                        · have hc1 : (ch == hd) = false := by simp [hc]
                          have HC := Lib.hid hc
                          clear hc
                          go_wp2
                          go_meet
                          case rel => exact ⟨rfl, by simp [KeepB, HC.out]⟩
                      · go_wp2
                        go_meet
                        case rel => exact ⟨rfl, by simp [KeepB]; omega⟩
                      -->>
                    case rest =>
                      as_aux_lemma =>
                      obtain ⟨rfl, hB⟩ := hcut
                      unfold KeepB at hB
                      subst hB
                      go_upto_if 123 with (fail)
                      go_cut [139] (fun s139 wc' => wc' = wc)
                      case first =>
                        as_aux_lemma =>
                        --<<
                        have hst := HST.out
                        by_cases h0 : 0 ≤ hd
                        · by_cases hc : ch = hd
                          · have hb : (decide (0 ≤ hd) && (ch == hd)) = true := by simp [hc, h0]
                            rw [hb]
                            by_cases ht0 : 0 ≤ till
                            · obtain ⟨k1, k2, k3⟩ := keeps_same hst.may hst.holds h0 (HCH.out.trans hc) ht0
                              rw [HCSH.out] at k1
                              clear hst hc hb
                              go_wp2
                              go_meet
                              case rel => rfl
                            · clear hst hc hb
                              go_wp2
                              go_meet
                              case rel => rfl
                          · have hb : (decide (0 ≤ hd) && (ch == hd)) = false := by simp [hc]
                            rw [hb]
                            obtain ⟨S1, hS1⟩ := keeps_first hst.may h0 (fun e => hc (HCH.out.symm.trans e))
                            rw [HSS.out] at hS1
                            have hlen : ((SS.length : Int) == 0) = false := by rw [hS1]; simp; omega
                            have hpos : 0 < SS.length := by rw [hS1]; simp
                            obtain ⟨A8, c8, e8, hA8, -, -⟩ := row_shape (show wc.ownsRow w.heap.size 3 1 (.slice A7 SS.length c7) SS.length (SS.map fun j => .int .i64 j) from H7.tail.head)
                            obtain ⟨rfl, -, rfl⟩ := Value.slice.inj e8
                            obtain ⟨g8, rfl⟩ := hA8.resolve_left (by omega)
                            have d0 : wc.cell? ⟨g8, 0, none⟩ = some (.int .i64 hd) := (H7.sel 2 [1]).rowCell (E := 3) (k := 1) (List.mem_cons_self ..) 0 _ (by rw [hS1]; rfl)
                            have hne : (hd != hd) = false := by simp
                            clear hst hc hS1 hb
                            go_wp2
                            go_meet
                            case rel => rfl
                        · have hb : (decide (0 ≤ hd) && (ch == hd)) = false := by simp; omega
                          rw [hb]
                          clear hst hb
                          go_wp2
                          go_meet
                          case rel => rfl
                        -->>
                      case rest =>
                        as_aux_lemma =>
                        subst hcut
                        go_upto_region 29 with (fail)
                        go_cut [163] (fun s163 wc' => wc' = wc ∧ KeepC hd ch till s163)
                        case first =>
                          as_aux_lemma =>
                          --<<
                          by_cases hc : ch = hd
                          · have hc1 : (ch != hd) = false := by simp [hc]
                            have HC := Lib.hid hc
                            clear hc
                            go_wp2
                            go_meet
                            case rel => exact ⟨rfl, by simp [KeepC, HC.out]⟩
                          · have hc1 : (ch != hd) = true := by simp [hc]
                            have HC := Lib.hid hc
                            clear hc
                            go_wp2
                            go_meet
                            case rel => exact ⟨rfl, by simp [KeepC, HC.out]⟩
                          -->>
                        case rest =>
                          as_aux_lemma =>
                          obtain ⟨rfl, hB⟩ := hcut
                          unfold KeepC at hB
                          subst hB
                          go_upto_if 163 with (fail)
                          go_cut [8] (fun s8 wc' => ∃ till2 : Int, s8 = .int .i64 till2 ∧ wc' = wc ∧ (till2 = csh ∨ (till2 = till ∧ ch = hd ∧ 0 ≤ till)))
                          case first =>
                            as_aux_lemma =>
                            --<<
                            by_cases hb : ch = hd ∧ 0 ≤ till
                            · have hb2 : ((ch != hd) || decide (till < 0)) = false := by simp [hb]
                              rw [hb2]
                              have HB := Lib.hid hb
                              clear hb hb2
                              go_wp2
                              go_meet
                              case rel => exact ⟨till, rfl, rfl, .inr ⟨rfl, HB.out⟩⟩
                            · have hb2 : ((ch != hd) || decide (till < 0)) = true := by
                                by_cases hc : ch = hd
                                · have : till < 0 := by
                                    rcases Int.lt_or_le till 0 with h | h
                                    · exact h
                                    · exact absurd ⟨hc, h⟩ hb
                                  simp [this]
                                · simp [hc]
                              rw [hb2]
                              clear hb hb2
                              go_wp2
                              go_meet
                              case rel => exact ⟨csh, rfl, rfl, .inl rfl⟩
                            -->>
                          case rest =>
                            as_aux_lemma =>
                            obtain ⟨till2, rfl, rfl, htill⟩ := hcut
                            have HTILL := Lib.hid htill
                            clear htill
                            go_upto_if 170 with (fail)
                            go_cut [8] (fun s8 wc' => ∃ (till3 : Int) (n : Nat), s8 = .int .i64 till3 ∧ wc' = wc.drewN n ∧ (0 ≤ ch → csh ≤ till3 ∧ nw < csh) ∧ (0 ≤ till3 → 0 ≤ ch) ∧ -1 ≤ till3)
                            case first =>
                              as_aux_lemma =>
                              --<<
                              by_cases hneg : ch < 0
                              · go_wp2
                                go_meet
                                case rel => exact ⟨-1, 0, rfl, rfl, (fun h => by omega), (fun h => by omega), by omega⟩
                              · have hlate := keeps_late HST.out.may (by rw [HCH.out]; omega)
                                rw [HCSH.out] at hlate
                                have hd1 : decide (csh ≤ nw) = false := decide_eq_false (by omega)
                                go_wp2
                                go_quiet (fail)
                                go_wp2
                                go_meet
                                case rel =>
                                  refine ⟨till2, _, rfl, rfl, (fun h => ⟨?_, hlate⟩), (fun h => by omega), ?_⟩
                                  · rcases HTILL.out with rfl | ⟨rfl, hc, h0⟩
                                    · exact Int.le_refl _
                                    · obtain ⟨k1, k2, k3⟩ := keeps_same HST.out.may HST.out.holds (by omega) (HCH.out.trans hc) h0
                                      rw [HCSH.out] at k1
                                      omega
                                  · rcases HTILL.out with rfl | ⟨rfl, hc, h0⟩ <;> omega
                              -->>
                            case rest =>
                              as_aux_lemma =>
                              obtain ⟨till3, n3, rfl, rfl, g1, g2, g3⟩ := hcut
                              have H8 := H7.drewN n3
                              have G1 := Lib.hid g1; have G2 := Lib.hid g2
                              clear H7 q0 q1 q2 q3 s0 s1 s2 s3 s4 g1 g2
                              generalize wc.drewN n3 = W8 at *
                              obtain ⟨tk1, tk2, tk3, tk4⟩ := keeps_took HST.out.may
                              rw [HSS.out] at tk1 tk2 tk3 tk4
                              have hw2 : ∀ x ∈ ws2, 1 ≤ x.nodes ∧ x.nodes ≤ 256 ∧ 1 ≤ x.limit ∧ x.limit ≤ 1048576 := fun x hx => by
                                have := (mayB_iff.1 HST.out.may).2.2.1 x hx
                                exact ⟨this.2.1, this.2.2.1, this.2.2.2.2.1, this.2.2.2.2.2⟩
                              have htakes := stTakes_ok (H8.sel 5 [2, 3, 4, 1]) hw2 ⟨p0, p1⟩ tk1 p3 (by omega) hl2 ch csh cex
                              obtain ⟨q0, q1, q2, q3⟩ := boxP_cells H8
                              obtain ⟨ws1, hws1⟩ : ∃ x, Pa.leftOf ws2 SS = x := ⟨_, rfl⟩
                              obtain ⟨l1, hl1⟩ : ∃ x, l2 ++ (tookOf ws2 SS).map (runOf nw) = x := ⟨_, rfl⟩
                              obtain ⟨f1, hf1⟩ : ∃ x, fr - sumW (tookOf ws2 SS) = x := ⟨_, rfl⟩
                              rw [hws1, hl1, hf1] at htakes
                              rw [hl1, hf1] at tk2
                              rw [hl1] at tk3
                              rw [hws1] at tk4
                              have hsum1 : f1 + sumN l1 ≤ 256 := by have := HST.out.sum; omega
                              have hf10 : 0 ≤ f1 := by omega
                              have HWS1 := Lib.hid hws1; have HL1 := Lib.hid hl1; have HF1 := Lib.hid hf1; have TK3 := Lib.hid tk3
                              clear hw2 tk1 tk2 tk3 hws1 hl1 hf1
                              go_upto_region 37 with (go_at_call 32; refine htakes.mono ?_; rintro en w9 ⟨vw4, vr4, rfl, H9⟩; clear htakes H8 q0 q1 q2 q3; obtain ⟨s0, s1, s2, s3, s4⟩ := boxS_cells H9)
                              by_cases hkT : k = T.length
                              · have hk1 : ((k : Int) == (T.length : Int)) = true := by simp [hkT]
                                clear hkT
                                go_wp2
                                go_ret
                                exact ⟨rfl, H9.below⟩
                              · have hk1 : ((k : Int) == (T.length : Int)) = false := by simp; omega
                                have hkT2 : k < T.length := by omega
                                clear hkT
                                by_cases hbn : 1099511627776 < nw
                                · go_wp2
                                  go_ret
                                  exact ⟨rfl, H9.below⟩
                                · obtain ⟨x, hx⟩ : ∃ x, T[k]? = some x := ⟨_, List.getElem?_eq_getElem hkT2⟩
                                  obtain ⟨rE, rC, rG, lo, hi⟩ := HTS.out x (List.mem_of_getElem? hx)
                                  obtain ⟨b5, o5, c5, hv5, e0, e1, e2, e3, e4⟩ := turn_at (HT.out _ _ H9) hx
                                  simp only [Value.slice.injEq] at hv5
                                  obtain ⟨rfl, -, rfl⟩ := hv5
                                  have hbef := stBefalls_ok (ticks := x.ticks) (turn := x.turn) (all := all) H9 (fun L W HH => rd_old HH rE) (fun L W HH => rd_old HH rC) (fun L W HH => rd_old HH rG) TK3.out hf10 hsum1 (by omega) ⟨lo, hi⟩
                                  have hcell := fun W (HH : HL w W (intsR w.heap.size (.slice A7 SS.length c7) SS :: boxA w.heap.size a.now a.free (.slice A0 a.ws.length c0) a.holder (.slice B0 a.l.length d0) :: [])) => turn_at (HT.out _ _ HH) hx
                                  have HCELL := Lib.hid hcell; have Hx := Lib.hid hx
                                  clear rE rC rG lo hi hx hcell
                                  go_upto_if 205 with (go_at_call 33; refine hbef.mono ?_; rintro en w10 ⟨rfl, vw5, vr5, ws5, f5, l5, hL5, hB5, H10⟩; clear hbef H9 s0 s1 s2 s3 s4 e0 e1 e2 e3 e4; obtain ⟨b6, o6, c6, hv6, e0, e1, e2, e3, e4⟩ := HCELL.out _ H10.tail.tail.tail; simp only [Value.slice.injEq, Option.some.injEq, Addr.mk.injEq] at hv6; obtain ⟨⟨rfl, rfl, -⟩, -, rfl⟩ := hv6; have HL5 := Lib.hid hL5; have HB5 := Lib.hid hB5; clear hL5 hB5; obtain ⟨s0, s1, s2, s3, s4⟩ := boxS_cells H10)
                                  clear e0 e1 e2 e3 e4
                                  go_cut [14] (fun s14 wc' => ∃ tk : Int, s14 = .int .i64 tk ∧ w10 = wc' ∧ 1 ≤ tk)
                                  case first =>
                                    as_aux_lemma =>
                                    by_cases h : x.ticks < 1
                                    · go_wp2
                                      go_meet
                                      case rel => exact ⟨1, rfl, rfl, by omega⟩
                                    · go_wp2
                                      go_meet
                                      case rel => exact ⟨x.ticks, rfl, rfl, by omega⟩
                                  case rest =>
                                    as_aux_lemma =>
                                    obtain ⟨tk, rfl, rfl, tk5⟩ := hcut
                                    go_upto_if 207 with (fail)
                                    go_cut [14] (fun s14 wc' => ∃ tk : Int, s14 = .int .i64 tk ∧ w10 = wc' ∧ 1 ≤ tk ∧ tk ≤ 2097152)
                                    case first =>
                                      as_aux_lemma =>
                                      by_cases h : 2097152 < tk
                                      · go_wp2
                                        go_meet
                                        case rel => exact ⟨2097152, rfl, rfl, by omega, by omega⟩
                                      · go_wp2
                                        go_meet
                                        case rel => exact ⟨tk, rfl, rfl, by omega, by omega⟩
                                    case rest =>
                                      as_aux_lemma =>
                                      clear tk5
                                      obtain ⟨tk2, rfl, rfl, tk5, tk6⟩ := hcut
                                      go_upto_region 45 with (fail)
                                      go_cut [219] (fun s219 wc' => w10 = wc' ∧ KeepD till3 nw tk2 s219)
                                      case first =>
                                        as_aux_lemma =>
                                        by_cases h0 : 0 ≤ till3
                                        · by_cases h9 : till3 < nw + tk2
                                          · go_wp2
                                            go_meet
                                            case rel => exact ⟨rfl, by simp [KeepD, h0, h9]⟩
                                          · go_wp2
                                            go_meet
                                            case rel => exact ⟨rfl, by simp [KeepD, h0]; omega⟩
                                        · go_wp2
                                          go_meet
                                          case rel => exact ⟨rfl, by simp [KeepD]; omega⟩
                                      case rest =>
                                        as_aux_lemma =>
                                        obtain ⟨rfl, hB⟩ := hcut
                                        unfold KeepD at hB
                                        subst hB
                                        go_upto_if 219 with (fail)
                                        go_cut [14] (fun s14 wc' => ∃ tk : Int, s14 = .int .i64 tk ∧ w10 = wc' ∧ 1 ≤ tk ∧ tk ≤ 2097152)
                                        case first =>
                                          as_aux_lemma =>
                                          by_cases hb : 0 ≤ till3 ∧ till3 < nw + tk2
                                          · have hb2 : (decide (0 ≤ till3) && decide (till3 < nw + tk2)) = true := by simp [hb]
                                            rw [hb2]
                                            obtain ⟨h0, h9⟩ := hb
                                            have hg := G1.out (G2.out h0)
                                            obtain ⟨hg1, hg2⟩ := hg
                                            clear hb2
                                            go_wp2
                                            go_meet
                                            case rel => exact ⟨till3 - nw, rfl, rfl, by omega, by omega⟩
                                          · have hb2 : (decide (0 ≤ till3) && decide (till3 < nw + tk2)) = false := by
                                              by_cases h0 : 0 ≤ till3
                                              · have : ¬ till3 < nw + tk2 := fun h => hb ⟨h0, h⟩
                                                simp [this]
                                              · simp [h0]
                                            rw [hb2]
                                            clear hb hb2
                                            go_wp2
                                            go_meet
                                            case rel => exact ⟨tk2, rfl, rfl, tk5, tk6⟩
                                        case rest =>
                                          as_aux_lemma =>
                                          clear tk5 tk6
                                          obtain ⟨tk7, rfl, rfl, tk5, tk6⟩ := hcut
                                          have z2 := boxS_frozen H10 (List.mem_cons_self ..) 0
                                          have HS := set_boxS0 (f := nw + tk7) H10
                                          have hl5n : ∀ r ∈ l5, 1 ≤ r.nodes ∧ r.nodes ≤ 256 := fun r hr => TK3.out r (HL5.out.sub.subset hr)
                                          have hf5 : 0 ≤ f5 ∧ f5 + sumN l5 ≤ 256 := by
                                            have := HL5.out.all
                                            have := sumN_sub HL5.out.sub TK3.out
                                            omega
                                          have hends := stEnds_ok (HS.sel 3 [0, 2, 1]) (-1) hl5n hf5.1 hf5.2
                                          have HF5 := Lib.hid hf5
                                          clear hl5n hf5
                                          go_wp2_with (go_at_call 34; refine hends.mono ?_; rintro en w11 ⟨vr6, f6, l6, rfl, hE6, H11⟩; clear hends H10 HS s0 s1 s2 s3 s4 z2; have HE6 := Lib.hid hE6; clear hE6)
                                          go_roundg (gk - 1)
                                          case measure => omega
                                          case rel =>
                                            have hb5 := HB5.out
                                            have hl5 := HL5.out
                                            have hkn := keeps_next (f2 := f5) (f3 := f6) (now' := nw + tk7) (all := all) (ws2 := ws5) (l2 := l5) (l3 := l6) HST.out.may HST.out.sum hbig (by rw [HCH.out, HSS.out, HWS1.out]; exact hb5) (by rw [HSS.out, HF1.out, HL1.out]; exact hl5) HE6.out.less HE6.out.due (by omega) (by omega)
                                            rw [HCH.out, HCSH.out] at hkn
                                            obtain ⟨j1, j2, j3⟩ := hkn
                                            refine ⟨k + 1, till3, csh, nw + tk7, f6, ch, ws5, l6, vw5, vr6, by go_num, rfl, rfl, by omega, by omega, ⟨j1, j2, j3 till3 (fun h => (G1.out h).1) G2.out, ?_, g3⟩, ?_⟩
                                            · have := hb5.few
                                              push_cast
                                              omega
                                            · exact H11.sel 4 [0, 2, 1]
                · have hend : (decide (k ≤ T.length) = false) ∨ (k ≤ T.length ∧ decide ((k : Int) < 400) = false) := by
                    by_cases h : k ≤ T.length
                    · exact .inr ⟨h, decide_eq_false (by omega)⟩
                    · exact .inl (decide_eq_false h)
                  clear hgo hst
                  rcases hend with he | ⟨he1, he⟩
                  all_goals
                    go_wp2
                    go_ret
                    exact ⟨rfl, HK.below⟩
end
end Go.Proofs.Ytebibcaahjmjfaa

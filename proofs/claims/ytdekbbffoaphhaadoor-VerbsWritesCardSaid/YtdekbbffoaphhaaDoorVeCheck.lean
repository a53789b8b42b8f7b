/- Whether a command may be written. -/
import Derived.Test.YtdekbbffoaphhaaDoorVeFields
import Derived.Laws.StructEq
import Derived.StillTailTactics
import Derived.Deep.CutBlock
set_option linter.unusedVariables false
set_option linter.unusedSimpArgs false
namespace Go.Proofs.YtdekbbffoaphhaaDoor
open Go.RowKit Go.Proofs.HL Go.Proofs.Ve
theorem retI {a b : Int} (h : a = b) : Ending.returned (.int .i64 b) = .returned (.int .i64 a) := by rw [h]
theorem map_one (S : List Nat) : (S.map fun j : Nat => Value.int .i64 (j : Int)) = S.flatMap fun j : Nat => [Value.int .i64 (j : Int)] := by
  induction S with
  | nil => rfl
  | cons x S ih => rw [List.map_cons, List.flatMap_cons, ih]; rfl
theorem nat_at {w : World} {v : Value} {l : List Nat} (h : Rd 1 v l.length (l.map fun j : Nat => .int .i64 (j : Int)) w) {k : Nat} {x : Nat} (hx : l[k]? = some x) :
    ∃ b o c, v = .slice (some ⟨b, o, none⟩) l.length c ∧ w.cell? ⟨b, o + k, none⟩ = some (.int .i64 (x : Int)) := by
  rw [map_one] at h
  obtain ⟨b, o, c, h1, -, -, h2⟩ := rd_elem (fun j : Nat => [Value.int .i64 (j : Int)]) 1 (fun _ => rfl) (by decide) h hx
  have := h2 0 _ rfl
  rw [Nat.mul_one, Nat.add_zero] at this
  exact ⟨b, o, c, h1, this⟩
theorem bytes_same {a b : ByteArray} (h : a.toList = b.toList) : a = b := by
  rw [Go.ByteArray.toList_eq, Go.ByteArray.toList_eq] at h
  cases a
  cases b
  congr 1
  exact Array.toList_inj.1 h
theorem rd_shape {w : World} {v : Value} {k n : Nat} {cs : List Value} (h : Rd k v n cs w) : ∃ A c, v = .slice A n c ∧ n ≤ c ∧ c ≤ maxLen := by
  obtain ⟨-, -, a, c, h, h1, h2, -⟩ := id h
  exact ⟨a, c, h, h1, h2⟩
def neqC (o c : Cm) : Bool := !decide (o = c)
theorem cmd_neq (o c : Cm) (w : World) : (binOp .neq 24 (cmV o) (cmV c)).run Tryd.prog w = .ok (.bool (neqC o c)) w := by
  have hu : Tryd.prog.underlying 24 = some (.struct (Tryd.prog.fieldsOf 24)) := by kernel_rfl
  have hp : Tryd.prog.stoodInHeld 24 = false := by kernel_rfl
  unfold cmV
  rw [run_neq_struct, run_equalIn_agg _ _ _ _ _ hu hp]
  clear hu hp
  simp [go_sem]
  by_cases h : o = c
  · subst h
    simp [neqC]
  · have hn : neqC o c = true := by simp [neqC, h]
    rw [hn]
    by_cases h0 : o.kind = c.kind <;> simp only [h0, if_true, if_false]
    by_cases h1 : o.name.toList = c.name.toList <;> simp only [h1, if_true, if_false]
    by_cases h2 : o.par.toList = c.par.toList <;> simp only [h2, if_true, if_false]
    by_cases h3 : o.sh = c.sh <;> simp only [h3, if_true, if_false]
    by_cases h4 : o.nd = c.nd <;> simp only [h4, if_true, if_false]
    by_cases h5 : o.lm = c.lm <;> simp only [h5, if_true, if_false]
    by_cases h6 : o.jb = c.jb <;> simp only [h6, if_true, if_false]
    by_cases h7 : o.tk = c.tk <;> simp only [h7, if_true, if_false]
    refine absurd ?_ h
    obtain ⟨a0, a1, a2, a3, a4, a5, a6, a7⟩ := o
    obtain ⟨b0, b1, b2, b3, b4, b5, b6, b7⟩ := c
    dsimp only at *
    obtain rfl := bytes_same h1
    obtain rfl := bytes_same h2
    subst h0 h3 h4 h5 h6 h7
    rfl
section
variable {w0 w : World} {L : List At}
theorem verb_at {w : World} {v : Value} {us : List Value} (h : VRd w v us) {k : Nat} {V : Verb} (hV : verbL[k]? = some V) : ∃ u b o c, us[k]? = some u ∧ v = .slice (some ⟨b, o, none⟩) 13 c ∧ w.cell? ⟨b, o + k * 3, none⟩ = some (.int .i64 V.kind) ∧ w.cell? ⟨b, o + k * 3 + 1, none⟩ = some (.string V.word) ∧ w.cell? ⟨b, o + k * 3 + 2, none⟩ = some u := by
  have hk : k < 13 := (List.getElem?_eq_some_iff.1 hV).1
  obtain ⟨u, hu⟩ : ∃ u, us[k]? = some u := ⟨_, List.getElem?_eq_getElem (by rw [h.len]; exact hk)⟩
  have hl : (verbL.zip us).length = 13 := by rw [List.length_zip, h.len]; rfl
  have hz : (verbL.zip us)[k]? = some (V, u) := by rw [List.getElem?_zip_eq_some]; exact ⟨hV, hu⟩
  have ht := h.tab
  rw [← hl] at ht
  obtain ⟨b, o, c, h1, -, -, h2⟩ := rd_elem encV 3 (fun _ => rfl) (by decide) ht hz
  rw [hl] at h1
  exact ⟨u, b, o, c, hu, h1, h2 0 _ rfl, h2 1 _ rfl, h2 2 _ rfl⟩
set_option maxRecDepth 100000 in
set_option maxHeartbeats 8000000 in
theorem check_ok (H : HL w0 w L) (c : Cm) (hn : c.name.size ≤ 9223372036854775807) (hp : c.par.size ≤ 9223372036854775807) :
    Calls Tryd.prog 17 #[cmV c] w fun e w' => e = .returned (.int .i64 (checkN c)) ∧ HL w0 w' L := by
  have H1 := HL.allocC H c
  generalize hb1 : w.heap.size = b1 at H1
  unfold cmV
  go_enter Tryd.func17, Tryd.ntmps17
  go_wp2_with (go_at_call 28; refine (verbs_ok H1).mono ?_; rintro e w1 ⟨v, us, K, rfl, H2, hvr⟩; obtain ⟨_, bt, ot, ct, -, rfl, -, -, -⟩ := verb_at (hvr _ _ H2) (k := 0) rfl)
  have HVR := Lib.hid hvr; have Hb1 := Lib.hid hb1
  clear hvr hb1 H H1
  go_loopg [12] 13 (fun g i wr => ∃ k : Nat, i = .int .i64 k ∧ k + g = 13 ∧ (∀ j V, j < k → verbL[j]? = some V → (V.kind == c.kind) = false) ∧ HL w0 wr (K ++ boxC b1 c :: L))
  case atStart => exact ⟨0, rfl, rfl, (fun j V h => by omega), H2⟩
  case round =>
    obtain ⟨k, rfl, hk, hno, HK⟩ := hrel
    clear H2
    have HNO := Lib.hid hno
    clear hno
    by_cases hlt : k < 13
    · obtain ⟨V, hV⟩ : ∃ V, verbL[k]? = some V := ⟨_, List.getElem?_eq_getElem hlt⟩
      obtain ⟨u, b2, o2, c2, hu, hv, d0, d1, d2⟩ := verb_at (HVR.out _ _ HK) hV
      simp only [Value.slice.injEq, Option.some.injEq, Addr.mk.injEq] at hv
      obtain ⟨⟨rfl, rfl, -⟩, -, rfl⟩ := hv
      have hF := (HVR.out _ _ HK).fs k V u hV hu
      obtain ⟨Au, cu, rfl, hu1, hu2⟩ := rd_shape hF
      unfold maxLen at hu2
      have hVle := fs_le V (List.mem_of_getElem? hV)
      have HV := Lib.hid hV; have HU := Lib.hid hu; have HLE := Lib.hid hVle
      clear hV hu hF hVle
      have HX := (HL.allocV HK V (.slice Au V.fs.length cu))
      generalize hb4 : wr.heap.size = b4 at HX
      have e1 := boxC_at HX (b := b1) (c := c) (by simp) 0
      by_cases hkd : V.kind = c.kind
      · have hq : (V.kind != c.kind) = false := by simp [hkd]
        have HQ := Lib.hid hkd
        clear hkd
        have HY := HL.allocC HX (zeroC c.kind)
        rw [World.size_alloc, hb4] at HY
        have hfind : verbL.find? (fun v => v.kind == c.kind) = some V := find_at verbL k V HV.out (by simp [HQ.out]) HNO.out
        have hokv : checkB c = okV c V := by unfold checkB; rw [hfind]
        have HOKV := Lib.hid hokv
        clear hfind hokv
        go_wp2
        clear e1 hq
        rw [show decide ((k : Int) < 13) = true from decide_eq_true (by omega)]
        go_loopg [27] V.fs.length (fun g i wq => ∃ (j : Nat) (o : Cm), i = .int .i64 j ∧ j + g = V.fs.length ∧ chk c (zeroC c.kind) V.fs = chk c o (V.fs.drop j) ∧ HL w0 wq (boxC (b4 + 1) o :: boxV b4 V (.slice Au V.fs.length cu) :: (K ++ boxC b1 c :: L)))
        case atStart => exact ⟨0, zeroC c.kind, rfl, by omega, rfl, HY⟩
        case round =>
          obtain ⟨j, o, rfl, hj, hch, HJ⟩ := hrel
          clear HY HX HK d0 d1 d2
          have HCH := Lib.hid hch
          clear hch
          by_cases hlj : j < V.fs.length
          · obtain ⟨f, hf⟩ : ∃ f, V.fs[j]? = some f := ⟨_, List.getElem?_eq_getElem hlj⟩
            have hf6 := HLE.out f (List.mem_of_getElem? hf)
            have hdrop : V.fs.drop j = f :: V.fs.drop (j + 1) := by rw [List.drop_eq_getElem_cons hlj]; congr 1; exact (List.getElem?_eq_some_iff.1 hf).2
            obtain ⟨bf, of', cf, hvf, df⟩ := nat_at ((HVR.out _ _ HJ.tail.tail).fs k V _ HV.out HU.out) hf
            simp only [Value.slice.injEq] at hvf
            obtain ⟨rfl, -, rfl⟩ := hvf
            have HDR := Lib.hid hdrop
            clear hdrop hf
            by_cases hf2 : f < 2
            · have hsz : (txtF c f).size ≤ 9223372036854775807 := by unfold txtF; split <;> assumption
              have ct := boxC_txt HJ (b := b1) (c := c) (by simp) hf2
              by_cases hv : validB (txtF c f) = true
              · have hvc : ∀ W, Calls Tryd.prog 13 #[.string (txtF c f)] W fun e w' => e = .returned (.bool true) ∧ W = w' := fun W => by have := valid_ok (txtF c f) hsz W; rwa [hv] at this
                have hnx : chk c o (V.fs.drop j) = chk c (setT o f (txtF c f)) (V.fs.drop (j + 1)) := by rw [HDR.out]; simp only [chk]; rw [if_pos hf2, if_pos hv]
                have HNX := Lib.hid hnx
                clear hv hnx
                go_wp2_with (first
                  | (go_at_call 36; refine (text_yes b1 f hf2 _).mono ?_; rintro e w2 ⟨rfl, rfl⟩)
                  | (go_at_call 13; refine (hvc _).mono ?_; rintro e w2 ⟨rfl, rfl⟩))
                refine wp_region_cut 5 (by kernel_rfl) (by kernel_rfl) ?_
                simp only [List.take_succ_cons, List.take_zero, List.drop_succ_cons, List.drop_zero]
                repeat (go_big_quiet_step ((go_at_call 36; exact Calls.quiet_of_same ((text_yes (b4 + 1) f hf2 _).mono fun _ _ h => ⟨h.1, h.2.symm⟩))))
                refine wpQuiet_nil ?_
                intro nq
                have HN := HJ.drewN nq
                have z1 := boxC_frozen HN (List.mem_cons_self ..) (f + 1)
                have z2 := boxC_txt HN (List.mem_cons_self ..) hf2
                have HS := boxC_setT HN hf2 (txtF c f)
                clear HN HJ ct df
                go_wp2
                go_roundg (gk - 1)
                case measure => omega
                case rel => exact ⟨j + 1, setT o f (txtF c f), by go_num, by omega, HCH.out.trans HNX.out, HS⟩
              · have hv2 : validB (txtF c f) = false := by simpa using hv
                have hvc : ∀ W, Calls Tryd.prog 13 #[.string (txtF c f)] W fun e w' => e = .returned (.bool false) ∧ W = w' := fun W => by have := valid_ok (txtF c f) hsz W; rwa [hv2] at this
                have hN : checkN c = 84 := checkN_no (by rw [HOKV.out]; unfold okV; rw [HCH.out, HDR.out]; simp only [chk]; rw [if_pos hf2, if_neg hv])
                have HN := Lib.hid hN
                clear hv hv2 hN
                go_wp2_with (first
                  | (go_at_call 36; refine (text_yes b1 f hf2 _).mono ?_; rintro e w2 ⟨rfl, rfl⟩)
                  | (go_at_call 13; refine (hvc _).mono ?_; rintro e w2 ⟨rfl, rfl⟩))
                go_ret
                exact ⟨retI HN.out, (HL.drops HJ.tail.tail).tail⟩
            · have hf2' : 2 ≤ f := by omega
              have cn := boxC_num HJ (b := b1) (c := c) (by simp) hf2' hf6
              by_cases hneg : numF c f < 0
              · have hN : checkN c = 84 := checkN_no (by rw [HOKV.out]; unfold okV; rw [HCH.out, HDR.out]; simp only [chk]; rw [if_neg hf2, if_pos hneg])
                have HN := Lib.hid hN
                clear hN
                go_wp2_with (first
                  | (go_at_call 36; refine (text_no b1 f hf2' hf6 _).mono ?_; rintro e w2 ⟨rfl, rfl⟩)
                  | (go_at_call 38; refine (number_ok b1 f hf2' hf6 _).mono ?_; rintro e w2 ⟨rfl, rfl⟩))
                go_ret
                exact ⟨retI HN.out, (HL.drops HJ.tail.tail).tail⟩
              · have hnx : chk c o (V.fs.drop j) = chk c (setN o f (numF c f)) (V.fs.drop (j + 1)) := by rw [HDR.out]; simp only [chk]; rw [if_neg hf2, if_neg hneg]
                have HNX := Lib.hid hnx
                have z1 := boxC_frozen HJ (List.mem_cons_self ..) (f + 1)
                have z2 := boxC_num HJ (List.mem_cons_self ..) hf2' hf6
                have HS := boxC_setN HJ hf2' hf6 (numF c f)
                clear hnx HJ
                go_wp2_with (first
                  | (go_at_call 36; refine (text_no b1 f hf2' hf6 _).mono ?_; rintro e w2 ⟨rfl, rfl⟩)
                  | (go_at_call 38; first | ((with_reducible refine (number_ok b1 f hf2' hf6 _).mono ?_); rintro e w2 ⟨rfl, rfl⟩) | ((with_reducible refine (number_ok (b4 + 1) f hf2' hf6 _).mono ?_); rintro e w2 ⟨rfl, rfl⟩)))
                go_roundg (gk - 1)
                case measure => omega
                case rel => exact ⟨j + 1, setN o f (numF c f), by go_num, by omega, HCH.out.trans HNX.out, HS⟩
          · have hend : chk c (zeroC c.kind) V.fs = some o := by
              have := HCH.out
              rw [List.drop_eq_nil_of_le (by omega)] at this
              exact this
            have c0 := boxC_at HJ (b := b4 + 1) (c := o) (List.mem_cons_self ..)
            have c1 := boxC_at HJ (b := b1) (c := c) (by simp)
            have n0 := c0 0; have n1 := c0 1; have n2 := c0 2; have n3 := c0 3; have n4 := c0 4; have n5 := c0 5; have n6 := c0 6; have n7 := c0 7
            have m0 := c1 0; have m1 := c1 1; have m2 := c1 2; have m3 := c1 3; have m4 := c1 4; have m5 := c1 5; have m6 := c1 6; have m7 := c1 7
            have hcmp := fun W => cmd_neq o c W
            unfold cmV at hcmp
            by_cases ho : o = c
            · have hN : checkN c = 0 := checkN_yes (by rw [HOKV.out]; unfold okV; rw [hend]; simp [ho])
              have hq : neqC o c = false := by simp [neqC, ho]
              rw [hq] at hcmp
              have HN := Lib.hid hN
              clear hN hend hq c0 c1 ho
              go_wp2
              go_ret
              exact ⟨retI HN.out, (HL.drops HJ.tail.tail).tail⟩
            · have hN : checkN c = 84 := checkN_no (by rw [HOKV.out]; unfold okV; rw [hend]; simp [ho])
              have hq : neqC o c = true := by simp [neqC, ho]
              rw [hq] at hcmp
              have HN := Lib.hid hN
              clear hN hend hq c0 c1 ho
              go_wp2
              go_ret
              exact ⟨retI HN.out, (HL.drops HJ.tail.tail).tail⟩
      · have hq : (V.kind != c.kind) = true := by simp [hkd]
        have HQ := Lib.hid (show (V.kind == c.kind) = false by simp [hkd])
        clear hkd
        go_wp2
        go_roundg (gk - 1)
        case measure => omega
        case rel =>
          refine ⟨k + 1, by go_num, by omega, fun j V2 hj hV2 => ?_, HX.tail⟩
          rcases Nat.lt_or_ge j k with h | h
          · exact HNO.out j V2 h hV2
          · obtain rfl : j = k := by omega
            rw [HV.out] at hV2
            obtain rfl := Option.some.inj hV2
            exact HQ.out
    · have hN : checkN c = 84 := checkN_no (by unfold checkB; rw [find_no (fun j V hj hV => HNO.out j V (Nat.lt_of_lt_of_le hj (by have : verbL.length = 13 := rfl; omega)) hV)])
      have HN := Lib.hid hN
      clear hN
      go_wp2
      go_ret
      exact ⟨retI HN.out, (HL.drops HK).tail⟩
end
end Go.Proofs.YtdekbbffoaphhaaDoor

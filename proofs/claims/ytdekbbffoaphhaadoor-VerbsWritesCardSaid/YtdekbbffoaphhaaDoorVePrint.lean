/- A command is written. -/
import Derived.Test.YtdekbbffoaphhaaDoorVeWords
import Derived.Test.YtdekbbffoaphhaaDoorVePrintP
import Derived.Lib.ItoaLen
set_option linter.unusedVariables false
set_option linter.unusedSimpArgs false
namespace Go.Proofs.YtdekbbffoaphhaaDoor
open Go.RowKit Go.Proofs.HL Go.Proofs.Ve
/-- What a machine's command is. -/
structure CmOk (c : Cm) : Prop where
  name : c.name.size ≤ 140737488351232
  par : c.par.size ≤ 140737488351232
  nums : ∀ f, -9223372036854775808 ≤ numF c f ∧ numF c f ≤ 9223372036854775807
section
variable {w0 w : World} {L : List At}
set_option maxRecDepth 100000 in
set_option maxHeartbeats 8000000 in
theorem print_no (H : HL w0 w L) (c : Cm) (hc : CmOk c) (hno : checkB c = false) :
    Calls Tryd.prog 15 #[cmV c] w fun e w' => e = .returned (.tuple #[.string ⟨#[]⟩, .int .i64 84]) ∧ HL w0 w' L := by
  have H1 := HL.allocC H c
  have hck := check_ok H1 c (by have := hc.name; omega) (by have := hc.par; omega)
  rw [checkN_no hno] at hck
  have c1 := boxC_at H1 (b := w.heap.size) (c := c) (List.mem_cons_self ..)
  generalize hb1 : w.heap.size = b1 at *
  unfold cmV at hck ⊢
  have n0 := c1 0; have n1 := c1 1; have n2 := c1 2; have n3 := c1 3; have n4 := c1 4; have n5 := c1 5; have n6 := c1 6; have n7 := c1 7
  clear c1
  go_enter Tryd.func15, Tryd.ntmps15
  go_wp2_with (go_at_call 17; refine hck.mono ?_; rintro e w2 ⟨rfl, H2⟩; clear hck)
  go_ret2
  exact ⟨rfl, H2.tail⟩
set_option maxRecDepth 100000 in
set_option maxHeartbeats 8000000 in
theorem print_ok (hD : Doors w0) (H : HL w0 w L) (c : Cm) (hc : CmOk c) (hyes : checkB c = true) :
    Calls Tryd.prog 15 #[cmV c] w fun e w' => e = .returned (.tuple #[.string ⟨(printL c).toArray⟩, .int .i64 0]) ∧ HL w0 w' L := by
  have H1 := HL.allocC H c
  have hck := check_ok H1 c (by have := hc.name; omega) (by have := hc.par; omega)
  rw [checkN_yes hyes] at hck
  have c1 := boxC_at H1 (b := w.heap.size) (c := c) (List.mem_cons_self ..)
  generalize hb1 : w.heap.size = b1 at *
  unfold cmV at hck ⊢
  have n0 := c1 0; have n1 := c1 1; have n2 := c1 2; have n3 := c1 3; have n4 := c1 4; have n5 := c1 5; have n6 := c1 6; have n7 := c1 7
  have HY := Lib.hid hyes; have HC := Lib.hid hc
  clear c1 hyes hc H
  go_enter Tryd.func15, Tryd.ntmps15
  go_wp2_with (first
    | (go_at_call 17; refine hck.mono ?_; rintro e w2 ⟨rfl, H2⟩; clear hck H1 n0 n1 n2 n3 n4 n5 n6 n7)
    | (go_at_call 28; refine (verbs_ok H2).mono ?_; rintro e w1 ⟨v, us, K, rfl, H3, hvr⟩; obtain ⟨_, bt, ot, ct, -, rfl, -, -, -⟩ := verb_at (hvr _ _ H3) (k := 0) rfl))
  have HVR := Lib.hid hvr
  have H4 : HL w0 w1 (strs w0.heap.size (.slice none 0 0) [] :: (K ++ boxC b1 c :: L)) := HL.nilRow H3 _ _ _
  have Hb1 := Lib.hid hb1
  clear hvr H2 H3 hb1
  go_loopg [5, 18] 13 (fun g v5 i wr => ∃ (k : Nat) (xs : List ByteArray), i = .int .i64 k ∧ k + g = 13 ∧ xs = wordsTo c k ∧ xs.length ≤ 4 * k ∧ HL w0 wr (strs w0.heap.size v5 xs :: (K ++ boxC b1 c :: L)))
  case atStart => exact ⟨0, [], rfl, rfl, rfl, by simp, H4⟩
  case round =>
    obtain ⟨k, xs, rfl, hk, hxs, hxl, HK⟩ := hrel
    clear H4
    have HXS := Lib.hid hxs
    clear hxs
    obtain ⟨A5, c5, rfl, -, h51, h52⟩ := row_shape (show wr.ownsRow w0.heap.size 9 1 u5 xs.length (xs.map fun s => .string s) from HK.head)
    by_cases hlt : k < 13
    · obtain ⟨V, hV⟩ : ∃ V, verbL[k]? = some V := ⟨_, List.getElem?_eq_getElem hlt⟩
      obtain ⟨u, b2, o2, c2, hu, hv, d0, d1, d2⟩ := verb_at (HVR.out _ _ HK.tail) hV
      simp only [Value.slice.injEq, Option.some.injEq, Addr.mk.injEq] at hv
      obtain ⟨⟨rfl, rfl, -⟩, -, rfl⟩ := hv
      have hF := (HVR.out _ _ HK.tail).fs k V u hV hu
      obtain ⟨Au, cu, rfl, hu1, hu2⟩ := rd_shape hF
      unfold maxLen at hu2 h52
      have hVm := List.mem_of_getElem? hV
      have hfew := fs_few V hVm
      have hVle := fs_le V hVm
      have HV := Lib.hid hV; have HU := Lib.hid hu; have HLE := Lib.hid hVle
      clear hV hu hF hVle hVm
      have HX := (HL.allocV HK V (.slice Au V.fs.length cu))
      generalize hb4 : wr.heap.size = b4 at HX
      have e1 := boxC_at HX (b := b1) (c := c) (by simp) 0
      by_cases hkd : V.kind = c.kind
      · have hq : (V.kind != c.kind) = false := by simp [hkd]
        have HQ := Lib.hid hkd
        clear hkd
        have hfind : verbL.find? (fun v => v.kind == c.kind) = some V := by
          obtain ⟨V', o, hf, ho, -⟩ := check_find HY.out
          have h2 := kinds13 hf
          have h3 : V ∈ verbL.filter (fun v => v.kind == c.kind) := List.mem_filter.2 ⟨List.mem_of_getElem? HV.out, by simp [HQ.out]⟩
          rw [h2] at h3
          rw [hf, List.mem_singleton.1 h3]
        have HFIND := Lib.hid hfind
        clear hfind
        have v0 := boxV_at HX (List.mem_cons_self ..) 0
        have v1 := boxV_at HX (List.mem_cons_self ..) 1
        have v2 := boxV_at HX (List.mem_cons_self ..) 2
        have HX2 := (HX.alloc' (.cells #[.string V.word] 9)).sel 2 [1, 0]
        have hr4 := rd_str (w := wr.alloc (.cells #[.int .i64 V.kind, .string V.word, .slice Au V.fs.length cu] 60)) (y := V.word)
        rw [World.size_alloc, hb4] at hr4
        go_wp2_with (at_builtin; refine append_str (v := .slice A5 xs.length c5) (xs := xs) (y := V.word) (b := b4 + 1) rfl _ _ rfl HX2 rfl rfl hr4 (by omega) ?_; intro z5 w5 H5; clear HX HX2 hr4 HK d0 d1 d2 e1 v0 v1 v2; have v2 := boxV_at H5 (b := b4) (V := V) (u := .slice Au V.fs.length cu) (by simp) 2)
        clear v2
        have H6 := H5
        clear H5
        try rw [show decide ((k : Int) < 13) = true from decide_eq_true (by omega)]
        go_loopg [5, 35] V.fs.length (fun g v5 i wq => ∃ (j : Nat) (ys : List ByteArray), i = .int .i64 j ∧ j + g = V.fs.length ∧ ys = xs ++ V.word :: (V.fs.take j).map (fldB c) ∧ ys.length = xs.length + 1 + j ∧ HL w0 wq (strs w0.heap.size v5 ys :: boxV b4 V (.slice Au V.fs.length cu) :: (K ++ boxC b1 c :: L)))
        case atStart => exact ⟨0, xs ++ [V.word], rfl, by omega, rfl, by simp, H6⟩
        case round =>
          obtain ⟨j, ys, rfl, hj, hys, hyl, HJ⟩ := hrel
          clear H6
          have HYS := Lib.hid hys
          clear hys
          by_cases hlj : j < V.fs.length
          · obtain ⟨f, hf⟩ : ∃ f, V.fs[j]? = some f := ⟨_, List.getElem?_eq_getElem hlj⟩
            have hf6 := HLE.out f (List.mem_of_getElem? hf)
            obtain ⟨bf, of', cf, hvf, df⟩ := nat_at ((HVR.out _ _ HJ.tail.tail).fs k V _ HV.out HU.out) hf
            simp only [Value.slice.injEq] at hvf
            obtain ⟨rfl, -, rfl⟩ := hvf
            have hnext : (V.fs.take (j + 1)).map (fldB c) = (V.fs.take j).map (fldB c) ++ [fldB c f] := by rw [List.take_add_one, hf, List.map_append]; rfl
            have HNX := Lib.hid hnext
            clear hnext hf
            have hrel2 : ∀ (y : ByteArray), y = fldB c f → ys ++ [y] = xs ++ V.word :: (V.fs.take (j + 1)).map (fldB c) := fun y hy => by
              rw [HNX.out, HYS.out, hy]; simp
            have HR2 := Lib.hid hrel2
            clear hrel2
            by_cases hf2 : f < 2
            · have ct := boxC_txt HJ (b := b1) (c := c) (by simp) hf2
              have HY2 := Lib.hid (HR2.out (txtF c f) (by unfold fldB; rw [if_pos hf2]))
              have HA := HJ.alloc' (.cells #[.string (txtF c f)] 9)
              have hr4 := rd_str (w := wr) (y := txtF c f)
              go_wp2_with (first
                | (go_at_call 36; refine (text_yes b1 f hf2 _).mono ?_; rintro e w2 ⟨rfl, rfl⟩)
                | (at_builtin; refine append_str (v := u5) (xs := ys) (y := txtF c f) (b := wr.heap.size) rfl _ _ rfl HA rfl rfl hr4 (by omega) ?_; intro z5 w8 H8; clear HA hr4 HJ ct df))
              go_roundg (gk - 1)
              case measure => omega
              case rel => exact ⟨j + 1, ys ++ [txtF c f], by go_num, by omega, HY2.out, by rw [List.length_append]; simp only [List.length_cons, List.length_nil]; omega, H8⟩
            · have hf2' : 2 ≤ f := by omega
              have cn := boxC_num HJ (b := b1) (c := c) (by simp) hf2' hf6
              have HY2 := Lib.hid (HR2.out (⟨(Lib.itoa (numF c f)).toArray⟩ : ByteArray) (by unfold fldB; rw [if_neg hf2]))
              obtain ⟨bd1, bd2⟩ := HC.out.nums f
              have hit := itoa_ok hD HJ (numF c f) bd1 bd2
              go_wp2_with (first
                | (go_at_call 36; refine (text_no b1 f hf2' hf6 _).mono ?_; rintro e w2 ⟨rfl, rfl⟩)
                | (go_at_call 38; refine (number_ok b1 f hf2' hf6 _).mono ?_; rintro e w2 ⟨rfl, rfl⟩)
                | (go_at_call 37; refine hit.mono ?_; rintro e w7 ⟨rfl, H7⟩; clear hit HJ cn df; have HA := H7.alloc' (.cells #[.string ⟨(Lib.itoa (numF c f)).toArray⟩] 9); have hr4 := rd_str (w := w7) (y := ⟨(Lib.itoa (numF c f)).toArray⟩))
                | (at_builtin; refine append_str (v := u5) (xs := ys) (y := ⟨(Lib.itoa (numF c f)).toArray⟩) (b := w7.heap.size) rfl _ _ rfl HA rfl rfl hr4 (by omega) ?_; intro z5 w8 H8; clear HA hr4 H7))
              go_roundg (gk - 1)
              case measure => omega
              case rel => exact ⟨j + 1, ys ++ [⟨(Lib.itoa (numF c f)).toArray⟩], by go_num, by omega, HY2.out, by rw [List.length_append]; simp only [List.length_cons, List.length_nil]; omega, H8⟩
          · have hw : ys = wordsTo c (k + 1) := by
              rw [wordsTo_yes HV.out (by simp [HQ.out]), HYS.out, HXS.out, List.take_of_length_le (by omega)]
              rfl
            have HW := Lib.hid hw
            clear hw
            go_wp2
            go_roundg (12 - k)
            case measure => omega
            case rel => exact ⟨k + 1, ys, by go_num, by omega, HW.out, by omega, HJ.sel 2 [0]⟩
      · have hq : (V.kind != c.kind) = true := by simp [hkd]
        have HQ := Lib.hid (show (V.kind == c.kind) = false by simp [hkd])
        clear hkd
        go_wp2
        go_roundg (gk - 1)
        case measure => omega
        case rel => exact ⟨k + 1, xs, by go_num, by omega, by rw [wordsTo_no HV.out HQ.out]; exact HXS.out, by omega, HX.tail⟩
    · have hk13 : k = 13 := by omega
      subst hk13
      obtain ⟨V, o, hfind, hch, -⟩ := check_find HY.out
      have hall := wordsTo_all hfind
      have hsz : ∀ x ∈ xs, x.size ≤ 32 := fun x hx => by
        rw [HXS.out, hall] at hx
        rcases List.mem_cons.1 hx with rfl | hx
        · have := word_few V (List.mem_of_find?_eq_some hfind); omega
        · obtain ⟨f, hf, rfl⟩ := List.mem_map.1 hx
          exact fld_size (fun h2 => chk_valid _ _ _ hch f hf h2) (fun f => Lib.itoa_length_le _ (HC.out.nums f).1 (HC.out.nums f).2)
      have hne : xs ≠ [] := by rw [HXS.out, hall]; exact List.cons_ne_nil _ _
      have hl := line_ok HK hsz hne (by omega) (by omega)
      rw [show Lib.join (xs.map (·.data.toList)) [32] = printL c from by rw [HXS.out]; rfl] at hl
      clear hall hsz hne hfind hch
      go_wp2_with (go_at_call 39; refine hl.mono ?_; rintro e w8 ⟨rfl, H8⟩; clear hl HK)
      go_ret2
      exact ⟨rfl, (HL.drops H8).tail⟩
end
end Go.Proofs.YtdekbbffoaphhaaDoor

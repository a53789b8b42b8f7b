/- Whether an answer is more than the bound of the document (the law's heavy). An answer with its events, and without: the texts. What is known of an answer that came in. -/
import Derived.Test.YtdekbbffoaphhaaGreatDoorAnShown
set_option linter.unusedVariables false
set_option linter.unusedSimpArgs false
namespace Go.Proofs.An
def lens (es : List Ev) : Nat := (es.map fun e => e.list.length).sum
def total (a : Ans) : Nat := a.job.set.length + a.ranks.length + a.events.length + lens a.events
theorem lens_snoc (es : List Ev) (e : Ev) : lens (es ++ [e]) = lens es + e.list.length := by simp [lens]
theorem lens_take (es : List Ev) (k : Nat) : lens (es.take k) ≤ lens es := by
  have e : lens es = lens (es.take k) + lens (es.drop k) := by
    conv => lhs; rw [← List.take_append_drop k es]
    simp [lens, -List.take_append_drop]
  omega
end Go.Proofs.An
namespace Go.Proofs.YtdekbbffoaphhaaGreatDoor
open Go.RowKit Go.Proofs.HL Go.Proofs.An
section
variable {w0 w : World} {L : List At}
set_option maxRecDepth 100000 in
set_option maxHeartbeats 8000000 in
theorem heavy_ok (H : HL w0 w L) (a : Ans) (Ae As Ar : Option Addr) (ce cs cr : Nat) {ps : List (Ev × Value)} (hps : a.events = ps.map (·.1)) (hE : Evs w0 L (.slice Ae a.events.length ce) ps) (hs : a.job.set.length ≤ 17592186044416) (hr : a.ranks.length ≤ 17592186044416) (he : a.events.length ≤ 17592186044416) (hl : ∀ e ∈ a.events, e.list.length ≤ 17592186044416) :
    Calls Tryz.prog 5 #[ansV a (.slice Ae a.events.length ce) (.slice As a.job.set.length cs) (.slice Ar a.ranks.length cr)] w fun e w' => e = .returned (.bool (decide (4194304 < total a))) ∧ HL w0 w' L := by
  have H1 := HL.allocA H a (.slice Ae a.events.length ce) (.slice As a.job.set.length cs) (.slice Ar a.ranks.length cr)
  have c2 := HL.cell H1 2
  have c10 := HL.cell H1 10
  have c11 := HL.cell H1 11
  have hE1 := hE.cons (boxA w.heap.size a (.slice Ae a.events.length ce) (.slice As a.job.set.length cs) (.slice Ar a.ranks.length cr))
  have hw1 : IntKind.i64.wrap ((a.job.set.length : Int) + (a.ranks.length : Int)) = (a.job.set.length : Int) + (a.ranks.length : Int) := by rw [IntWalk.i64_in] <;> omega
  have hw2 : IntKind.i64.wrap ((a.job.set.length : Int) + (a.ranks.length : Int) + (a.events.length : Int)) = (a.job.set.length : Int) + (a.ranks.length : Int) + (a.events.length : Int) := by rw [IntWalk.i64_in] <;> omega
  have HPS := Lib.hid hps; have HLE := Lib.hid hl; have HE := Lib.hid hE1
  have hto : total a = a.job.set.length + a.ranks.length + a.events.length + lens a.events := rfl
  have HTO := Lib.hid hto
  obtain ⟨-, -, ad, cc, hv, hcc1, hcc2, -, -⟩ := hE1.rd _ H1
  simp only [Value.slice.injEq] at hv
  obtain ⟨rfl, hpl, rfl⟩ := hv
  have HPL := Lib.hid hpl
  unfold maxLen at hcc2
  rw [← hpl] at hcc1
  unfold ansV
  generalize hb1 : w.heap.size = b1 at *
  clear H hps hl hE hE1 hto hpl
  go_enter Tryz.func5, Tryz.ntmps5
  go_upto_block 0 with (fail)
  have HB1 := Lib.hid hb1
  clear hb1
  generalize World.alloc _ _ = W at *
  obtain ⟨T, hT⟩ : ∃ T : Nat, T = a.job.set.length + a.ranks.length + a.events.length := ⟨_, rfl⟩
  have hTi : (a.job.set.length : Int) + (a.ranks.length : Int) + (a.events.length : Int) = (T : Int) := by omega
  have hT3 : T ≤ 52776558133248 := by omega
  rw [hTi]
  have HT := Lib.hid hT
  clear hw1 hw2 hT hTi c10 c11
  go_wp2
  go_loopg [3, 4] a.events.length (fun g n i wr => ∃ (k m : Nat), i = .int .i64 k ∧ n = .int .i64 m ∧ k + g = a.events.length ∧ m = T + lens (a.events.take k) ∧ (k = 0 ∨ T + lens (a.events.take (k - 1)) ≤ 4194304) ∧ wr = W)
  case atStart => exact ⟨0, T, rfl, rfl, by omega, by simp [lens], .inl rfl, rfl⟩
  case round =>
    obtain ⟨k, m, rfl, rfl, hk, hm, hm2, rfl⟩ := hrel
    have hmb : m ≤ 70368744177664 := by
      rcases hm2 with rfl | h
      · simp [lens] at hm; omega
      · by_cases hk0 : k = 0
        · subst hk0; simp [lens] at hm; omega
        · obtain ⟨e, he2⟩ : ∃ e, a.events[k - 1]? = some e := ⟨_, List.getElem?_eq_getElem (by omega)⟩
          have h3 : a.events.take k = a.events.take (k - 1) ++ [e] := by
            rw [show k = k - 1 + 1 by omega, List.take_add_one, Nat.add_sub_cancel, he2]; rfl
          rw [h3, lens_snoc] at hm
          have := HLE.out e (List.mem_of_getElem? he2)
          omega
    have HM := Lib.hid hm
    clear hm hm2
    by_cases hlt : k < a.events.length
    · have d1 : decide ((k : Int) < (a.events.length : Int)) = true := decide_eq_true (by omega)
      by_cases hle : m ≤ 4194304
      · have d2 : decide ((m : Int) ≤ 4194304) = true := decide_eq_true (by omega)
        obtain ⟨⟨e, v⟩, hp⟩ : ∃ p, ps[k]? = some p := ⟨_, List.getElem?_eq_getElem (by rw [← HPL.out]; exact hlt)⟩
        have hev : a.events[k]? = some e := by rw [HPS.out, List.getElem?_map, hp]; rfl
        obtain ⟨b', o', c', hv, d0, d1', d2', d3', d4', d5⟩ := ev_at (HE.out.rd _ H1) hp
        simp only [Value.slice.injEq] at hv
        obtain ⟨rfl, -, rfl⟩ := hv
        dsimp only at d5
        have ho := HE.out.own (e, v) (List.mem_of_getElem? hp) _ H1
        dsimp only at ho
        obtain ⟨Au, cu, rfl, -, -⟩ := rd_shape ho
        clear ho
        have hel := HLE.out e (List.mem_of_getElem? hev)
        have hnx : m + e.list.length = T + lens (a.events.take (k + 1)) := by
          rw [List.take_add_one, hev]
          show _ = T + lens (a.events.take k ++ [e])
          rw [lens_snoc, HM.out]
          omega
        have hwm : IntKind.i64.wrap ((m : Int) + (e.list.length : Int)) = ((m + e.list.length : Nat) : Int) := by rw [IntWalk.i64_in] <;> omega
        have HNX := Lib.hid hnx; have HP := Lib.hid hp; have HEV := Lib.hid hev
        clear d0 d1' d2' d3' d4' hnx hp hev
        go_wp2
        go_roundg (gk - 1)
        case measure => omega
        case rel => exact ⟨k + 1, m + e.list.length, by go_num, by first | rfl | exact congrArg (Value.int .i64) hwm, by omega, HNX.out, .inr (by rw [Nat.add_sub_cancel, ← HM.out]; exact hle), rfl⟩
      · have d2 : decide ((m : Int) ≤ 4194304) = false := decide_eq_false (by omega)
        have hgt : decide (4194304 < total a) = true := decide_eq_true (by
          have h1 := HM.out
          have h2 := lens_take a.events k
          rw [HTO.out, ← HT.out]
          omega)
        have HG := Lib.hid hgt
        have d3 : decide ((4194304 : Int) < (m : Int)) = true := decide_eq_true (by omega)
        clear hgt
        go_wp2
        go_ret
        exact ⟨retBo HG.out, H1.tail⟩
    · have d1 : decide ((k : Int) < (a.events.length : Int)) = false := decide_eq_false (by omega)
      have hq : decide (4194304 < total a) = decide ((4194304 : Int) < (m : Int)) := by
        have h1 := HM.out
        rw [List.take_of_length_le (by omega)] at h1
        rw [HTO.out, ← HT.out, ← h1, Bool.eq_iff_iff]
        simp
        omega
      have HQ := Lib.hid hq
      clear hq
      cases d3 : decide ((4194304 : Int) < (m : Int))
      all_goals
        rw [d3] at HQ
        go_wp2
        go_ret
        exact ⟨retBo HQ.out, H1.tail⟩
end
end Go.Proofs.YtdekbbffoaphhaaGreatDoor
namespace Go.Proofs.An
theorem evT_most2 {e : Ev} (hok : EvOk e) : (evT e).length ≤ 22 * e.list.length + 120 := by
  have n4 := numsT_len [e.job, e.tm, e.nd, e.lm] (fits4 hok)
  have n2 := numsT_len [e.job, e.tm] (fits2 hok)
  have n1 := numsT_len [e.tm] (fits1 hok)
  have nl := numsT_len e.list hok.fits
  have s1 : (stW e.nd).data.toList.length ≤ 9 := stW_size e.nd
  simp only [List.length_cons, List.length_nil] at n4 n2 n1
  unfold evT
  repeat' split
  all_goals
    simp only [List.length_append, List.length_cons, List.length_nil]
    omega
structure EvPre (e : Ev) : Prop where
  job : An.Int64 e.job
  tm : An.Int64 e.tm
  nd : An.Int64 e.nd
  lm : An.Int64 e.lm
  fits : Fits e.list
  len : e.list.length ≤ 17592186044416
structure AnsPre (a : Ans) : Prop where
  code : An.Int64 a.code
  id : An.Int64 a.id
  events : ∀ e ∈ a.events, EvPre e
  lenE : a.events.length ≤ 17592186044416
  acc : An.Int64 a.job.acc
  nodes : An.Int64 a.job.nodes
  lim : An.Int64 a.job.lim
  sub : An.Int64 a.job.sub
  st : An.Int64 a.job.st
  start : An.Int64 a.job.start
  fin : An.Int64 a.job.fin
  set : Fits a.job.set
  lenS : a.job.set.length ≤ 17592186044416
  ranks : ∀ r ∈ a.ranks, An.Int64 r.job ∧ An.Int64 r.prio
  lenR : a.ranks.length ≤ 17592186044416
  raw : An.Int64 a.raw
  usage : 0 ≤ a.usage ∧ a.usage < 18446744073709551616
  factor : 0 ≤ a.factor ∧ a.factor < 18446744073709551616
  free : An.Int64 a.free
  holder : An.Int64 a.holder
  shadow : An.Int64 a.shadow
  c0 : An.Int64 a.cfg.c0
  c1 : An.Int64 a.cfg.c1
  c2 : An.Int64 a.cfg.c2
  c3 : An.Int64 a.cfg.c3
  c4 : An.Int64 a.cfg.c4
  c5 : An.Int64 a.cfg.c5
  c6 : An.Int64 a.cfg.c6
  c7 : An.Int64 a.cfg.c7
  bound : An.Int64 a.bound
theorem lens_mem {es : List Ev} {e : Ev} (h : e ∈ es) : e.list.length ≤ lens es := by
  induction es with
  | nil => simp at h
  | cons x r ih =>
    simp only [lens, List.map_cons, List.sum_cons] at ih ⊢
    rcases List.mem_cons.1 h with rfl | h
    · omega
    · have := ih h; omega
theorem AnsPre.ok {a : Ans} (h : AnsPre a) (ht : total a ≤ 4194304) : AnsOk a := by
  unfold total at ht
  exact ⟨h.code, h.id, fun e he => ⟨(h.events e he).job, (h.events e he).tm, (h.events e he).nd, (h.events e he).lm, (h.events e he).fits, by have := lens_mem he; omega⟩, by omega, h.acc, h.nodes, h.lim, h.sub, h.st, h.start, h.fin, h.set, by omega, h.ranks, by omega, h.raw, h.usage, h.factor, h.free, h.holder, h.shadow, h.c0, h.c1, h.c2, h.c3, h.c4, h.c5, h.c6, h.c7, h.bound⟩
theorem AnsOk.bare {a : Ans} (h : AnsOk a) : AnsOk { a with events := [] } := by
  obtain ⟨a1, a2, a3, a4, a5, a6, a7, a8, a9, a10, a11, a12, a13, a14, a15, a16, a17, a18, a19, a20, a21, a22, a23, a24, a25, a26, a27, a28, a29, a30⟩ := h
  exact ⟨a1, a2, fun e he => by simp at he, by simp, a5, a6, a7, a8, a9, a10, a11, a12, a13, a14, a15, a16, a17, a18, a19, a20, a21, a22, a23, a24, a25, a26, a27, a28, a29, a30⟩
theorem evsT_most : ∀ (es : List Ev), (∀ e ∈ es, EvOk e) → (evsT es).length ≤ 22 * lens es + 121 * es.length
  | [], _ => by simp [evsT]
  | e :: r, h => by
    have ih := evsT_most r (fun x hx => h x (List.mem_cons_of_mem _ hx))
    have h1 := evT_most2 (h e (by simp))
    simp only [evsT, lens, List.flatMap_cons, List.length_append, List.length_cons, List.length_nil, List.map_cons, List.sum_cons] at ih ⊢
    omega
theorem printT_most {k : Int} {a : Ans} (h : AnsOk a) (ht : total a ≤ 4194304) : (printT k a).length ≤ 1000000000 := by
  unfold total at ht
  have h1 := firstT_most (k := k) h
  have h2 := evsT_most a.events h.events
  have h3 := rksT_most a.ranks h.ranks
  have hn := numsT_len [a.code] (fitsCons h.code fitsNil)
  simp only [List.length_cons, List.length_nil] at hn
  unfold printT
  split
  · simp only [List.length_append, List.length_cons, List.length_nil]
    omega
  · simp only [List.length_append, List.length_cons, List.length_nil]
    omega
theorem bare_total {a : Ans} (ht : total a ≤ 4194304) : total { a with events := [] } ≤ 4194304 := by
  unfold total at ht ⊢
  simp [lens]
  omega
theorem joins_check {k : Int} {a : Ans} (h : checkA k a = 0) : checkA k { a with events := [] } = 0 := by
  by_cases hc : a.code = 0
  · have hf := check_fine h hc
    have hk := check_kinds h
    have how := (own_events (rest_own hc (fine_rest hf))).1
    cases hh : hasB k with
    | false =>
      have : { a with events := [] } = a := by
        have := how hh
        cases a
        simp only at this
        subst this
        rfl
      rw [this]
      exact h
    | true =>
      have hr : restA k { a with events := [] } = restA k a := by
        unfold restA
        rw [hh]
        simp only [if_true]
        unfold restK
        repeat' split
        all_goals rfl
      have hf2 : okA k { a with events := [] } = true := by
        unfold okA at hf ⊢
        rw [hr]
        simp only [Bool.and_eq_true] at hf ⊢
        exact ⟨hf.1, rfl⟩
      unfold checkA
      rw [if_neg (by omega), if_neg (by simp [hc]), hf2]
      rfl
  · have he := (check_code h hc).2.2
    have : { a with events := [] } = a := by
      have h2 : a.events = [] := by rw [he]; rfl
      cases a
      simp only at h2
      subst h2
      rfl
    rw [this]
    exact h
theorem joins_text {k : Int} {a : Ans} (h : checkA k a = 0) : printT k a = printT k { a with events := [] } ++ evsT a.events := by
  by_cases hc : a.code = 0
  · have hf := check_fine h hc
    obtain ⟨h1, h2⟩ := own_events (rest_own hc (fine_rest hf))
    have hfst : firstT k { a with events := [] } = firstT k a := rfl
    unfold printT
    simp only [hc, ne_eq, not_true, if_false, hfst]
    cases hh : hasB k with
    | false => rw [h1 hh]; simp [evsT]; rfl
    | true => rw [h2 (has10 hh)]; simp [evsT, rksT]; rfl
  · have he := (check_code h hc).2.2
    have h2 : a.events = [] := by rw [he]; rfl
    unfold printT
    simp only [if_pos hc, h2]
    simp [evsT]
end Go.Proofs.An

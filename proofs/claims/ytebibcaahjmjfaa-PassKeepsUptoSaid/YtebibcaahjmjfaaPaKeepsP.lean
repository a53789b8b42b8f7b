/- Whoever holds is never delayed: of passes as plain lists. -/
import Derived.Test.YtebibcaahjmjfaaPaWholeQ
import Derived.Test.YtebibcaahjmjfaaPaRefP
set_option linter.unusedVariables false
namespace Go.Proofs.HL.Pa
open Go.Proofs.HL.Pr
open Go.Proofs.Ytebibcaahjmjfaa (mayB_iff)
theorem sumN_nn : ∀ {l : List Rn}, (∀ r ∈ l, 1 ≤ r.nodes ∧ r.nodes ≤ 256) → (l.length : Int) ≤ sumN l
  | [], _ => Int.le_refl _
  | r :: l, h => by
    have h1 := (h r (List.mem_cons_self ..)).1
    have h2 := sumN_nn (l := l) (fun x hx => h x (List.mem_cons_of_mem _ hx))
    simp only [sumN, List.length_cons]
    omega
theorem sumN_sub {m l : List Rn} (h : m.Sublist l) : (∀ r ∈ l, 1 ≤ r.nodes ∧ r.nodes ≤ 256) → sumN m ≤ sumN l := by
  induction h with
  | slnil => intro _; exact Int.le_refl _
  | cons a h ih =>
    intro hn
    have := ih (fun x hx => hn x (List.mem_cons_of_mem _ hx))
    have := (hn a (List.mem_cons_self ..)).1
    simp only [sumN]; omega
  | cons_cons a h ih =>
    intro hn
    have := ih (fun x hx => hn x (List.mem_cons_of_mem _ hx))
    simp only [sumN]; omega
/-- Some runs are gone: what they held is free. -/
structure Less (free : Int) (l : List Rn) (f : Int) (m : List Rn) : Prop where
  sub : m.Sublist l
  all : f + sumN m = free + sumN l
theorem Less.refl (free : Int) (l : List Rn) : Less free l free l := ⟨List.Sublist.refl _, rfl⟩
theorem Less.trans {a b c : Int} {k l m : List Rn} (h : Less a k b l) (h2 : Less b l c m) : Less a k c m := ⟨h2.sub.trans h.sub, h2.all.trans h.all⟩
theorem sumN_filter {m l : List Rn} (h : m.Sublist l) (t : Int) : (∀ r ∈ l, 1 ≤ r.nodes ∧ r.nodes ≤ 256) → sumN (l.filter fun r => decide (r.fin ≤ t)) + sumN m ≤ sumN (m.filter fun r => decide (r.fin ≤ t)) + sumN l := by
  induction h with
  | slnil => intro _; exact Int.le_refl _
  | cons a h ih =>
    intro hn
    have h1 := ih (fun x hx => hn x (List.mem_cons_of_mem _ hx))
    have h2 := (hn a (List.mem_cons_self ..)).1
    by_cases h3 : a.fin ≤ t
    · rw [List.filter_cons_of_pos (by simpa using h3)]; simp only [sumN]; omega
    · rw [List.filter_cons_of_neg (by simpa using h3)]; simp only [sumN]; omega
  | cons_cons a h ih =>
    intro hn
    have h1 := ih (fun x hx => hn x (List.mem_cons_of_mem _ hx))
    by_cases h3 : a.fin ≤ t
    · rw [List.filter_cons_of_pos (by simpa using h3), List.filter_cons_of_pos (by simpa using h3)]; simp only [sumN]; omega
    · rw [List.filter_cons_of_neg (by simpa using h3), List.filter_cons_of_neg (by simpa using h3)]; simp only [sumN]; omega
theorem Less.at {free f : Int} {l m : List Rn} (h : Less free l f m) (hn : ∀ r ∈ l, 1 ≤ r.nodes ∧ r.nodes ≤ 256) (t : Int) : atS free l t ≤ atS f m t := by
  have h1 := sumN_filter h.sub t hn
  have h2 := h.all
  unfold atS
  omega
theorem sumN_mono {t u : Int} (htu : t ≤ u) : ∀ {l : List Rn}, (∀ r ∈ l, 1 ≤ r.nodes ∧ r.nodes ≤ 256) → sumN (l.filter fun r => decide (r.fin ≤ t)) ≤ sumN (l.filter fun r => decide (r.fin ≤ u))
  | [], _ => Int.le_refl _
  | a :: l, hn => by
    have h1 := sumN_mono htu (l := l) (fun x hx => hn x (List.mem_cons_of_mem _ hx))
    have h2 := (hn a (List.mem_cons_self ..)).1
    by_cases h3 : a.fin ≤ t
    · rw [List.filter_cons_of_pos (by simpa using h3), List.filter_cons_of_pos (by simp; omega)]; simp only [sumN]; omega
    · rw [List.filter_cons_of_neg (by simpa using h3)]
      by_cases h4 : a.fin ≤ u
      · rw [List.filter_cons_of_pos (by simpa using h4)]; simp only [sumN]; omega
      · rw [List.filter_cons_of_neg (by simpa using h4)]; exact h1
theorem sumN_none {t : Int} {l : List Rn} (h : ∀ r ∈ l, t < r.fin) : sumN (l.filter fun r => decide (r.fin ≤ t)) = 0 := by
  rw [List.filter_eq_nil_iff.2 (fun r hr => by have := h r hr; simp; omega)]; rfl
theorem atS_now {free t : Int} {l : List Rn} (h : ∀ r ∈ l, t < r.fin) : atS free l t = free := by
  unfold atS; rw [sumN_none h]; omega
/-- Where no fewer are free, from later on: enough, or a shadow that is no later. -/
theorem shadow_later {now now' free f need a e : Int} {l m : List Rn} (h : shadowAll now free l need = (a, e, true)) (hf : rightB f m = true) (hnow : now ≤ now') (hmore : ∀ t, atS free l t ≤ atS f m t) :
    need ≤ atS f m now' ∨ ∃ a' e', shadowAll now' f m need = (a', e', true) ∧ a' ≤ a := by
  obtain ⟨hr, hn⟩ := shadow_right h
  obtain ⟨-, h1, h2, -⟩ := shadow_true h
  have hrn := (rightB_iff.1 hr).2.2
  by_cases hd : need ≤ atS f m now'
  · exact .inl hd
  · refine .inr ?_
    have ha : now' ≤ a := by
      rcases Int.lt_or_le a now' with h3 | h3
      · have h4 := sumN_mono (t := a) (u := now') (by omega) hrn
        have h5 := hmore now'
        unfold atS at h2 h5 hd
        omega
      · exact h3
    have h6 := hmore a
    rcases shadow_spec (now := now') hf hn with ⟨t, i1, i2, i3, i4⟩ | ⟨-, i2⟩
    · refine ⟨t, _, i1, ?_⟩
      rcases Int.lt_or_le a t with h3 | h3
      · have := i4 a ha h3; omega
      · exact h3
    · have := i2 a ha; omega

/-- Those that were started. -/
def tookOf (ws : List Wn) (S : List Int) : List Wn := ws.filter fun x => decide (x.job ∈ S)
theorem took_perm {n0 f0 : Int} {ws : List Wn} {l : List Rn} {s : RS} {T : List Wn} (h : Told n0 f0 ws l s T) (hn : (ws.map (·.job)).Nodup) : (tookOf ws s.starts).Perm T := by
  have hn1 : ws.Nodup := (List.pairwise_map.1 hn).imp (fun {a b} h e => h (by rw [e]))
  have hn2 : T.Nodup := (List.pairwise_map.1 h.tnodup).imp (fun {a b} h e => h (by rw [e]))
  have hone : ∀ x ∈ ws, ∀ y ∈ ws, x.job = y.job → x = y := fun x hx y hy e => by
    obtain ⟨i, hi, rfl⟩ := List.getElem_of_mem hx
    obtain ⟨j, hj, rfl⟩ := List.getElem_of_mem hy
    have := (List.getElem_inj (h₀ := by simpa using hi) (h₁ := by simpa using hj) hn).1 (by simpa using e)
    subst this
    rfl
  have hmem : ∀ x, x ∈ tookOf ws s.starts ↔ x ∈ T := fun x => by
    unfold tookOf
    rw [List.mem_filter, h.tstarts]
    constructor
    · rintro ⟨h1, h2⟩
      obtain ⟨y, hy, e⟩ := List.mem_map.1 (of_decide_eq_true h2)
      rw [← hone y (h.tmem y hy) x h1 e]
      exact hy
    · intro h1
      exact ⟨h.tmem x h1, decide_eq_true (List.mem_map_of_mem h1)⟩
  rw [List.perm_iff_count]
  intro a
  have hn3 : (tookOf ws s.starts).Nodup := hn1.filter _
  rw [List.Nodup.count hn3, List.Nodup.count hn2]
  by_cases ha : a ∈ T
  · rw [if_pos ha, if_pos ((hmem a).2 ha)]
  · rw [if_neg ha, if_neg (fun h => ha ((hmem a).1 h))]
theorem sumW_perm {l m : List Wn} (h : l.Perm m) : sumW l = sumW m := by
  induction h with
  | nil => rfl
  | cons x _ ih => simp only [sumW, ih]
  | swap x y l => simp only [sumW]; omega
  | trans _ _ h1 h2 => exact h1.trans h2

/-- What befalls the wants: but the holder nobody is spared. -/
structure Befell (all held : Int) (ws ws' : List Wn) : Prop where
  nodup : (ws.map (·.job)).Nodup → (ws'.map (·.job)).Nodup
  ok : (∀ x ∈ ws, okWant all x = true) → ∀ x ∈ ws', okWant all x = true
  kept : ∀ x ∈ ws, x.job = held → x ∈ ws'
  few : ws'.length ≤ ws.length + 20
/-- What is known of the holder between passes. -/
def Holds (till shadow now free : Int) (ws : List Wn) (held : Int) (l : List Rn) : Prop :=
  0 ≤ till → 0 ≤ held ∧ shadow ≤ till ∧ ∃ x ∈ ws, x.job = held ∧ (x.nodes ≤ free ∨ ∃ a m, shadowAll now free l x.nodes = (a, m, true) ∧ a ≤ shadow)
section
variable {now free held : Int} {ws : List Wn} {l : List Rn} {till shadow : Int}
theorem old_told (hm : mayB now free ws held l = true) {x : Wn} (hx : x ∈ ws) (hj : x.job = held) (hf : free < x.nodes) : passC now free ws held l = pinS now (rs0 now free held l, x.nodes) := by
  obtain ⟨-, -, hw, hn, -⟩ := mayB_iff.1 hm
  have h0 := (hw x hx).1
  have hA : passA now free ws held l = (rs0 now free held l, x.nodes) := by
    unfold passA
    rw [hold_one ws _ hn hx hj]
    unfold holdStep
    rw [if_neg (fun h => h hj), if_neg (by show ¬ x.nodes ≤ free; omega)]
  unfold passC passB
  rw [hA, if_neg (by show held ≠ -1; omega)]
theorem keeps_same (hm : mayB now free ws held l = true) (hi : Holds till shadow now free ws held l) (h0 : 0 ≤ held) (hc : (passC now free ws held l).holder = held) (ht : 0 ≤ till) : (passC now free ws held l).shadow ≤ shadow ∧ now < till ∧ shadow ≤ till := by
  obtain ⟨T, hW⟩ := whole hm
  obtain ⟨-, i2, x, hx, hj, i3⟩ := hi ht
  have hf : free < x.nodes := by
    rcases Int.lt_or_le free x.nodes with h | h
    · exact h
    · obtain ⟨T', hT⟩ := (hW.old x hx hj).1 h
      exact absurd (hj.trans hc.symm) (hW.nohold x (by rw [hT]; exact List.mem_cons_self ..))
  rcases i3 with i3 | ⟨a, m, i3, i4⟩
  · omega
  · have hC := old_told hm hx hj hf
    have hs : (passC now free ws held l).shadow = a := by
      rw [hC]; unfold pinS; rw [if_pos (by show 0 ≤ held; exact h0)]; show (shadowAll now free l x.nodes).1 = a; rw [i3]
    obtain ⟨-, j1, j2, -⟩ := shadow_true i3
    have hlate : ∀ r ∈ l, now < r.fin := fun r hr => ((mayB_iff.1 hm).2.1 r hr).2.2.1
    have hne : a ≠ now := fun e => by rw [e, atS_now hlate] at j2; omega
    refine ⟨by omega, by omega, i2⟩
theorem keeps_first (hm : mayB now free ws held l = true) (h0 : 0 ≤ held) (hc : (passC now free ws held l).holder ≠ held) : ∃ S, (passD now free ws held l).starts = held :: S := by
  obtain ⟨T, hW⟩ := whole hm
  obtain ⟨-, -, -, -, hh⟩ := mayB_iff.1 hm
  rcases hh with hh | hh
  · omega
  · obtain ⟨x, hx, hj⟩ := List.mem_map.1 hh
    obtain ⟨o1, o2⟩ := hW.old x hx hj
    rcases Int.lt_or_le free x.nodes with h | h
    · exact absurd (o2 h) hc
    · obtain ⟨T', hT⟩ := o1 h
      exact ⟨T'.map (·.job), by rw [hW.told.tstarts, hT, List.map_cons, hj]⟩
theorem told_late (hm : mayB now free ws held l = true) {s : RS} {T : List Wn} (h : Told now free ws l s T) : ∀ r ∈ s.runs, now < r.fin := by
  obtain ⟨-, hr, hw, -, -⟩ := mayB_iff.1 hm
  intro r hrm
  rw [h.truns] at hrm
  rcases List.mem_append.1 hrm with h1 | h1
  · exact (hr r h1).2.2.1
  · obtain ⟨x, hx, rfl⟩ := List.mem_map.1 h1
    have := hw x (h.tmem x hx)
    show now < now + x.limit
    omega
theorem keeps_late (hm : mayB now free ws held l = true) (hc : 0 ≤ (passC now free ws held l).holder) : now < (passC now free ws held l).shadow := by
  obtain ⟨T, hW⟩ := whole hm
  obtain ⟨h, hh, -, hf, more, hs, -⟩ := hW.held hc
  obtain ⟨-, j1, j2, -⟩ := shadow_true hs
  have hne : (passC now free ws held l).shadow ≠ now := fun e => by rw [e, atS_now (told_late hm hW.told)] at j2; omega
  omega
/-- How a stage goes on. -/
theorem keeps_next {f2 f3 now' all : Int} {ws2 : List Wn} {l2 l3 : List Rn} (hm : mayB now free ws held l = true) (hall : free + sumN l = all) (ha : all ≤ 256)
    (hb : Befell all (passC now free ws held l).holder (leftOf ws (passD now free ws held l).starts) ws2)
    (hl : Less (free - sumW (tookOf ws (passD now free ws held l).starts)) (l ++ (tookOf ws (passD now free ws held l).starts).map (runOf now)) f2 l2)
    (hl2 : Less f2 l2 f3 l3) (hd : ∀ r ∈ l3, now' < r.fin) (h1 : now ≤ now') (h2 : now' ≤ 2199023255552) :
    mayB now' f3 ws2 (passC now free ws held l).holder l3 = true ∧ f3 + sumN l3 = all ∧
      ∀ t, (0 ≤ (passC now free ws held l).holder → (passC now free ws held l).shadow ≤ t) → (0 ≤ t → 0 ≤ (passC now free ws held l).holder) → Holds t (passC now free ws held l).shadow now' f3 ws2 (passC now free ws held l).holder l3 := by
  obtain ⟨T, hW⟩ := whole hm
  obtain ⟨⟨a0, a1, a2, a3⟩, hr, hw, hn, hho⟩ := mayB_iff.1 hm
  have hP := took_perm hW.told hn
  have hf1 : free - sumW (tookOf ws (passD now free ws held l).starts) = (passD now free ws held l).free := by rw [sumW_perm hP, hW.told.tfree]
  have hl1 : (l ++ (tookOf ws (passD now free ws held l).starts).map (runOf now)).Perm (passD now free ws held l).runs := by rw [hW.told.truns]; exact (hP.map _).append_left _
  rw [hf1] at hl
  obtain ⟨b1, b2, b3⟩ := hW.told.right hm
  have b4 := rightB_iff.1 b1
  have hmem : ∀ r ∈ l3, r ∈ (passD now free ws held l).runs := fun r hrm => hl1.mem_iff.1 (hl.sub.subset (hl2.sub.subset hrm))
  have hsum1 : sumN (l ++ (tookOf ws (passD now free ws held l).starts).map (runOf now)) = sumN (passD now free ws held l).runs := sumN_perm hl1
  have e1 := hl.all
  have e2 := hl2.all
  have e3 : f3 + sumN l3 = all := by
    unfold sumAll at b3
    omega
  have hn3 : ∀ r ∈ l3, 1 ≤ r.nodes ∧ r.nodes ≤ 256 := fun r hrm => b4.2.2 r (hmem r hrm)
  have hn2 : ∀ r ∈ l2, 1 ≤ r.nodes ∧ r.nodes ≤ 256 := fun r hrm => b4.2.2 r (hl1.mem_iff.1 (hl.sub.subset hrm))
  have hn1 : ∀ r ∈ l ++ (tookOf ws (passD now free ws held l).starts).map (runOf now), 1 ≤ r.nodes ∧ r.nodes ≤ 256 := fun r hrm => b4.2.2 r (hl1.mem_iff.1 hrm)
  have g3 := sumN_nn hn3
  have g4 := sumN_sub hl2.sub hn2
  have g5 := sumN_sub hl.sub hn1
  have hf3 : 0 ≤ f3 ∧ f3 ≤ 256 := by omega
  have hallw : ∀ x ∈ leftOf ws (passD now free ws held l).starts, okWant all x = true := fun x hx => by
    have h3 := hw x (left_mem.1 hx).1
    unfold sumAll at h3
    rw [hall] at h3
    simp [okWant, h3]
  have hhold : (passC now free ws held l).holder = -1 ∨ ∃ x ∈ ws2, x.job = (passC now free ws held l).holder ∧ 0 ≤ (passC now free ws held l).holder ∧ ∃ more, shadowAll now (passD now free ws held l).free (passD now free ws held l).runs x.nodes = ((passC now free ws held l).shadow, more, true) := by
    rcases Int.lt_or_le (passC now free ws held l).holder 0 with h | h
    · exact .inl (hW.none h).1
    · obtain ⟨x, hx, hj, -, more, hs, -⟩ := hW.held h
      refine .inr ⟨x, hb.kept x (left_mem.2 ⟨hx, fun hin => ?_⟩) hj, hj, h, more, hs⟩
      rw [hW.told.tstarts] at hin
      obtain ⟨y, hy, e⟩ := List.mem_map.1 hin
      exact hW.nohold y hy (e.trans hj)
  refine ⟨mayB_iff.2 ⟨⟨by omega, h2, hf3.1, hf3.2⟩, fun r hrm => ⟨(hn3 r hrm).1, (hn3 r hrm).2, hd r hrm, b2 r (hmem r hrm)⟩, fun x hx => ?_, hb.nodup ?_, ?_⟩, e3, fun t ht1 ht2 ht => ⟨ht2 ht, ht1 (ht2 ht), ?_⟩⟩
  · have h3 := hb.ok hallw x hx
    simp only [okWant, Bool.and_eq_true, decide_eq_true_eq] at h3
    unfold sumAll
    omega
  · exact hn.sublist (List.filter_sublist.map _)
  · rcases hhold with h | ⟨x, hx, hj, -⟩
    · exact .inl h
    · exact .inr (by rw [← hj]; exact List.mem_map_of_mem hx)
  · rcases hhold with h | ⟨x, hx, hj, -, more, hs⟩
    · have := ht2 ht; omega
    · refine ⟨x, hx, hj, ?_⟩
      have hmore : ∀ u, atS (passD now free ws held l).free (passD now free ws held l).runs u ≤ atS f3 l3 u := fun u => by
        have k1 := (hl.trans hl2).at hn1 u
        rwa [atS_perm hl1] at k1
      rcases shadow_later (f := f3) (m := l3) hs (rightB_iff.2 ⟨hf3.1, hf3.2, hn3⟩) h1 hmore with h | h
      · rw [atS_now hd] at h
        exact .inl h
      · exact .inr h
end
/-- The first k have been looked at. -/
structure TookTo (now free : Int) (ws : List Wn) (S : List Int) (l : List Rn) (k : Nat) (f : Int) (r : List Wn) (m : List Rn) : Prop where
  f_ : f = free - sumW (tookOf (ws.take k) S)
  r_ : r = leftOf (ws.take k) S
  m_ : m = l ++ (tookOf (ws.take k) S).map (runOf now)
theorem TookTo.yes {now free : Int} {ws : List Wn} {S : List Int} {l : List Rn} {k : Nat} {f : Int} {r : List Wn} {m : List Rn} (h : TookTo now free ws S l k f r m) {x : Wn} (hx : ws[k]? = some x) (hs : x.job ∈ S) : TookTo now free ws S l (k + 1) (f - x.nodes) r (m ++ [⟨x.nodes, now + x.limit⟩]) := by
  obtain ⟨h1, h2, h3⟩ := h
  have e : ws.take (k + 1) = ws.take k ++ [x] := by rw [List.take_add_one, hx]; rfl
  have e1 : tookOf (ws.take (k + 1)) S = tookOf (ws.take k) S ++ [x] := by unfold tookOf; rw [e, List.filter_append, List.filter_cons_of_pos (by simpa using hs)]; rfl
  have e2 : leftOf (ws.take (k + 1)) S = leftOf (ws.take k) S := by unfold leftOf; rw [e, List.filter_append, List.filter_cons_of_neg (by simpa using hs), List.filter_nil, List.append_nil]
  refine ⟨?_, by rw [e2]; exact h2, ?_⟩
  · rw [e1, sumW_append, h1]; simp only [sumW]; omega
  · rw [e1, h3, List.map_append, List.append_assoc]; rfl
theorem TookTo.no {now free : Int} {ws : List Wn} {S : List Int} {l : List Rn} {k : Nat} {f : Int} {r : List Wn} {m : List Rn} (h : TookTo now free ws S l k f r m) {x : Wn} (hx : ws[k]? = some x) (hs : x.job ∉ S) : TookTo now free ws S l (k + 1) f (r ++ [x]) m := by
  obtain ⟨h1, h2, h3⟩ := h
  have e : ws.take (k + 1) = ws.take k ++ [x] := by rw [List.take_add_one, hx]; rfl
  have e1 : tookOf (ws.take (k + 1)) S = tookOf (ws.take k) S := by unfold tookOf; rw [e, List.filter_append, List.filter_cons_of_neg (by simpa using hs), List.filter_nil, List.append_nil]
  have e2 : leftOf (ws.take (k + 1)) S = leftOf (ws.take k) S ++ [x] := by unfold leftOf; rw [e, List.filter_append, List.filter_cons_of_pos (by simpa using hs)]; rfl
  exact ⟨by rw [e1]; exact h1, by rw [e2, h2], by rw [e1]; exact h3⟩
theorem sumW_sub {m l : List Wn} (h : m.Sublist l) : (∀ x ∈ l, 1 ≤ x.nodes) → sumW m ≤ sumW l ∧ (m.length : Int) ≤ sumW m := by
  induction h with
  | slnil => intro _; exact ⟨Int.le_refl _, Int.le_refl _⟩
  | cons a h ih =>
    intro hn
    have := ih (fun x hx => hn x (List.mem_cons_of_mem _ hx))
    have := hn a (List.mem_cons_self ..)
    simp only [sumW]; omega
  | cons_cons a h ih =>
    intro hn
    have := ih (fun x hx => hn x (List.mem_cons_of_mem _ hx))
    have := hn a (List.mem_cons_self ..)
    simp only [sumW, List.length_cons]; omega
theorem TookTo.bd {now free : Int} {ws : List Wn} {S : List Int} {l : List Rn} {k : Nat} {f : Int} {r : List Wn} {m : List Rn} (h : TookTo now free ws S l k f r m) (hw : ∀ x ∈ ws, 1 ≤ x.nodes) (hs : sumW (tookOf ws S) ≤ free) (hf : free ≤ 256) : 0 ≤ f ∧ f ≤ 256 ∧ r.length ≤ ws.length ∧ m.length ≤ l.length + 256 := by
  obtain ⟨h1, h2, h3⟩ := h
  have hsub : (tookOf (ws.take k) S).Sublist (tookOf ws S) := (List.take_sublist k ws).filter _
  have a1 := sumW_sub hsub (fun x hx => hw x (List.mem_filter.1 hx).1)
  have a2 : r.length ≤ ws.length := by rw [h2]; exact Nat.le_trans (List.length_filter_le _ _) (by rw [List.length_take]; omega)
  have a3 : m.length = l.length + (tookOf (ws.take k) S).length := by rw [h3, List.length_append, List.length_map]
  omega
/-- Who is spared. -/
def spared (held : Int) (G : List Int) (x : Wn) : Bool := decide (x.job = held) || !decide (x.job ∈ G)
/-- What has come so far, behind those that were spared. -/
structure Came (all held : Int) (ws r : List Wn) (k : Nat) : Prop where
  nodup : (ws.map (·.job)).Nodup → (r.map (·.job)).Nodup
  ok : (∀ x ∈ ws, okWant all x = true) → ∀ x ∈ r, okWant all x = true
  kept : ∀ x ∈ ws, x.job = held → x ∈ r
  few : r.length ≤ ws.length + k
theorem came_start (all held : Int) (G : List Int) (ws : List Wn) : Came all held ws (ws.filter (spared held G)) 0 :=
  ⟨fun h => h.sublist (List.filter_sublist.map _), fun h x hx => h x (List.mem_filter.1 hx).1, fun x hx e => List.mem_filter.2 ⟨hx, by simp [spared, e]⟩, List.length_filter_le _ _⟩
theorem Came.more {all held : Int} {ws r : List Wn} {k : Nat} (h : Came all held ws r k) {x : Wn} (h1 : x.job ∉ r.map (·.job)) (h2 : okWant all x = true) : Came all held ws (r ++ [x]) (k + 1) := by
  obtain ⟨a, b, c, d⟩ := h
  refine ⟨fun h => ?_, fun h y hy => ?_, fun y hy e => List.mem_append_left _ (c y hy e), by rw [List.length_append, List.length_singleton]; omega⟩
  · rw [List.map_append, List.nodup_append]
    refine ⟨a h, by simp, fun u hu v hv e => ?_⟩
    obtain rfl := (List.mem_singleton.1 hv : v = x.job)
    exact h1 (e ▸ hu)
  · rcases List.mem_append.1 hy with hy | hy
    · exact b h y hy
    · obtain rfl := List.mem_singleton.1 hy; exact h2
theorem Came.same {all held : Int} {ws r : List Wn} {k : Nat} (h : Came all held ws r k) : Came all held ws r (k + 1) := ⟨h.nodup, h.ok, h.kept, by have := h.few; omega⟩
theorem Came.befell {all held : Int} {ws r m : List Wn} {k : Nat} (h : Came all held ws r k) (hk : k ≤ 20) (hp : m.Perm r) : Befell all held ws m :=
  ⟨fun h1 => (hp.map _).nodup_iff.2 (h.nodup h1), fun h1 x hx => h.ok h1 x (hp.mem_iff.1 hx), fun x hx e => hp.mem_iff.2 (h.kept x hx e), by have := h.few; have := hp.length_eq; omega⟩
/-- A list turned round. -/
theorem turned_perm {r m : List Wn} {d : Nat} (hl : m.length = r.length) (hd : d < r.length) (h : ∀ j, j < r.length → m[j]? = r[(j + d) % r.length]?) : m.Perm r := by
  have e : m = r.drop d ++ r.take d := by
    refine List.ext_getElem? fun j => ?_
    by_cases hj : j < r.length
    · rw [h j hj]
      by_cases h2 : j + d < r.length
      · rw [Nat.mod_eq_of_lt h2, List.getElem?_append_left (by rw [List.length_drop]; omega), List.getElem?_drop, Nat.add_comm]
      · rw [Nat.mod_eq_sub_mod (by omega), Nat.mod_eq_of_lt (by omega), List.getElem?_append_right (by rw [List.length_drop]; omega), List.length_drop, List.getElem?_take_of_lt (by omega)]
        congr 1
        omega
    · rw [List.getElem?_eq_none (by omega), List.getElem?_eq_none (by rw [List.length_append, List.length_drop, List.length_take]; omega)]
  rw [e]
  exact List.perm_append_comm.trans (by rw [List.take_append_drop])
theorem swap_perm {m r : List Wn} (h : m.Perm r) {i j : Nat} {x y : Wn} (hx : m[i]? = some x) (hy : m[j]? = some y) : ((m.set i y).set j x).Perm r := by
  obtain ⟨h1, rfl⟩ := List.getElem?_eq_some_iff.1 hx
  obtain ⟨h2, rfl⟩ := List.getElem?_eq_some_iff.1 hy
  exact (List.set_set_perm h1 h2).trans h
end Go.Proofs.HL.Pa

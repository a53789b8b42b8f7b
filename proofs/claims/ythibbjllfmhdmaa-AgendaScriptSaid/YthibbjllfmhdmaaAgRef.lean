/- The reference's agendas: what each of their methods does. -/
import Derived.Test.YthibbjllfmhdmaaAgLawOrder
import Derived.Test.YthibbjllfmhdmaaView
import Derived.Deep.RegionLaw
import Derived.Test.YthibbjllfmhdmaaRegion
import Derived.Test.YthibbjllfmhdmaaIterA
set_option linter.unusedVariables false
set_option linter.unusedSimpArgs false
namespace Go.Proofs.Ythibbjllfmhdmaa.Ref
open Go.RowKit Go.Proofs.HL AgInt

structure Th where
  id : Int
  at_ : Int
  x : Int
def encT (t : Th) : List Value := [.int .i64 t.id, .int .i64 t.at_, .int .i64 t.x]
def vw (v : Value) (l : List Th) : At := view 3 v l.length (l.flatMap encT)
def ob (v : Value) : Obj := .cells #[v] 77

section
variable {w0 w : World} {L : List At} {p : Nat} {v : Value} {l : List Th}
theorem vw_shape (H : HL w0 w L) (hm : vw v l ∈ L) : ∃ A c, v = .slice A l.length c ∧ (l.length = 0 ∨ ∃ b o, A = some ⟨b, o, none⟩) ∧ l.length ≤ c ∧ c ≤ maxLen := by
  have hr : Rd 3 v l.length (l.flatMap encT) w := H.rdView hm
  obtain ⟨h1, h2, A, c, h3, h4, h5, h6, h7⟩ := id hr
  refine ⟨A, c, h3, ?_, h4, h5⟩
  cases l with
  | nil => exact .inl rfl
  | cons t l =>
    obtain ⟨b, o, c', hv, -⟩ := rd_plain hr (by simp [encT])
    rw [h3] at hv
    simp only [Value.slice.injEq] at hv
    exact .inr ⟨b, o, hv.1⟩
theorem th_at {b o n c : Nat} (H : HL w0 w L) (hm : vw (.slice (some ⟨b, o, none⟩) n c) l ∈ L) {k : Nat} {t : Th} (ht : l[k]? = some t) :
    w.cell? ⟨b, o + k * 3, none⟩ = some (.int .i64 t.id) ∧ w.cell? ⟨b, o + k * 3 + 1, none⟩ = some (.int .i64 t.at_) ∧ w.cell? ⟨b, o + k * 3 + 2, none⟩ = some (.int .i64 t.x) := by
  obtain ⟨b', o', c', hv, -, -, hc⟩ := rd_elem encT 3 (fun _ => rfl) (by decide) (H.rdView hm) ht
  simp only [Value.slice.injEq, Option.some.injEq, Addr.mk.injEq] at hv
  obtain ⟨⟨rfl, rfl, -⟩, -, -⟩ := hv
  exact ⟨hc 0 _ rfl, hc 1 _ rfl, hc 2 _ rfl⟩

set_option maxHeartbeats 400000 in
theorem new_ok (H : HL w0 w L) : Calls Try.prog 18 #[] w fun e w' => ∃ p, e = .returned (.pointer (some ⟨p, 0, none⟩)) ∧ HL w0 w' (blk p (ob (.slice none 0 0)) :: vw (.slice none 0 0) [] :: L) := by
  go_enter Try.func18, Try.ntmps18
  go_wp2
  go_ret
  exact ⟨_, rfl, (H.nilView 3).alloc _⟩

set_option maxHeartbeats 400000 in
theorem len_ok (H : HL w0 w (blk p (ob v) :: vw v l :: L)) : Calls Try.prog 46 #[.pointer (some ⟨p, 0, none⟩)] w fun e w' => e = .returned (.int .i64 l.length) ∧ w = w' := by
  obtain ⟨A, c, rfl, -, -, -⟩ := vw_shape H.tail (List.mem_cons_self ..)
  have c1 := cellOne H (b := p) (v := .slice A l.length c) (E := 77) (List.mem_cons_self ..)
  go_enter Try.func46, Try.ntmps46
  go_wp2
  go_ret
  exact ⟨rfl, rfl⟩

/-- Where a number stands. -/
def ixI (l : List Th) (id : Int) : Int := match l.findIdx? (fun t => t.id == id) with | some i => i | none => -1

set_option maxRecDepth 100000 in
set_option maxHeartbeats 800000 in
theorem find_ok (H : HL w0 w (blk p (ob v) :: vw v l :: L)) (hl : l.length ≤ 8796093022208) (id : Int) : Calls Try.prog 53 #[.pointer (some ⟨p, 0, none⟩), .int .i64 id] w fun e w' =>
    e = .returned (.int .i64 (ixI l id)) ∧ HL w0 w' (blk p (ob v) :: vw v l :: L) := by
  obtain ⟨A, c, rfl, hA, -, -⟩ := vw_shape H.tail (List.mem_cons_self ..)
  have c1 := cellOne H (b := p) (v := .slice A l.length c) (E := 77) (List.mem_cons_self ..)
  go_enter Try.func53, Try.ntmps53
  go_wp2
  go_loopg [12] l.length (fun g i wr => ∃ k : Nat, i = .int .i64 k ∧ k + g = l.length ∧ (∀ j t, j < k → l[j]? = some t → t.id ≠ id) ∧ HL w0 wr (blk p (ob (.slice A l.length c)) :: vw (.slice A l.length c) l :: L))
  case atStart => exact ⟨0, rfl, by omega, (fun _ _ h => by omega), H⟩
  case round =>
    obtain ⟨k, rfl, hk, hno, HK⟩ := hrel
    by_cases hlt : k < l.length
    · obtain ⟨b, o, rfl⟩ := hA.resolve_left (by omega)
      obtain ⟨t, ht⟩ : ∃ t, l[k]? = some t := ⟨_, List.getElem?_eq_getElem hlt⟩
      obtain ⟨d0, d1, d2⟩ := th_at HK.tail (List.mem_cons_self ..) ht
      have Hno := Lib.hid hno
      have Ht := Lib.hid ht
      clear hno ht
      by_cases he : t.id = id
      · have hbe : (t.id == id) = true := by simp [he]
        have hix : ixI l id = k := by
          have : l.findIdx? (fun t => t.id == id) = some k := by
            rw [List.findIdx?_eq_some_iff_getElem]
            obtain ⟨h1, h2⟩ := List.getElem?_eq_some_iff.1 Ht.out
            refine ⟨h1, by rw [h2]; exact hbe, fun j hj => ?_⟩
            have := Hno.out j l[j] hj (List.getElem?_eq_getElem (by omega))
            simpa using this
          unfold ixI
          rw [this]
        have Hix := Lib.hid hix
        clear hix he
        go_wp2
        go_ret
        exact ⟨by rw [Hix.out]; rfl, HK.alloc' _⟩
      · have hbe : (t.id == id) = false := by simp [he]
        have Hne := Lib.hid he
        clear he
        go_wp2
        go_roundg (gk - 1)
        case measure => omega
        case rel =>
          refine ⟨k + 1, by go_num, by omega, fun j t' hj hjt => ?_, HK.alloc' _⟩
          rcases Nat.lt_or_ge j k with h | h
          · exact Hno.out j t' h hjt
          · obtain rfl : j = k := by omega
            rw [Ht.out] at hjt
            cases hjt
            exact Hne.out
    · have hix : ixI l id = -1 := by
        have : l.findIdx? (fun t => t.id == id) = none := by
          rw [List.findIdx?_eq_none_iff]
          intro t ht
          obtain ⟨j, hj, rfl⟩ := List.getElem_of_mem ht
          have := hno j _ (by omega) (List.getElem?_eq_getElem hj)
          simpa using this
        unfold ixI
        rw [this]
      have Hix := Lib.hid hix
      clear hix
      go_wp2
      go_ret
      exact ⟨by rw [Hix.out]; rfl, HK⟩
/-- The number stands nowhere, or at a place. -/
theorem ix_cases (l : List Th) (id : Int) : (ixI l id = -1 ∧ ∀ t ∈ l, t.id ≠ id) ∨ ∃ (k : Nat) (t : Th), ixI l id = k ∧ l[k]? = some t ∧ t.id = id := by
  unfold ixI
  cases h : l.findIdx? (fun t => t.id == id) with
  | none =>
    rw [List.findIdx?_eq_none_iff] at h
    exact .inl ⟨rfl, fun t ht => by simpa using h t ht⟩
  | some k =>
    rw [List.findIdx?_eq_some_iff_getElem] at h
    obtain ⟨h1, h2, -⟩ := h
    exact .inr ⟨k, l[k], rfl, List.getElem?_eq_getElem h1, by simpa using h2⟩

def firstT (l : List Th) : Value := match l with | [] => .tuple #[.int .i64 0, .int .i64 0, .bool false] | t :: _ => .tuple #[.int .i64 t.id, .int .i64 t.at_, .bool true]
def getV (o : Option Th) : Value := match o with | some t => .tuple #[.int .i64 t.at_, .int .i64 t.x, .bool true] | none => .tuple #[.int .i64 0, .int .i64 0, .bool false]

set_option maxRecDepth 100000 in
set_option maxHeartbeats 800000 in
theorem get_ok (H : HL w0 w (blk p (ob v) :: vw v l :: L)) (hl : l.length ≤ 8796093022208) (id : Int) : Calls Try.prog 42 #[.pointer (some ⟨p, 0, none⟩), .int .i64 id] w fun e w' =>
    (∃ o, e = .returned (getV o) ∧ ((o = none ∧ ∀ t ∈ l, t.id ≠ id) ∨ ∃ t ∈ l, o = some t ∧ t.id = id)) ∧ HL w0 w' (blk p (ob v) :: vw v l :: L) := by
  have hf := find_ok H hl id
  rcases ix_cases l id with ⟨hix, hno⟩ | ⟨k, t, hix, ht, hid⟩
  · rw [hix] at hf
    have Hno := Lib.hid hno
    clear hno hix H
    go_enter Try.func42, Try.ntmps42
    go_wp2_with (go_at_call 53; refine hf.mono ?_; rintro e w1 ⟨rfl, H1⟩; clear hf)
    go_ret3
    exact ⟨⟨none, rfl, .inl ⟨rfl, Hno.out⟩⟩, H1⟩
  · rw [hix] at hf
    have hlt : k < l.length := (List.getElem?_eq_some_iff.1 ht).1
    obtain ⟨A, c, rfl, hA, -, -⟩ := vw_shape H.tail (List.mem_cons_self ..)
    obtain ⟨b, o, rfl⟩ := hA.resolve_left (by omega)
    have Hm := Lib.hid (show t ∈ l ∧ t.id = id from ⟨List.mem_of_getElem? ht, hid⟩)
    have Ht := Lib.hid ht
    clear hid ht hix H
    go_enter Try.func42, Try.ntmps42
    go_wp2_with (go_at_call 53; refine hf.mono ?_; rintro e w1 ⟨rfl, H1⟩; clear hf)
    have c1 := cellOne H1 (b := p) (v := .slice (some ⟨b, o, none⟩) l.length c) (E := 77) (List.mem_cons_self ..)
    obtain ⟨d0, d1, d2⟩ := th_at H1.tail (List.mem_cons_self ..) Ht.out
    go_quiet (fail)
    go_wp2
    go_ret3
    exact ⟨⟨some t, rfl, .inr ⟨t, Hm.out.1, rfl, Hm.out.2⟩⟩, H1.drewN _⟩

set_option maxRecDepth 100000 in
set_option maxHeartbeats 800000 in
theorem first_ok (H : HL w0 w (blk p (ob v) :: vw v l :: L)) (hl : l.length ≤ 8796093022208) : Calls Try.prog 47 #[.pointer (some ⟨p, 0, none⟩)] w fun e w' =>
    e = .returned (firstT l) ∧ HL w0 w' (blk p (ob v) :: vw v l :: L) := by
  obtain ⟨A, c, rfl, hA, -, -⟩ := vw_shape H.tail (List.mem_cons_self ..)
  cases l with
  | nil =>
    have c1 := cellOne H (b := p) (v := .slice A 0 c) (E := 77) (List.mem_cons_self ..)
    go_enter Try.func47, Try.ntmps47
    go_wp2
    go_ret3
    exact ⟨rfl, H⟩
  | cons t l =>
    obtain ⟨b, o, rfl⟩ := hA.resolve_left (by simp)
    have c1 := cellOne H (b := p) (v := .slice (some ⟨b, o, none⟩) (l.length + 1) c) (E := 77) (List.mem_cons_self ..)
    obtain ⟨d0, d1, d2⟩ := th_at H.tail (List.mem_cons_self ..) (k := 0) (t := t) rfl
    rw [Nat.zero_mul, Nat.add_zero] at d0 d1 d2
    go_enter Try.func47, Try.ntmps47
    go_wp2
    go_quiet (fail)
    go_wp2
    go_ret3
    exact ⟨rfl, H.drewN _⟩

theorem sliceT : SliceOf Try.prog 75 96 3 24 :=
  sliceOf (z := .agg #[.int .i64 0, .int .i64 0, .int .i64 0]) Try.underlying75 (by kernel_rfl) rfl (by decide)
theorem encT_one (l : List Th) : ∀ u ∈ l.flatMap encT, u.oneCell' = true := by
  intro u hu
  obtain ⟨t, -, ht⟩ := List.mem_flatMap.1 hu
  simp only [encT, List.mem_cons, List.not_mem_nil, or_false] at ht
  rcases ht with rfl | rfl | rfl <;> rfl
def rw3 (base : Nat) (v : Value) (l : List Th) : At := row base 96 3 v l.length (l.flatMap encT)
theorem append_th {ops : Array Oper} {rest : List Oper} {o : Oper} {a : Act} {Q : Exit → Act → World → Prop} (hgd : o.guard = none) (s x : Operand) (ho : o.op = .call { callee := .builtin .append, args := #[s, x], argTypes := #[75, 75] })
    {v xv : Value} {xs ys : List Th} (H : HL w0 w (rw3 w0.heap.size v xs :: L)) (hs : a.eval s = v) (hx : a.eval x = xv) (hr : Rd 3 xv ys.length (ys.flatMap encT) w) (hb : xs.length + ys.length ≤ 5864062014805)
    (h : ∀ v' w', HL w0 w' (rw3 w0.heap.size v' (xs ++ ys) :: L) → wpList Try.prog ops Q rest (a.put o.dst v') w') : wpList Try.prog ops Q (o :: rest) a w := by
  refine wpList_append_hl (m := ys.length) (news := ys.flatMap encT) sliceT hgd s x ho H hs hx hr (encT_one ys) (by unfold maxLen; omega) (by omega) (fun v' w' H' _ => h v' w' ?_)
  unfold rw3
  rw [List.length_append, List.flatMap_append]
  exact H'
theorem step_append_th {ops : Array Oper} {o : Oper} {a : Act} {K : Act → World → Prop} {Q : Exit → Act → World → Prop} {Z : Prop} (hgd : o.guard = none) (s x : Operand) (ho : o.op = .call { callee := .builtin .append, args := #[s, x], argTypes := #[75, 75] })
    {v xv : Value} {xs ys : List Th} (H : HL w0 w (rw3 w0.heap.size v xs :: L)) (hs : a.eval s = v) (hx : a.eval x = xv) (hr : Rd 3 xv ys.length (ys.flatMap encT) w) (hb : xs.length + ys.length ≤ 5864062014805)
    (h : ∀ v' w', HL w0 w' (rw3 w0.heap.size v' (xs ++ ys) :: L) → K (a.put o.dst v') w') : if Region.wanted o (yielded ops a.tmps) = true then o.wp Try.prog a w K Q else Z := by
  refine step_append_hl (m := ys.length) (news := ys.flatMap encT) (ys := #[]) sliceT hgd s x ho H hs hx hr (encT_one ys) (by unfold maxLen; omega) (by omega) (fun v' w' H' => h v' w' ?_)
  unfold rw3
  rw [List.length_append, List.flatMap_append]
  exact H'
theorem toView (H : HL w0 w (rw3 w0.heap.size v l :: L)) : HL w0 w (vw v l :: L) := H.viewOf
theorem nil3 (H : HL w0 w L) : HL w0 w (rw3 w0.heap.size (.slice none 0 0) [] :: L) := H.nilRow _ _ _

set_option maxRecDepth 100000 in
set_option maxHeartbeats 800000 in
theorem clone_ok (H : HL w0 w (blk p (ob v) :: vw v l :: L)) (hl : l.length ≤ 4398046511104) : Calls Try.prog 21 #[.pointer (some ⟨p, 0, none⟩)] w fun e w' =>
    ∃ q u, e = .returned (.pointer (some ⟨q, 0, none⟩)) ∧ HL w0 w' (blk q (ob u) :: vw u l :: blk p (ob v) :: vw v l :: L) := by
  have H1 := H.alloc (ob (.slice none 0 0))
  have c1 := cellOne H1 (b := p) (v := v) (E := 77) (by simp [ob])
  have c2 := cellOne H1 (b := w.heap.size) (v := .slice none 0 0) (E := 77) (by simp [ob])
  unfold ob at c1 c2
  obtain ⟨A, c, rfl, hA, -, -⟩ := vw_shape H.tail (List.mem_cons_self ..)
  go_enter Try.func21, Try.ntmps21
  go_wp2
  unfold ob at H1
  generalize hq : w.heap.size = q at *
  generalize w.alloc (.cells #[.slice none 0 0] 77) = W at *
  have H2 := nil3 H1.drew
  have r2 : Rd 3 (.slice A l.length c) l.length (l.flatMap encT) W.drew := H1.drew.rdView (by simp [vw])
  have b2 : ([] : List Th).length + l.length ≤ 5864062014805 := by simp only [List.length_nil]; omega
  have k0 : W.drew.cell? ⟨p, 0, none⟩ = some (.slice A l.length c) := cellOne H1.drew (E := 77) (by simp)
  have k1 : W.drew.cell? ⟨q, 0, none⟩ = some (.slice none 0 0) := cellOne H1.drew (E := 77) (by simp)
  go_region_law
    ((refine step_append_th (v := .slice none 0 0) (xv := .slice A l.length c) (xs := []) (ys := l) rfl _ _ rfl H2 rfl rfl r2 b2 ?_; rw [List.nil_append]; intro u w3 H3; obtain ⟨A3, c3, rfl, -, -, -⟩ := row_shape H3.head;
      have k3 : w3.cell? ⟨p, 0, none⟩ = some (.slice A l.length c) := cellOne H3 (E := 77) (by simp);
      have k4 : w3.cell? ⟨q, 0, none⟩ = some (.slice none 0 0) := cellOne H3 (E := 77) (by simp);
      have k5 : w3.frozen? ⟨q, 0, none⟩ = false := H3.frozenOf (b := q) (vs := #[.slice none 0 0]) (E := 77) (by simp) 0;
      have HS := H3.setAt [_] 0 (.slice A3 l.length c3);
      have k6 : (w3.setCell ⟨q, 0, none⟩ (.slice A3 l.length c3)).cell? ⟨p, 0, none⟩ = some (.slice A l.length c) := cellOne HS (E := 77) (by simp)))
  all_goals
    go_wp2
    go_ret
    exact ⟨q, _, rfl, (toView HS).swap⟩

/-- What came of the list: without the thing at a place. -/
def cut (l : List Th) (k : Nat) : List Th := l.take k ++ l.drop (k + 1)

theorem take_flat (l : List Th) (k : Nat) : (l.take k).flatMap encT = (l.flatMap encT).take (k * 3) := by
  induction l generalizing k with
  | nil => simp
  | cons t l ih =>
    cases k with
    | zero => simp
    | succ k =>
      rw [List.take_succ_cons, List.flatMap_cons, List.flatMap_cons, ih, List.take_append, show (encT t).length = 3 from rfl, List.take_of_length_le (l := encT t) (by simp [encT]; omega), show (k + 1) * 3 - 3 = k * 3 by omega]
theorem drop_flat (l : List Th) (k : Nat) : (l.drop k).flatMap encT = (l.flatMap encT).drop (k * 3) := by
  induction l generalizing k with
  | nil => simp
  | cons t l ih =>
    cases k with
    | zero => simp
    | succ k =>
      rw [List.drop_succ_cons, List.flatMap_cons, ih, List.drop_append, show (encT t).length = 3 from rfl, List.drop_of_length_le (l := encT t) (by simp [encT]; omega), List.nil_append, show (k + 1) * 3 - 3 = k * 3 by omega]
theorem rd_take {w : World} {A : Option Addr} {c n : Nat} {l : List Th} (h : Rd 3 (.slice A n c) l.length (l.flatMap encT) w) {k : Nat} (hk : k ≤ l.length) : Rd 3 (.slice A k c) (l.take k).length ((l.take k).flatMap encT) w := by
  obtain rfl : n = l.length := by obtain ⟨-, -, a, c', h3, -⟩ := id h; simp only [Value.slice.injEq] at h3; exact h3.2.1
  rw [List.length_take, Nat.min_eq_left hk, take_flat]
  exact rd_prefix h k hk
theorem rd_drop {w : World} {a a' : Addr} {c n : Nat} {l : List Th} (h : Rd 3 (.slice (some a) n c) l.length (l.flatMap encT) w) {k : Nat} (hk : k ≤ l.length) (ha : a' = a.add (k * 3) ∨ l.length = k) : Rd 3 (.slice (some a') (l.length - k) (c - k)) (l.drop k).length ((l.drop k).flatMap encT) w := by
  obtain rfl : n = l.length := by obtain ⟨-, -, a, c', h3, -⟩ := id h; simp only [Value.slice.injEq] at h3; exact h3.2.1
  rw [List.length_drop, drop_flat]
  exact rd_suffix h k hk ha

theorem rd_drop0 {w : World} {a : Addr} {k n : Nat} {l : List Th} (h : Rd 3 (.slice (some a) n k) l.length (l.flatMap encT) w) (hk : l.length ≤ k) : Rd 3 (.slice (some a) 0 0) (l.drop k).length ((l.drop k).flatMap encT) w := by
  have hn : n = l.length := by obtain ⟨-, -, a, c', h3, -⟩ := id h; simp only [Value.slice.injEq] at h3; exact h3.2.1
  rw [List.drop_of_length_le hk]
  exact ⟨rfl, by simp, some a, 0, rfl, Nat.le_refl _, by simp, (fun e => nomatch e), fun ad hd j u hu => by simp at hu⟩

set_option maxRecDepth 100000 in
set_option maxHeartbeats 1000000 in
theorem drop_ok (H : HL w0 w (blk p (ob v) :: vw v l :: L)) (hl : l.length ≤ 4398046511104) (id : Int) : Calls Try.prog 43 #[.pointer (some ⟨p, 0, none⟩), .int .i64 id] w fun e w' =>
    (e = .returned (.bool false) ∧ (∀ t ∈ l, t.id ≠ id) ∧ HL w0 w' (blk p (ob v) :: vw v l :: L)) ∨
    ∃ (k : Nat) (t : Th) (u : Value), e = .returned (.bool true) ∧ l[k]? = some t ∧ t.id = id ∧ HL w0 w' (blk p (ob u) :: vw u (cut l k) :: L) := by
  have hf := find_ok H (by omega) id
  rcases ix_cases l id with ⟨hix, hno⟩ | ⟨k, t, hix, ht, hid⟩
  · rw [hix] at hf
    have Hno := Lib.hid hno
    clear hno hix H
    go_enter Try.func43, Try.ntmps43
    go_wp2_with (go_at_call 53; refine hf.mono ?_; rintro e w1 ⟨rfl, H1⟩; clear hf)
    go_ret
    exact .inl ⟨rfl, Hno.out, H1⟩
  · rw [hix] at hf
    have hlt : k < l.length := (List.getElem?_eq_some_iff.1 ht).1
    obtain ⟨A, c, rfl, hA, hc, -⟩ := vw_shape H.tail (List.mem_cons_self ..)
    obtain ⟨b, o, rfl⟩ := hA.resolve_left (by omega)
    have Hm := Lib.hid (And.intro ht hid)
    clear hid ht hix H hA
    by_cases hck : c = k + 1
    · subst hck
      go_enter Try.func43, Try.ntmps43
      go_wp2_with (first
        | (go_at_call 53; refine hf.mono ?_; rintro e w1 ⟨rfl, H1⟩; clear hf;
            have c1 := cellOne H1 (b := p) (v := .slice (some ⟨b, o, none⟩) l.length (k + 1)) (E := 77) (List.mem_cons_self ..); have H2 := nil3 H1; have r2 := rd_take (H1.tail.rdView (List.mem_cons_self ..)) (k := k) (by omega); have b2 : ([] : List Th).length + (l.take k).length ≤ 5864062014805 := (by simp only [List.length_nil, List.length_take]; omega); clear H1)
        | (at_builtin; refine append_th (v := .slice none 0 0) (xv := .slice (some ⟨b, o, none⟩) k (k + 1)) (xs := []) (ys := l.take k) rfl _ _ rfl H2 rfl rfl r2 b2 ?_; rw [List.nil_append]; intro u w3 H3; clear H2 r2 b2 c1; have c1 := cellOne H3 (b := p) (v := .slice (some ⟨b, o, none⟩) l.length (k + 1)) (E := 77) (List.mem_cons_of_mem _ (List.mem_cons_self ..));
            have r3 := rd_drop0 ((H3.sel 3 [2]).rdView (List.mem_cons_self ..)) hc; have b3 : (l.take k).length + (l.drop (k + 1)).length ≤ 5864062014805 := (by simp only [List.length_take, List.length_drop]; omega))
        | (at_builtin; refine append_th (v := u) (xv := .slice (some ⟨b, o, none⟩) 0 0) (xs := l.take k) (ys := l.drop (k + 1)) rfl _ _ rfl H3 rfl rfl r3 b3 ?_; intro u4 w4 H4; clear H3 r3 b3 c1; obtain ⟨A4, q4, h4, -, -, -⟩ := row_shape H4.head; generalize (l.take k ++ l.drop (k + 1)).length = N4 at h4; subst h4;
            have c1 := cellOne H4 (b := p) (v := .slice (some ⟨b, o, none⟩) l.length (k + 1)) (E := 77) (List.mem_cons_of_mem _ (List.mem_cons_self ..)); have f1 := H4.frozenOf (b := p) (vs := #[.slice (some ⟨b, o, none⟩) l.length (k + 1)]) (E := 77) (List.mem_cons_of_mem _ (List.mem_cons_self ..)) 0; have HS := H4.setAt [_] 0 (.slice A4 N4 q4)))
      go_ret
      exact .inr ⟨k, t, .slice A4 N4 q4, rfl, Hm.out.1, Hm.out.2, (toView HS).sel 3 [1, 0]⟩
    · skip
      go_enter Try.func43, Try.ntmps43
      go_wp2_with (first
        | (go_at_call 53; refine hf.mono ?_; rintro e w1 ⟨rfl, H1⟩; clear hf;
            have c1 := cellOne H1 (b := p) (v := .slice (some ⟨b, o, none⟩) l.length (c)) (E := 77) (List.mem_cons_self ..); have H2 := nil3 H1; have r2 := rd_take (H1.tail.rdView (List.mem_cons_self ..)) (k := k) (by omega); have b2 : ([] : List Th).length + (l.take k).length ≤ 5864062014805 := (by simp only [List.length_nil, List.length_take]; omega); clear H1)
        | (at_builtin; refine append_th (v := .slice none 0 0) (xv := .slice (some ⟨b, o, none⟩) k (c)) (xs := []) (ys := l.take k) rfl _ _ rfl H2 rfl rfl r2 b2 ?_; rw [List.nil_append]; intro u w3 H3; clear H2 r2 b2 c1; have c1 := cellOne H3 (b := p) (v := .slice (some ⟨b, o, none⟩) l.length (c)) (E := 77) (List.mem_cons_of_mem _ (List.mem_cons_self ..));
            have r3 := rd_drop (a' := ⟨b, o + (k + 1) * 3, none⟩) ((H3.sel 3 [2]).rdView (List.mem_cons_self ..)) (k := k + 1) (by omega) (.inl (add_plain b o _).symm); have b3 : (l.take k).length + (l.drop (k + 1)).length ≤ 5864062014805 := (by simp only [List.length_take, List.length_drop]; omega))
        | (at_builtin; refine append_th (v := u) (xv := .slice (some ⟨b, o + (k + 1) * 3, none⟩) (l.length - (k + 1)) (c - (k + 1))) (xs := l.take k) (ys := l.drop (k + 1)) rfl _ _ rfl H3 rfl rfl r3 b3 ?_; intro u4 w4 H4; clear H3 r3 b3 c1; obtain ⟨A4, q4, h4, -, -, -⟩ := row_shape H4.head; generalize (l.take k ++ l.drop (k + 1)).length = N4 at h4; subst h4;
            have c1 := cellOne H4 (b := p) (v := .slice (some ⟨b, o, none⟩) l.length (c)) (E := 77) (List.mem_cons_of_mem _ (List.mem_cons_self ..)); have f1 := H4.frozenOf (b := p) (vs := #[.slice (some ⟨b, o, none⟩) l.length (c)]) (E := 77) (List.mem_cons_of_mem _ (List.mem_cons_self ..)) 0; have HS := H4.setAt [_] 0 (.slice A4 N4 q4)))
      go_ret
      exact .inr ⟨k, t, .slice A4 N4 q4, rfl, Hm.out.1, Hm.out.2, (toView HS).sel 3 [1, 0]⟩

end
end Go.Proofs.Ythibbjllfmhdmaa.Ref

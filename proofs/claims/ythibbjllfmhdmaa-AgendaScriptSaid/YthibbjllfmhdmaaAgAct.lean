/- The law's act: what is done to both answers alike. -/
import Derived.Test.YthibbjllfmhdmaaAgSame
import Derived.Deep.RegionHeld
set_option linter.unusedVariables false
set_option linter.unusedSimpArgs false
namespace Go.Proofs.Ythibbjllfmhdmaa
open Go.RowKit Go.Proofs.HL AgInt
open Ref (Th ltT cut)

section
variable {w0 w : World} {L : List At} {ap ma p : Nat} {v : Value} {M : List Ent1} {l : List Th}
/-- What an act leaves. -/
def ActPost (w0 : World) (ap ma p : Nat) (n : Nat) (L : List At) (e : Ending) (w' : World) : Prop :=
  e = .returned (.bool true) ∧ ∃ v' M' l', Rel M' l' ∧ l'.length ≤ n + 1 ∧ HL w0 w' (pair ap ma p v' M' l' ++ L)

theorem ref_add_hit (H : HL w0 w (blk p (Ref.ob v) :: Ref.vw v l :: L)) (hl : l.length ≤ 4398046511104) (id at_ x : Int) (hh : ∃ t ∈ l, t.id = id) : Calls Try.prog 41 #[.pointer (some ⟨p, 0, none⟩), .int .i64 id, .int .i64 at_, .int .i64 x] w fun e w' =>
    e = .returned (.int .i64 30) ∧ HL w0 w' (blk p (Ref.ob v) :: Ref.vw v l :: L) := by
  refine (Ref.add_ok H hl id at_ x).mono fun e w' h => ?_
  rcases h with ⟨h1, -, h2⟩ | ⟨-, h2, -⟩
  · exact ⟨h1, h2⟩
  · obtain ⟨t, ht, hid⟩ := hh
    exact absurd hid (h2 t ht)
theorem ref_add_miss (H : HL w0 w (blk p (Ref.ob v) :: Ref.vw v l :: L)) (hR : Rel M l) (hl : l.length ≤ 4398046511104) (id at_ x : Int) (hh : ∀ t ∈ l, t.id ≠ id) : Calls Try.prog 41 #[.pointer (some ⟨p, 0, none⟩), .int .i64 id, .int .i64 at_, .int .i64 x] w fun e w' =>
    e = .returned (.int .i64 0) ∧ ∃ u l', Rel (M ++ [⟨id, at_, x⟩]) l' ∧ l'.length = l.length + 1 ∧ HL w0 w' (blk p (Ref.ob u) :: Ref.vw u l' :: L) := by
  refine (Ref.add_ok H hl id at_ x).mono fun e w' h => ?_
  rcases h with ⟨-, ⟨t, ht, hid⟩, -⟩ | ⟨h1, -, k, hk, hb, ha, u, hu⟩
  · exact absurd hid (hh t ht)
  · exact ⟨h1, u, _, hR.add hh hk hb ha, by simp; omega, hu⟩

set_option maxRecDepth 100000 in
set_option maxHeartbeats 2000000 in
theorem act_add (H : HL w0 w (pair ap ma p v M l ++ L)) (hR : Rel M l) (hl : l.length ≤ 4398046511104) (kind which id at_ x : Int) (hk : amongI kind 6 = 0) :
    Calls Try.prog 22 #[.agg #[.int .i64 kind, .int .i64 which, .int .i64 id, .int .i64 at_, .int .i64 x], .pointer (some ⟨ap, 0, none⟩), .pointer (some ⟨p, 0, none⟩)] w fun e w' => ActPost w0 ap ma p l.length L e w' := by
  have H1 := H.alloc (.cells #[.int .i64 kind, .int .i64 which, .int .i64 id, .int .i64 at_, .int .i64 x] 45)
  have ha := among_ok kind 6
  rw [hk] at ha
  go_enter Try.func22, Try.ntmps22
  go_wp2_with (go_at_call 19; refine (ha _).mono ?_; rintro e w1 ⟨rfl, rfl⟩)
  have S1 : (w.alloc (.cells #[.int .i64 kind, .int .i64 which, .int .i64 id, .int .i64 at_, .int .i64 x] 45)).drew.cell? ⟨w.heap.size, 2, none⟩ = some (.int .i64 id) ∧ (w.alloc (.cells #[.int .i64 kind, .int .i64 which, .int .i64 id, .int .i64 at_, .int .i64 x] 45)).drew.cell? ⟨w.heap.size, 3, none⟩ = some (.int .i64 at_) ∧ (w.alloc (.cells #[.int .i64 kind, .int .i64 which, .int .i64 id, .int .i64 at_, .int .i64 x] 45)).drew.cell? ⟨w.heap.size, 4, none⟩ = some (.int .i64 x) :=
    ⟨by rw [H1.drew.cell 2]; rfl, by rw [H1.drew.cell 3]; rfl, by rw [H1.drew.cell 4]; rfl⟩
  have H2 := H1.drew
  generalize (w.alloc (.cells #[.int .i64 kind, .int .i64 which, .int .i64 id, .int .i64 at_, .int .i64 x] 45)) = W at *
  generalize w.heap.size = B at *
  clear H1 H
  by_cases hh : ∃ t ∈ l, t.id = id
  · obtain ⟨te, hfe⟩ : ∃ te, findE M id = some te := by
      obtain ⟨t, h1, h2⟩ := hh
      have := hR.hit h1
      exact ⟨_, by rwa [h2] at this⟩
    have Hfe := Lib.hid hfe; have Hh := Lib.hid hh
    clear hfe hh
    go_region_held (fun w' => w'.cell? ⟨B, 2, none⟩ = some (.int .i64 id) ∧ w'.cell? ⟨B, 3, none⟩ = some (.int .i64 at_) ∧ w'.cell? ⟨B, 4, none⟩ = some (.int .i64 x)) (first | assumption | go_keep)
      (first
        | (go_at_call 17; refine (add_ok (H2.sel 5 [1, 2, 3, 4, 0]) id at_ x).mono ?_; rw [Hfe.out]; rintro e w3 ⟨he, H3⟩; obtain rfl : e = .returned (.int .i64 30) := he; clear H2 S1; have S1 : w3.cell? ⟨B, 2, none⟩ = some (.int .i64 id) ∧ w3.cell? ⟨B, 3, none⟩ = some (.int .i64 at_) ∧ w3.cell? ⟨B, 4, none⟩ = some (.int .i64 x) := (by have h5 := H3.sel 5 [4]; exact ⟨by rw [h5.cell 2]; rfl, by rw [h5.cell 3]; rfl, by rw [h5.cell 4]; rfl⟩))
        | (go_at_call 41; refine (ref_add_hit (l := l) (v := v) (H3.sel 5 [2, 3, 0, 1, 4]) hl id at_ x Hh.out).mono ?_; rintro e w4 ⟨rfl, H4⟩; clear S1 H3; have S1 : w4.cell? ⟨B, 2, none⟩ = some (.int .i64 id) ∧ w4.cell? ⟨B, 3, none⟩ = some (.int .i64 at_) ∧ w4.cell? ⟨B, 4, none⟩ = some (.int .i64 x) := (by have h5 := H4.sel 5 [4]; exact ⟨by rw [h5.cell 2]; rfl, by rw [h5.cell 3]; rfl, by rw [h5.cell 4]; rfl⟩)))
    go_wp2
    go_ret
    exact ⟨rfl, v, M, l, hR, by omega, H4.sel 5 [2, 3, 0, 1]⟩
  · have hm : ∀ t ∈ l, t.id ≠ id := fun t ht e => hh ⟨t, ht, e⟩
    have Hfe := Lib.hid (hR.miss hm); have Hh := Lib.hid hm
    clear hm hh
    go_region_held (fun w' => w'.cell? ⟨B, 2, none⟩ = some (.int .i64 id) ∧ w'.cell? ⟨B, 3, none⟩ = some (.int .i64 at_) ∧ w'.cell? ⟨B, 4, none⟩ = some (.int .i64 x)) (first | assumption | go_keep)
      (first
        | (go_at_call 17; refine (add_ok (H2.sel 5 [1, 2, 3, 4, 0]) id at_ x).mono ?_; rw [Hfe.out]; rintro e w3 ⟨he, H3⟩; obtain rfl : e = .returned (.int .i64 0) := he; replace H3 : HL w0 w3 (blk ap (obj ma) :: mp ma (kv enc (M ++ [⟨id, at_, x⟩])) :: blk p (Ref.ob v) :: Ref.vw v l :: blk B (.cells #[.int .i64 kind, .int .i64 which, .int .i64 id, .int .i64 at_, .int .i64 x] 45) :: L) := H3; clear H2 S1; have S1 : w3.cell? ⟨B, 2, none⟩ = some (.int .i64 id) ∧ w3.cell? ⟨B, 3, none⟩ = some (.int .i64 at_) ∧ w3.cell? ⟨B, 4, none⟩ = some (.int .i64 x) := (by have h5 := H3.sel 5 [4]; exact ⟨by rw [h5.cell 2]; rfl, by rw [h5.cell 3]; rfl, by rw [h5.cell 4]; rfl⟩))
        | (go_at_call 41; refine (ref_add_miss (l := l) (v := v) (H3.sel 5 [2, 3, 0, 1, 4]) hR hl id at_ x Hh.out).mono ?_; rintro e w4 ⟨rfl, u', l', hR', hl', H4⟩; clear S1 H3; have S1 : w4.cell? ⟨B, 2, none⟩ = some (.int .i64 id) ∧ w4.cell? ⟨B, 3, none⟩ = some (.int .i64 at_) ∧ w4.cell? ⟨B, 4, none⟩ = some (.int .i64 x) := (by have h5 := H4.sel 5 [4]; exact ⟨by rw [h5.cell 2]; rfl, by rw [h5.cell 3]; rfl, by rw [h5.cell 4]; rfl⟩)))
    go_wp2
    go_ret
    exact ⟨rfl, u', _, l', hR', by omega, H4.sel 5 [2, 3, 0, 1]⟩

theorem ref_drop_hit (H : HL w0 w (blk p (Ref.ob v) :: Ref.vw v l :: L)) (hR : Rel M l) (hl : l.length ≤ 4398046511104) (id : Int) (hh : ∃ t ∈ l, t.id = id) : Calls Try.prog 43 #[.pointer (some ⟨p, 0, none⟩), .int .i64 id] w fun e w' =>
    e = .returned (.bool true) ∧ ∃ u l', Rel (dropE M id) l' ∧ l'.length ≤ l.length ∧ HL w0 w' (blk p (Ref.ob u) :: Ref.vw u l' :: L) := by
  refine (Ref.drop_ok H hl id).mono fun e w' h => ?_
  rcases h with ⟨-, hn, -⟩ | ⟨k, t, u, h1, ht, hid, h2⟩
  · obtain ⟨t, ht, hid⟩ := hh
    exact absurd hid (hn t ht)
  · refine ⟨h1, u, cut l k, ?_, by unfold cut; simp; omega, h2⟩
    rw [← hid]
    exact hR.drop ht
theorem ref_drop_miss (H : HL w0 w (blk p (Ref.ob v) :: Ref.vw v l :: L)) (hl : l.length ≤ 4398046511104) (id : Int) (hh : ∀ t ∈ l, t.id ≠ id) : Calls Try.prog 43 #[.pointer (some ⟨p, 0, none⟩), .int .i64 id] w fun e w' =>
    e = .returned (.bool false) ∧ HL w0 w' (blk p (Ref.ob v) :: Ref.vw v l :: L) := by
  refine (Ref.drop_ok H hl id).mono fun e w' h => ?_
  rcases h with ⟨h1, -, h2⟩ | ⟨k, t, u, -, ht, hid, -⟩
  · exact ⟨h1, h2⟩
  · exact absurd hid (hh t (List.mem_of_getElem? ht))

set_option maxRecDepth 100000 in
set_option maxHeartbeats 2000000 in
theorem act_drop (H : HL w0 w (pair ap ma p v M l ++ L)) (hR : Rel M l) (hl : l.length ≤ 4398046511104) (kind which id at_ x : Int) (hk : amongI kind 6 = 2) :
    Calls Try.prog 22 #[.agg #[.int .i64 kind, .int .i64 which, .int .i64 id, .int .i64 at_, .int .i64 x], .pointer (some ⟨ap, 0, none⟩), .pointer (some ⟨p, 0, none⟩)] w fun e w' => ActPost w0 ap ma p l.length L e w' := by
  have H1 := H.alloc (.cells #[.int .i64 kind, .int .i64 which, .int .i64 id, .int .i64 at_, .int .i64 x] 45)
  have ha := among_ok kind 6
  rw [hk] at ha
  go_enter Try.func22, Try.ntmps22
  go_wp2_with (go_at_call 19; refine (ha _).mono ?_; rintro e w1 ⟨rfl, rfl⟩)
  have S1 : (w.alloc (.cells #[.int .i64 kind, .int .i64 which, .int .i64 id, .int .i64 at_, .int .i64 x] 45)).drew.cell? ⟨w.heap.size, 2, none⟩ = some (.int .i64 id) := by rw [H1.drew.cell 2]; rfl
  have H2 := H1.drew
  generalize (w.alloc (.cells #[.int .i64 kind, .int .i64 which, .int .i64 id, .int .i64 at_, .int .i64 x] 45)) = W at *
  generalize w.heap.size = B at *
  clear H1 H
  by_cases hh : ∃ t ∈ l, t.id = id
  · obtain ⟨te, hfe⟩ : ∃ te, findE M id = some te := by
      obtain ⟨t, h1, h2⟩ := hh
      have := hR.hit h1
      exact ⟨_, by rwa [h2] at this⟩
    have Hfe := Lib.hid hfe; have Hh := Lib.hid hh
    clear hfe hh
    go_region_held (fun w' => w'.cell? ⟨B, 2, none⟩ = some (.int .i64 id)) (first | assumption | go_keep)
      (first
        | (go_at_call 25; refine (drop_ok (H2.sel 5 [1, 2, 3, 4, 0]) id).mono ?_; rw [Hfe.out]; rintro e w3 ⟨he, H3⟩; obtain rfl : e = .returned (.bool true) := he; clear H2 S1; have S1 : w3.cell? ⟨B, 2, none⟩ = some (.int .i64 id) := (by have h5 := H3.sel 5 [4]; rw [h5.cell 2]; rfl))
        | (go_at_call 43; refine (ref_drop_hit (l := l) (v := v) (H3.sel 5 [2, 3, 0, 1, 4]) hR hl id Hh.out).mono ?_; rintro e w4 ⟨rfl, u', l', hR', hl', H4⟩; clear S1 H3; have S1 : w4.cell? ⟨B, 2, none⟩ = some (.int .i64 id) := (by have h5 := H4.sel 5 [4]; rw [h5.cell 2]; rfl)))
    go_wp2
    go_ret
    exact ⟨rfl, u', _, l', hR', by omega, H4.sel 5 [2, 3, 0, 1]⟩
  · have hm : ∀ t ∈ l, t.id ≠ id := fun t ht e => hh ⟨t, ht, e⟩
    have Hfe := Lib.hid (hR.miss hm); have Hh := Lib.hid hm; have Hd := Lib.hid (hR.dropMiss hm)
    clear hm hh
    go_region_held (fun w' => w'.cell? ⟨B, 2, none⟩ = some (.int .i64 id)) (first | assumption | go_keep)
      (first
        | (go_at_call 25; refine (drop_ok (H2.sel 5 [1, 2, 3, 4, 0]) id).mono ?_; rw [Hfe.out, Hd.out]; rintro e w3 ⟨he, H3⟩; obtain rfl : e = .returned (.bool false) := he; clear H2 S1; have S1 : w3.cell? ⟨B, 2, none⟩ = some (.int .i64 id) := (by have h5 := H3.sel 5 [4]; rw [h5.cell 2]; rfl))
        | (go_at_call 43; refine (ref_drop_miss (l := l) (v := v) (H3.sel 5 [2, 3, 0, 1, 4]) hl id Hh.out).mono ?_; rintro e w4 ⟨rfl, H4⟩; clear S1 H3; have S1 : w4.cell? ⟨B, 2, none⟩ = some (.int .i64 id) := (by have h5 := H4.sel 5 [4]; rw [h5.cell 2]; rfl)))
    go_wp2
    go_ret
    exact ⟨rfl, v, M, l, hR, by omega, H4.sel 5 [2, 3, 0, 1]⟩

set_option maxRecDepth 100000 in
set_option maxHeartbeats 1000000 in
theorem act_clone (H : HL w0 w (pair ap ma p v M l ++ L)) (hR : Rel M l) (kind which id at_ x : Int) (hk : amongI kind 6 = 4) :
    Calls Try.prog 22 #[.agg #[.int .i64 kind, .int .i64 which, .int .i64 id, .int .i64 at_, .int .i64 x], .pointer (some ⟨ap, 0, none⟩), .pointer (some ⟨p, 0, none⟩)] w fun e w' => ActPost w0 ap ma p l.length L e w' := by
  have H1 := H.alloc' (.cells #[.int .i64 kind, .int .i64 which, .int .i64 id, .int .i64 at_, .int .i64 x] 45)
  have ha := among_ok kind 6
  rw [hk] at ha
  go_enter Try.func22, Try.ntmps22
  go_wp2_with (go_at_call 19; refine (ha _).mono ?_; rintro e w1 ⟨rfl, rfl⟩)
  go_ret
  exact ⟨rfl, v, M, l, hR, by omega, H1⟩
end
end Go.Proofs.Ythibbjllfmhdmaa

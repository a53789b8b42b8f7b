/- The law's act: Get; Due; All. -/
import Derived.Test.YthibbjllfmhdmaaAgAct
set_option linter.unusedVariables false
set_option linter.unusedSimpArgs false
namespace Go.Proofs.Ythibbjllfmhdmaa
open Go.RowKit Go.Proofs.HL AgInt
open Ref (Th ltT cut)

section
variable {w0 w : World} {L : List At} {ap ma p : Nat} {v : Value} {M : List Ent1} {l : List Th}
theorem ref_get_hit (H : HL w0 w (blk p (Ref.ob v) :: Ref.vw v l :: L)) (hR : Rel M l) (hl : l.length ≤ 8796093022208) {t : Th} (ht : t ∈ l) : Calls Try.prog 42 #[.pointer (some ⟨p, 0, none⟩), .int .i64 t.id] w fun e w' =>
    e = .returned (.tuple #[.int .i64 t.at_, .int .i64 t.x, .bool true]) ∧ HL w0 w' (blk p (Ref.ob v) :: Ref.vw v l :: L) := by
  refine (Ref.get_ok H hl t.id).mono fun e w' h => ?_
  obtain ⟨⟨o, rfl, ho⟩, h2⟩ := h
  rcases ho with ⟨-, hn⟩ | ⟨t', ht', rfl, hid⟩
  · exact absurd rfl (hn t ht)
  · obtain rfl := inj_of_nodup _ hR.idsL ht' ht hid
    exact ⟨rfl, h2⟩
theorem ref_get_miss (H : HL w0 w (blk p (Ref.ob v) :: Ref.vw v l :: L)) (hl : l.length ≤ 8796093022208) (id : Int) (hn : ∀ t ∈ l, t.id ≠ id) : Calls Try.prog 42 #[.pointer (some ⟨p, 0, none⟩), .int .i64 id] w fun e w' =>
    e = .returned (.tuple #[.int .i64 0, .int .i64 0, .bool false]) ∧ HL w0 w' (blk p (Ref.ob v) :: Ref.vw v l :: L) := by
  refine (Ref.get_ok H hl id).mono fun e w' h => ?_
  obtain ⟨⟨o, rfl, ho⟩, h2⟩ := h
  rcases ho with ⟨rfl, -⟩ | ⟨t', ht', rfl, hid⟩
  · exact ⟨rfl, h2⟩
  · exact absurd hid (hn t' ht')

set_option maxRecDepth 100000 in
set_option maxHeartbeats 2000000 in
theorem act_get (H : HL w0 w (pair ap ma p v M l ++ L)) (hR : Rel M l) (hl : l.length ≤ 4398046511104) (kind which id at_ x : Int) (hk : amongI kind 6 = 1) :
    Calls Try.prog 22 #[.agg #[.int .i64 kind, .int .i64 which, .int .i64 id, .int .i64 at_, .int .i64 x], .pointer (some ⟨ap, 0, none⟩), .pointer (some ⟨p, 0, none⟩)] w fun e w' => ActPost w0 ap ma p l.length L e w' := by
  have H1 := H.alloc (.cells #[.int .i64 kind, .int .i64 which, .int .i64 id, .int .i64 at_, .int .i64 x] 45)
  have ha := among_ok kind 6
  rw [hk] at ha
  by_cases hh : ∃ t ∈ l, t.id = id
  · obtain ⟨t, ht, rfl⟩ := hh
    have Hfe := Lib.hid (hR.hit ht); have Ht := Lib.hid ht
    clear ht
    go_enter Try.func22, Try.ntmps22
    go_wp2_with (first
      | (go_at_call 19; refine (ha _).mono ?_; rintro e w1 ⟨rfl, rfl⟩)
      | (go_at_call 16; refine (get_ok (H1.sel 5 [1, 2, 3, 4, 0]) t.id).mono ?_; rw [Hfe.out]; rintro e w3 ⟨he, H3⟩; obtain rfl : e = .returned (.tuple #[.int .i64 t.at_, .int .i64 t.x, .bool true]) := he; clear H1; have S1 : w3.cell? ⟨w.heap.size, 2, none⟩ = some (.int .i64 t.id) := (by have h5 := H3.sel 5 [4]; rw [h5.cell 2]; rfl))
      | (go_at_call 42; refine (ref_get_hit (l := l) (v := v) (H3.sel 5 [2, 3, 0, 1, 4]) hR (by omega) Ht.out).mono ?_; rintro e w4 ⟨rfl, H4⟩; clear S1 H3))
    go_ret
    exact ⟨rfl, v, M, l, hR, by omega, H4.sel 5 [2, 3, 0, 1]⟩
  · have hm : ∀ t ∈ l, t.id ≠ id := fun t ht e => hh ⟨t, ht, e⟩
    have Hfe := Lib.hid (hR.miss hm); have Hh := Lib.hid hm
    clear hm hh
    go_enter Try.func22, Try.ntmps22
    go_wp2_with (first
      | (go_at_call 19; refine (ha _).mono ?_; rintro e w1 ⟨rfl, rfl⟩)
      | (go_at_call 16; refine (get_ok (H1.sel 5 [1, 2, 3, 4, 0]) id).mono ?_; rw [Hfe.out]; rintro e w3 ⟨he, H3⟩; obtain rfl : e = .returned (.tuple #[.int .i64 0, .int .i64 0, .bool false]) := he; clear H1; have S1 : w3.cell? ⟨w.heap.size, 2, none⟩ = some (.int .i64 id) := (by have h5 := H3.sel 5 [4]; rw [h5.cell 2]; rfl))
      | (go_at_call 42; refine (ref_get_miss (l := l) (v := v) (H3.sel 5 [2, 3, 0, 1, 4]) (by omega) id Hh.out).mono ?_; rintro e w4 ⟨rfl, H4⟩; clear S1 H3))
    go_ret
    exact ⟨rfl, v, M, l, hR, by omega, H4.sel 5 [2, 3, 0, 1]⟩
end
end Go.Proofs.Ythibbjllfmhdmaa

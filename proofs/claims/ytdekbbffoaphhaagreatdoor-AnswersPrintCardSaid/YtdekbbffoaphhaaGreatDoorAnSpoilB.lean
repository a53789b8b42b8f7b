/- What is read of a text may be spoiled: where its lists lie. -/
import Derived.Test.YtdekbbffoaphhaaGreatDoorAnSpoil
import Derived.Test.YtdekbbffoaphhaaGreatDoorAnParse
set_option linter.unusedVariables false
set_option linter.unusedSimpArgs false
namespace Go.Proofs.HL
open Go.RowKit
/-- The block of an atom, where it is a row of cells of type E. -/
def spot (E : TypeId) (w : World) (A : At) : Option (Nat × Nat) :=
  match A.fp with
  | none => none
  | some b => match w.heap[b]? with
    | some (.cells cur F (0, 0)) => if F = E then some (b, cur.size) else none
    | _ => none
theorem spot_tame {E : TypeId} {w : World} {A : At} {p : Nat × Nat} (h : spot E w A = some p) : tame w A = wild E p := by
  unfold spot at h
  unfold tame
  split at h
  · cases h
  · rename_i b e
    rw [e]
    dsimp only
    split at h
    · rename_i cur F hg
      split at h
      · rename_i hF
        cases h
        subst hF
        simp only [hg]
      · cases h
    · cases h
theorem spot_row {w : World} {base : Nat} {E F : TypeId} {k n : Nat} {v : Value} {xs : List Value} (h : w.ownsRow base E k v n xs) :
    (v = .slice none 0 0 ∧ n = 0) ∨ ∃ g cap, v = .slice (some ⟨g, 0, none⟩) n cap ∧ n ≤ cap ∧ cap ≤ maxLen ∧ spot F w (row base E k v n xs) = if E = F then some (g, cap * k) else none := by
  obtain ⟨-, h | ⟨g, cap, cur, rfl, hb, hg, h1, h2, h3, -⟩⟩ := h
  · exact .inl h
  · refine .inr ⟨g, cap, rfl, h1, h2, ?_⟩
    have e : (row base E k (.slice (some ⟨g, 0, none⟩) n cap) n xs).fp = some g := rfl
    unfold spot
    simp only [e, hg, h3]
def spots (E : TypeId) (w : World) (K : List At) : List (Nat × Nat) := K.filterMap (spot E w)
theorem spots_mem {E : TypeId} {w : World} {K : List At} {p : Nat × Nat} (h : p ∈ spots E w K) : ∃ A ∈ K, spot E w A = some p := List.mem_filterMap.1 h
theorem spots_tame {E : TypeId} {w : World} {K : List At} {p : Nat × Nat} (h : p ∈ spots E w K) : wild E p ∈ K.map (tame w) := by
  obtain ⟨A, hA, hs⟩ := spots_mem h
  exact List.mem_map.2 ⟨A, hA, spot_tame hs⟩
end Go.Proofs.HL
namespace Go.Proofs.YtdekbbffoaphhaaGreatDoor
open Go.RowKit Go.Proofs.HL Go.Proofs.An
section
variable {w0 w : World} {L : List At}
theorem lies_wild {base : Nat} {K : List At} (hK : ∀ A ∈ K, A.holds w) {Au : Option Addr} {n cu : Nat} (h : Lies base K (.slice Au n cu)) : LiesW 1 (spots 3 w K) n (.slice Au n cu) := by
  rcases h with h | ⟨v, xs, hm, hu⟩
  · cases h; exact .inl ⟨rfl, rfl⟩
  · have hh : w.ownsRow base 3 1 v xs.length (intC xs) := hK _ hm
    rcases spot_row (F := 3) hh with ⟨rfl, h0⟩ | ⟨g, cap, rfl, h1, h2, h3⟩
    · rcases hu with hu | hu | ⟨b, o, n', c, k, h, -⟩
      · cases hu; exact .inl ⟨rfl, rfl⟩
      · cases hu; exact .inl ⟨rfl, rfl⟩
      · cases h
    · rw [if_pos rfl] at h3
      have hg : (g, cap * 1) ∈ spots 3 w K := List.mem_filterMap.2 ⟨_, hm, h3⟩
      rcases hu with hu | hu | ⟨b, o, n', c, k, h, hk, hu⟩
      · simp only [Value.slice.injEq] at hu
        obtain ⟨rfl, rfl, rfl⟩ := hu
        exact .inr ⟨g, 0, cu, _, hg, rfl, h1, h2, by omega⟩
      · cases hu; exact .inl ⟨rfl, rfl⟩
      · simp only [Value.slice.injEq, Option.some.injEq, Addr.mk.injEq] at h
        obtain ⟨⟨rfl, rfl, -⟩, rfl, rfl⟩ := h
        simp only [Value.slice.injEq] at hu
        obtain ⟨rfl, rfl, rfl⟩ := hu
        refine .inr ⟨g, if cap = k then 0 else 0 + k, cap - k, _, hg, ?_, by omega, by omega, ?_⟩
        · split <;> rfl
        · split <;> omega
theorem evC2_at : ∀ (ps : List (Ev × Value)) (i : Nat) (p : Ev × Value), ps[i]? = some p → (ps.flatMap evC2)[i * 6 + 5]? = some p.2 := fun ps i p h => by
  rw [flat_at evC2 6 (fun _ => rfl) ps i 5 p h (by decide)]
  rfl
/-- The frame in which the answer read is spoiled. -/
theorem spoil_frame {K : List At} (H : HL w0 w (K ++ L)) {Ae As Ar : Option Addr} {ce cs cr ne ns nr B : Nat} {ps : List (Ev × Value)} (hne : ne = ps.length)
    (hW : Wrs w0.heap.size K (.slice Ae ne ce) (.slice As ns cs) (.slice Ar nr cr) ps) (hps : ∀ p ∈ ps, ∃ Au n cu, p.2 = .slice Au n cu ∧ n ≤ B) :
    ∃ M G Gr pe, HL w0 w (evW 46 G B 0 ne pe :: (M ++ L)) ∧ LiesE pe ne (.slice Ae ne ce) ∧ LiesW 1 G ns (.slice As ns cs) ∧ LiesW 2 Gr nr (.slice Ar nr cr) ∧ (∀ p ∈ G, wild 3 p ∈ M) ∧ (∀ p ∈ Gr, wild 62 p ∈ M) := by
  have hK : ∀ A ∈ K, A.holds w := fun A hA => H.get (List.mem_append_left _ hA)
  have hS := lies_wild hK hW.set
  have hR : LiesW 2 (spots 62 w K) nr (.slice Ar nr cr) := by
    rcases hW.rk with h | ⟨rs, hm⟩
    · cases h; exact .inl ⟨rfl, rfl⟩
    · have hh : w.ownsRow w0.heap.size 62 2 (.slice Ar nr cr) rs.length (rs.flatMap rkC) := hK _ hm
      rcases spot_row (F := 62) hh with ⟨h, -⟩ | ⟨g, cap, h, h1, h2, h3⟩
      · cases h; exact .inl ⟨rfl, rfl⟩
      · cases h
        rw [if_pos rfl] at h3
        exact .inr ⟨g, 0, cr, cr * 2, List.mem_filterMap.2 ⟨_, hm, h3⟩, rfl, h1, h2, by omega⟩
  have H1 := H.tamed
  rcases hW.ev with h | hm
  · cases h
    refine ⟨K.map (tame w), spots 3 w K, spots 62 w K, none, ?_, .inl ⟨rfl, rfl, rfl⟩, hS, hR, fun p hp => spots_tame hp, fun p hp => spots_tame hp⟩
    exact H1.new (grownBy_refl w none) (fun b m h => by cases h) (fun b h => by cases h)
  · have hh : w.ownsRow w0.heap.size 46 6 (.slice Ae ne ce) ps.length (ps.flatMap evC2) := hK _ hm
    obtain ⟨K1, K2, rfl⟩ := List.append_of_mem hm
    have hs3 := spot_row (F := 3) hh
    have hs62 := spot_row (F := 62) hh
    have ht := tame_row hh
    obtain ⟨-, ⟨h, h0⟩ | ⟨g, cap, cur, h, hb, hg, h1, h2, h3, h4⟩⟩ := hh
    · cases h
      refine ⟨(K1 ++ _ :: K2).map (tame w), spots 3 w _, spots 62 w _, none, ?_, .inl ⟨rfl, rfl, rfl⟩, hS, hR, fun p hp => spots_tame hp, fun p hp => spots_tame hp⟩
      exact H1.new (grownBy_refl w none) (fun b m h => by cases h) (fun b h => by cases h)
    · cases h
      have q3 : spot 3 w (row w0.heap.size 46 6 (.slice (some ⟨g, 0, none⟩) ps.length ce) ps.length (ps.flatMap evC2)) = none := by
        rcases hs3 with ⟨h, -⟩ | ⟨_, _, _, _, _, h⟩
        · cases h
        · rw [h]; rfl
      have q62 : spot 62 w (row w0.heap.size 46 6 (.slice (some ⟨g, 0, none⟩) ps.length ce) ps.length (ps.flatMap evC2)) = none := by
        rcases hs62 with ⟨h, -⟩ | ⟨_, _, _, _, _, h⟩
        · cases h
        · rw [h]; rfl
      have qt : tame w (row w0.heap.size 46 6 (.slice (some ⟨g, 0, none⟩) ps.length ce) ps.length (ps.flatMap evC2)) = wild 46 (g, ce * 6) := by
        rcases ht with ⟨h, -⟩ | ⟨g', cap', h, _, _, h'⟩
        · cases h
        · cases h; exact h'
      have hin : ∀ E p, spot E w (row w0.heap.size 46 6 (.slice (some ⟨g, 0, none⟩) ps.length ce) ps.length (ps.flatMap evC2)) = none → p ∈ spots E w (K1 ++ row w0.heap.size 46 6 (.slice (some ⟨g, 0, none⟩) ps.length ce) ps.length (ps.flatMap evC2) :: K2) → wild E p ∈ K1.map (tame w) ++ K2.map (tame w) := fun E p hq hp => by
        obtain ⟨A, hA, hsp⟩ := spots_mem hp
        rcases List.mem_append.1 hA with hA | hA
        · exact List.mem_append_left _ (List.mem_map.2 ⟨A, hA, spot_tame hsp⟩)
        · rcases List.mem_cons.1 hA with rfl | hA
          · rw [hq] at hsp; cases hsp
          · exact List.mem_append_right _ (List.mem_map.2 ⟨A, hA, spot_tame hsp⟩)
      rw [List.map_append, List.map_cons, qt, List.append_assoc, List.cons_append] at H1
      have H2 := H1.perm List.perm_middle
      refine ⟨K1.map (tame w) ++ K2.map (tame w), _, _, some (g, ce * 6), ?_, .inr ⟨g, ce, ce * 6, rfl, rfl, h1, h2, Nat.le_refl _⟩, hS, hR, fun p hp => hin 3 p q3 hp, fun p hp => hin 62 p q62 hp⟩
      rw [List.append_assoc]
      refine H2.turnW rfl (fun b m e => ?_)
      cases e
      refine ⟨cur, hg, h3, fun i _ hi => ?_⟩
      obtain ⟨p, hp⟩ : ∃ p, ps[i]? = some p := ⟨_, List.getElem?_eq_getElem hi⟩
      obtain ⟨Au, n, cu, hu, hn⟩ := hps p (List.mem_of_getElem? hp)
      refine ⟨n, p.2, hn, ?_, ?_⟩
      · have := evC2_at ps i p hp
        rw [← h4, List.getElem?_take] at this
        split at this
        · simpa using this
        · cases this
      · rw [hu]
        have := hW.own p (List.mem_of_getElem? hp)
        rw [hu] at this
        exact lies_wild hK this
end
end Go.Proofs.YtdekbbffoaphhaaGreatDoor

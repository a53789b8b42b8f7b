/- Slices that lie in blocks whose content is nobody's business: appends to them; the block of a list of events whose lists lie there. -/
import Derived.Test.YtdekbbffoaphhaaGreatDoorAnWild
import Derived.Test.YtdekbbffoaphhaaGreatDoorSteps
import Derived.ArgAppend
set_option linter.unusedVariables false
set_option linter.unusedSimpArgs false
namespace Go.Proofs.HL
open Go.RowKit
/-- A slice of n elements of k cells that is nil, or lies in one of the blocks G. -/
def LiesW (k : Nat) (G : List (Nat × Nat)) (n : Nat) (u : Value) : Prop :=
  (u = .slice none 0 0 ∧ n = 0) ∨ ∃ g o c m, (g, m) ∈ G ∧ u = .slice (some ⟨g, o, none⟩) n c ∧ n ≤ c ∧ c ≤ maxLen ∧ o + c * k ≤ m
theorem LiesW.mono {k n : Nat} {G M : List (Nat × Nat)} {u : Value} (h : LiesW k G n u) (hs : ∀ p ∈ G, p ∈ M) : LiesW k M n u :=
  h.imp id fun ⟨g, o, c, m, h1, h2⟩ => ⟨g, o, c, m, hs _ h1, h2⟩
theorem LiesW.right {k n : Nat} {G M : List (Nat × Nat)} {u : Value} (h : LiesW k G n u) : LiesW k (M ++ G) n u := h.mono fun _ hp => List.mem_append_right _ hp
section
variable {P : Program} {ops : Array Oper} {rest : List Oper} {o : Oper} {a : Act} {Q : Exit → Act → World → Prop} {w0 w : World} {L : List At}
theorem HL.wildSets {E : TypeId} {b m : Nat} (hm : wild E (b, m) ∈ L) : ∀ (vs : List Value) (i : Nat) (w : World), HL w0 w L → HL w0 (w.setCells b i vs) L
  | [], i, w, H => H
  | v :: vs, i, w, H => HL.wildSets hm vs (i + 1) _ (H.wildSet hm i v)
theorem HL.wildNew {E : TypeId} {k n : Nat} {v : Value} {xs : List Value} {w' : World} (H : HL w0 w L) (hk : w'.ownsRow w.heap.size E k v (n + 1) xs) (hg : w.grownBy w' none) :
    ∃ p, HL w0 w' (wild E p :: L) ∧ LiesW k [p] (n + 1) v := by
  obtain ⟨-, ⟨-, h⟩ | ⟨g, cap, cur, rfl, hb, hgg, h1, h2, h3, -⟩⟩ := hk
  · cases h
  · exact ⟨(g, cap * k), H.new hg ⟨cur, hgg, h3⟩ (fun b hb' => by cases hb'; exact hb), .inr ⟨g, 0, cap, cap * k, List.mem_singleton.2 rfl, rfl, h1, h2, by omega⟩⟩
theorem wpList_append_wild {t E : TypeId} {k bytes : Nat} (S : SliceOf P t E k bytes) (hgd : o.guard = none) (s x : Operand) (ho : o.op = .call { callee := .builtin .append, args := #[s, x], argTypes := #[t, t] })
    {u xv : Value} {n : Nat} {G : List (Nat × Nat)} {news : List Value} (H : HL w0 w L) (hG : ∀ p ∈ G, wild E p ∈ L) (hl : LiesW k G n u) (hs : a.eval s = u) (hx : a.eval x = xv) (hr : Rd k xv 1 news w) (h1 : ∀ u ∈ news, u.oneCell' = true)
    (h63 : n + 1 ≤ maxLen) (hbytes : (n + 1) * bytes ≤ 140737488355328)
    (h : ∀ v' w' M, HL w0 w' (M.map (wild E) ++ L) → LiesW k (M ++ G) (n + 1) v' → wpList P ops Q rest (a.put o.dst v') w') : wpList P ops Q (o :: rest) a w := by
  obtain ⟨i, z, hi, hz, hsize, hby, hzs⟩ := S.info
  obtain ⟨hl1, hm, ad, c, rfl, hc1, hc2, hn, hcell⟩ := hr
  have had : ∃ ad', ad = some ad' := by
    cases ad with
    | none => have := (hn rfl).1; omega
    | some ad => exact ⟨ad, rfl⟩
  obtain ⟨ad, rfl⟩ := had
  have fresh : ∀ v' w' xs, w'.ownsRow w.heap.size E k v' (n + 1) xs → w.grownBy w' none → wpList P ops Q rest (a.put o.dst v') w' := fun v' w' xs hk hg => by
    obtain ⟨p, hp, hq⟩ := H.wildNew hk hg
    exact h v' w' [p] hp (hq.mono fun q hq => List.mem_append_left _ hq)
  rcases hl with ⟨rfl, rfl⟩ | ⟨g, o', c', m', hgm, rfl, h2, h3, h4⟩
  · exact wpList_append_grows w hgd s x t ho E i z k bytes S.ht hi hz hsize hby hzs S.pos none 0 0 [] hs (fun _ => ⟨rfl, rfl⟩) (by simp) (fun _ h => by cases h) ad 1 c news hx (by simpa using hl1) (hcell ad rfl) h1 (by omega) h63 hbytes
      (fun v' w' hown hgrow => fresh v' w' _ hown hgrow)
  · obtain ⟨cur, hg, hsz⟩ := H.get (hG _ hgm)
    have hnk : n * k ≤ c' * k := Nat.mul_le_mul_right k h2
    have hcl : ∀ j, w.cell? ⟨g, j, none⟩ = cur[j]? := fun j => by simp [World.cell?, hg]
    have hfz : ∀ j, w.frozen? ⟨g, j, none⟩ = false := fun j => by simp [World.frozen?, hg]
    refine wpList_append_arg w hgd s x t ho E i z k bytes S.ht hi hz hsize hby hzs S.pos g o' n c' ((cur.toList.drop o').take (n * k)) hs ?_ ?_ ad 1 c news hx (by simpa using hl1) (hcell ad rfl) h1 ?_ h63 hbytes ?_ ?_
    · rw [List.length_take, List.length_drop, Array.length_toList, hsz]
      dsimp only
      omega
    · intro j u hu
      rw [hcl]
      rw [List.getElem?_take] at hu
      split at hu
      · rw [List.getElem?_drop] at hu
        simpa using hu
      · cases hu
    · intro hroom j hj
      have hlt : (n + 1) * k ≤ c' * k := Nat.mul_le_mul_right k hroom
      rw [Nat.add_mul] at hlt
      have hjs : o' + n * k + j < cur.size := by rw [hsz]; dsimp only; omega
      exact ⟨by rw [hcl, Array.getElem?_eq_getElem hjs]; rfl, hfz _⟩
    · intro hroom
      exact h _ _ [] (HL.wildSets (hG _ hgm) news _ w H) (.inr ⟨g, o', c', m', hgm, rfl, hroom, h3, h4⟩)
    · intro _ v' w' hown hgrow
      exact fresh v' w' _ hown hgrow
end
/-- Where a list of events lies: nowhere, or at the head of the block p. -/
def LiesE (p : Option (Nat × Nat)) (n : Nat) (v : Value) : Prop :=
  (v = .slice none 0 0 ∧ n = 0 ∧ p = none) ∨ ∃ b c m, p = some (b, m) ∧ v = .slice (some ⟨b, 0, none⟩) n c ∧ n ≤ c ∧ c ≤ maxLen ∧ c * 6 ≤ m
theorem LiesE.wild {p : Option (Nat × Nat)} {n : Nat} {v : Value} (h : LiesE p n v) : LiesW 6 p.toList n v := by
  rcases h with ⟨h1, h2, -⟩ | ⟨b, c, m, rfl, rfl, h1, h2, h3⟩
  · exact .inl ⟨h1, h2⟩
  · exact .inr ⟨b, 0, c, m, by simp, rfl, h1, h2, by omega⟩
/-- The events' block: the lists of the events from lo up to hi lie in the blocks G and have at most B numbers. -/
def evW (E : TypeId) (G : List (Nat × Nat)) (B lo hi : Nat) (p : Option (Nat × Nat)) : At where
  fp := p.map (·.1)
  holds w := ∀ b m, p = some (b, m) → ∃ cur, w.heap[b]? = some (.cells cur E (0, 0)) ∧ cur.size = m ∧ ∀ i, lo ≤ i → i < hi → ∃ n u, n ≤ B ∧ cur[i * 6 + 5]? = some u ∧ LiesW 1 G n u
  lt := fun w b e h => by
    obtain _ | ⟨b', m⟩ := p
    · cases e
    · cases e
      obtain ⟨cur, h, -⟩ := h b' m rfl
      exact (Array.getElem?_eq_some_iff.1 h).1
  stable := fun w w' row hg hne h b m hp => by
    subst hp
    obtain ⟨cur, h, hm⟩ := h b m rfl
    exact ⟨cur, by rw [hg.block b (Array.getElem?_eq_some_iff.1 h).1 (hne.resolve_left (by simp))]; exact h, hm⟩
section
variable {w0 w : World} {L : List At} {E : TypeId} {G M : List (Nat × Nat)} {B lo hi : Nat} {p : Option (Nat × Nat)}
theorem HL.evMore (H : HL w0 w (evW E G B lo hi p :: L)) {lo' : Nat} (hs : ∀ q ∈ G, q ∈ M) (hlo : lo ≤ lo') : HL w0 w (evW E M B lo' hi p :: L) :=
  H.turnW rfl fun b m hp => by
    obtain ⟨cur, h1, h2, h3⟩ := H.head b m hp
    refine ⟨cur, h1, h2, fun i hi1 hi2 => ?_⟩
    obtain ⟨n, u, h4, h5, h6⟩ := h3 i (by omega) hi2
    exact ⟨n, u, h4, h5, h6.mono hs⟩
theorem HL.evWild (H : HL w0 w (evW E G B lo hi p :: L)) : HL w0 w (p.toList.map (wild E) ++ L) := by
  obtain _ | ⟨b, m⟩ := p
  · exact H.tail
  · obtain ⟨cur, h1, h2, -⟩ := H.head b m rfl
    exact H.turnW (B := wild E (b, m)) rfl ⟨cur, h1, h2⟩
theorem HL.evCell (H : HL w0 w L) (hm : evW E G B lo hi p ∈ L) {b m : Nat} (hp : p = some (b, m)) {j : Nat} (hj : j < m) : (∃ u, w.cell? ⟨b, j, none⟩ = some u) ∧ w.frozen? ⟨b, j, none⟩ = false := by
  obtain ⟨cur, h1, h2, -⟩ := H.get hm b m hp
  exact ⟨⟨cur[j]'(by omega), by simp [World.cell?, h1]⟩, by simp [World.frozen?, h1]⟩
theorem HL.evList (H : HL w0 w L) (hm : evW E G B lo hi p ∈ L) {b m : Nat} (hp : p = some (b, m)) {i : Nat} (h1 : lo ≤ i) (h2 : i < hi) : ∃ n u, n ≤ B ∧ w.cell? ⟨b, i * 6 + 5, none⟩ = some u ∧ LiesW 1 G n u := by
  obtain ⟨cur, h3, -, h4⟩ := H.get hm b m hp
  obtain ⟨n, u, h5, h6, h7⟩ := h4 i h1 h2
  exact ⟨n, u, h5, by simp [World.cell?, h3]; exact h6, h7⟩
theorem HL.evSet (H : HL w0 w (evW E G B lo hi p :: L)) {b m : Nat} (hp : p = some (b, m)) {j : Nat} (hj : j < lo * 6) (v : Value) : HL w0 (w.setCell ⟨b, j, none⟩ v) (evW E G B lo hi p :: L) := by
  subst hp
  obtain ⟨cur, h3, h4, h5⟩ := H.head b m rfl
  refine H.step (grownBy_setCell _ _ _) ?_ (fun b' hb => .inl hb)
  intro b' m' e
  cases e
  refine ⟨cur.setIfInBounds j v, by simp [World.setCell, Array.getElem?_modify, h3], by simpa using h4, fun i hi1 hi2 => ?_⟩
  obtain ⟨n, u, h6, h7, h8⟩ := h5 i hi1 hi2
  refine ⟨n, u, h6, ?_, h8⟩
  rw [Array.getElem?_setIfInBounds_ne (by omega)]
  exact h7
end
/-- The cells of a list that is written. -/
theorem LiesW.at1 {G : List (Nat × Nat)} {n : Nat} {A : Option Addr} {c : Nat} (h : LiesW 1 G n (.slice A n c)) {i : Nat} (hi : i < n) : ∃ g o m, (g, m) ∈ G ∧ A = some ⟨g, o, none⟩ ∧ o + i < m := by
  rcases h with ⟨h1, h2⟩ | ⟨g, o, c', m, h1, h2, h3, h4, h5⟩
  · omega
  · cases h2
    exact ⟨g, o, m, h1, rfl, by omega⟩
theorem LiesW.at2 {G : List (Nat × Nat)} {n : Nat} {A : Option Addr} {c : Nat} (h : LiesW 2 G n (.slice A n c)) {i : Nat} (hi : i < n) : ∃ g o m, (g, m) ∈ G ∧ A = some ⟨g, o, none⟩ ∧ o + i * 2 + 1 < m := by
  rcases h with ⟨h1, h2⟩ | ⟨g, o, c', m, h1, h2, h3, h4, h5⟩
  · omega
  · cases h2
    exact ⟨g, o, m, h1, rfl, by omega⟩
theorem LiesW.shape {k : Nat} {G : List (Nat × Nat)} {n : Nat} {u : Value} (h : LiesW k G n u) : ∃ A c, u = .slice A n c ∧ n ≤ c ∧ c ≤ maxLen := by
  rcases h with ⟨rfl, rfl⟩ | ⟨g, o, c', m, h1, rfl, h3, h4, h5⟩
  · exact ⟨none, 0, rfl, Nat.le_refl _, Nat.zero_le _⟩
  · exact ⟨_, c', rfl, h3, h4⟩
theorem LiesE.at {p : Option (Nat × Nat)} {n : Nat} {A : Option Addr} {c : Nat} (h : LiesE p n (.slice A n c)) {i : Nat} (hi : i < n) : ∃ b m, p = some (b, m) ∧ A = some ⟨b, 0, none⟩ ∧ i * 6 + 5 < m := by
  rcases h with ⟨h1, h2, -⟩ | ⟨b, c', m, h1, h2, h3, h4, h5⟩
  · omega
  · cases h2
    exact ⟨b, m, h1, rfl, by omega⟩
theorem HL.front2 {w0 w : World} {K M : List At} {A B : At} (H : HL w0 w (K ++ (A :: B :: M))) : HL w0 w (A :: B :: (K ++ M)) :=
  H.perm ((List.perm_middle).trans ((List.perm_middle).cons A))
theorem HL.front3 {w0 w : World} {K M : List At} {X A B : At} (H : HL w0 w (K ++ (X :: A :: B :: M))) : HL w0 w (A :: B :: (K ++ M)) :=
  HL.front2 (H.perm List.perm_middle).tail
theorem HL.evApart {w0 w : World} {L : List At} {A : At} {E F : TypeId} {G : List (Nat × Nat)} {B lo hi b m g m' : Nat} (H : HL w0 w (A :: evW E G B lo hi (some (b, m)) :: L)) (hm : wild F (g, m') ∈ L) : g ≠ b := by
  have h := (List.pairwise_cons.1 H.tail.sep).1 _ hm
  rcases h with h | h
  · cases h
  · intro e
    exact h (by rw [e]; rfl)
theorem cell_other {w : World} {g b i j : Nat} {u v : Value} (h : g ≠ b) (hc : w.cell? ⟨b, j, none⟩ = some v) : (w.setCell ⟨g, i, none⟩ u).cell? ⟨b, j, none⟩ = some v := by
  refine (World.cell?_of_block ?_).trans hc
  exact (grownBy_setCell w ⟨g, i, none⟩ u).block b (World.block_lt_of_cell? w _ hc) (fun e => by cases e; exact h rfl)
theorem wild_more {E : TypeId} {M G : List (Nat × Nat)} {L : List At} (h : ∀ p ∈ G, wild E p ∈ L) : ∀ p ∈ M ++ G, wild E p ∈ M.map (wild E) ++ L := fun p hp => by
  rcases List.mem_append.1 hp with hp | hp
  · exact List.mem_append_left _ (List.mem_map_of_mem hp)
  · exact List.mem_append_right _ (h p hp)
/-- What an atom's block is, whatever it holds. -/
noncomputable def tame (w : World) (A : At) : At :=
  match A.fp with
  | none => noAt
  | some b => match w.heap[b]? with
    | some (.cells cur E (0, 0)) => wild E (b, cur.size)
    | _ => noAt
theorem tame_fp (w : World) (A : At) : (tame w A).fp = none ∨ (tame w A).fp = A.fp := by
  unfold tame
  split
  · exact .inl rfl
  · rename_i b e
    split
    · exact .inr e.symm
    · exact .inl rfl
theorem tame_holds (w : World) (A : At) : (tame w A).holds w := by
  unfold tame
  split
  · trivial
  · split
    · rename_i h
      exact ⟨_, h, rfl⟩
    · trivial
theorem tame_row {w : World} {base : Nat} {E : TypeId} {k n : Nat} {v : Value} {xs : List Value} (h : w.ownsRow base E k v n xs) :
    (v = .slice none 0 0 ∧ n = 0) ∨ ∃ g cap, v = .slice (some ⟨g, 0, none⟩) n cap ∧ n ≤ cap ∧ cap ≤ maxLen ∧ tame w (row base E k v n xs) = wild E (g, cap * k) := by
  obtain ⟨-, h | ⟨g, cap, cur, rfl, hb, hg, h1, h2, h3, -⟩⟩ := h
  · exact .inl h
  · refine .inr ⟨g, cap, rfl, h1, h2, ?_⟩
    have e : (row base E k (.slice (some ⟨g, 0, none⟩) n cap) n xs).fp = some g := rfl
    unfold tame
    simp only [e, hg, h3]
theorem HL.tamed {w0 w : World} : ∀ {K L : List At}, HL w0 w (K ++ L) → HL w0 w (K.map (tame w) ++ L)
  | [], L, H => H
  | A :: K, L, H => by
    have h0 := List.pairwise_cons.1 H.sep
    have H1 : HL w0 w (K.map (tame w) ++ L) := HL.tamed H.tail
    refine ⟨H1.below, fun B hB => ?_, List.pairwise_cons.2 ⟨fun B hB => ?_, H1.sep⟩⟩
    · rcases List.mem_cons.1 hB with rfl | hB
      · refine ⟨tame_holds w A, fun b hb => ?_⟩
        rcases tame_fp w A with e | e
        · rw [e] at hb; cases hb
        · exact H.base b (by rw [← e]; exact hb)
      · exact H1.all B hB
    · rcases tame_fp w A with e | e
      · exact .inl e
      · rcases List.mem_append.1 hB with hB | hB
        · obtain ⟨C, hC, rfl⟩ := List.mem_map.1 hB
          rcases tame_fp w C with e2 | e2
          · by_cases e3 : (tame w A).fp = none
            · exact .inl e3
            · exact .inr (by rw [e2]; exact e3)
          · rw [e, e2]; exact h0.1 C (List.mem_append_left _ hC)
        · rw [e]; exact h0.1 B (List.mem_append_right _ hB)
end Go.Proofs.HL

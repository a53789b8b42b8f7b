/- Steps, At, Shadow: the functions that range over All. -/
import Derived.Test.YtebibcaahjmjfaaPrAll
import Derived.Test.YtebibcaahjmjfaaStepsIn
import Derived.Test.YtebibcaahjmjfaaPrPlain
import Derived.BigRegionIn
import Derived.Test.YtebibcaahjmjfaaRegionIn
set_option linter.unusedVariables false
set_option linter.unusedSimpArgs false
namespace Go.Proofs.Ytebibcaahjmjfaa
open Go.RowKit Go.Proofs.HL Go.Proofs.HL.Pr
attribute [local go_sem] Oper.semAt_some

theorem HL.dropMid {w0 w : World} {A : At} {K L : List At} (h : HL w0 w (A :: (K ++ L))) : HL w0 w (A :: L) :=
  (h.perm (List.perm_middle (l₁ := K)).symm).drops
section
variable {F : Fence} {nF : Nat} {ops : Array Oper} {rest : List Oper} {o : Oper} {a : Act} {Q : Exit → Act → World → Prop} {w0 w : World} {L : List At}
theorem append_stpsIn {xs ys : List Sp} {v xv : Value} (hgd : o.guard = none) (s x : Operand) (ho : o.op = .call { callee := .builtin .append, args := #[s, x], argTypes := #[26, 26] })
    (H : HL w0 w (stpsAt w0.heap.size v xs :: L)) (hs : a.eval s = v) (hx : a.eval x = xv) (hr : Rd 2 xv ys.length (ys.flatMap encS) w) (hb : xs.length + ys.length ≤ 8796093022208)
    (h : ∀ v' w', HL w0 w' (stpsAt w0.heap.size v' (xs ++ ys) :: L) → wpListIn F nF Try.prog ops Q rest (a.put o.dst v') w') : wpListIn F nF Try.prog ops Q (o :: rest) a w :=
  wpListIn_append_hl sliceStp hgd s x ho H hs hx hr (one_encS ys) (by unfold maxLen; omega) (by omega) (fun v' w' H' _ => h v' w' (by
    unfold stpsAt; rw [List.length_append, List.flatMap_append]; exact H'))
end
section
variable {w0 w : World} {L : List At} {v : Value} {l : List Rn}
set_option maxRecDepth 100000 in
set_option maxHeartbeats 2000000 in
theorem steps_ok (H : HL w0 w L) (hr : Runs w0 L v l) (hl : l.length ≤ 8796093022000) (now free : Int) :
    Calls Try.prog 14 #[.int .i64 now, .int .i64 free, v] w fun e w' => ∃ u, e = .returned u ∧ HL w0 w' (stpsAt w0.heap.size u (stepsAll now free l) :: L) := by
  obtain ⟨A0, c0, rfl, -, -⟩ := rd_shape (hr w H)
  have H1 := H.alloc (.cells #[.slice none 0 0] 26)
  have hall := all_ok H1 (hr.cons _) (Nat.le_trans hl (by decide)) now free
  have hlen := stepsAll_length now free l
  generalize stepsAll now free l = T at *
  have hd0 : Fence.wide.depth = none := rfl
  have hf0 : ∀ f, Fence.wide.fn f := fun _ => trivial
  refine calls_of_marks Try.func14 rfl ?_
  simp only [Try.ntmps14, List.size_toArray, List.length_cons, List.length_nil, Nat.reduceAdd, Nat.reduceSub, Array.replicate_succ, Array.replicate_zero, List.push_toArray, List.append_toArray, List.nil_append, List.cons_append]
  generalize hB : w.heap.size = B at H1 hall
  go_wp2_with (go_at_call 22; refine hall.mono ?_; rintro e w3 ⟨fv, K, Kp, rfl, ⟨gf, lb, rfl, eg, hit⟩, hK, H3⟩; clear hall H1 H; go_frame)
  have H4 : HL w0 w3 ((stpsAt w0.heap.size (.slice none 0 0) [] :: blk B (.cells #[.slice none 0 0] 26) :: (K ++ L)) ++ []) := by
    rw [List.append_nil]
    exact stpsNil (H3.perm (List.perm_middle (l₁ := K)))
  clear H3 hB
  refine wp_rangeFunc_K (encs := encIt) (xs := T) rfl eg hit (fun _ => rfl) H4
    (fun k L' => ∃ u, L' = stpsAt w0.heap.size u (T.take k) :: blk B (.cells #[u] 26) :: (K ++ L))
    (fun c L' => False)
    (fun k x a' L1 => ∃ g u, L1 = blk g (.cells #[.int .i64 x.at_, .int .i64 x.free] 34) :: stpsAt w0.heap.size u (T.take k) :: blk B (.cells #[u] 26) :: (K ++ L) ∧
      a' = { tmps := #[.int .i64 now, .int .i64 free, .slice A0 l.length c0, undef, undef, undef, .slice none 0 0, .pointer (some ⟨B, 0, none⟩), .pointer (some ⟨g, 0, none⟩), .int .i64 now, .int .i64 free, .slice A0 l.length c0, .func (.func gf) #[] lb, .agg #[.int .i64 x.at_, .int .i64 x.free], undef, undef, undef, undef, undef], defers := [] })
    ⟨_, rfl⟩ ?keep ?assign ?body ?done ?stop
  case keep => rintro k L' ⟨u, rfl⟩; exact (Ent.cons (Ent.cons hK.app _) _)
  case assign =>
    rintro lp k x W L' R J hx ⟨u, rfl⟩ HW hJ
    have HA := HW.alloc (.cells #[.int .i64 x.at_, .int .i64 x.free] 34)
    have hk := fun a' e => hJ a' _ _ ⟨W.heap.size, u, rfl, e⟩ HA
    clear hJ HW HA hx hit
    dsimp only [encIt]
    gi_wp2
    rfl
  case body =>
    rintro lp r k x W a' L1 R hx ⟨g, u, rfl, rfl⟩ HW
    have cB : W.cell? ⟨B, 0, none⟩ = some u := by rw [HW.cellOf (b := B) (vs := #[u]) (E := 26) (fz := (0, 0)) (by simp) 0]; rfl
    have cg0 : W.cell? ⟨g, 0, none⟩ = some (.int .i64 x.at_) := by rw [HW.cellOf (b := g) (vs := #[.int .i64 x.at_, .int .i64 x.free]) (E := 34) (fz := (0, 0)) (by simp) 0]; rfl
    have cg1 : W.cell? ⟨g, 1, none⟩ = some (.int .i64 x.free) := by rw [HW.cellOf (b := g) (vs := #[.int .i64 x.at_, .int .i64 x.free]) (E := 34) (fz := (0, 0)) (by simp) 1]; rfl
    have htk : T.take (k + 1) = T.take k ++ [x] := by rw [List.take_add_one, hx]; rfl
    have hlk : (T.take k).length ≤ T.length := by rw [List.length_take]; omega
    have Htk := Lib.hid htk
    have HA := (HW.tail.alloc' (.cells #[.int .i64 x.at_, .int .i64 x.free] 34))
    have hr2 : Rd 2 (.slice (some ⟨W.heap.size, 0, none⟩) 1 1) 1 ([x].flatMap encS) (W.alloc (.cells #[.int .i64 x.at_, .int .i64 x.free] 34)) := rd_stp
    have hb : (T.take k).length + [x].length ≤ 8796093022208 := by simp only [List.length_cons, List.length_nil]; omega
    clear htk hx HW hit
    gi_wp2_with (gi_at_builtin; refine append_stpsIn (v := u) (xv := .slice (some ⟨W.heap.size, 0, none⟩) 1 1) (xs := T.take k) (ys := [x]) rfl _ _ rfl HA rfl rfl hr2 hb ?_; intro z W3 H3; clear HA hr2 cB; obtain ⟨A5, c5, hz, -, -, -⟩ := row_shape H3.head; generalize ((T.take k) ++ [x]).length = n5 at hz; subst hz; have f5 := H3.frozenOf (b := B) (vs := #[u]) (E := 26) (by simp) 0; have cB5 : W3.cell? ⟨B, 0, none⟩ = some u := (by rw [H3.cellOf (b := B) (vs := #[u]) (E := 26) (fz := (0, 0)) (by simp) 0]; rfl); have HS := HL.setAt [_] (h := H3) 0 (.slice A5 n5 c5); clear H3)
    refine ⟨_, ⟨.slice A5 n5 c5, rfl⟩, ?_⟩
    rw [Htk.out]
    exact HS
  case done =>
    rintro D W L' ⟨u, rfl⟩ HW
    obtain ⟨ht, HZ⟩ := HL.takes (P := Try.prog) HW
    obtain ⟨A5, c5, rfl, -, -, -⟩ := row_shape HZ.head
    have cB : W.cell? ⟨B, 0, none⟩ = some (.slice A5 (T.take T.length).length c5) := by rw [HW.cellOf (b := B) (vs := #[.slice A5 (T.take T.length).length c5]) (E := 26) (fz := (0, 0)) (by simp) 0]; rfl
    have Ht := Lib.hid ht; clear ht hit
    go_wp2
    exact bodyPostM_one rfl Ht.out (results_tmp rfl _ _ _) ⟨_, rfl, by have := HL.dropMid HZ.drop2; rwa [List.take_length] at this⟩
  case stop => rintro D c W L' h; exact h.elim

def ownAt (B : Nat) (t a : Int) (KL : List At) : List At := blk (B + 1) (.cells #[.int .i64 a] 3) :: blk B (.cells #[.int .i64 t] 3) :: KL
set_option maxRecDepth 100000 in
set_option maxHeartbeats 2000000 in
theorem atAll_ok (H : HL w0 w L) (hr : Runs w0 L v l) (hl : l.length ≤ 8796093022000) (now free t : Int) :
    Calls Try.prog 15 #[.int .i64 now, .int .i64 free, v, .int .i64 t] w fun e w' => e = .returned (.int .i64 (atAll now free l t)) ∧ HL w0 w' L := by
  obtain ⟨A0, c0, rfl, -, -⟩ := rd_shape (hr w H)
  have H1 := (H.alloc (.cells #[.int .i64 t] 3)).alloc (.cells #[.int .i64 0] 3)
  rw [World.size_alloc] at H1
  have hall := all_ok H1 ((hr.cons _).cons _) (Nat.le_trans hl (by decide)) now free
  have hgo := goA_all now free l t
  generalize atAll now free l t = Z at *
  generalize stepsAll now free l = T at *
  have Hgo := Lib.hid hgo
  clear hgo
  refine calls_of_marks Try.func15 rfl ?_
  simp only [Try.ntmps15, List.size_toArray, List.length_cons, List.length_nil, Nat.reduceAdd, Nat.reduceSub, Array.replicate_succ, Array.replicate_zero, List.push_toArray, List.append_toArray, List.nil_append, List.cons_append]
  generalize hB : w.heap.size = B at H1 hall
  go_wp2_with (go_at_call 22; refine hall.mono ?_; rintro e w3 ⟨fv, K, Kp, rfl, ⟨gf, lb, rfl, eg, hit⟩, hK, H3⟩; clear hall H1 H; go_frame)
  have H4 : HL w0 w3 ((ownAt B t 0 (K ++ L)) ++ []) := by
    rw [List.append_nil]
    refine H3.perm ?_
    have h1 := List.perm_middle (a := blk (B + 1) (.cells #[.int .i64 0] 3)) (l₁ := K) (l₂ := blk B (.cells #[.int .i64 t] 3) :: L)
    exact h1.trans (List.Perm.cons _ (List.perm_middle (l₁ := K)))
  clear H3 hB
  refine wp_rangeFunc_K (encs := encIt) (xs := T) rfl eg hit (fun _ => rfl) H4
    (fun k L' => ∃ a, L' = ownAt B t a (K ++ L) ∧ goA t a (T.drop k) = Z)
    (fun c L' => c = .exit 0 ∧ L' = ownAt B t Z (K ++ L))
    (fun k x a' L1 => ∃ g a, L1 = blk g (.cells #[.int .i64 x.at_, .int .i64 x.free] 34) :: ownAt B t a (K ++ L) ∧ goA t a (T.drop k) = Z ∧
      a' = { tmps := #[.int .i64 now, .int .i64 free, .slice A0 l.length c0, .int .i64 t, undef, undef, undef, .pointer (some ⟨B, 0, none⟩), .int .i64 0, .pointer (some ⟨B + 1, 0, none⟩), .pointer (some ⟨g, 0, none⟩), .int .i64 now, .int .i64 free, .slice A0 l.length c0, .func (.func gf) #[] lb, .agg #[.int .i64 x.at_, .int .i64 x.free], undef, undef, undef, undef, undef, undef, undef], defers := [] })
    ⟨0, rfl, Hgo.out⟩ ?keep ?assign ?body ?done ?stop
  case keep => rintro k L' ⟨a, rfl, -⟩; exact (Ent.cons (Ent.cons hK.app _) _)
  case assign =>
    rintro lp k x W L' R J hx ⟨a, rfl, hg⟩ HW hJ
    have HA := HW.alloc (.cells #[.int .i64 x.at_, .int .i64 x.free] 34)
    have hk := fun a' e => hJ a' _ _ ⟨W.heap.size, a, rfl, hg, e⟩ HA
    clear hJ HW HA hx hit hg
    dsimp only [encIt]
    gi_wp2
    rfl
  case body =>
    rintro lp r k x W a' L1 R hx ⟨g, a, rfl, hg, rfl⟩ HW
    unfold ownAt at HW
    have c7 : W.cell? ⟨B, 0, none⟩ = some (.int .i64 t) := by rw [HW.cellOf (b := B) (vs := #[.int .i64 t]) (E := 3) (fz := (0, 0)) (by simp) 0]; rfl
    have c9 : W.cell? ⟨B + 1, 0, none⟩ = some (.int .i64 a) := by rw [HW.cellOf (b := B + 1) (vs := #[.int .i64 a]) (E := 3) (fz := (0, 0)) (by simp) 0]; rfl
    have f9 := HW.frozenOf (b := B + 1) (vs := #[.int .i64 a]) (E := 3) (by simp) 0
    have cg0 : W.cell? ⟨g, 0, none⟩ = some (.int .i64 x.at_) := by rw [HW.cellOf (b := g) (vs := #[.int .i64 x.at_, .int .i64 x.free]) (E := 34) (fz := (0, 0)) (by simp) 0]; rfl
    have cg1 : W.cell? ⟨g, 1, none⟩ = some (.int .i64 x.free) := by rw [HW.cellOf (b := g) (vs := #[.int .i64 x.at_, .int .i64 x.free]) (E := 34) (fz := (0, 0)) (by simp) 1]; rfl
    by_cases hlt : t < x.at_
    · have Hz := Lib.hid ((goA_hit hx hlt).symm.trans hg)
      clear hx hg hit
      gi_wp2
      refine ⟨_, ⟨rfl, rfl⟩, ?_⟩
      have := HW.tail
      rw [Hz.out] at this
      exact this
    · have Hz := Lib.hid ((goA_miss hx hlt).symm.trans hg)
      have HS := HL.setAt [] (h := HW.tail) 0 (.int .i64 x.free)
      clear hx hg hit HW
      gi_wp2
      exact ⟨_, ⟨_, rfl, Hz.out⟩, HS⟩
  case done =>
    rintro D W L' ⟨a, rfl, hg⟩ HW
    obtain ⟨ht, HZ⟩ := HL.takes (P := Try.prog) HW
    have hz : a = Z := by rw [List.drop_length] at hg; exact hg
    subst hz
    unfold ownAt at HW
    have c9 : W.cell? ⟨B + 1, 0, none⟩ = some (.int .i64 a) := by rw [HW.cellOf (b := B + 1) (vs := #[.int .i64 a]) (E := 3) (fz := (0, 0)) (by simp) 0]; rfl
    have Ht := Lib.hid ht; clear ht hit hg
    go_wp2
    exact bodyPostM_one rfl Ht.out (results_tmp rfl _ _ _) ⟨rfl, (HL.drops HZ.tail.tail)⟩
  case stop =>
    rintro D c W L' ⟨rfl, rfl⟩ HW
    obtain ⟨ht, HZ⟩ := HL.takes (P := Try.prog) HW
    unfold ownAt at HW
    have c9 : W.cell? ⟨B + 1, 0, none⟩ = some (.int .i64 Z) := by rw [HW.cellOf (b := B + 1) (vs := #[.int .i64 Z]) (E := 3) (fz := (0, 0)) (by simp) 0]; rfl
    have Ht := Lib.hid ht; clear ht hit
    go_wp2
    exact bodyPostM_one rfl Ht.out (results_tmp rfl _ _ _) ⟨rfl, (HL.drops HZ.tail.tail)⟩

def ownSh (B : Nat) (need a b : Int) (c : Bool) (KL : List At) : List At := blk (B + 1 + 1 + 1) (.cells #[.bool c] 4) :: blk (B + 1 + 1) (.cells #[.int .i64 b] 3) :: blk (B + 1) (.cells #[.int .i64 a] 3) :: blk B (.cells #[.int .i64 need] 3) :: KL
set_option maxRecDepth 100000 in
set_option maxHeartbeats 4000000 in
theorem shadow_ok (H : HL w0 w L) (hr : Runs w0 L v l) (hl : l.length ≤ 8796093022208) (now free need : Int) :
    Calls Try.prog 16 #[.int .i64 now, .int .i64 free, v, .int .i64 need] w fun e w' => e = .returned (shV (shadowAll now free l need)) ∧ HL w0 w' L := by
  obtain ⟨A0, c0, rfl, -, -⟩ := rd_shape (hr w H)
  have H1 := (((H.alloc (.cells #[.int .i64 need] 3)).alloc (.cells #[.int .i64 0] 3)).alloc (.cells #[.int .i64 0] 3)).alloc (.cells #[.bool false] 4)
  simp only [World.size_alloc] at H1
  refine calls_of_marks Try.func16 rfl ?_
  simp only [Try.ntmps16, List.size_toArray, List.length_cons, List.length_nil, Nat.reduceAdd, Nat.reduceSub, Array.replicate_succ, Array.replicate_zero, List.push_toArray, List.append_toArray, List.nil_append, List.cons_append]
  by_cases hneed : need < 0
  · have hst : shadowAll now free l need = (0, 0, false) := by unfold shadowAll; rw [if_pos hneed]
    rw [hst]
    clear hst
    go_wp2
    have HZ := H.alloc' (.cells #[.int .i64 need] 3) |>.alloc' (.cells #[.int .i64 0] 3) |>.alloc' (.cells #[.int .i64 0] 3) |>.alloc' (.cells #[.bool false] 4)
    exact bodyPostM_plain (v := .tuple #[.int .i64 0, .int .i64 0, .bool false]) (by simp [results, Try.results16, go_sem]) rfl ⟨rfl, HZ⟩
  · have hall := all_ok H1 ((((hr.cons _).cons _).cons _).cons _) hl now free
    have hst : shadowAll now free l need = shadowL need ((stepsAll now free l).drop 0) := by unfold shadowAll; rw [if_neg hneed]; rfl
    rw [hst]
    have hbd : ∀ s ∈ stepsAll now free l, s.free ≤ 4503599627370496 := fun s hs => by
      unfold stepsAll at hs
      split at hs
      · rename_i hf
        have := (stepsS_bd hf s hs).2
        omega
      · cases hs
    generalize hZ : shadowL need ((stepsAll now free l).drop 0) = Z at *
    generalize stepsAll now free l = T at *
    have HZ := Lib.hid hZ; have Hbd := Lib.hid hbd
    clear hst hZ hbd
    have hneed : 0 ≤ need := by omega
    generalize hB : w.heap.size = B at H1 hall
    go_wp2_with (go_at_call 22; refine hall.mono ?_; rintro e w3 ⟨fv, K, Kp, rfl, ⟨gf, lb, rfl, eg, hit⟩, hK, H3⟩; clear hall H1 H; go_frame)
    have H4 : HL w0 w3 ((ownSh B need 0 0 false (K ++ L)) ++ []) := by
      rw [List.append_nil]
      refine H3.perm ?_
      refine (List.perm_middle (l₁ := K)).trans (List.Perm.cons _ ?_)
      refine (List.perm_middle (l₁ := K)).trans (List.Perm.cons _ ?_)
      refine (List.perm_middle (l₁ := K)).trans (List.Perm.cons _ ?_)
      exact List.perm_middle (l₁ := K)
    clear H3 hB
    obtain ⟨z1, z2, z3⟩ := Z
    refine wp_rangeFunc_K (encs := encIt) (xs := T) rfl eg hit (fun _ => rfl) H4
      (fun k L' => L' = ownSh B need 0 0 false (K ++ L) ∧ shadowL need (T.drop k) = (z1, z2, z3))
      (fun c L' => c = .ret ∧ L' = ownSh B need z1 z2 z3 (K ++ L))
      (fun k x a' L1 => ∃ g, L1 = blk g (.cells #[.int .i64 x.at_, .int .i64 x.free] 34) :: ownSh B need 0 0 false (K ++ L) ∧ shadowL need (T.drop k) = (z1, z2, z3) ∧
        a' = { tmps := #[.int .i64 now, .int .i64 free, .slice A0 l.length c0, .int .i64 need, undef, undef, undef, .pointer (some ⟨B, 0, none⟩), .pointer (some ⟨B + 1, 0, none⟩), .pointer (some ⟨B + 1 + 1, 0, none⟩), .pointer (some ⟨B + 1 + 1 + 1, 0, none⟩), .pointer (some ⟨g, 0, none⟩), .int .i64 need, .bool false, .int .i64 now, .int .i64 free, .slice A0 l.length c0, .func (.func gf) #[] lb, .agg #[.int .i64 x.at_, .int .i64 x.free], undef, undef, undef, undef, undef, undef, undef, undef, undef, undef], defers := [] })
      ⟨rfl, HZ.out⟩ ?keep ?assign ?body ?done ?stop
    case keep => rintro k L' ⟨rfl, -⟩; exact ((((hK.app).cons _).cons _).cons _).cons _
    case assign =>
      rintro lp k x W L' R J hx ⟨rfl, hg⟩ HW hJ
      have HA := HW.alloc (.cells #[.int .i64 x.at_, .int .i64 x.free] 34)
      have hk := fun a' e => hJ a' _ _ ⟨W.heap.size, rfl, hg, e⟩ HA
      clear hJ HW HA hx hit hg
      dsimp only [encIt]
      gi_wp2
      rfl
    case body =>
      rintro lp r k x W a' L1 R hx ⟨g, rfl, hg, rfl⟩ HW
      unfold ownSh at HW
      have c7 : W.cell? ⟨B, 0, none⟩ = some (.int .i64 need) := by rw [HW.cellOf (b := B) (vs := #[.int .i64 need]) (E := 3) (fz := (0, 0)) (by simp) 0]; rfl
      have c8 : W.cell? ⟨B + 1, 0, none⟩ = some (.int .i64 0) := by rw [HW.cellOf (b := B + 1) (vs := #[.int .i64 0]) (E := 3) (fz := (0, 0)) (by simp) 0]; rfl
      have c9 : W.cell? ⟨B + 1 + 1, 0, none⟩ = some (.int .i64 0) := by rw [HW.cellOf (b := B + 1 + 1) (vs := #[.int .i64 0]) (E := 3) (fz := (0, 0)) (by simp) 0]; rfl
      have c10 : W.cell? ⟨B + 1 + 1 + 1, 0, none⟩ = some (.bool false) := by rw [HW.cellOf (b := B + 1 + 1 + 1) (vs := #[.bool false]) (E := 4) (fz := (0, 0)) (by simp) 0]; rfl
      have f8 := HW.frozenOf (b := B + 1) (vs := #[.int .i64 0]) (E := 3) (by simp) 0
      have f9 := HW.frozenOf (b := B + 1 + 1) (vs := #[.int .i64 0]) (E := 3) (by simp) 0
      have f10 := HW.frozenOf (b := B + 1 + 1 + 1) (vs := #[.bool false]) (E := 4) (by simp) 0
      have cg0 : W.cell? ⟨g, 0, none⟩ = some (.int .i64 x.at_) := by rw [HW.cellOf (b := g) (vs := #[.int .i64 x.at_, .int .i64 x.free]) (E := 34) (fz := (0, 0)) (by simp) 0]; rfl
      have cg1 : W.cell? ⟨g, 1, none⟩ = some (.int .i64 x.free) := by rw [HW.cellOf (b := g) (vs := #[.int .i64 x.at_, .int .i64 x.free]) (E := 34) (fz := (0, 0)) (by simp) 1]; rfl
      have hb := Hbd.out x (List.mem_of_getElem? hx)
      by_cases hle : need ≤ x.free
      · have hz := (shadow_hit hx hle).symm.trans hg
        simp only [Prod.mk.injEq] at hz
        obtain ⟨rfl, rfl, rfl⟩ := hz
        clear hx hg hit
        gi_wp2
        have HS := HL.setAt [] (h := HL.setAt [_] (h := HL.setAt [_, _] (h := HW.tail) 0 (.int .i64 x.at_)) 0 (.int .i64 (IntKind.i64.wrap (x.free - need)))) 0 (.bool true)
        have hwr : IntKind.i64.wrap (x.free - need) = x.free - need := by rw [IntWalk.i64_in] <;> omega
        have Hwr := Lib.hid hwr
        clear hwr
        gi_region
        all_goals
          gi_wp2
          refine ⟨_, ⟨rfl, rfl⟩, ?_⟩
          have := HS.drew
          rw [Hwr.out] at this ⊢
          exact this
      · have Hz := Lib.hid ((shadow_miss hx hle).symm.trans hg)
        clear hx hg hit
        gi_wp2
        exact ⟨_, ⟨rfl, Hz.out⟩, HW.tail⟩
    case done =>
      rintro D W L' ⟨rfl, hg⟩ HW
      have hz : (z1, z2, z3) = (0, 0, false) := by rw [List.drop_length] at hg; exact hg.symm
      simp only [Prod.mk.injEq] at hz
      obtain ⟨rfl, rfl, rfl⟩ := hz
      unfold ownSh at HW
      have c7 : W.cell? ⟨B, 0, none⟩ = some (.int .i64 need) := by rw [HW.cellOf (b := B) (vs := #[.int .i64 need]) (E := 3) (fz := (0, 0)) (by simp) 0]; rfl
      have c8 : W.cell? ⟨B + 1, 0, none⟩ = some (.int .i64 0) := by rw [HW.cellOf (b := B + 1) (vs := #[.int .i64 0]) (E := 3) (fz := (0, 0)) (by simp) 0]; rfl
      have c9 : W.cell? ⟨B + 1 + 1, 0, none⟩ = some (.int .i64 0) := by rw [HW.cellOf (b := B + 1 + 1) (vs := #[.int .i64 0]) (E := 3) (fz := (0, 0)) (by simp) 0]; rfl
      have c10 : W.cell? ⟨B + 1 + 1 + 1, 0, none⟩ = some (.bool false) := by rw [HW.cellOf (b := B + 1 + 1 + 1) (vs := #[.bool false]) (E := 4) (fz := (0, 0)) (by simp) 0]; rfl
      have f8 := HW.frozenOf (b := B + 1) (vs := #[.int .i64 0]) (E := 3) (by simp) 0
      have f9 := HW.frozenOf (b := B + 1 + 1) (vs := #[.int .i64 0]) (E := 3) (by simp) 0
      have f10 := HW.frozenOf (b := B + 1 + 1 + 1) (vs := #[.bool false]) (E := 4) (by simp) 0
      have HS := HL.setAt [_] (h := HL.setAt [_, _] (h := HL.setAt [_, _, _] (h := HW) 0 (.int .i64 0)) 0 (.int .i64 0)) 0 (.bool false)
      obtain ⟨ht, HF⟩ := HL.takes (P := Try.prog) HS
      have d8 := HF.cellOf (b := B + 1) (vs := #[.int .i64 0]) (E := 3) (fz := (0, 0)) (by simp) 0
      have d9 := HF.cellOf (b := B + 1 + 1) (vs := #[.int .i64 0]) (E := 3) (fz := (0, 0)) (by simp) 0
      have d10 := HF.cellOf (b := B + 1 + 1 + 1) (vs := #[.bool false]) (E := 4) (fz := (0, 0)) (by simp) 0
      have Ht := Lib.hid ht; clear ht hit hg HW
      have Hd := Lib.hid (And.intro d8 (And.intro d9 d10)); clear d8 d9 d10
      go_wp2
      obtain ⟨d8, d9, d10⟩ := Hd.out
      exact bodyPostM_one rfl Ht.out (v := .tuple #[.int .i64 0, .int .i64 0, .bool false]) (by simp [results, Try.results16, go_sem, d8, d9, d10]) ⟨rfl, HL.drops (K := K) HF.tail.tail.tail.tail⟩
    case stop =>
      rintro D c W L' ⟨rfl, rfl⟩ HW
      obtain ⟨ht, HF⟩ := HL.takes (P := Try.prog) HW
      unfold ownSh at HF
      have d8 := HF.cellOf (b := B + 1) (vs := #[.int .i64 z1]) (E := 3) (fz := (0, 0)) (by simp) 0
      have d9 := HF.cellOf (b := B + 1 + 1) (vs := #[.int .i64 z2]) (E := 3) (fz := (0, 0)) (by simp) 0
      have d10 := HF.cellOf (b := B + 1 + 1 + 1) (vs := #[.bool z3]) (E := 4) (fz := (0, 0)) (by simp) 0
      have Ht := Lib.hid ht; clear ht hit
      have Hd := Lib.hid (And.intro d8 (And.intro d9 d10)); clear d8 d9 d10
      go_wp2
      obtain ⟨d8, d9, d10⟩ := Hd.out
      exact bodyPostM_one rfl Ht.out (v := .tuple #[.int .i64 z1, .int .i64 z2, .bool z3]) (by simp [results, Try.results16, go_sem, d8, d9, d10]) ⟨rfl, HL.drops (K := K) HF.tail.tail.tail.tail⟩
end
end Go.Proofs.Ytebibcaahjmjfaa

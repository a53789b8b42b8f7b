/- The law AgendaDue. -/
import Derived.Test.YthibbjllfmhdmaaAgPlain
import Derived.Test.YthibbjllfmhdmaaAgShown
set_option linter.unusedVariables false
set_option linter.unusedSimpArgs false
namespace Go.Proofs.Ythibbjllfmhdmaa
open Go.RowKit Go.Proofs.HL AgInt

section
variable {ops : Array Oper} {rest : List Oper} {o : Oper} {a : Act} {Q : Exit → Act → World → Prop} {w0 w : World} {L : List At}
theorem append_ints (hgd : o.guard = none) (s x : Operand) (ho : o.op = .call { callee := .builtin .append, args := #[s, x], argTypes := #[27, 27] })
    {v xv : Value} {xs ys : List Int} (H : HL w0 w (intsAt w0.heap.size v xs :: L)) (hs : a.eval s = v) (hx : a.eval x = xv) (hr : Rd 1 xv ys.length (ints ys) w) (hb : xs.length + ys.length ≤ 17592186044416)
    (h : ∀ v' w', HL w0 w' (intsAt w0.heap.size v' (xs ++ ys) :: L) → wpList Try.prog ops Q rest (a.put o.dst v') w') : wpList Try.prog ops Q (o :: rest) a w := by
  refine wpList_append_hl (m := ys.length) (news := ints ys) sliceI hgd s x ho H hs hx hr (fun u hu => ?_) (by unfold maxLen; omega) (by omega) (fun v' w' H' _ => h v' w' ?_)
  · obtain ⟨i, -, rfl⟩ := List.mem_map.1 hu
    rfl
  · unfold intsAt
    rw [List.length_append, List.map_append]
    exact H'
end
theorem rd_in {w0 w : World} {L : List At} {base : Nat} {v : Value} {xs : List Int} (H : HL w0 w L) (hm : intsAt base v xs ∈ L) : Rd 1 v xs.length (ints xs) w := rd_row (H.get hm)
theorem intsNil {w0 w : World} {L : List At} (H : HL w0 w L) (base : Nat) : HL w0 w (intsAt base (.slice none 0 0) [] :: L) := H.nilRow base 3 1
theorem firstOf_cases (t : Int) (S : List (Int × Int)) : firstOf (late t S) = .tuple #[.int .i64 0, .int .i64 0, .bool false] ∨ ∃ i u, firstOf (late t S) = .tuple #[.int .i64 i, .int .i64 u, .bool true] ∧ t < u := by
  cases h : late t S with
  | nil => exact .inl rfl
  | cons y ys => exact .inr ⟨y.2, y.1, rfl, late_mem (S := S) (by rw [h]; exact List.mem_cons_self ..)⟩
theorem take_all {M : List Ent1} {n : Int} (h : (M.length : Int) ≤ n) : (spotsOf M).take n.toNat = spotsOf M :=
  List.take_of_length_le (by rw [spotsOf_length]; omega)

set_option maxRecDepth 100000 in
set_option maxHeartbeats 2000000 in
theorem due_law {w : World} {v : Value} {l : List ActD} (hl : Acts w v l) (hb : l.length ≤ 8796093022208) (now thn : Int) :
    Calls Try.prog 3 #[v, .int .i64 now, .int .i64 thn] w fun e w' => e = .returned (.bool true) ∧ Below w.heap.size w w' := by
  have hM : (fillM l).length ≤ 8796093022208 := Nat.le_trans (fillM_length l) hb
  have hI := ids_fill l
  have hS := spots_sorted (fillM l)
  have hn : (spotsOf (fillM l)).length = (fillM l).length := spotsOf_length
  generalize hMM : fillM l = M at hM hI hS hn
  by_cases hlt : thn < now
  · have hle : thn ≤ now := by omega
    have hd1 := Nat.le_trans (dueL_length thn (spotsOf M)) (Nat.le_of_eq hn)
    have hd2 := Nat.le_trans (dueL_length now (spotsOf M)) (Nat.le_of_eq hn)
    have e1 := spots_late hI thn
    have i1 := ids_late hI thn
    have l1 := late_length thn hS
    have l2 := late_length now hS
    have dd := due_due hle hS
    have dr := due_rest now hS
    generalize hM1 : dropL thn M (spotsOf M) = M1 at e1 i1
    have n1 : (spotsOf M1).length = M1.length := spotsOf_length
    have e2 := spots_late i1 now
    generalize hM2 : dropL now M1 (spotsOf M1) = M2 at e2
    rw [e1, late_late hle] at e2
    have n2 : (spotsOf M2).length = M2.length := spotsOf_length
    rw [e1] at n1
    rw [e2] at n2
    have hM1' : M1.length ≤ 8796093022208 := by omega
    have hM2' : M2.length ≤ 8796093022208 := by omega
    have Hdd := Lib.hid dd; have Hdr := Lib.hid dr; have He1 := Lib.hid e1; have He2 := Lib.hid e2; have H1M := Lib.hid hM1; have H2M := Lib.hid hM2; have HMM := Lib.hid hMM; have Hn2 := Lib.hid n2; have Hl2 := Lib.hid l2; have HnS := Lib.hid hn
    have hsub : M2.length + (dueL now (spotsOf M)).length = M.length := by omega
    have hdl : (dueL now (spotsOf M)).length ≤ M.length := hd2
    clear dd dr e1 e2 hM1 hM2 hMM n1 n2 l1 l2 hn
    go_enter Try.func3, Try.ntmps3
    go_wp2_with (first
      | (go_at_call 8; refine (shown_ok (HL.start w)).mono ?_; rintro e w1 ⟨rfl, H1⟩)
      | (go_at_call 9; refine (filled_ok H1 hl).mono ?_; rw [HMM.out]; rintro e w2 ⟨ap, ma, rfl, H2⟩; clear H1)
      | (go_at_call 9; refine (filled_ok H2 hl).mono ?_; rw [HMM.out]; rintro e w3 ⟨bq, mq, rfl, H3'⟩; clear H2; have H3 : HL w w3 [blk ap (obj ma), mp ma (kv enc M), blk bq (obj mq), mp mq (kv enc M)] := H3'.sel 4 [2, 3, 0, 1]; clear H3')
      | (go_at_call 10; refine (len_ok H3).mono ?_; rintro e w4 ⟨rfl, rfl⟩; have H4 := H3; clear H3)
      | (go_at_call 11; refine (listed_ok H4 hM _).mono ?_; rw [take_all (M := M) (by omega)]; rintro e w5 ⟨u4, u5, rfl, H5'⟩; clear H4;
          have H5 : HL w w5 [blk ap (obj ma), mp ma (kv enc M), blk bq (obj mq), mp mq (kv enc M), intsAt w.heap.size u4 (idsL (spotsOf M))] := H5'.sel 6 [2, 3, 4, 5, 0]; clear H5')
      | (go_at_call_of 12 (Value.int .i64 thn); refine (due_ok H5 hM thn).mono ?_; rw [H1M.out]; rintro e w6 ⟨u6, rfl, H6'⟩; clear H5;
          have H6 : HL w w6 [blk ap (obj ma), mp ma (kv enc M1), blk bq (obj mq), mp mq (kv enc M), intsAt w.heap.size u4 (idsL (spotsOf M)), intsAt w.heap.size u6 (dueL thn (spotsOf M))] := H6'.sel 6 [1, 2, 3, 4, 5, 0]; clear H6')
      | (go_at_call 13; refine (first_ok H6 hM1').mono ?_; rw [He1.out]; rintro e w7 ⟨he, H7⟩; clear H6; have H8 := intsNil H7 w.heap.size; have r8 : Rd 1 u6 _ (ints (dueL thn (spotsOf M))) w7 := rd_in (base := w.heap.size) H7 (by simp); have b8 : ([] : List Int).length + (dueL thn (spotsOf M)).length ≤ 17592186044416 := (by simp only [List.length_nil]; omega); clear H7;
          rcases firstOf_cases thn (spotsOf M) with hf | ⟨i, u, hf, hlu⟩ <;> (rw [hf] at he; subst he))
      | (at_builtin; refine append_ints (v := .slice none 0 0) (xv := u6) (xs := []) (ys := dueL thn (spotsOf M)) rfl _ _ rfl H8 rfl rfl r8 b8 ?_; rw [List.nil_append]; intro u9 w9 H9'; clear H8 r8 b8;
          have H9 : HL w w9 [blk ap (obj ma), mp ma (kv enc M1), blk bq (obj mq), mp mq (kv enc M), intsAt w.heap.size u4 (idsL (spotsOf M)), intsAt w.heap.size u9 (dueL thn (spotsOf M))] := H9'.sel 7 [1, 2, 3, 4, 5, 0]; clear H9')
      | (go_at_call_of 12 (Value.pointer (some ⟨ap, 0, none⟩)); refine (due_ok H9 hM1' now).mono ?_; rw [H2M.out, He1.out]; rintro e wa ⟨ua, rfl, Ha'⟩; clear H9;
          have Ha : HL w wa (intsAt w.heap.size u9 (dueL thn (spotsOf M)) :: [blk ap (obj ma), mp ma (kv enc M2), blk bq (obj mq), mp mq (kv enc M), intsAt w.heap.size u4 (idsL (spotsOf M))]) := Ha'.sel 7 [6, 1, 2, 3, 4, 5]; have ra : Rd 1 ua _ (ints (dueL now (late thn (spotsOf M)))) wa := rd_in (base := w.heap.size) Ha' (List.mem_cons_self ..); have ba : (dueL thn (spotsOf M)).length + (dueL now (late thn (spotsOf M))).length ≤ 17592186044416 := (by have h := congrArg List.length Hdd.out; rw [List.length_append] at h; omega); clear Ha')
      | (at_builtin; refine append_ints (v := u9) (xv := ua) (xs := dueL thn (spotsOf M)) (ys := dueL now (late thn (spotsOf M))) rfl _ _ rfl Ha rfl rfl ra ba ?_; rw [Hdd.out]; intro ub wb Hb'; clear Ha ra ba; obtain ⟨Ab, qb, rfl, -, -, -⟩ := row_shape Hb'.head;
          have Hb : HL w wb [blk bq (obj mq), mp mq (kv enc M), blk ap (obj ma), mp ma (kv enc M2), intsAt w.heap.size u4 (idsL (spotsOf M)), intsAt w.heap.size (.slice Ab (dueL now (spotsOf M)).length qb) (dueL now (spotsOf M))] := Hb'.sel 6 [3, 4, 1, 2, 5, 0]; clear Hb')
      | (go_at_call_of 12 (Value.pointer (some ⟨bq, 0, none⟩)); refine (due_ok Hb hM now).mono ?_; rintro e wc ⟨uc, rfl, Hc⟩; clear Hb)
      | (go_at_call 14; refine (numbers_ok Hc (dueL now (spotsOf M)) (dueL now (spotsOf M)) (ent_ints (base := w.heap.size) (by simp)) (ent_ints (base := w.heap.size) (List.mem_cons_self ..))).mono ?_; rw [beq_self_eq_true]; rintro e wd ⟨rfl, Hd'⟩; clear Hc;
          have Hd : HL w wd [blk ap (obj ma), mp ma (kv enc M2), intsAt w.heap.size u4 (idsL (spotsOf M)), intsAt w.heap.size (.slice Ab (dueL now (spotsOf M)).length qb) (dueL now (spotsOf M))] := Hd'.sel 7 [3, 4, 5, 6]; clear Hd')
      | (go_at_call 10; refine (len_ok Hd).mono ?_; rintro e we ⟨rfl, rfl⟩; have He := Hd; clear Hd)
      | (go_at_call 11; refine (listed_ok He hM2' _).mono ?_; rw [take_all (M := M2) (by omega), He2.out]; rintro e wf ⟨v4, v5, rfl, Hf'⟩; clear He;
          have Hf : HL w wf (intsAt w.heap.size (.slice Ab (dueL now (spotsOf M)).length qb) (dueL now (spotsOf M)) :: [intsAt w.heap.size u4 (idsL (spotsOf M))]) := Hf'.sel 6 [5, 4]; have rf : Rd 1 v4 _ (ints (idsL (late now (spotsOf M)))) wf := rd_in (base := w.heap.size) Hf' (List.mem_cons_self ..);
          have bf : (dueL now (spotsOf M)).length + (idsL (late now (spotsOf M))).length ≤ 17592186044416 := (by have h := congrArg List.length Hdr.out; rw [List.length_append] at h; simp only [idsL, List.length_map] at h ⊢; have := HnS.out; omega); clear Hf')
      | (at_builtin; refine append_ints (v := .slice Ab (dueL now (spotsOf M)).length qb) (xv := v4) (xs := dueL now (spotsOf M)) (ys := idsL (late now (spotsOf M))) rfl _ _ rfl Hf rfl rfl rf bf ?_; rw [Hdr.out]; intro ug wg Hg; clear Hf rf bf)
      | (go_at_call 14; refine (numbers_ok Hg (idsL (spotsOf M)) (idsL (spotsOf M)) (ent_ints (base := w.heap.size) (List.mem_cons_self ..)) (ent_ints (base := w.heap.size) (by simp))).mono ?_; rw [beq_self_eq_true]; rintro e wh ⟨rfl, Hh⟩; clear Hg))
    all_goals (go_ret; exact ⟨rfl, Hh.below⟩)
  · have hle : now ≤ thn := by omega
    have hd1 := Nat.le_trans (dueL_length now (spotsOf M)) (Nat.le_of_eq hn)
    have hd2 := Nat.le_trans (dueL_length thn (spotsOf M)) (Nat.le_of_eq hn)
    have e1 := spots_late hI now
    have i1 := ids_late hI now
    have l1 := late_length now hS
    have l2 := late_length thn hS
    have dd := due_due hle hS
    have dr := due_rest thn hS
    generalize hM1 : dropL now M (spotsOf M) = M1 at e1 i1
    have n1 : (spotsOf M1).length = M1.length := spotsOf_length
    have e2 := spots_late i1 thn
    generalize hM2 : dropL thn M1 (spotsOf M1) = M2 at e2
    rw [e1, late_late hle] at e2
    have n2 : (spotsOf M2).length = M2.length := spotsOf_length
    rw [e1] at n1
    rw [e2] at n2
    have hM1' : M1.length ≤ 8796093022208 := by omega
    have hM2' : M2.length ≤ 8796093022208 := by omega
    have Hdd := Lib.hid dd; have Hdr := Lib.hid dr; have He1 := Lib.hid e1; have He2 := Lib.hid e2; have H1M := Lib.hid hM1; have H2M := Lib.hid hM2; have HMM := Lib.hid hMM; have Hn2 := Lib.hid n2; have Hl2 := Lib.hid l2; have HnS := Lib.hid hn
    have hsub : M2.length + (dueL thn (spotsOf M)).length = M.length := by omega
    have hdl : (dueL thn (spotsOf M)).length ≤ M.length := hd2
    clear dd dr e1 e2 hM1 hM2 hMM n1 n2 l1 l2 hn
    go_enter Try.func3, Try.ntmps3
    go_wp2_with (first
      | (go_at_call 8; refine (shown_ok (HL.start w)).mono ?_; rintro e w1 ⟨rfl, H1⟩)
      | (go_at_call 9; refine (filled_ok H1 hl).mono ?_; rw [HMM.out]; rintro e w2 ⟨ap, ma, rfl, H2⟩; clear H1)
      | (go_at_call 9; refine (filled_ok H2 hl).mono ?_; rw [HMM.out]; rintro e w3 ⟨bq, mq, rfl, H3'⟩; clear H2; have H3 : HL w w3 [blk ap (obj ma), mp ma (kv enc M), blk bq (obj mq), mp mq (kv enc M)] := H3'.sel 4 [2, 3, 0, 1]; clear H3')
      | (go_at_call 10; refine (len_ok H3).mono ?_; rintro e w4 ⟨rfl, rfl⟩; have H4 := H3; clear H3)
      | (go_at_call 11; refine (listed_ok H4 hM _).mono ?_; rw [take_all (M := M) (by omega)]; rintro e w5 ⟨u4, u5, rfl, H5'⟩; clear H4;
          have H5 : HL w w5 [blk ap (obj ma), mp ma (kv enc M), blk bq (obj mq), mp mq (kv enc M), intsAt w.heap.size u4 (idsL (spotsOf M))] := H5'.sel 6 [2, 3, 4, 5, 0]; clear H5')
      | (go_at_call_of 12 (Value.int .i64 now); refine (due_ok H5 hM now).mono ?_; rw [H1M.out]; rintro e w6 ⟨u6, rfl, H6'⟩; clear H5;
          have H6 : HL w w6 [blk ap (obj ma), mp ma (kv enc M1), blk bq (obj mq), mp mq (kv enc M), intsAt w.heap.size u4 (idsL (spotsOf M)), intsAt w.heap.size u6 (dueL now (spotsOf M))] := H6'.sel 6 [1, 2, 3, 4, 5, 0]; clear H6')
      | (go_at_call 13; refine (first_ok H6 hM1').mono ?_; rw [He1.out]; rintro e w7 ⟨he, H7⟩; clear H6; have H8 := intsNil H7 w.heap.size; have r8 : Rd 1 u6 _ (ints (dueL now (spotsOf M))) w7 := rd_in (base := w.heap.size) H7 (by simp); have b8 : ([] : List Int).length + (dueL now (spotsOf M)).length ≤ 17592186044416 := (by simp only [List.length_nil]; omega); clear H7;
          rcases firstOf_cases now (spotsOf M) with hf | ⟨i, u, hf, hlu⟩ <;> (rw [hf] at he; subst he))
      | (at_builtin; refine append_ints (v := .slice none 0 0) (xv := u6) (xs := []) (ys := dueL now (spotsOf M)) rfl _ _ rfl H8 rfl rfl r8 b8 ?_; rw [List.nil_append]; intro u9 w9 H9'; clear H8 r8 b8;
          have H9 : HL w w9 [blk ap (obj ma), mp ma (kv enc M1), blk bq (obj mq), mp mq (kv enc M), intsAt w.heap.size u4 (idsL (spotsOf M)), intsAt w.heap.size u9 (dueL now (spotsOf M))] := H9'.sel 7 [1, 2, 3, 4, 5, 0]; clear H9')
      | (go_at_call_of 12 (Value.pointer (some ⟨ap, 0, none⟩)); refine (due_ok H9 hM1' thn).mono ?_; rw [H2M.out, He1.out]; rintro e wa ⟨ua, rfl, Ha'⟩; clear H9;
          have Ha : HL w wa (intsAt w.heap.size u9 (dueL now (spotsOf M)) :: [blk ap (obj ma), mp ma (kv enc M2), blk bq (obj mq), mp mq (kv enc M), intsAt w.heap.size u4 (idsL (spotsOf M))]) := Ha'.sel 7 [6, 1, 2, 3, 4, 5]; have ra : Rd 1 ua _ (ints (dueL thn (late now (spotsOf M)))) wa := rd_in (base := w.heap.size) Ha' (List.mem_cons_self ..); have ba : (dueL now (spotsOf M)).length + (dueL thn (late now (spotsOf M))).length ≤ 17592186044416 := (by have h := congrArg List.length Hdd.out; rw [List.length_append] at h; omega); clear Ha')
      | (at_builtin; refine append_ints (v := u9) (xv := ua) (xs := dueL now (spotsOf M)) (ys := dueL thn (late now (spotsOf M))) rfl _ _ rfl Ha rfl rfl ra ba ?_; rw [Hdd.out]; intro ub wb Hb'; clear Ha ra ba; obtain ⟨Ab, qb, rfl, -, -, -⟩ := row_shape Hb'.head;
          have Hb : HL w wb [blk bq (obj mq), mp mq (kv enc M), blk ap (obj ma), mp ma (kv enc M2), intsAt w.heap.size u4 (idsL (spotsOf M)), intsAt w.heap.size (.slice Ab (dueL thn (spotsOf M)).length qb) (dueL thn (spotsOf M))] := Hb'.sel 6 [3, 4, 1, 2, 5, 0]; clear Hb')
      | (go_at_call_of 12 (Value.pointer (some ⟨bq, 0, none⟩)); refine (due_ok Hb hM thn).mono ?_; rintro e wc ⟨uc, rfl, Hc⟩; clear Hb)
      | (go_at_call 14; refine (numbers_ok Hc (dueL thn (spotsOf M)) (dueL thn (spotsOf M)) (ent_ints (base := w.heap.size) (by simp)) (ent_ints (base := w.heap.size) (List.mem_cons_self ..))).mono ?_; rw [beq_self_eq_true]; rintro e wd ⟨rfl, Hd'⟩; clear Hc;
          have Hd : HL w wd [blk ap (obj ma), mp ma (kv enc M2), intsAt w.heap.size u4 (idsL (spotsOf M)), intsAt w.heap.size (.slice Ab (dueL thn (spotsOf M)).length qb) (dueL thn (spotsOf M))] := Hd'.sel 7 [3, 4, 5, 6]; clear Hd')
      | (go_at_call 10; refine (len_ok Hd).mono ?_; rintro e we ⟨rfl, rfl⟩; have He := Hd; clear Hd)
      | (go_at_call 11; refine (listed_ok He hM2' _).mono ?_; rw [take_all (M := M2) (by omega), He2.out]; rintro e wf ⟨v4, v5, rfl, Hf'⟩; clear He;
          have Hf : HL w wf (intsAt w.heap.size (.slice Ab (dueL thn (spotsOf M)).length qb) (dueL thn (spotsOf M)) :: [intsAt w.heap.size u4 (idsL (spotsOf M))]) := Hf'.sel 6 [5, 4]; have rf : Rd 1 v4 _ (ints (idsL (late thn (spotsOf M)))) wf := rd_in (base := w.heap.size) Hf' (List.mem_cons_self ..);
          have bf : (dueL thn (spotsOf M)).length + (idsL (late thn (spotsOf M))).length ≤ 17592186044416 := (by have h := congrArg List.length Hdr.out; rw [List.length_append] at h; simp only [idsL, List.length_map] at h ⊢; have := HnS.out; omega); clear Hf')
      | (at_builtin; refine append_ints (v := .slice Ab (dueL thn (spotsOf M)).length qb) (xv := v4) (xs := dueL thn (spotsOf M)) (ys := idsL (late thn (spotsOf M))) rfl _ _ rfl Hf rfl rfl rf bf ?_; rw [Hdr.out]; intro ug wg Hg; clear Hf rf bf)
      | (go_at_call 14; refine (numbers_ok Hg (idsL (spotsOf M)) (idsL (spotsOf M)) (ent_ints (base := w.heap.size) (List.mem_cons_self ..)) (ent_ints (base := w.heap.size) (by simp))).mono ?_; rw [beq_self_eq_true]; rintro e wh ⟨rfl, Hh⟩; clear Hg))
    all_goals (go_ret; exact ⟨rfl, Hh.below⟩)
end Go.Proofs.Ythibbjllfmhdmaa

/- Boxes that the pass's laws use: what is asked, a plan, a want; wants appended. -/
import Derived.Test.YtebibcaahjmjfaaPaShown
import Derived.Test.YtebibcaahjmjfaaPaOpen
set_option linter.unusedVariables false
set_option linter.unusedSimpArgs false
namespace Go.Proofs.Ytebibcaahjmjfaa
open Go.RowKit Go.Proofs.HL Go.Proofs.HL.Pr Go.Proofs.HL.Pa
section
variable {w0 w : World} {L : List At} {b : Nat} {now free holder h s e : Int} {vw vr u : Value} {x : Wn}
def boxA (b : Nat) (now free : Int) (vw : Value) (holder : Int) (vr : Value) : At := blk b (.cells #[.int .i64 now, .int .i64 free, vw, .int .i64 holder, vr] 47)
def boxP (b : Nat) (u : Value) (h s e : Int) : At := blk b (.cells #[u, .int .i64 h, .int .i64 s, .int .i64 e] 50)
def boxW (b : Nat) (x : Wn) : At := blk b (.cells #[.int .i64 x.job, .int .i64 x.nodes, .int .i64 x.limit] 60)
theorem boxA_cells (H : HL w0 w (boxA b now free vw holder vr :: L)) : w.cell? ⟨b, 0, none⟩ = some (.int .i64 now) ∧ w.cell? ⟨b, 1, none⟩ = some (.int .i64 free) ∧ w.cell? ⟨b, 2, none⟩ = some vw ∧ w.cell? ⟨b, 3, none⟩ = some (.int .i64 holder) ∧ w.cell? ⟨b, 4, none⟩ = some vr :=
  ⟨H.cell 0, H.cell 1, H.cell 2, H.cell 3, H.cell 4⟩
theorem boxP_cells (H : HL w0 w (boxP b u h s e :: L)) : w.cell? ⟨b, 0, none⟩ = some u ∧ w.cell? ⟨b, 1, none⟩ = some (.int .i64 h) ∧ w.cell? ⟨b, 2, none⟩ = some (.int .i64 s) ∧ w.cell? ⟨b, 3, none⟩ = some (.int .i64 e) :=
  ⟨H.cell 0, H.cell 1, H.cell 2, H.cell 3⟩
theorem boxP_frozen (H : HL w0 w (boxP b u h s e :: L)) : w.frozen? ⟨b, 0, none⟩ = false ∧ w.frozen? ⟨b, 1, none⟩ = false ∧ w.frozen? ⟨b, 2, none⟩ = false ∧ w.frozen? ⟨b, 3, none⟩ = false :=
  ⟨H.frozen 0, H.frozen 1, H.frozen 2, H.frozen 3⟩
theorem boxW_cells (H : HL w0 w (boxW b x :: L)) : w.cell? ⟨b, 0, none⟩ = some (.int .i64 x.job) ∧ w.cell? ⟨b, 1, none⟩ = some (.int .i64 x.nodes) ∧ w.cell? ⟨b, 2, none⟩ = some (.int .i64 x.limit) :=
  ⟨H.cell 0, H.cell 1, H.cell 2⟩
theorem boxP_set {u' : Value} {h' s' e' : Int} (H : HL w0 w (boxP b u h s e :: L)) : HL w0 ((((w.setCell ⟨b, 0, none⟩ u').setCell ⟨b, 1, none⟩ (.int .i64 h')).setCell ⟨b, 2, none⟩ (.int .i64 s')).setCell ⟨b, 3, none⟩ (.int .i64 e')) (boxP b u' h' s' e' :: L) :=
  (((HL.setCell H 0 u').setCell 1 (.int .i64 h')).setCell 2 (.int .i64 s')).setCell 3 (.int .i64 e')
theorem entIntsPre {base n c : Nat} {A : Option Addr} {S T : List Int} (H : HL w0 w (intsR base (.slice A n c) (S ++ T) :: L)) (hn : (S ++ T).length = n) : Rd 1 (.slice A S.length c) S.length (S.map fun j => .int .i64 j) w := by
  have h := rdInts H
  rw [hn] at h
  have := rd_prefix h S.length (by rw [← hn, List.length_append]; omega)
  rw [Nat.mul_one, List.map_append, List.take_left' (by simp)] at this
  exact this
theorem HL.allocA (H : HL w0 w L) (now free : Int) (vw : Value) (holder : Int) (vr : Value) : HL w0 (w.alloc (.cells #[.int .i64 now, .int .i64 free, vw, .int .i64 holder, vr] 47)) (boxA w.heap.size now free vw holder vr :: L) := H.alloc _
theorem HL.allocP (H : HL w0 w L) (u : Value) (h s e : Int) : HL w0 (w.alloc (.cells #[u, .int .i64 h, .int .i64 s, .int .i64 e] 50)) (boxP w.heap.size u h s e :: L) := H.alloc _
theorem HL.allocW (H : HL w0 w L) (x : Wn) : HL w0 (w.alloc (.cells #[.int .i64 x.job, .int .i64 x.nodes, .int .i64 x.limit] 60)) (boxW w.heap.size x :: L) := H.alloc _
theorem sliceWn : SliceOf Try.prog 45 60 3 24 := sliceOf (z := .agg #[.int .i64 0, .int .i64 0, .int .i64 0]) Try.underlying45 (by kernel_rfl) rfl (by decide)
theorem one_encW (l : List Wn) : ∀ u ∈ l.flatMap encW, u.oneCell' = true := by
  intro u hu
  obtain ⟨x, -, hx⟩ := List.mem_flatMap.1 hu
  simp [encW] at hx
  rcases hx with rfl | rfl | rfl <;> rfl
theorem append_wants {ops : Array Oper} {rest : List Oper} {o : Oper} {a : Act} {Q : Exit → Act → World → Prop} {xs ys : List Wn} {v xv : Value} (hgd : o.guard = none) (s x : Operand) (ho : o.op = .call { callee := .builtin .append, args := #[s, x], argTypes := #[45, 45] })
    (H : HL w0 w (wantsAt w0.heap.size v xs :: L)) (hs : a.eval s = v) (hx : a.eval x = xv) (hr : Rd 3 xv ys.length (ys.flatMap encW) w) (hb : xs.length + ys.length ≤ 5864062014805)
    (h : ∀ v' w', HL w0 w' (wantsAt w0.heap.size v' (xs ++ ys) :: L) → wpList Try.prog ops Q rest (a.put o.dst v') w') : wpList Try.prog ops Q (o :: rest) a w :=
  wpList_append_hl sliceWn hgd s x ho H hs hx hr (one_encW ys) (by unfold maxLen; omega) (by omega) (fun v' w' H' _ => h v' w' (by
    unfold wantsAt; rw [List.length_append, List.flatMap_append]; exact H'))
theorem emptyWants (H : HL w0 w L) : HL w0 (w.alloc (.cells #[] 60)) (wantsAt w0.heap.size (.slice (some ⟨w.heap.size, 0, none⟩) 0 0) [] :: L) :=
  (H.alloc (.cells #[] 60)).rowOf (cs := []) rfl (by decide)
theorem rd_wn {x : Wn} : Rd 3 (.slice (some ⟨w.heap.size, 0, none⟩) 1 1) 1 ([x].flatMap encW) (w.alloc (.cells #[.int .i64 x.job, .int .i64 x.nodes, .int .i64 x.limit] 60)) := rd_new (cs := [.int .i64 x.job, .int .i64 x.nodes, .int .i64 x.limit]) rfl rfl (by decide)
end
section
open Go.ChangeShapes Go.WideShapes Go.Deep
theorem open_wantV {H : Type} {encH : TypeId × Value → H} {w : World} {base : Nat} {spare : Nat → Bool} {held : Bool} {v : Value} {d : DataW H} {ps : List MemPlace} (hv : ∃ cs, v = .agg cs ∧ cs.size = 3) (h : DataW.Trod encH Try.prog w base spare held 60 v d ps) : ∃ x : Wn, v = wnV x := by
  obtain ⟨fuel, hf⟩ := h
  obtain ⟨cs, rfl, hsz⟩ := hv
  match cs, hsz with
  | ⟨[c0, c1, c2]⟩, _ =>
    obtain ⟨x, hx⟩ := open_want (cs := [c0, c1, c2]) rfl hf
    unfold encW at hx
    simp only [List.cons.injEq, and_true] at hx
    obtain ⟨rfl, rfl, rfl⟩ := hx
    exact ⟨x, rfl⟩
end
end Go.Proofs.Ytebibcaahjmjfaa

/- The reference starts a want, told by what a pass is. -/
import Derived.Test.YtebibcaahjmjfaaPaRefS
import Derived.Test.YtebibcaahjmjfaaPaRefP
set_option linter.unusedVariables false
set_option linter.unusedSimpArgs false
namespace Go.Proofs.Ytebibcaahjmjfaa
open Go.RowKit Go.Proofs.HL Go.Proofs.HL.Pr Go.Proofs.HL.Pa
theorem drop_erase {α : Type} (l : List α) (i : Nat) : (l.eraseIdx i).drop i = l.drop (i + 1) := by
  rcases Nat.lt_or_ge i l.length with h | h
  · rw [List.eraseIdx_eq_take_drop_succ, List.drop_left' (by rw [List.length_take]; omega)]
  · rw [List.eraseIdx_of_length_le h, List.drop_eq_nil_of_le h, List.drop_eq_nil_of_le (by omega)]
theorem HL.skip {w0 w : World} {A : At} {X L : List At} (h : HL w0 w (A :: (X ++ L))) : HL w0 w (A :: L) := HL.drops (K := X) (h.perm List.perm_middle.symm)
theorem HL.toFront {w0 w : World} {A B C : At} {X L : List At} (h : HL w0 w (A :: B :: (X ++ C :: L))) : HL w0 w (C :: B :: (X ++ L)) :=
  HL.perm (show HL w0 w ((B :: X) ++ C :: L) from h.tail) List.perm_middle
/-- Where the reference's round stands. -/
structure At15 (w0 w : World) (p : Nat) (ws : List Wn) (s : RS) (vl vr us : Value) (K : List At) : Prop where
  hl : HL w0 w (rr p s.now s.free vl vr us :: intsR w0.heap.size us s.starts :: K)
  left : Wants w0 K vl (Pa.leftOf ws s.starts)
  runs : Runs w0 K vr s.runs
section
variable {w0 w : World} {K : List At} {p i : Nat} {vl vr us : Value} {ws : List Wn} {l : List Rn} {s : RS} {T : List Wn} {x : Wn} {n0 f0 holder : Int}
theorem start15_told (H : At15 w0 w p ws s vl vr us K) (hm : mayB n0 f0 ws holder l = true) (hl : l.length ≤ 8796093021952) (hwl : ws.length ≤ 5864062014805) (told : Pa.Told n0 f0 ws l s T) (hx : (Pa.leftOf ws s.starts)[i]? = some x) (hf : x.nodes ≤ s.free) :
    Calls Try.prog 51 #[.pointer (some ⟨p, 0, none⟩), .int .i64 i] w fun e w' => ∃ vl' vr' us' X, e = .returned (.tuple #[]) ∧ At15 w0 w' p ws (startP s x) vl' vr' us' (X ++ K) ∧ Pa.Told n0 f0 ws l (startP s x) (T ++ [x]) := by
  obtain ⟨hxw, hno⟩ := left_mem.1 (List.mem_of_getElem? hx)
  have t2 := told.start hxw hno hf
  have few := t2.few hm
  obtain ⟨⟨a0, a1, a2, a3⟩, -, hw, hnd, -⟩ := mayB_iff.1 hm
  have okx := hw x hxw
  have hr0 := (rightB_iff.1 (told.right hm).1)
  have hsl : s.starts.length = T.length := by rw [told.tstarts, List.length_map]
  have hrl : s.runs.length = l.length + T.length := by rw [told.truns, List.length_append, List.length_map]
  have hll : (Pa.leftOf ws s.starts).length ≤ ws.length := List.length_filter_le _ _
  rw [List.length_append, List.length_singleton] at few
  have hnow := told.tnow
  refine (start15_ok H.hl H.left H.runs hx (by omega) (by omega) (by omega) (by omega) (by omega)).mono ?_
  rintro e w' ⟨vl', vr', us', K', rfl, H', EW, ER, X, rfl⟩
  refine ⟨vl', vr', us', X, rfl, ⟨H', ?_, ER⟩, t2⟩
  show Wants w0 _ vl' (Pa.leftOf ws (s.starts ++ [x.job]))
  rw [left_start hnd hx]
  exact EW
theorem ranked_step (hnd : (ws.map (·.job)).Nodup) {rest : List Wn} (hx : Pa.leftOf ws s.starts = x :: rest) (hf : x.nodes ≤ s.free) : rankedP s ws = rankedP (startP s x) ws := by
  have h1 := left_start hnd (S := s.starts) (i := 0) (x := x) (by rw [hx]; rfl)
  rw [hx, List.eraseIdx_cons_zero] at h1
  have hno := (left_mem.1 (by rw [hx]; exact List.mem_cons_self .. : x ∈ Pa.leftOf ws s.starts)).2
  rw [← ranked_left ws s s.starts (fun _ h => h), hx]
  conv => lhs; unfold rankedP
  rw [if_neg hno, if_pos hf, ← h1]
  exact ranked_left ws (startP s x) (s.starts ++ [x.job]) (fun _ h => h)
theorem ranked_stop {rest : List Wn} (hx : Pa.leftOf ws s.starts = x :: rest) (hf : ¬ x.nodes ≤ s.free) : rankedP s ws = ({ s with holder := x.job }, x.nodes) := by
  have hno := (left_mem.1 (by rw [hx]; exact List.mem_cons_self .. : x ∈ Pa.leftOf ws s.starts)).2
  rw [← ranked_left ws s s.starts (fun _ h => h), hx]
  unfold rankedP
  rw [if_neg hno, if_neg hf]
theorem ranked_none (hx : Pa.leftOf ws s.starts = []) : rankedP s ws = (s, 0) := by
  rw [← ranked_left ws s s.starts (fun _ h => h), hx]
  rfl
end
end Go.Proofs.Ytebibcaahjmjfaa

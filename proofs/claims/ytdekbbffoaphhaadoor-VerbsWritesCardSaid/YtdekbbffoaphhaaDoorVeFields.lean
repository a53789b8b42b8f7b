/- A command's fields where they lie. -/
import Derived.Test.YtdekbbffoaphhaaDoorVeVerbs
set_option linter.unusedVariables false
set_option linter.unusedSimpArgs false
namespace Go.Proofs.YtdekbbffoaphhaaDoor
open Go.RowKit Go.Proofs.HL Go.Proofs.Ve
def cmV (c : Cm) : Value := .agg #[.int .i64 c.kind, .string c.name, .string c.par, .int .i64 c.sh, .int .i64 c.nd, .int .i64 c.lm, .int .i64 c.jb, .int .i64 c.tk]
def boxC (b : Nat) (c : Cm) : At := blk b (.cells #[.int .i64 c.kind, .string c.name, .string c.par, .int .i64 c.sh, .int .i64 c.nd, .int .i64 c.lm, .int .i64 c.jb, .int .i64 c.tk] 24)
def boxV (b : Nat) (V : Verb) (u : Value) : At := blk b (.cells #[.int .i64 V.kind, .string V.word, u] 60)
theorem seven {f : Nat} (h : f ≤ 6) : f = 0 ∨ f = 1 ∨ f = 2 ∨ f = 3 ∨ f = 4 ∨ f = 5 ∨ f = 6 := by omega
section
variable {w0 w : World} {L : List At} {b : Nat} {c : Cm}
theorem boxC_at (H : HL w0 w L) (hm : boxC b c ∈ L) (i : Nat) : w.cell? ⟨b, i, none⟩ = #[.int .i64 c.kind, .string c.name, .string c.par, .int .i64 c.sh, .int .i64 c.nd, .int .i64 c.lm, .int .i64 c.jb, .int .i64 c.tk][i]? := H.cellOf hm i
theorem boxC_frozen (H : HL w0 w L) (hm : boxC b c ∈ L) (i : Nat) : w.frozen? ⟨b, i, none⟩ = false := H.frozenOf hm i
theorem boxC_txt (H : HL w0 w L) (hm : boxC b c ∈ L) {f : Nat} (hf : f < 2) : w.cell? ⟨b, f + 1, none⟩ = some (.string (txtF c f)) := by
  rw [boxC_at H hm]
  rcases (show f = 0 ∨ f = 1 by omega) with rfl | rfl <;> rfl
theorem boxC_num (H : HL w0 w L) (hm : boxC b c ∈ L) {f : Nat} (h2 : 2 ≤ f) (hf : f ≤ 6) : w.cell? ⟨b, f + 1, none⟩ = some (.int .i64 (numF c f)) := by
  rw [boxC_at H hm]
  rcases seven hf with rfl | rfl | rfl | rfl | rfl | rfl | rfl <;> first | omega | rfl
theorem boxC_setT (H : HL w0 w (boxC b c :: L)) {f : Nat} (hf : f < 2) (s : ByteArray) : HL w0 (w.setCell ⟨b, f + 1, none⟩ (.string s)) (boxC b (setT c f s) :: L) := by
  rcases (show f = 0 ∨ f = 1 by omega) with rfl | rfl
  · exact HL.setCell H 1 (.string s)
  · exact HL.setCell H 2 (.string s)
theorem boxC_setN (H : HL w0 w (boxC b c :: L)) {f : Nat} (h2 : 2 ≤ f) (hf : f ≤ 6) (n : Int) : HL w0 (w.setCell ⟨b, f + 1, none⟩ (.int .i64 n)) (boxC b (setN c f n) :: L) := by
  rcases seven hf with rfl | rfl | rfl | rfl | rfl | rfl | rfl
  · omega
  · omega
  · exact HL.setCell H 3 (.int .i64 n)
  · exact HL.setCell H 4 (.int .i64 n)
  · exact HL.setCell H 5 (.int .i64 n)
  · exact HL.setCell H 6 (.int .i64 n)
  · exact HL.setCell H 7 (.int .i64 n)
theorem HL.allocC (H : HL w0 w L) (c : Cm) : HL w0 (w.alloc (.cells #[.int .i64 c.kind, .string c.name, .string c.par, .int .i64 c.sh, .int .i64 c.nd, .int .i64 c.lm, .int .i64 c.jb, .int .i64 c.tk] 24)) (boxC w.heap.size c :: L) := H.alloc _
theorem HL.allocV (H : HL w0 w L) (V : Verb) (u : Value) : HL w0 (w.alloc (.cells #[.int .i64 V.kind, .string V.word, u] 60)) (boxV w.heap.size V u :: L) := H.alloc _
theorem boxV_at (H : HL w0 w L) {V : Verb} {u : Value} (hm : boxV b V u ∈ L) (i : Nat) : w.cell? ⟨b, i, none⟩ = #[.int .i64 V.kind, .string V.word, u][i]? := H.cellOf hm i
end
theorem retP {v u : Value} (h : v = u) : Ending.returned v = .returned u := by rw [h]
theorem text_yes (b f : Nat) (hf : f < 2) (w : World) : Calls Tryd.prog 36 #[.pointer (some ⟨b, 0, none⟩), .int .i64 (f : Int)] w fun e w' => e = .returned (.pointer (some ⟨b, f + 1, none⟩)) ∧ w = w' := by
  rcases (show f = 0 ∨ f = 1 by omega) with rfl | rfl
  all_goals
    go_enter Tryd.func36, Tryd.ntmps36
    go_wp2
    go_ret
    exact ⟨rfl, rfl⟩
theorem text_no (b f : Nat) (h2 : 2 ≤ f) (hf : f ≤ 6) (w : World) : Calls Tryd.prog 36 #[.pointer (some ⟨b, 0, none⟩), .int .i64 (f : Int)] w fun e w' => e = .returned (.pointer none) ∧ w = w' := by
  rcases seven hf with rfl | rfl | rfl | rfl | rfl | rfl | rfl
  · omega
  · omega
  all_goals
    go_enter Tryd.func36, Tryd.ntmps36
    go_wp2
    go_ret
    exact ⟨rfl, rfl⟩
theorem number_ok (b f : Nat) (h2 : 2 ≤ f) (hf : f ≤ 6) (w : World) : Calls Tryd.prog 38 #[.pointer (some ⟨b, 0, none⟩), .int .i64 (f : Int)] w fun e w' => e = .returned (.pointer (some ⟨b, f + 1, none⟩)) ∧ w = w' := by
  rcases seven hf with rfl | rfl | rfl | rfl | rfl | rfl | rfl
  · omega
  · omega
  all_goals
    go_enter Tryd.func38, Tryd.ntmps38
    go_wp2
    go_ret
    exact ⟨rfl, rfl⟩
end Go.Proofs.YtdekbbffoaphhaaDoor

/- A pass at work: what its round owns; who is let, and who is started. -/
import Derived.Test.YtebibcaahjmjfaaPrRefB
import Derived.Test.YtebibcaahjmjfaaPrSmall
import Derived.Test.YtebibcaahjmjfaaPaCore
set_option linter.unusedVariables false
set_option linter.unusedSimpArgs false
namespace Go.Proofs.Ytebibcaahjmjfaa
open Go.RowKit Go.Proofs.HL Go.Proofs.HL.Pr Go.Proofs.HL.Pa

def wnV (x : Wn) : Value := .agg #[.int .i64 x.job, .int .i64 x.nodes, .int .i64 x.limit]
/-- The round's own block. -/
def rnd (p mb : Nat) (s : RS) (ur us : Value) : At := blk p (.cells #[.int .i64 s.now, .int .i64 s.free, ur, .map (some mb), us, .int .i64 s.holder, .int .i64 s.shadow, .int .i64 s.extra] 95)
section
variable {w0 w : World} {L : List At} {p mb : Nat} {s : RS} {ur us : Value}
theorem rnd_cell (H : HL w0 w L) (hm : rnd p mb s ur us ∈ L) (i : Nat) : w.cell? ⟨p, i, none⟩ = #[.int .i64 s.now, .int .i64 s.free, ur, .map (some mb), us, .int .i64 s.holder, .int .i64 s.shadow, .int .i64 s.extra][i]? := H.cellOf hm i
theorem rnd_frozen (H : HL w0 w L) (hm : rnd p mb s ur us ∈ L) (i : Nat) : w.frozen? ⟨p, i, none⟩ = false := H.frozenOf hm i

set_option maxRecDepth 100000 in
set_option maxHeartbeats 800000 in
theorem lets_ok (H : HL w0 w L) (hm : rnd p mb s ur us ∈ L) (x : Wn) :
    Calls Try.prog 53 #[.agg #[], .pointer (some ⟨p, 0, none⟩), wnV x] w fun e w' => e = .returned (.bool (decide (x.nodes ≤ s.free))) ∧ HL w0 w' L := by
  have H1 := (H.alloc' (.cells #[] 97)).alloc (.cells #[.int .i64 x.job, .int .i64 x.nodes, .int .i64 x.limit] 60)
  have c1 : ((w.alloc (.cells #[] 97)).alloc (.cells #[.int .i64 x.job, .int .i64 x.nodes, .int .i64 x.limit] 60)).cell? ⟨p, 1, none⟩ = some (.int .i64 s.free) := rnd_cell H1 (List.mem_cons_of_mem _ hm) 1
  unfold wnV
  go_enter Try.func53, Try.ntmps53
  go_wp2
  have d1 : ((w.alloc (.cells #[] 97)).alloc (.cells #[.int .i64 x.job, .int .i64 x.nodes, .int .i64 x.limit] 60)).cell? ⟨w.heap.size + 1, 1, none⟩ = some (.int .i64 x.nodes) := by
    have := H1.cell 1
    rwa [World.size_alloc] at this
  have H2 := H1.tail
  generalize World.alloc (World.alloc _ _) _ = W at *
  refine wp_region_cut 7 (by kernel_rfl) (by kernel_rfl) ?_
  simp only [List.take_succ_cons, List.take_zero, List.drop_succ_cons, List.drop_zero]
  repeat (go_big_quiet_step ((fail)))
  refine wpQuiet_nil ?_
  intro nq
  have H3 := H2.drewN nq
  go_wp2
  go_ret
  exact ⟨rfl, H3⟩
theorem sliceI : SliceOf Try.prog 36 3 1 8 := sliceOf (z := .int .i64 0) Try.underlying36 (by kernel_rfl) rfl (by decide)
def intsR (base : Nat) (u : Value) (S : List Int) : At := row base 3 1 u S.length (S.map fun j => .int .i64 j)
end
end Go.Proofs.Ytebibcaahjmjfaa

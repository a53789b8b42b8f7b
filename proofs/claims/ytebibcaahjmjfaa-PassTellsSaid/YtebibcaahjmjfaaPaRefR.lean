/- The reference's round: a want's place; how a want is started (its lists). -/
import Derived.Test.YtebibcaahjmjfaaPaBox
set_option linter.unusedVariables false
set_option linter.unusedSimpArgs false
namespace Go.Proofs.Ytebibcaahjmjfaa
open Go.RowKit Go.Proofs.HL Go.Proofs.HL.Pr Go.Proofs.HL.Pa
def rr (p : Nat) (n0 fr : Int) (vl vr us : Value) : At := blk p (.cells #[.int .i64 n0, .int .i64 fr, vl, vr, us] 89)
section
variable {w0 w : World} {L : List At} {p : Nat} {n0 fr : Int} {vl vr us : Value} {left : List Wn} {runs : List Rn} {starts : List Int}
theorem rr_cell (H : HL w0 w L) (hm : rr p n0 fr vl vr us ∈ L) (i : Nat) : w.cell? ⟨p, i, none⟩ = #[.int .i64 n0, .int .i64 fr, vl, vr, us][i]? := H.cellOf hm i
theorem rr_frozen (H : HL w0 w L) (hm : rr p n0 fr vl vr us ∈ L) (i : Nat) : w.frozen? ⟨p, i, none⟩ = false := H.frozenOf hm i
theorem wn_pre {W : World} {A : Option Addr} {c k : Nat} {l : List Wn} (h : Rd 3 (.slice A l.length c) l.length (l.flatMap encW) W) (hk : k ≤ l.length) : Rd 3 (.slice A k c) (l.take k).length ((l.take k).flatMap encW) W := by
  have h1 := rd_prefix h k hk
  have e : (l.flatMap encW).take (k * 3) = (l.take k).flatMap encW := by
    clear h1 h hk
    induction l generalizing k with
    | nil => simp
    | cons x m ih =>
      cases k with
      | zero => simp
      | succ k =>
        rw [List.take_succ_cons, List.flatMap_cons, List.flatMap_cons, ← ih (k := k), show (k + 1) * 3 = k * 3 + 3 by omega]
        simp [encW]
  rw [e] at h1
  rw [show (l.take k).length = k by rw [List.length_take]; omega]
  exact h1
theorem wn_suf {W : World} {a a' : Addr} {c lo : Nat} {l : List Wn} (h : Rd 3 (.slice (some a) l.length c) l.length (l.flatMap encW) W) (hl : lo ≤ l.length) (ha : a' = a.add (lo * 3) ∨ l.length = lo) : Rd 3 (.slice (some a') (l.length - lo) (c - lo)) (l.drop lo).length ((l.drop lo).flatMap encW) W := by
  have h1 := rd_suffix h lo hl ha
  have e : (l.flatMap encW).drop (lo * 3) = (l.drop lo).flatMap encW := by
    clear h1 h ha hl
    induction l generalizing lo with
    | nil => simp
    | cons x m ih =>
      cases lo with
      | zero => simp
      | succ k =>
        rw [List.drop_succ_cons, List.flatMap_cons, ← ih, show (k + 1) * 3 = k * 3 + 3 by omega]
        simp [encW]
  rw [e] at h1
  rw [List.length_drop]
  exact h1
set_option maxRecDepth 100000 in
set_option maxHeartbeats 2000000 in
theorem at15_ok (H : HL w0 w L) (hm : rr p n0 fr vl vr us ∈ L) (hW : Wants w0 L vl left) {k : Nat} {x : Wn} (hx : left[k]? = some x) (hb : ∀ j y, j < k → left[j]? = some y → y.job ≠ x.job) :
    Calls Try.prog 50 #[.pointer (some ⟨p, 0, none⟩), .int .i64 x.job] w fun e w' => e = .returned (.int .i64 k) ∧ w = w' := by
  obtain ⟨A, c, rfl, hc1, hc2⟩ := rd_shape (hW w H)
  unfold maxLen at hc2
  have hr := hW w H
  have c2 : w.cell? ⟨p, 2, none⟩ = some (.slice A left.length c) := rr_cell H hm 2
  have hkl := (List.getElem?_eq_some_iff.1 hx).1
  have Hx := Lib.hid hx; have Hb := Lib.hid hb
  clear hx hb
  go_enter Try.func50, Try.ntmps50
  go_wp2
  go_loopg [5] k (fun g i wr => ∃ j : Nat, i = .int .i64 j ∧ j + g = k ∧ wr = w)
  case atStart => exact ⟨0, rfl, by omega, rfl⟩
  case round =>
    obtain ⟨j, rfl, hj, rfl⟩ := hrel
    have hjl : j < left.length := by omega
    obtain ⟨y, hy⟩ : ∃ y, left[j]? = some y := ⟨_, List.getElem?_eq_getElem hjl⟩
    obtain ⟨b, o, c', hv, d0, d1, d2⟩ := wn_at hr hy
    simp only [Value.slice.injEq] at hv
    obtain ⟨rfl, -, rfl⟩ := hv
    have Hy := Lib.hid hy; clear hy
    by_cases hlt : j < k
    · have hne := Hb.out j y hlt Hy.out
      have z1 : (y.job == x.job) = false := by rw [beq_eq_false_iff_ne]; exact hne
      have z2 : decide (y.job = x.job) = false := decide_eq_false hne
      clear hne
      go_wp2
      go_roundg (gk - 1)
      case measure => omega
      case rel => exact ⟨j + 1, by go_num, by omega, rfl⟩
    · obtain rfl : j = k := by omega
      obtain rfl : y = x := Option.some.inj (Hy.out.symm.trans Hx.out)
      go_wp2
      go_ret
      exact ⟨rfl, rfl⟩
end
end Go.Proofs.Ytebibcaahjmjfaa

/- Bytes made of a string, grown by strings and by bytes, and made a string again. -/
import Derived.Test.YtdekbbffoaphhaaGreatDoorAnBase
import Derived.Lib.AppendStr
import Derived.Lib.ConvBytes
import Derived.Laws.BytesArg
import Derived.Lib.Builder
import Derived.Maps.AppendAt
import Derived.Test.YtdekbbffoaphhaaGreatDoorAnPkF
set_option linter.unusedVariables false
set_option linter.unusedSimpArgs false
set_option maxRecDepth 100000
set_option maxHeartbeats 8000000
namespace Go.Proofs.HL
open Go.RowKit
/-- No cell of the row is frozen (a stretch behind its end may be). -/
def Loose (fz : Nat × Nat) (n : Nat) : Prop := n ≤ fz.1 ∨ fz.2 = 0
def OwnsL (w : World) (base : Nat) (e : TypeId) (v : Value) (xs : List Value) : Prop :=
 ∃ g cap cur fz, v = .slice (some ⟨g, 0, none⟩) xs.length cap ∧ base ≤ g ∧ w.heap[g]? = some (.cells cur e fz) ∧ Loose fz cur.size ∧ xs.length ≤ cap ∧ cap ≤ maxLen ∧ cur.size = cap ∧ cur.toList.take xs.length = xs
def rowL (base : Nat) (e : TypeId) (v : Value) (xs : List Value) : At where
 fp := v.ownBlock
 holds w := OwnsL w base e v xs
 lt := fun w b h1 h => by
  obtain ⟨g, cap, cur, fz, rfl, -, hg, -⟩ := h
  simp [Value.ownBlock] at h1
  subst h1
  exact (Array.getElem?_eq_some_iff.1 hg).1
 stable := fun w w' r hg hne h => by
  obtain ⟨g, cap, cur, fz, rfl, hb, hgg, rest⟩ := h
  refine ⟨g, cap, cur, fz, rfl, hb, ?_, rest⟩
  rw [hg.block g (Array.getElem?_eq_some_iff.1 hgg).1 (by simpa [Value.ownBlock] using hne)]
  exact hgg
theorem OwnsL.cells {w : World} {base g : Nat} {e : TypeId} {n c : Nat} {xs : List Value} (h : OwnsL w base e (.slice (some ⟨g, 0, none⟩) n c) xs) : ∀ j u, xs[j]? = some u → w.cell? ((⟨g, 0, none⟩ : Addr).add j) = some u := by
 intro j u hu
 obtain ⟨g', cap, cur, fz, hv, -, hgg, -, -, -, -, htake⟩ := h
 simp only [Value.slice.injEq, Option.some.injEq, Addr.mk.injEq] at hv
 obtain ⟨⟨rfl, -⟩, -, -⟩ := hv
 have hadd : (⟨g, 0, none⟩ : Addr).add j = ⟨g, j, none⟩ := by unfold Addr.add; split <;> simp_all
 rw [hadd, cell_of_row w g j cur e fz hgg]
 rw [← htake, List.getElem?_take] at hu
 split at hu
 ·simpa using hu
 ·cases hu
section
variable {P : Program} (w : World)
end
section
variable {P : Program} {ops : Array Oper} {rest : List Oper} {o : Oper} {a : Act} {Q : Exit → Act → World → Prop} {w0 w : World} {L : List At} {t u e : TypeId}
end
/-- Bytes, made a string. -/
theorem run_string_L {P : Program} {w : World} {base : Nat} {src e dst : TypeId} (hs : P.underlying src = some (.slice e)) (he : P.underlying e = some (.int .u8)) (hd : P.underlying dst = some .string) {v : Value} {l : List UInt8} (h : OwnsL w base e v (l.map fun b => .int .u8 (b.toNat : Int))) :
  (convert src dst v).run P w = .ok (.string ⟨l.toArray⟩) w := by
 have h' := h
 obtain ⟨g, cap, cur, fz, rfl, -⟩ := h
 have hc := OwnsL.cells h'
 have hr := run_convert_bytes_arg (P := P) w src e hs he g 0 (l.map fun b => Value.int .u8 (b.toNat : Int)).length cap (l.map fun b => (b.toNat : Int)) (by simp) (fun i hi => by
  rw [Nat.zero_add]
  have hi' : i < l.length := by simpa using hi
  have := hc i (.int .u8 ((l.map fun b => (b.toNat : Int)).getD i 0)) (by simp [List.getElem?_eq_getElem hi'])
  rwa [add_zero_block] at this) dst hd
 rw [hr]
 congr 2
 have : (strOfNums (l.map fun b => (b.toNat : Int))).data.toList = l := by
  rw [strOfNums_data, List.map_map]
  conv => rhs; rw [← List.map_id l]
  apply List.map_congr_left
  intro b _
  simp
 exact (by
  cases hq : strOfNums (l.map fun b => (b.toNat : Int)) with
  | mk d =>
   rw [hq] at this
   simp only at this
   rw [← this])
end Go.Proofs.HL
namespace Go.Proofs.An
theorem outT_take (ls : List ByteArray) (n : Nat) : (outT (ls.take n)).length ≤ (outT ls).length := by
 have : outT ls = outT (ls.take n) ++ outT (ls.drop n) := by rw [← outT_app, List.take_append_drop]
 rw [this, List.length_append]
 omega
end Go.Proofs.An
namespace Go.Proofs.HL
open Go.RowKit
theorem HL.oneStep {w0 w w' : World} {E : TypeId} {v v' : Value} {n m : Nat} {xs ys : List Value} (H : HL w0 w [row w0.heap.size E 1 v n xs]) (hg : w.grownBy w' v.ownBlock) (hA : w'.ownsRow w0.heap.size E 1 v' m ys) : HL w0 w' [row w0.heap.size E 1 v' m ys] :=
 ⟨H.below.grown hg H.below.size (fun b hb => H.base b hb), fun A hA' => by
  obtain rfl := List.mem_singleton.1 hA'
  exact ⟨hA, fun b hb => (hA.lt b hb).1⟩, List.pairwise_singleton _ _⟩
theorem ownsL_of {w : World} {base : Nat} {e : TypeId} {v : Value} {xs : List Value} (h : w.ownsRow base e 1 v xs.length xs) (hn : xs ≠ []) : OwnsL w base e v xs := by
 rcases h.2 with ⟨rfl, h0⟩ | ⟨g, cap, cur, rfl, hbg, hg, hnc, hcm, hcs, htake⟩
 ·exact absurd (List.eq_nil_of_length_eq_zero h0) hn
 ·exact ⟨g, cap, cur, (0, 0), rfl, hbg, hg, .inr rfl, hnc, hcm, by simpa using hcs, by simpa using htake⟩
end Go.Proofs.HL
namespace Go.Proofs.YtdekbbffoaphhaaGreatDoor
open Go.RowKit Go.Proofs.HL Go.Proofs.An
section
variable {w0 w : World} {L : List At}
theorem Ref.lines_ok (hD : Doors w0) (hFU : ∀ W, Doors W → FmtU W) (H : HL w0 w L) (k : Int) (a : Ans) (Ae As Ar : Option Addr) (ce cs cr : Nat) {ps : List (Ev × Value)} (hps : a.events = ps.map (·.1)) (hE : Evs w0 L (.slice Ae a.events.length ce) ps) (hI : Ints w0 L (.slice As a.job.set.length cs) a.job.set) (hR : Rks w0 L (.slice Ar a.ranks.length cr) a.ranks) (hok : AnsOk a) (hfw : ∀ e ∈ a.events, e.list.length ≤ 4294967200) (hfe : a.events.length ≤ 4194304) (hfr : a.ranks.length ≤ 4194304) (hfs : a.job.set.length ≤ 4194304) (hck : checkA k a = 0) :
  Calls Tryz.prog 23 #[.int .i64 k, ansV a (.slice Ae a.events.length ce) (.slice As a.job.set.length cs) (.slice Ar a.ranks.length cr)] w (LinesPost w0 L k a) := by
 by_cases hc : a.code = 0
 ·obtain ⟨hk1, hk2⟩ := check_kinds hck
  have hn := (no_both hck hc).2
  have : k = 1 ∨ (k = 2 ∨ k = 3 ∨ k = 4 ∨ k = 6 ∨ k = 7 ∨ k = 8) ∨ k = 5 ∨ k = 9 ∨ k = 10 ∨ k = 11 ∨ k = 12 ∨ k = 13 := by omega
  rcases this with h | h | h | h | h | h | h | h
  ·exact Ref.ln_1 hD hFU H k a Ae As Ar ce cs cr hps hE hI hR hok hfw hfe hfr hfs hc h (hn (by omega))
  ·exact Ref.ln_ok hD hFU H k a Ae As Ar ce cs cr hps hE hI hR hok hfw hfe hfr hfs hc h (hn (by omega))
  ·exact Ref.ln_5 hD hFU H k a Ae As Ar ce cs cr hps hE hI hR hok hfw hfe hfr hfs hc h (hn (by omega))
  ·exact Ref.ln_9 hD hFU H k a Ae As Ar ce cs cr hps hE hI hR hok hfw hfe hfr hfs hc h (hn (by omega))
  ·exact Ref.ln_10 hD hFU H k a Ae As Ar ce cs cr hps hE hI hR hok hfw hfe hfr hfs hc h
  ·exact Ref.ln_11 hD hFU H k a Ae As Ar ce cs cr hps hE hI hR hok hfw hfe hfr hfs hc h (hn (by omega))
  ·exact Ref.ln_12 hD hFU H k a Ae As Ar ce cs cr hps hE hI hR hok hfw hfe hfr hfs hc h (hn (by omega))
  ·exact Ref.ln_13 hD hFU H k a Ae As Ar ce cs cr hps hE hI hR hok hfw hfe hfr hfs hc h (hn (by omega))
 ·exact Ref.ln_err hD hFU H k a Ae As Ar ce cs cr hps hE hI hR hok hfw hfe hfr hfs hc
theorem sliceB : SliceOf Tryz.prog 53 5 1 1 := sliceOf (z := .int .u8 0) Tryz.underlying53 (by kernel_rfl) rfl (by decide)
abbrev u8R (l : List UInt8) : List Value := l.map fun b => .int .u8 (b.toNat : Int)
theorem Ref.print_ok (hD : Doors w0) (hFU : ∀ W, Doors W → FmtU W) (H : HL w0 w L) (k : Int) (a : Ans) (Ae As Ar : Option Addr) (ce cs cr : Nat) {ps : List (Ev × Value)} (hps : a.events = ps.map (·.1)) (hE : Evs w0 L (.slice Ae a.events.length ce) ps) (hI : Ints w0 L (.slice As a.job.set.length cs) a.job.set) (hR : Rks w0 L (.slice Ar a.ranks.length cr) a.ranks) (hok : AnsOk a) (hfw : ∀ e ∈ a.events, e.list.length ≤ 4294967200) (hfe : a.events.length ≤ 4194304) (hfr : a.ranks.length ≤ 4194304) (hfs : a.job.set.length ≤ 4194304) (hsz : (printT k a).length ≤ 1000000000) :
  Calls Tryz.prog 9 #[.int .i64 k, ansV a (.slice Ae a.events.length ce) (.slice As a.job.set.length cs) (.slice Ar a.ranks.length cr)] w fun r w' => r = .returned (.tuple #[.string (printS k a), .int .i64 (checkA k a)]) ∧ HL w0 w' L := by
 have H1 := HL.allocA H a (.slice Ae a.events.length ce) (.slice As a.job.set.length cs) (.slice Ar a.ranks.length cr)
 have hck : Calls Tryz.prog 11 #[.int .i64 k, .agg (ansA a (.slice Ae a.events.length ce) (.slice As a.job.set.length cs) (.slice Ar a.ranks.length cr))] _ _ := Ref.check_ok hD H1 k a Ae As Ar ce cs cr hps (hE.cons _) (hI.cons _) (hR.cons _) hok hfw
 have G1 : _ = some (Obj.cells (ansA a (.slice Ae a.events.length ce) (.slice As a.job.set.length cs) (.slice Ar a.ranks.length cr)) 32 (0, 0)) := H1.head
 have hli := fun W (HW : HL w0 W (boxA w.heap.size a (.slice Ae a.events.length ce) (.slice As a.job.set.length cs) (.slice Ar a.ranks.length cr) :: L)) h => Ref.lines_ok hD hFU HW k a Ae As Ar ce cs cr hps (hE.cons _) (hI.cons _) (hR.cons _) hok hfw hfe hfr hfs h
 unfold ansV
 generalize hb1 : w.heap.size = b1 at *
 clear H hps hE hI hR
 by_cases hc0 : checkA k a = 0
 ·have hs0 : printS k a = ⟨(printT k a).toArray⟩ := by unfold printS; rw [if_pos hc0]
  have hli := fun W HW => hli W HW hc0
  have hol := outT_lines hc0
  rw [hs0, hc0, ← hol]
  rw [hc0] at hck
  rw [← hol] at hsz
  clear hs0 hc0 hol
  unfold LinesPost at hli
  have hne : outT (linesR k a) ≠ [] := by unfold linesR; split <;> simp [outT]
  have hll : (linesR k a).length ≤ 8388609 := by
   unfold linesR
   split
   ·rw [List.length_append, List.length_cons, List.length_map, List.length_map]; omega
   ·simp
  generalize linesR k a = ls at *
  have HNE := Lib.hid hne; have HSZ := Lib.hid hsz
  clear hne hsz hok hfw hfe hfr hfs
  go_enter Tryz.func9, Tryz.ntmps9
  go_upto_region 5 with (first
   | (have g1 := G1; refine wpList_load_row rfl 32 _ rfl b1 rfl 32 _ (0, 0) _ g1 Tryz.underlying32 rfl (ansA_size _ _ _ _) ?_; clear g1 G1)
   | (go_at_call 11; (with_reducible refine hck.mono ?_); rintro r w3 ⟨rfl, H3⟩; clear hck H1))
  have G1 : _ = some (Obj.cells (ansA a (.slice Ae a.events.length ce) (.slice As a.job.set.length cs) (.slice Ar a.ranks.length cr)) 32 (0, 0)) := H3.head
  have hli : Calls Tryz.prog 23 #[.int .i64 k, .agg (ansA a (.slice Ae a.events.length ce) (.slice As a.job.set.length cs) (.slice Ar a.ranks.length cr))] _ _ := hli _ H3
  go_upto_block 0 with (first
   | (have g1 := G1; refine wpList_load_row rfl 32 _ rfl b1 rfl 32 _ (0, 0) _ g1 Tryz.underlying32 rfl (ansA_size _ _ _ _) ?_; clear g1 G1)
   | (go_at_call 23; (with_reducible refine hli.mono ?_); rintro r w5 ⟨v5, rfl, H5⟩; clear hli H3; obtain ⟨A5, c5, rfl, hc1, hc2⟩ := rd_shape (entRow _ H5); unfold maxLen at hc2))
  have hkeep : ∀ W K, HL w5 W K → HL w0 W (strs w0.heap.size (.slice A5 ls.length c5) ls :: boxA b1 a (.slice Ae a.events.length ce) (.slice As a.job.set.length cs) (.slice Ar a.ranks.length cr) :: L) := fun W K HK => HL.ofBelow H5 HK.below
  have H6 : HL w5 w5 [row w5.heap.size 5 1 (.slice none 0 0) 0 (u8R [])] := (HL.start w5).nilRow w5.heap.size 5 1
  obtain ⟨i0, hi, hi2⟩ : ∃ i, Tryz.prog.info? 5 = some i ∧ (i.zero, i.size, i.bytes) = (some (.int .u8 0), 1, 1) := Option.map_eq_some_iff.1 (show (Tryz.prog.info? 5).map (fun i => (i.zero, i.size, i.bytes)) = some (some (.int .u8 0), 1, 1) by kernel_rfl)
  simp only [Prod.mk.injEq] at hi2
  obtain ⟨hz0, hz1, hz2⟩ := hi2
  have HI := Lib.hid hi; have HZ0 := Lib.hid hz0; have HZ1 := Lib.hid hz1; have HZ2 := Lib.hid hz2; have HKEEP := Lib.hid hkeep
  clear hi hz0 hz1 hz2 hkeep
  go_wp2
  go_loopg [7, 20] ls.length (fun g t7 i wr => ∃ (n : Nat) (v : Value), i = .int .i64 n ∧ n + g = ls.length ∧ t7 = v ∧ HL w5 wr [row w5.heap.size 5 1 v (outT (ls.take n)).length (u8R (outT (ls.take n)))])
  case atStart => exact ⟨0, _, rfl, by omega, rfl, by rw [List.take_zero]; exact H6⟩
  case round =>
   obtain ⟨n, v, rfl, hn, rfl, HK⟩ := hrel
   clear H6
   by_cases hlt : n < ls.length
   ·obtain ⟨s, hs⟩ : ∃ s, ls[n]? = some s := ⟨_, List.getElem?_eq_getElem hlt⟩
    obtain ⟨b', o', c', hv, d0⟩ := str_at (entRow _ (HKEEP.out _ _ HK)) hs
    simp only [Value.slice.injEq] at hv
    obtain ⟨rfl, -, rfl⟩ := hv
    have hsn : outT (ls.take (n + 1)) = outT (ls.take n) ++ s.data.toList ++ [10] := by
     rw [List.take_add_one, hs]
     simp only [Option.toList_some]
     rw [outT_app]
     simp [outT]
    have hle := outT_take ls (n + 1)
    have hlen := congrArg List.length hsn
    have hss : s.data.toList.length = s.size := by rw [Array.length_toList]; rfl
    simp only [List.length_append, List.length_cons, List.length_nil, hss] at hlen
    have hb9 := HSZ.out
    have hbd : (outT (ls.take n)).length + s.size + 1 ≤ 1000000000 := by omega
    have hst : Lib.strCells s = u8R s.data.toList := by simp [Lib.strCells]
    have HSN := Lib.hid hsn; have HS := Lib.hid hs; have HST := Lib.hid hst; have HSS := Lib.hid hss
    clear hsn hs hle hlen hb9 hst hss
    generalize outT (ls.take n) = T at *
    obtain ⟨A7, c7, rfl, hc3, hc4⟩ := rd_shape (rd_row HK.head)
    unfold maxLen at hc4
    go_wp2_with (first
     | (at_builtin; refine Lib.wpList_append_own_string _ rfl _ _ 53 9 rfl w5.heap.size 5 i0 Tryz.underlying53 Tryz.underlying9 HI.out HZ0.out HZ1.out HZ2.out _ _ _ rfl HK.head s rfl (by unfold maxLen; omega) (by omega) HK.size ?_; intro v8 w8 h8 g8 _; have H8 := HL.oneStep HK g8 h8; clear h8 g8 HK; have H9 := H8.alloc' (.cells #[.int .u8 10] 5); have hr9 : Rd 1 (.slice (some ⟨w8.heap.size, 0, none⟩) 1 1) 1 [.int .u8 10] (w8.alloc (.cells #[.int .u8 10] 5)) := rd_one rfl)
     | (at_builtin; refine wpList_append_hl sliceB rfl _ _ rfl (news := [.int .u8 10]) H9 rfl rfl hr9 (by simp [Value.oneCell']) (by unfold maxLen; omega) (by omega) ?_; intro v10 w10 H10 _; clear H9 hr9 H8))
    go_roundg (gk - 1)
    case measure => omega
    case rel =>
     refine ⟨n + 1, _, by go_num, by omega, rfl, ?_⟩
     rw [HSN.out]
     have e1 : u8R (T ++ s.data.toList ++ [10]) = u8R T ++ Lib.strCells s ++ [.int .u8 10] := by rw [HST.out]; simp
     have e2 : (T ++ s.data.toList ++ [10]).length = T.length + s.size + 1 := by rw [List.length_append, List.length_append, HSS.out]; rfl
     rw [e1, e2]
     exact H10
   ·rw [List.take_of_length_le (by omega)] at HK
    have hown := ownsL_of (xs := u8R (outT ls)) (by have := HK.head; rw [show (outT ls).length = (u8R (outT ls)).length by simp] at this; exact this) (by simpa using HNE.out)
    have hcv2 := run_string_L (P := Tryz.prog) (src := 53) (e := 5) (dst := 9) Tryz.underlying53 Tryz.underlying5 Tryz.underlying9 hown
    have HF := HKEEP.out _ _ HK
    clear hown HK
    go_wp2
    go_ret2
    exact ⟨rfl, HF.tail.tail⟩
 ·have hs : printS k a = ⟨#[]⟩ := by unfold printS; rw [if_neg hc0]
  have HS := Lib.hid hs
  have hq : (checkA k a != 0) = true := by simp [hc0]
  generalize checkA k a = cc at *
  clear hs hc0 hok hfw hfe hfr hfs hli hsz
  go_enter Tryz.func9, Tryz.ntmps9
  go_wp2_with (first
   | (have g1 := G1; refine wpList_load_row rfl 32 _ rfl b1 rfl 32 _ (0, 0) _ g1 Tryz.underlying32 rfl (ansA_size _ _ _ _) ?_; clear g1 G1)
   | (go_at_call 11; (with_reducible refine hck.mono ?_); rintro r w3 ⟨rfl, H3⟩; clear hck))
  go_ret2
  exact ⟨ret2P HS.out rfl, H3.tail⟩
end
end Go.Proofs.YtdekbbffoaphhaaGreatDoor

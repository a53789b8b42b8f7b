/- The law's filled: an agenda of acts. -/
import Derived.Test.YthibbjllfmhdmaaAgSmall
import Derived.Test.YthibbjllfmhdmaaRead
set_option linter.unusedVariables false
set_option linter.unusedSimpArgs false
namespace Go.Proofs.Ythibbjllfmhdmaa
open Go.RowKit Go.Proofs.HL

structure ActD where
  kind : Int
  which : Int
  id : Int
  at_ : Int
  x : Int
def encAct (a : ActD) : List Value := [.int .i64 a.kind, .int .i64 a.which, .int .i64 a.id, .int .i64 a.at_, .int .i64 a.x]
abbrev Ent1 := AgE Int
def addE (M : List Ent1) (id at_ x : Int) : List Ent1 := if (findE M id).isSome then M else M ++ [⟨id, at_, x⟩]
def fillM (l : List ActD) : List Ent1 := l.foldl (fun M a => addE M a.id a.at_ a.x) []
theorem addE_length (M : List Ent1) (id at_ x : Int) : (addE M id at_ x).length ≤ M.length + 1 := by
  unfold addE
  split <;> simp
theorem fillM_snoc (l : List ActD) (a : ActD) : fillM (l ++ [a]) = addE (fillM l) a.id a.at_ a.x := by
  unfold fillM
  rw [List.foldl_append]
  rfl
theorem foldl_length (l : List ActD) : ∀ M : List Ent1, (l.foldl (fun M a => addE M a.id a.at_ a.x) M).length ≤ M.length + l.length := by
  induction l with
  | nil => simp
  | cons a l ih =>
    intro M
    rw [List.foldl_cons]
    have h1 := ih (addE M a.id a.at_ a.x)
    have h2 := addE_length M a.id a.at_ a.x
    simp only [List.length_cons]
    omega
theorem fillM_length (l : List ActD) : (fillM l).length ≤ l.length := by
  have := foldl_length l []
  simpa [fillM] using this

/-- Acts that came in as a list. -/
def Acts (w0 : World) (v : Value) (l : List ActD) : Prop := Rd 5 v l.length (l.flatMap encAct) w0
theorem acts_at {w0 w : World} {L : List At} (H : HL w0 w L) {v : Value} {l : List ActD} (h : Acts w0 v l) (k : Nat) (x : ActD) (hx : l[k]? = some x) :
    ∃ b o c, v = .slice (some ⟨b, o, none⟩) l.length c ∧ w.cell? ⟨b, o + k * 5, none⟩ = some (.int .i64 x.kind) ∧ w.cell? ⟨b, o + k * 5 + 1, none⟩ = some (.int .i64 x.which) ∧ w.cell? ⟨b, o + k * 5 + 2, none⟩ = some (.int .i64 x.id) ∧
      w.cell? ⟨b, o + k * 5 + 3, none⟩ = some (.int .i64 x.at_) ∧ w.cell? ⟨b, o + k * 5 + 4, none⟩ = some (.int .i64 x.x) := by
  obtain ⟨b, o, c, h1, -, -, h2⟩ := rd_elem encAct 5 (fun _ => rfl) (by decide) (rd_old H h) hx
  exact ⟨b, o, c, h1, h2 0 _ rfl, h2 1 _ rfl, h2 2 _ rfl, h2 3 _ rfl, h2 4 _ rfl⟩

set_option maxRecDepth 100000 in
set_option maxHeartbeats 800000 in
theorem filled_ok {w0 w : World} {L : List At} (H : HL w0 w L) {v : Value} {l : List ActD} (hl : Acts w0 v l) :
    Calls Try.prog 9 #[v] w fun e w' => ∃ bp mb, e = .returned (.pointer (some ⟨bp, 0, none⟩)) ∧ HL w0 w' (blk bp (AgInt.obj mb) :: mp mb (kv AgInt.enc (fillM l)) :: L) := by
  obtain ⟨h1, h2, a, c, rfl, h4, h5, h6, -⟩ := id hl
  unfold maxLen at h2
  go_enter Try.func9, Try.ntmps9
  go_wp2_with (go_at_call 15; refine (AgInt.new_ok H).mono ?_; rintro e w1 ⟨bp, mb, rfl, H1⟩; go_frame)
  go_loopg [9] l.length (fun g i wr => ∃ k : Nat, i = .int .i64 k ∧ k + g = l.length ∧ HL w0 wr (blk bp (AgInt.obj mb) :: mp mb (kv AgInt.enc (fillM (l.take k))) :: L))
  case atStart => exact ⟨0, rfl, by omega, H1⟩
  case round =>
    obtain ⟨k, rfl, hk, HK⟩ := hrel
    by_cases hlt : k < l.length
    · obtain ⟨x, hx⟩ : ∃ x, l[k]? = some x := ⟨_, List.getElem?_eq_getElem hlt⟩
      obtain ⟨b, o, c', hv, d0, d1, d2, d3, d4⟩ := acts_at HK hl k x hx
      simp only [Value.slice.injEq] at hv
      obtain ⟨rfl, -, rfl⟩ := hv
      have htk : l.take (k + 1) = l.take k ++ [x] := by rw [List.take_add_one, hx]; rfl
      have hf := Lib.hid (fillM_snoc (l.take k) x)
      rw [← htk] at hf
      clear hx htk
      go_wp2_with (go_at_call 17; refine (AgInt.add_ok (HK.alloc' _) x.id x.at_ x.x).mono ?_; rintro e w2 ⟨he, H2⟩; obtain ⟨er, rfl⟩ : ∃ n, e = .returned (.int .i64 n) := ⟨_, he⟩; clear he; replace H2 : HL w0 w2 (blk bp (AgInt.obj mb) :: mp mb (kv AgInt.enc (addE (fillM (l.take k)) x.id x.at_ x.x)) :: L) := H2; go_frame)
      go_roundg (gk - 1)
      case measure => omega
      case rel =>
        refine ⟨k + 1, by go_num, by omega, ?_⟩
        rw [hf.out]
        exact H2
    · have hkn : l.take k = l := List.take_of_length_le (by omega)
      have Hk := Lib.hid hkn
      go_wp2
      go_ret
      rw [Hk.out] at HK
      exact ⟨_, _, rfl, HK⟩
end Go.Proofs.Ythibbjllfmhdmaa

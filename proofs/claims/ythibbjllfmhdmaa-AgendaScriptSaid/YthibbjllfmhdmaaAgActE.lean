/- The law's act, whatever its kind. -/
import Derived.Test.YthibbjllfmhdmaaAgActD
set_option linter.unusedVariables false
namespace Go.Proofs.Ythibbjllfmhdmaa
open Go.RowKit Go.Proofs.HL AgInt
open Ref (Th ltT cut)

theorem act_ok {w0 w : World} {L : List At} {ap ma p : Nat} {v : Value} {M : List Ent1} {l : List Th} (H : HL w0 w (pair ap ma p v M l ++ L)) (hR : Rel M l) (hl : l.length ≤ 4398046511104) (a : ActD) :
    Calls Try.prog 22 #[.agg #[.int .i64 a.kind, .int .i64 a.which, .int .i64 a.id, .int .i64 a.at_, .int .i64 a.x], .pointer (some ⟨ap, 0, none⟩), .pointer (some ⟨p, 0, none⟩)] w fun e w' => ActPost w0 ap ma p l.length L e w' := by
  have h := among_lt a.kind 6 (by omega) (by omega)
  have h6 : amongI a.kind 6 = 0 ∨ amongI a.kind 6 = 1 ∨ amongI a.kind 6 = 2 ∨ amongI a.kind 6 = 3 ∨ amongI a.kind 6 = 4 ∨ amongI a.kind 6 = 5 := by omega
  rcases h6 with h | h | h | h | h | h
  · exact act_add H hR hl _ _ _ _ _ h
  · exact act_get H hR hl _ _ _ _ _ h
  · exact act_drop H hR hl _ _ _ _ _ h
  · exact act_due H hR hl _ _ _ _ _ h
  · exact act_clone H hR _ _ _ _ _ h
  · exact act_all H hR hl _ _ _ _ _ h
end Go.Proofs.Ythibbjllfmhdmaa

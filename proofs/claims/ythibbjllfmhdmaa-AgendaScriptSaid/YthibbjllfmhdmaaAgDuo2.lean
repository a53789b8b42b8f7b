/- Several agendas, each beside the reference's: one taken out, put back, one more. -/
import Derived.Test.YthibbjllfmhdmaaAgDuo
set_option linter.unusedVariables false
namespace Go.Proofs.Ythibbjllfmhdmaa
open Go.RowKit Go.Proofs.HL AgInt
open Ref (Th ltT cut)

section
variable {w0 w : World} {X : List At} {Qs : List Duo} {j : Nat} {d d' : Duo}
theorem perm_over {A B C : List At} : (A ++ (B ++ C)).Perm (B ++ (A ++ C)) := by
  rw [← List.append_assoc, ← List.append_assoc]
  exact List.perm_append_comm.append_right C
theorem take_duo (H : HL w0 w (X ++ Qs.flatMap Duo.ats)) (hd : Qs[j]? = some d) : HL w0 w (d.ats ++ (X ++ (Qs.eraseIdx j).flatMap Duo.ats)) :=
  H.perm (((duo_take Qs j d hd).append_left X).trans perm_over)
theorem put_duo (H : HL w0 w (d'.ats ++ (X ++ (Qs.eraseIdx j).flatMap Duo.ats))) (hd : Qs[j]? = some d) : HL w0 w (X ++ (Qs.set j d').flatMap Duo.ats) :=
  H.perm (perm_over.trans ((duo_set Qs j d d' hd).symm.append_left X))
theorem back_duo (H : HL w0 w (d.ats ++ (X ++ (Qs.eraseIdx j).flatMap Duo.ats))) (hd : Qs[j]? = some d) : HL w0 w (X ++ Qs.flatMap Duo.ats) :=
  H.perm (perm_over.trans ((duo_take Qs j d hd).symm.append_left X))
theorem more_duo (H : HL w0 w (d'.ats ++ (X ++ Qs.flatMap Duo.ats))) : HL w0 w (X ++ (Qs ++ [d']).flatMap Duo.ats) := by
  refine H.perm (perm_over.trans (List.Perm.append_left X ?_))
  rw [List.flatMap_append, List.flatMap_cons, List.flatMap_nil, List.append_nil]
  exact List.perm_append_comm
end
end Go.Proofs.Ythibbjllfmhdmaa

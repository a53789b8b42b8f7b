/- Several agendas, each beside the reference's. -/
import Derived.Test.YthibbjllfmhdmaaAgActE
set_option linter.unusedVariables false
namespace Go.Proofs.Ythibbjllfmhdmaa
open Go.RowKit Go.Proofs.HL AgInt
open Ref (Th ltT cut)

structure Duo where
  ap : Nat
  ma : Nat
  p : Nat
  v : Value
  M : List Ent1
  l : List Th
def Duo.ats (d : Duo) : List At := pair d.ap d.ma d.p d.v d.M d.l
def Duo.ptrA (d : Duo) : Value := .pointer (some ⟨d.ap, 0, none⟩)
def Duo.ptrB (d : Duo) : Value := .pointer (some ⟨d.p, 0, none⟩)
theorem duo_take : ∀ (Qs : List Duo) (k : Nat) (d : Duo), Qs[k]? = some d → (Qs.flatMap Duo.ats).Perm (d.ats ++ (Qs.eraseIdx k).flatMap Duo.ats)
  | [], k, d, h => by simp at h
  | q :: Qs, 0, d, h => by
    simp only [List.getElem?_cons_zero, Option.some.injEq] at h
    subst h
    exact List.Perm.refl _
  | q :: Qs, k + 1, d, h => by
    simp only [List.getElem?_cons_succ] at h
    have ih := duo_take Qs k d h
    rw [List.flatMap_cons, List.eraseIdx_cons_succ, List.flatMap_cons]
    refine (ih.append_left q.ats).trans ?_
    rw [← List.append_assoc, ← List.append_assoc]
    exact List.perm_append_comm.append_right _
theorem duo_set (Qs : List Duo) (k : Nat) (d d' : Duo) (h : Qs[k]? = some d) : ((Qs.set k d').flatMap Duo.ats).Perm (d'.ats ++ (Qs.eraseIdx k).flatMap Duo.ats) := by
  have hk := (List.getElem?_eq_some_iff.1 h).1
  have := duo_take (Qs.set k d') k d' (by rw [List.getElem?_set_self hk])
  rwa [List.eraseIdx_set_eq] at this
end Go.Proofs.Ythibbjllfmhdmaa

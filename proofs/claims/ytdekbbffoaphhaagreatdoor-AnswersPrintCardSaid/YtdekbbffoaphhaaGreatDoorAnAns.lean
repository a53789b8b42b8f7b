/- Answers as plain data: which may be, and the text of each. -/
import Derived.Test.YtdekbbffoaphhaaGreatDoorAnCore
import Derived.Lib.Itoa
set_option linter.unusedVariables false
namespace Go.Proofs.An
structure Jb where
 acc : Int
 nodes : Int
 lim : Int
 sub : Int
 st : Int
 start : Int
 fin : Int
 set : List Int
deriving DecidableEq
structure Cf where
 c0 : Int
 c1 : Int
 c2 : Int
 c3 : Int
 c4 : Int
 c5 : Int
 c6 : Int
 c7 : Int
deriving DecidableEq
structure Rk where
 job : Int
 prio : Int
deriving DecidableEq
structure Ans where
 code : Int
 id : Int
 events : List Ev
 job : Jb
 ranks : List Rk
 raw : Int
 usage : Int
 factor : Int
 free : Int
 holder : Int
 shadow : Int
 cfg : Cf
 bound : Int
deriving DecidableEq
def zJ : Jb := ⟨0, 0, 0, 0, 0, 0, 0, []⟩
def zC : Cf := ⟨0, 0, 0, 0, 0, 0, 0, 0⟩
def zA : Ans := ⟨0, 0, [], zJ, [], 0, 0, 0, 0, 0, 0, zC, 0⟩
def bareJ (j : Jb) : Bool := j.acc == 0 && j.nodes == 0 && j.lim == 0 && j.sub == 0 && j.st == 0 && j.start == 0 && j.fin == 0 && j.set.length == 0
def blankB (a : Ans) : Bool := a.id == 0 && a.events.length == 0 && bareJ a.job && a.ranks.length == 0 && a.raw == 0 && a.usage == 0 && a.factor == 0 && a.free == 0 && a.holder == 0 && a.shadow == 0 && decide (a.cfg = zC) && a.bound == 0
def hasB (k : Int) : Bool := k == 1 || k == 2 || k == 3 || k == 4
/-- An answer without the fields that a kind has, but for the events. -/
def restK (k : Int) (a : Ans) : Ans :=
 if k = 1 ∨ k = 5 then { a with id := 0 } else if k = 9 then { a with job := zJ } else if k = 10 then { a with ranks := [], holder := 0, shadow := 0 } else if k = 11 then { a with raw := 0, usage := 0, factor := 0 }
 else if k = 12 then { a with free := 0 } else if k = 13 then { a with cfg := zC, bound := 0 } else a
def restA (k : Int) (a : Ans) : Ans := if hasB k then { restK k a with events := [] } else restK k a
def rkB (r : Rk) : Bool := sgn [r.job, r.prio]
def okA (k : Int) (a : Ans) : Bool :=
 blankB (restA k a) && sgn [a.id, a.raw, a.free, a.shadow, a.bound] && sgn [a.cfg.c0, a.cfg.c1, a.cfg.c2, a.cfg.c3, a.cfg.c4, a.cfg.c5, a.cfg.c6, a.cfg.c7] && decide (-1 ≤ a.holder) &&
  (if k = 9 then sgn [a.job.acc, a.job.nodes, a.job.lim, a.job.sub, a.job.start, a.job.fin] && decide (stW a.job.st ≠ ⟨#[]⟩) && ris a.job.set else true) && a.ranks.all rkB && a.events.all right
def checkA (k : Int) (a : Ans) : Int :=
 if k < 1 ∨ 13 < k then 90 else if a.code ≠ 0 then (if 1 ≤ a.code ∧ a.code ≤ 999 ∧ blankB a = true then 0 else 90) else if okA k a then 0 else 90
end Go.Proofs.An

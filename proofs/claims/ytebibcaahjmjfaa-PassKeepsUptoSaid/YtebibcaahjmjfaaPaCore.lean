/- A pass as plain lists: who may be started, who is started, who holds. -/
import Derived.Test.YtebibcaahjmjfaaPrCore
import Derived.Test.YtebibcaahjmjfaaMap
set_option linter.unusedVariables false
namespace Go.Proofs.HL.Pa
open Go.Proofs.HL.Pr

/-- A want: its job, its nodes, its limit. -/
structure Wn where
  job : Int
  nodes : Int
  limit : Int
deriving DecidableEq
def encW (x : Wn) : List Value := [.int .i64 x.job, .int .i64 x.nodes, .int .i64 x.limit]

/-- A pass at work. -/
structure RS where
  now : Int
  free : Int
  runs : List Rn
  starts : List Int
  holder : Int
  shadow : Int
  extra : Int
def startP (s : RS) (x : Wn) : RS := { s with starts := s.starts ++ [x.job], free := s.free - x.nodes, runs := s.runs ++ [⟨x.nodes, s.now + x.limit⟩] }

def sumAll (free : Int) (l : List Rn) : Int := free + sumN l
def okRun (now : Int) (r : Rn) : Bool := decide (1 ≤ r.nodes) && decide (r.nodes ≤ 256) && decide (now < r.fin) && decide (r.fin ≤ 4398046511104)
def okWant (all : Int) (x : Wn) : Bool := decide (0 ≤ x.job) && decide (1 ≤ x.nodes) && decide (x.nodes ≤ 256) && decide (x.nodes ≤ all) && decide (1 ≤ x.limit) && decide (x.limit ≤ 1048576)
/-- Whether the numbers of a pass may be. -/
def mayB (now free : Int) (ws : List Wn) (holder : Int) (l : List Rn) : Bool :=
  decide (0 ≤ now) && decide (now ≤ 2199023255552) && decide (0 ≤ free) && decide (free ≤ 256) && l.all (okRun now) && ws.all (okWant (sumAll free l)) && decide (ws.map (·.job)).Nodup && (decide (holder = -1) || decide (holder ∈ ws.map (·.job)))

/-- The holder's turn. -/
def holdStep (holder : Int) (p : RS × Int) (x : Wn) : RS × Int :=
  if x.job ≠ holder then p else if x.nodes ≤ p.1.free then ({ startP p.1 x with holder := -1 }, x.nodes) else (p.1, x.nodes)
/-- Those in their rank. -/
def rankedP (s : RS) : List Wn → RS × Int
  | [] => (s, 0)
  | x :: l => if x.job ∈ s.starts then rankedP s l else if x.nodes ≤ s.free then rankedP (startP s x) l else ({ s with holder := x.job }, x.nodes)
def fillStep (s : RS) (x : Wn) : RS :=
  if x.job ∈ s.starts ∨ x.job = s.holder ∨ s.free < x.nodes then s
  else if s.now + x.limit ≤ s.shadow then startP s x
  else if x.nodes ≤ s.extra then startP { s with extra := s.extra - x.nodes } x
  else s
/-- What has been started, as the map has it. -/
def kvS (S : List Int) : List (Int × Value) := S.map fun j => (j, .int .i64 1)
theorem kvS_lookup (S : List Int) (j : Int) : (kvS S).lookup j = if j ∈ S then some (.int .i64 1) else none := by
  induction S with
  | nil => simp [kvS]
  | cons x S ih =>
    unfold kvS at *
    rw [List.map_cons, List.lookup_cons]
    by_cases h : j = x
    · subst h; simp
    · have h1 : (j == x) = false := by simp [h]
      simp only [h1, ih, List.mem_cons, h, false_or]
theorem kvS_put {S : List Int} {j : Int} (h : j ∉ S) : putKV (kvS S) j (.int .i64 1) = kvS (S ++ [j]) := by
  unfold putKV
  rw [kvS_lookup, if_neg h]
  simp [kvS]
end Go.Proofs.HL.Pa

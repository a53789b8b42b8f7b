/- A line as a command. -/
import Derived.Test.YtdekbbffoaphhaaDoorVeRead
import Derived.Lib.SplitLaws
set_option linter.unusedVariables false
namespace Go.Proofs.Ve
/-- Fields that are read of words. -/
def readAll : Cm → List Nat → List ByteArray → Option Cm
  | o, [], _ => some o
  | o, f :: fs, [] => none
  | o, f :: fs, s :: r => match readF o f s with | none => none | some p => readAll p fs r
def blankS : ByteArray := ⟨#[32]⟩
def wordsOf (line : ByteArray) : List ByteArray := Lib.splitB blankS 0 (Lib.countB line blankS) line
/-- Words as a command, and the error. -/
def parseW (W : List ByteArray) : Cm × Int :=
  match verbL.find? (fun v => decide (v.word = W.headD ⟨#[]⟩)) with
  | none => (zeroC 0, 81)
  | some V => if W.length = V.fs.length + 1 then (match readAll (zeroC V.kind) V.fs W.tail with | none => (zeroC 0, 83) | some c => (c, 0)) else (zeroC 0, 82)
/-- A line as a command, and the error. -/
def parseR (line : ByteArray) : Cm × Int := if 256 < line.size then (zeroC 0, 80) else parseW (wordsOf line)
theorem words_length (line : ByteArray) : (wordsOf line).length = Lib.countB line blankS + 1 := Lib.splitB_all blankS (by decide) 0 _ _ rfl
end Go.Proofs.Ve

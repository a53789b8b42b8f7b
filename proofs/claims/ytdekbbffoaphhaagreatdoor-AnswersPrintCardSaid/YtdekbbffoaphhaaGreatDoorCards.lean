/-
  DERIVED. GIVEN WITH THE SEED: THE CARDS: each row of YtdekbbffoaphhaaGreatDoorRows.lean that lists a variable, with what it lists TIED to the program's text (the seventh form; the later family's looks); each row that meets fmt, with fmt's text TOLD by the authors' own Lean function (tested against real Go, not proved from fmt's source: count such statements apart). THE CARD IS WHAT COUNTS. Prove the row's statement (the work); the ties are given (YtdekbbffoaphhaaGreatDoorTie.lean); close each card by the builder's one call (the guide's Derived/Test/ToyasCard.lean, 'card_holds'). Laid BY PROGRAM, IN A SANDBOX (cutbox-door.mjs). By AI agents, Wed Nov 11 2026. No macro, syntax, notation, axiom, sorry.
-/
import Derived.Test.YtdekbbffoaphhaaGreatDoorRows
import GoSem.ClaimSeven
namespace Go.Proofs.YtdekbbffoaphhaaGreatDoor
namespace Rows

/-- THE TIED CARD OF 'backfilllaw09.AnswersPrint'. -/
def answersPrintCard : Claim7 := { stood := { row := answersPrintRow, standIns := [], harness := (true, "93d9842223202b2ecbc2704f7890f98c4aae8a2ffc63561fa98d2c2a31af1362"), looks := true }, kinds := [], alts := [], laidByText := true, laidKinds := [.data, .data, .data, .data, .sentinel, .sentinel, .pinned], laidTests := true, laidLooks := .later }
def AnswersPrintCardSaid : Prop := Claim7.holds Tryz.pinned (.plain (OpenSpec.ofChange answersPrintSpec)) answersPrintCard

/-- THE TIED CARD OF 'backfilllaw09.AnswersParse'. -/
def answersParseCard : Claim7 := { stood := { row := answersParseRow, standIns := [], harness := (true, "93d9842223202b2ecbc2704f7890f98c4aae8a2ffc63561fa98d2c2a31af1362"), looks := true }, kinds := [], alts := [], laidByText := true, laidKinds := [.data, .data, .data, .data, .sentinel, .sentinel, .pinned], laidTests := true, laidLooks := .later }
def AnswersParseCardSaid : Prop := Claim7.holds Tryz.pinned (.plain (OpenSpec.ofChange answersParseSpec)) answersParseCard

/-- THE SECOND FORM's CARD OF 'backfilllaw09.AnswersPrint'. -/
def answersPrintUptoCard : Claim7 := { stood := { row := answersPrintUptoRow, standIns := [], harness := (true, "93d9842223202b2ecbc2704f7890f98c4aae8a2ffc63561fa98d2c2a31af1362"), looks := true }, kinds := [], alts := [], laidByText := true, laidKinds := [.data, .data, .data, .data, .sentinel, .sentinel, .pinned], laidTests := true, laidLooks := .later }
def AnswersPrintUptoCardSaid : Prop := Claim7.holds Tryz.pinned (.plain (OpenSpec.upto answersPrintSpec)) answersPrintUptoCard

/-- THE SECOND FORM's CARD OF 'backfilllaw09.AnswersParse'. -/
def answersParseUptoCard : Claim7 := { stood := { row := answersParseUptoRow, standIns := [], harness := (true, "93d9842223202b2ecbc2704f7890f98c4aae8a2ffc63561fa98d2c2a31af1362"), looks := true }, kinds := [], alts := [], laidByText := true, laidKinds := [.data, .data, .data, .data, .sentinel, .sentinel, .pinned], laidTests := true, laidLooks := .later }
def AnswersParseUptoCardSaid : Prop := Claim7.holds Tryz.pinned (.plain (OpenSpec.upto answersParseSpec)) answersParseUptoCard
end Rows
end Go.Proofs.YtdekbbffoaphhaaGreatDoor

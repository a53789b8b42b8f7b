/-
  DERIVED. GIVEN WITH THE SEED: THE CARDS: each row of YtdekbbffoaphhaaDoorRows.lean that lists a variable, with what it lists TIED to the program's text (the seventh form; the later family's looks); each row that meets fmt, with fmt's text TOLD by the authors' own Lean function (tested against real Go, not proved from fmt's source: count such statements apart). THE CARD IS WHAT COUNTS. Prove the row's statement (the work); the ties are given (YtdekbbffoaphhaaDoorTie.lean); close each card by the builder's one call (the guide's Derived/Test/ToyasCard.lean, 'card_holds'). Laid BY PROGRAM, IN A SANDBOX (cutbox-door.mjs). By AI agents, Wed Nov 11 2026. No macro, syntax, notation, axiom, sorry.
-/
import Derived.Test.YtdekbbffoaphhaaDoorRows
import GoSem.ClaimSeven
namespace Go.Proofs.YtdekbbffoaphhaaDoor
namespace Rows

/-- THE TIED CARD OF 'backfilllaw08.VerbsReads'. -/
def verbsReadsCard : Claim7 := { stood := { row := verbsReadsRow, standIns := [], harness := (true, "ca6ae2152e9e2820487a3b5135015b295018bcb26f527337dd9fbe13d44d78cd"), looks := true }, kinds := [], alts := [], laidByText := true, laidKinds := [.data, .data, .data, .data, .sentinel, .sentinel, .pinned], laidTests := true, laidLooks := .later }
def VerbsReadsCardSaid : Prop := Claim7.holds Tryd.pinned (.plain (OpenSpec.ofChange verbsReadsSpec)) verbsReadsCard

/-- THE TIED CARD OF 'backfilllaw08.VerbsWrites'. -/
def verbsWritesCard : Claim7 := { stood := { row := verbsWritesRow, standIns := [], harness := (true, "ca6ae2152e9e2820487a3b5135015b295018bcb26f527337dd9fbe13d44d78cd"), looks := true }, kinds := [], alts := [], laidByText := true, laidKinds := [.data, .data, .data, .data, .sentinel, .sentinel, .pinned], laidTests := true, laidLooks := .later }
def VerbsWritesCardSaid : Prop := Claim7.holds Tryd.pinned (.plain (OpenSpec.ofChange verbsWritesSpec)) verbsWritesCard

/-- THE TIED CARD OF 'backfilllaw08.VerbsBack'. -/
def verbsBackCard : Claim7 := { stood := { row := verbsBackRow, standIns := [], harness := (true, "ca6ae2152e9e2820487a3b5135015b295018bcb26f527337dd9fbe13d44d78cd"), looks := true }, kinds := [], alts := [], laidByText := true, laidKinds := [.data, .data, .data, .data, .sentinel, .sentinel, .pinned], laidTests := true, laidLooks := .later }
def VerbsBackCardSaid : Prop := Claim7.holds Tryd.pinned (.plain (OpenSpec.ofChange verbsBackSpec)) verbsBackCard

/-- THE TIED CARD OF 'backfilllaw08.VerbsNames'. -/
def verbsNamesCard : Claim7 := { stood := { row := verbsNamesRow, standIns := [], harness := (true, "ca6ae2152e9e2820487a3b5135015b295018bcb26f527337dd9fbe13d44d78cd"), looks := true }, kinds := [], alts := [], laidByText := true, laidKinds := [.data, .data, .data, .data, .sentinel, .sentinel, .pinned], laidTests := true, laidLooks := .later }
def VerbsNamesCardSaid : Prop := Claim7.holds Tryd.pinned (.plain (OpenSpec.ofChange verbsNamesSpec)) verbsNamesCard

/-- THE TIED CARD OF 'backfilllaw09.AnswersEvents'. -/
def answersEventsCard : Claim7 := { stood := { row := answersEventsRow, standIns := [], harness := (true, "ca6ae2152e9e2820487a3b5135015b295018bcb26f527337dd9fbe13d44d78cd"), looks := true }, kinds := [], alts := [], laidByText := true, laidKinds := [.data, .data, .data, .data, .sentinel, .sentinel, .pinned], laidTests := true, laidLooks := .later }
def AnswersEventsCardSaid : Prop := Claim7.holds Tryd.pinned (.plain (OpenSpec.ofChange answersEventsSpec)) answersEventsCard

/-- THE TIED CARD OF 'backfilllaw09.AnswersReads'. -/
def answersReadsCard : Claim7 := { stood := { row := answersReadsRow, standIns := [], harness := (true, "ca6ae2152e9e2820487a3b5135015b295018bcb26f527337dd9fbe13d44d78cd"), looks := true }, kinds := [], alts := [], laidByText := true, laidKinds := [.data, .data, .data, .data, .sentinel, .sentinel, .pinned], laidTests := true, laidLooks := .later }
def AnswersReadsCardSaid : Prop := Claim7.holds Tryd.pinned (.plain (OpenSpec.ofChange answersReadsSpec)) answersReadsCard

/-- THE TIED CARD OF 'backfilllaw09.AnswersJoins'. -/
def answersJoinsCard : Claim7 := { stood := { row := answersJoinsRow, standIns := [], harness := (true, "ca6ae2152e9e2820487a3b5135015b295018bcb26f527337dd9fbe13d44d78cd"), looks := true }, kinds := [], alts := [], laidByText := true, laidKinds := [.data, .data, .data, .data, .sentinel, .sentinel, .pinned], laidTests := true, laidLooks := .later }
def AnswersJoinsCardSaid : Prop := Claim7.holds Tryd.pinned (.plain (OpenSpec.ofChange answersJoinsSpec)) answersJoinsCard

/-- THE SECOND FORM's CARD OF 'backfilllaw08.VerbsReads'. -/
def verbsReadsUptoCard : Claim7 := { stood := { row := verbsReadsUptoRow, standIns := [], harness := (true, "ca6ae2152e9e2820487a3b5135015b295018bcb26f527337dd9fbe13d44d78cd"), looks := true }, kinds := [], alts := [], laidByText := true, laidKinds := [.data, .data, .data, .data, .sentinel, .sentinel, .pinned], laidTests := true, laidLooks := .later }
def VerbsReadsUptoCardSaid : Prop := Claim7.holds Tryd.pinned (.plain (OpenSpec.upto verbsReadsSpec)) verbsReadsUptoCard

/-- THE SECOND FORM's CARD OF 'backfilllaw08.VerbsWrites'. -/
def verbsWritesUptoCard : Claim7 := { stood := { row := verbsWritesUptoRow, standIns := [], harness := (true, "ca6ae2152e9e2820487a3b5135015b295018bcb26f527337dd9fbe13d44d78cd"), looks := true }, kinds := [], alts := [], laidByText := true, laidKinds := [.data, .data, .data, .data, .sentinel, .sentinel, .pinned], laidTests := true, laidLooks := .later }
def VerbsWritesUptoCardSaid : Prop := Claim7.holds Tryd.pinned (.plain (OpenSpec.upto verbsWritesSpec)) verbsWritesUptoCard

/-- THE SECOND FORM's CARD OF 'backfilllaw08.VerbsBack'. -/
def verbsBackUptoCard : Claim7 := { stood := { row := verbsBackUptoRow, standIns := [], harness := (true, "ca6ae2152e9e2820487a3b5135015b295018bcb26f527337dd9fbe13d44d78cd"), looks := true }, kinds := [], alts := [], laidByText := true, laidKinds := [.data, .data, .data, .data, .sentinel, .sentinel, .pinned], laidTests := true, laidLooks := .later }
def VerbsBackUptoCardSaid : Prop := Claim7.holds Tryd.pinned (.plain (OpenSpec.upto verbsBackSpec)) verbsBackUptoCard

/-- THE SECOND FORM's CARD OF 'backfilllaw08.VerbsNames'. -/
def verbsNamesUptoCard : Claim7 := { stood := { row := verbsNamesUptoRow, standIns := [], harness := (true, "ca6ae2152e9e2820487a3b5135015b295018bcb26f527337dd9fbe13d44d78cd"), looks := true }, kinds := [], alts := [], laidByText := true, laidKinds := [.data, .data, .data, .data, .sentinel, .sentinel, .pinned], laidTests := true, laidLooks := .later }
def VerbsNamesUptoCardSaid : Prop := Claim7.holds Tryd.pinned (.plain (OpenSpec.upto verbsNamesSpec)) verbsNamesUptoCard

/-- THE SECOND FORM's CARD OF 'backfilllaw09.AnswersEvents'. -/
def answersEventsUptoCard : Claim7 := { stood := { row := answersEventsUptoRow, standIns := [], harness := (true, "ca6ae2152e9e2820487a3b5135015b295018bcb26f527337dd9fbe13d44d78cd"), looks := true }, kinds := [], alts := [], laidByText := true, laidKinds := [.data, .data, .data, .data, .sentinel, .sentinel, .pinned], laidTests := true, laidLooks := .later }
def AnswersEventsUptoCardSaid : Prop := Claim7.holds Tryd.pinned (.plain (OpenSpec.upto answersEventsSpec)) answersEventsUptoCard

/-- THE SECOND FORM's CARD OF 'backfilllaw09.AnswersReads'. -/
def answersReadsUptoCard : Claim7 := { stood := { row := answersReadsUptoRow, standIns := [], harness := (true, "ca6ae2152e9e2820487a3b5135015b295018bcb26f527337dd9fbe13d44d78cd"), looks := true }, kinds := [], alts := [], laidByText := true, laidKinds := [.data, .data, .data, .data, .sentinel, .sentinel, .pinned], laidTests := true, laidLooks := .later }
def AnswersReadsUptoCardSaid : Prop := Claim7.holds Tryd.pinned (.plain (OpenSpec.upto answersReadsSpec)) answersReadsUptoCard

/-- THE SECOND FORM's CARD OF 'backfilllaw09.AnswersJoins'. -/
def answersJoinsUptoCard : Claim7 := { stood := { row := answersJoinsUptoRow, standIns := [], harness := (true, "ca6ae2152e9e2820487a3b5135015b295018bcb26f527337dd9fbe13d44d78cd"), looks := true }, kinds := [], alts := [], laidByText := true, laidKinds := [.data, .data, .data, .data, .sentinel, .sentinel, .pinned], laidTests := true, laidLooks := .later }
def AnswersJoinsUptoCardSaid : Prop := Claim7.holds Tryd.pinned (.plain (OpenSpec.upto answersJoinsSpec)) answersJoinsUptoCard
end Rows
end Go.Proofs.YtdekbbffoaphhaaDoor

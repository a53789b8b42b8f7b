/-
  No cell of these rows narrows 'for every input' (looked for: loops, veiled, ifaces, maps, wideKeys, modest, calm, conditions, laid).
  DERIVED. THE GIVEN ROWS OF THIS SEAT. 9 by the template 'for every input the law returns true; each argument reads behind the call as it read before'; 0 by the template 'total and deterministic' (their statements: YtebibcaahjmjfaaTotals.lean).
  GIVEN WITH THE SEED: the statements are not yours to turn. If you find one false, say at which input.
  Laid BY PROGRAM, IN A SANDBOX (cutbox-rows.mjs): the forced cells as the released guide's own fill.sh prints them over the translation b5d0e24dd0794395… (all of the seat's roots in one cut). By AI agents, Wed Nov 11 2026. No macro, syntax, notation, axiom, sorry.
-/
import Derived.Test.YtebibcaahjmjfaaChecked
import GoSem.Claim
import GoSem.ClaimJoined
import GoSem.ClaimMapViews
import Derived.JoinedTies
import Derived.KernelRfl
namespace Go.Proofs.Ytebibcaahjmjfaa
/- THE CELL 'sum', in the pinned program and in every row, IS THE sha256 OF THE DUMP (.gsa) THAT YtebibcaahjmjfaaProg.lean LOADS. Nothing in Lean hashes anything: it is a label: what it is worth is what the hold of that sum in a sandbox is worth. -/
noncomputable def Try.pinned : Pinned := { name := "ytebibcaahjmjfaa", sum := "b5d0e24dd07943957e10b44c1afa6ab689f49fa5a4152eb9c6ca89749576cb6d", checked := Try.checked }
namespace Rows
def none {H : Type} : Left H := { results := [], args := [] }

/-- 'backfilllaw05.ProfileTells': WHATEVER THE INPUT: true; the input reads as it did. -/
def profileTellsSpec : ChangeSpec := { name := "profileTells", fn := fun _ => fun
  | [d1, d2, d3, d4, d5, d6] => { results := [.lit (.bool true)], args := [d1, d2, d3, d4, d5, d6] }
  | _ => none }
def profileTellsRow : OpenClaim := { program := "ytebibcaahjmjfaa", sum := "b5d0e24dd07943957e10b44c1afa6ab689f49fa5a4152eb9c6ca89749576cb6d", func := "backfill/backfilllaw05.ProfileTells", spec := "profileTells", unfollowed := true, recurses := true, apart := false }
def ProfileTellsSaid : Prop := profileTellsRow.holds Try.pinned (OpenSpec.ofChange profileTellsSpec)

/-- ITS FALSE NEIGHBOUR: 'it returns false'. Refute it at one input. -/
def profileTellsWrong : ChangeSpec := { name := "profileTells", fn := fun _ => fun
  | [d1, d2, d3, d4, d5, d6] => { results := [.lit (.bool false)], args := [d1, d2, d3, d4, d5, d6] }
  | _ => none }
def ProfileTellsWrongFalsely : Prop := profileTellsRow.holds Try.pinned (OpenSpec.ofChange profileTellsWrong)

/-- 'backfilllaw05.ProfileGoes': WHATEVER THE INPUT: true; the input reads as it did. -/
def profileGoesSpec : ChangeSpec := { name := "profileGoes", fn := fun _ => fun
  | [d1, d2, d3, d4] => { results := [.lit (.bool true)], args := [d1, d2, d3, d4] }
  | _ => none }
def profileGoesRow : OpenClaim := { program := "ytebibcaahjmjfaa", sum := "b5d0e24dd07943957e10b44c1afa6ab689f49fa5a4152eb9c6ca89749576cb6d", func := "backfill/backfilllaw05.ProfileGoes", spec := "profileGoes", unfollowed := true, recurses := true, apart := false }
def ProfileGoesSaid : Prop := profileGoesRow.holds Try.pinned (OpenSpec.ofChange profileGoesSpec)

/-- ITS FALSE NEIGHBOUR: 'it returns false'. Refute it at one input. -/
def profileGoesWrong : ChangeSpec := { name := "profileGoes", fn := fun _ => fun
  | [d1, d2, d3, d4] => { results := [.lit (.bool false)], args := [d1, d2, d3, d4] }
  | _ => none }
def ProfileGoesWrongFalsely : Prop := profileGoesRow.holds Try.pinned (OpenSpec.ofChange profileGoesWrong)

/-- 'backfilllaw05.ProfileRises': WHATEVER THE INPUT: true; the input reads as it did. -/
def profileRisesSpec : ChangeSpec := { name := "profileRises", fn := fun _ => fun
  | [d1, d2, d3, d4, d5] => { results := [.lit (.bool true)], args := [d1, d2, d3, d4, d5] }
  | _ => none }
def profileRisesRow : OpenClaim := { program := "ytebibcaahjmjfaa", sum := "b5d0e24dd07943957e10b44c1afa6ab689f49fa5a4152eb9c6ca89749576cb6d", func := "backfill/backfilllaw05.ProfileRises", spec := "profileRises", unfollowed := true, recurses := true, apart := false }
def ProfileRisesSaid : Prop := profileRisesRow.holds Try.pinned (OpenSpec.ofChange profileRisesSpec)

/-- ITS FALSE NEIGHBOUR: 'it returns false'. Refute it at one input. -/
def profileRisesWrong : ChangeSpec := { name := "profileRises", fn := fun _ => fun
  | [d1, d2, d3, d4, d5] => { results := [.lit (.bool false)], args := [d1, d2, d3, d4, d5] }
  | _ => none }
def ProfileRisesWrongFalsely : Prop := profileRisesRow.holds Try.pinned (OpenSpec.ofChange profileRisesWrong)

/-- 'backfilllaw05.ProfileLess': WHATEVER THE INPUT: true; the input reads as it did. -/
def profileLessSpec : ChangeSpec := { name := "profileLess", fn := fun _ => fun
  | [d1, d2, d3, d4, d5, d6, d7] => { results := [.lit (.bool true)], args := [d1, d2, d3, d4, d5, d6, d7] }
  | _ => none }
def profileLessRow : OpenClaim := { program := "ytebibcaahjmjfaa", sum := "b5d0e24dd07943957e10b44c1afa6ab689f49fa5a4152eb9c6ca89749576cb6d", func := "backfill/backfilllaw05.ProfileLess", spec := "profileLess", unfollowed := true, recurses := true, apart := false }
def ProfileLessSaid : Prop := profileLessRow.holds Try.pinned (OpenSpec.ofChange profileLessSpec)

/-- ITS FALSE NEIGHBOUR: 'it returns false'. Refute it at one input. -/
def profileLessWrong : ChangeSpec := { name := "profileLess", fn := fun _ => fun
  | [d1, d2, d3, d4, d5, d6, d7] => { results := [.lit (.bool false)], args := [d1, d2, d3, d4, d5, d6, d7] }
  | _ => none }
def ProfileLessWrongFalsely : Prop := profileLessRow.holds Try.pinned (OpenSpec.ofChange profileLessWrong)

/-- 'backfilllaw15.PassTells': WHATEVER THE INPUT: true; the input reads as it did. -/
def passTellsSpec : ChangeSpec := { name := "passTells", fn := fun _ => fun
  | [d1, d2] => { results := [.lit (.bool true)], args := [d1, d2] }
  | _ => none }
def passTellsRow : OpenClaim := { program := "ytebibcaahjmjfaa", sum := "b5d0e24dd07943957e10b44c1afa6ab689f49fa5a4152eb9c6ca89749576cb6d", func := "backfill/backfilllaw15.PassTells", spec := "passTells", unfollowed := true, recurses := true, apart := false }
def PassTellsSaid : Prop := passTellsRow.holds Try.pinned (OpenSpec.ofChange passTellsSpec)

/-- ITS FALSE NEIGHBOUR: 'it returns false'. Refute it at one input. -/
def passTellsWrong : ChangeSpec := { name := "passTells", fn := fun _ => fun
  | [d1, d2] => { results := [.lit (.bool false)], args := [d1, d2] }
  | _ => none }
def PassTellsWrongFalsely : Prop := passTellsRow.holds Try.pinned (OpenSpec.ofChange passTellsWrong)

/-- 'backfilllaw15.PassWhole': WHATEVER THE INPUT: true; the input reads as it did. -/
def passWholeSpec : ChangeSpec := { name := "passWhole", fn := fun _ => fun
  | [d] => { results := [.lit (.bool true)], args := [d] }
  | _ => none }
def passWholeRow : OpenClaim := { program := "ytebibcaahjmjfaa", sum := "b5d0e24dd07943957e10b44c1afa6ab689f49fa5a4152eb9c6ca89749576cb6d", func := "backfill/backfilllaw15.PassWhole", spec := "passWhole", unfollowed := true, recurses := true, apart := false }
def PassWholeSaid : Prop := passWholeRow.holds Try.pinned (OpenSpec.ofChange passWholeSpec)

/-- ITS FALSE NEIGHBOUR: 'it returns false'. Refute it at one input. -/
def passWholeWrong : ChangeSpec := { name := "passWhole", fn := fun _ => fun
  | [d] => { results := [.lit (.bool false)], args := [d] }
  | _ => none }
def PassWholeWrongFalsely : Prop := passWholeRow.holds Try.pinned (OpenSpec.ofChange passWholeWrong)

/-- 'backfilllaw15.PassKeeps': WHATEVER THE INPUT: true; the input reads as it did. -/
def passKeepsSpec : ChangeSpec := { name := "passKeeps", fn := fun _ => fun
  | [d1, d2] => { results := [.lit (.bool true)], args := [d1, d2] }
  | _ => none }
def passKeepsRow : OpenClaim := { program := "ytebibcaahjmjfaa", sum := "b5d0e24dd07943957e10b44c1afa6ab689f49fa5a4152eb9c6ca89749576cb6d", func := "backfill/backfilllaw15.PassKeeps", spec := "passKeeps", unfollowed := true, recurses := true, apart := false }
def PassKeepsSaid : Prop := passKeepsRow.holds Try.pinned (OpenSpec.ofChange passKeepsSpec)

/-- ITS FALSE NEIGHBOUR: 'it returns false'. Refute it at one input. -/
def passKeepsWrong : ChangeSpec := { name := "passKeeps", fn := fun _ => fun
  | [d1, d2] => { results := [.lit (.bool false)], args := [d1, d2] }
  | _ => none }
def PassKeepsWrongFalsely : Prop := passKeepsRow.holds Try.pinned (OpenSpec.ofChange passKeepsWrong)

/-- 'backfilllaw15.PassBehind': WHATEVER THE INPUT: true; the input reads as it did. -/
def passBehindSpec : ChangeSpec := { name := "passBehind", fn := fun _ => fun
  | [d1, d2] => { results := [.lit (.bool true)], args := [d1, d2] }
  | _ => none }
def passBehindRow : OpenClaim := { program := "ytebibcaahjmjfaa", sum := "b5d0e24dd07943957e10b44c1afa6ab689f49fa5a4152eb9c6ca89749576cb6d", func := "backfill/backfilllaw15.PassBehind", spec := "passBehind", unfollowed := true, recurses := true, apart := false }
def PassBehindSaid : Prop := passBehindRow.holds Try.pinned (OpenSpec.ofChange passBehindSpec)

/-- ITS FALSE NEIGHBOUR: 'it returns false'. Refute it at one input. -/
def passBehindWrong : ChangeSpec := { name := "passBehind", fn := fun _ => fun
  | [d1, d2] => { results := [.lit (.bool false)], args := [d1, d2] }
  | _ => none }
def PassBehindWrongFalsely : Prop := passBehindRow.holds Try.pinned (OpenSpec.ofChange passBehindWrong)

/-- 'backfilllaw15.PassNames': WHATEVER THE INPUT: true; the input reads as it did. -/
def passNamesSpec : ChangeSpec := { name := "passNames", fn := fun _ => fun
  | [] => { results := [.lit (.bool true)], args := [] }
  | _ => none }
def passNamesRow : OpenClaim := { program := "ytebibcaahjmjfaa", sum := "b5d0e24dd07943957e10b44c1afa6ab689f49fa5a4152eb9c6ca89749576cb6d", func := "backfill/backfilllaw15.PassNames", spec := "passNames", unfollowed := true, recurses := true, apart := false }
def PassNamesSaid : Prop := passNamesRow.holds Try.pinned (OpenSpec.ofChange passNamesSpec)

/-- ITS FALSE NEIGHBOUR: 'it returns false'. Refute it at one input. -/
def passNamesWrong : ChangeSpec := { name := "passNames", fn := fun _ => fun
  | [] => { results := [.lit (.bool false)], args := [] }
  | _ => none }
def PassNamesWrongFalsely : Prop := passNamesRow.holds Try.pinned (OpenSpec.ofChange passNamesWrong)

/- THE SECOND FORM. 'bulk': how many values and letters a reading holds, each counted each time it is reached (what is shared counts as often as it is met; a slice's spare places count too). A statement '..UptoSaid' is the law's where the arguments, and the package variables that the reading takes, are together of bulk at most 1048576: NARROWER than '..Said'. Prove '..Said' where nothing that the law and all that it calls make is longer than what came in: it says more and counts as full. Else prove '..UptoSaid'. A law counts once. -/
mutual
def uptoBulk {H : Type} : DataW H → Nat
  | .lit (.string bytes) => bytes.length + 1
  | .lit _ => 1
  | .nil => 1
  | .ptr d => uptoBulk d + 1
  | .slice elems spare => uptoBulkAll elems + uptoBulkAll spare + 1
  | .agg parts => uptoBulkAll parts + 1
  | .iface _ d => uptoBulk d + 1
  | .map entries => uptoBulkEntries entries + 1
  | .held _ => 1
def uptoBulkAll {H : Type} : List (DataW H) → Nat
  | [] => 0
  | d :: r => uptoBulk d + uptoBulkAll r
def uptoBulkEntries {H : Type} : List (Lit × DataW H) → Nat
  | [] => 0
  | x :: r => uptoBulkEntry x + uptoBulkEntries r
def uptoBulkEntry {H : Type} : Lit × DataW H → Nat
  | (.string bytes, d) => bytes.length + uptoBulk d + 1
  | (_, d) => uptoBulk d + 1
 end
def uptoSmall : (H : Type) → List (DataW H) → Bool := fun _ ds => decide (uptoBulkAll ds ≤ 1048576)
def OpenSpec.upto (s : _root_.Go.ChangeSpec) : _root_.Go.OpenSpec := { _root_.Go.OpenSpec.ofChange s with cond := some uptoSmall }

/-- 'backfilllaw05.ProfileTells', WHERE WHAT IT READS IS OF BULK AT MOST 1048576: true; the input reads as it did. -/
def profileTellsUptoRow : OpenClaim := { program := "ytebibcaahjmjfaa", sum := "b5d0e24dd07943957e10b44c1afa6ab689f49fa5a4152eb9c6ca89749576cb6d", func := "backfill/backfilllaw05.ProfileTells", spec := "profileTells", unfollowed := true, recurses := true, apart := false, narrowed := true }
def ProfileTellsUptoSaid : Prop := profileTellsUptoRow.holds Try.pinned (OpenSpec.upto profileTellsSpec)

/-- 'backfilllaw05.ProfileGoes', WHERE WHAT IT READS IS OF BULK AT MOST 1048576: true; the input reads as it did. -/
def profileGoesUptoRow : OpenClaim := { program := "ytebibcaahjmjfaa", sum := "b5d0e24dd07943957e10b44c1afa6ab689f49fa5a4152eb9c6ca89749576cb6d", func := "backfill/backfilllaw05.ProfileGoes", spec := "profileGoes", unfollowed := true, recurses := true, apart := false, narrowed := true }
def ProfileGoesUptoSaid : Prop := profileGoesUptoRow.holds Try.pinned (OpenSpec.upto profileGoesSpec)

/-- 'backfilllaw05.ProfileRises', WHERE WHAT IT READS IS OF BULK AT MOST 1048576: true; the input reads as it did. -/
def profileRisesUptoRow : OpenClaim := { program := "ytebibcaahjmjfaa", sum := "b5d0e24dd07943957e10b44c1afa6ab689f49fa5a4152eb9c6ca89749576cb6d", func := "backfill/backfilllaw05.ProfileRises", spec := "profileRises", unfollowed := true, recurses := true, apart := false, narrowed := true }
def ProfileRisesUptoSaid : Prop := profileRisesUptoRow.holds Try.pinned (OpenSpec.upto profileRisesSpec)

/-- 'backfilllaw05.ProfileLess', WHERE WHAT IT READS IS OF BULK AT MOST 1048576: true; the input reads as it did. -/
def profileLessUptoRow : OpenClaim := { program := "ytebibcaahjmjfaa", sum := "b5d0e24dd07943957e10b44c1afa6ab689f49fa5a4152eb9c6ca89749576cb6d", func := "backfill/backfilllaw05.ProfileLess", spec := "profileLess", unfollowed := true, recurses := true, apart := false, narrowed := true }
def ProfileLessUptoSaid : Prop := profileLessUptoRow.holds Try.pinned (OpenSpec.upto profileLessSpec)

/-- 'backfilllaw15.PassTells', WHERE WHAT IT READS IS OF BULK AT MOST 1048576: true; the input reads as it did. -/
def passTellsUptoRow : OpenClaim := { program := "ytebibcaahjmjfaa", sum := "b5d0e24dd07943957e10b44c1afa6ab689f49fa5a4152eb9c6ca89749576cb6d", func := "backfill/backfilllaw15.PassTells", spec := "passTells", unfollowed := true, recurses := true, apart := false, narrowed := true }
def PassTellsUptoSaid : Prop := passTellsUptoRow.holds Try.pinned (OpenSpec.upto passTellsSpec)

/-- 'backfilllaw15.PassWhole', WHERE WHAT IT READS IS OF BULK AT MOST 1048576: true; the input reads as it did. -/
def passWholeUptoRow : OpenClaim := { program := "ytebibcaahjmjfaa", sum := "b5d0e24dd07943957e10b44c1afa6ab689f49fa5a4152eb9c6ca89749576cb6d", func := "backfill/backfilllaw15.PassWhole", spec := "passWhole", unfollowed := true, recurses := true, apart := false, narrowed := true }
def PassWholeUptoSaid : Prop := passWholeUptoRow.holds Try.pinned (OpenSpec.upto passWholeSpec)

/-- 'backfilllaw15.PassKeeps', WHERE WHAT IT READS IS OF BULK AT MOST 1048576: true; the input reads as it did. -/
def passKeepsUptoRow : OpenClaim := { program := "ytebibcaahjmjfaa", sum := "b5d0e24dd07943957e10b44c1afa6ab689f49fa5a4152eb9c6ca89749576cb6d", func := "backfill/backfilllaw15.PassKeeps", spec := "passKeeps", unfollowed := true, recurses := true, apart := false, narrowed := true }
def PassKeepsUptoSaid : Prop := passKeepsUptoRow.holds Try.pinned (OpenSpec.upto passKeepsSpec)

/-- 'backfilllaw15.PassBehind', WHERE WHAT IT READS IS OF BULK AT MOST 1048576: true; the input reads as it did. -/
def passBehindUptoRow : OpenClaim := { program := "ytebibcaahjmjfaa", sum := "b5d0e24dd07943957e10b44c1afa6ab689f49fa5a4152eb9c6ca89749576cb6d", func := "backfill/backfilllaw15.PassBehind", spec := "passBehind", unfollowed := true, recurses := true, apart := false, narrowed := true }
def PassBehindUptoSaid : Prop := passBehindUptoRow.holds Try.pinned (OpenSpec.upto passBehindSpec)

/-- 'backfilllaw15.PassNames', WHERE WHAT IT READS IS OF BULK AT MOST 1048576: true; the input reads as it did. -/
def passNamesUptoRow : OpenClaim := { program := "ytebibcaahjmjfaa", sum := "b5d0e24dd07943957e10b44c1afa6ab689f49fa5a4152eb9c6ca89749576cb6d", func := "backfill/backfilllaw15.PassNames", spec := "passNames", unfollowed := true, recurses := true, apart := false, narrowed := true }
def PassNamesUptoSaid : Prop := passNamesUptoRow.holds Try.pinned (OpenSpec.upto passNamesSpec)

end Rows
end Go.Proofs.Ytebibcaahjmjfaa

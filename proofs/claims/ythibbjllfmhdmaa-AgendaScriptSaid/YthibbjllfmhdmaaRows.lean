/-
  No cell of these rows narrows 'for every input' (looked for: loops, veiled, ifaces, maps, wideKeys, modest, calm, conditions, laid).
  DERIVED. THE GIVEN ROWS OF THIS SEAT. 5 by the template 'for every input the law returns true; each argument reads behind the call as it read before'; 0 by the template 'total and deterministic' (their statements: YthibbjllfmhdmaaTotals.lean).
  GIVEN WITH THE SEED: the statements are not yours to turn. If you find one false, say at which input.
  Laid BY PROGRAM, IN A SANDBOX (cutbox-rows.mjs): the forced cells as the released guide's own fill.sh prints them over the translation fd0c5abfd179b143… (all of the seat's roots in one cut). By AI agents, Wed Nov 11 2026. No macro, syntax, notation, axiom, sorry.
-/
import Derived.Test.YthibbjllfmhdmaaChecked
import GoSem.Claim
import GoSem.ClaimJoined
import GoSem.ClaimMapViews
import Derived.JoinedTies
import Derived.KernelRfl
namespace Go.Proofs.Ythibbjllfmhdmaa
/- THE CELL 'sum', in the pinned program and in every row, IS THE sha256 OF THE DUMP (.gsa) THAT YthibbjllfmhdmaaProg.lean LOADS. Nothing in Lean hashes anything: it is a label: what it is worth is what the hold of that sum in a sandbox is worth. -/
noncomputable def Try.pinned : Pinned := { name := "ythibbjllfmhdmaa", sum := "fd0c5abfd179b143be6d375326f77a1c2484e59fb2e7a3505d80e10ad01faf55", checked := Try.checked }
namespace Rows
def none {H : Type} : Left H := { results := [], args := [] }

/-- 'backfilllaw03.AgendaDue': WHATEVER THE INPUT: true; the input reads as it did. -/
def agendaDueSpec : ChangeSpec := { name := "agendaDue", fn := fun _ => fun
  | [d1, d2, d3] => { results := [.lit (.bool true)], args := [d1, d2, d3] }
  | _ => none }
def agendaDueRow : OpenClaim := { program := "ythibbjllfmhdmaa", sum := "fd0c5abfd179b143be6d375326f77a1c2484e59fb2e7a3505d80e10ad01faf55", func := "backfill/backfilllaw03.AgendaDue", spec := "agendaDue", unfollowed := true, recurses := true, apart := false }
def AgendaDueSaid : Prop := agendaDueRow.holds Try.pinned (OpenSpec.ofChange agendaDueSpec)

/-- ITS FALSE NEIGHBOUR: 'it returns false'. Refute it at one input. -/
def agendaDueWrong : ChangeSpec := { name := "agendaDue", fn := fun _ => fun
  | [d1, d2, d3] => { results := [.lit (.bool false)], args := [d1, d2, d3] }
  | _ => none }
def AgendaDueWrongFalsely : Prop := agendaDueRow.holds Try.pinned (OpenSpec.ofChange agendaDueWrong)

/-- 'backfilllaw03.AgendaOrder': WHATEVER THE INPUT: true; the input reads as it did. -/
def agendaOrderSpec : ChangeSpec := { name := "agendaOrder", fn := fun _ => fun
  | [d] => { results := [.lit (.bool true)], args := [d] }
  | _ => none }
def agendaOrderRow : OpenClaim := { program := "ythibbjllfmhdmaa", sum := "fd0c5abfd179b143be6d375326f77a1c2484e59fb2e7a3505d80e10ad01faf55", func := "backfill/backfilllaw03.AgendaOrder", spec := "agendaOrder", unfollowed := true, recurses := true, apart := false }
def AgendaOrderSaid : Prop := agendaOrderRow.holds Try.pinned (OpenSpec.ofChange agendaOrderSpec)

/-- ITS FALSE NEIGHBOUR: 'it returns false'. Refute it at one input. -/
def agendaOrderWrong : ChangeSpec := { name := "agendaOrder", fn := fun _ => fun
  | [d] => { results := [.lit (.bool false)], args := [d] }
  | _ => none }
def AgendaOrderWrongFalsely : Prop := agendaOrderRow.holds Try.pinned (OpenSpec.ofChange agendaOrderWrong)

/-- 'backfilllaw03.AgendaScript': WHATEVER THE INPUT: true; the input reads as it did. -/
def agendaScriptSpec : ChangeSpec := { name := "agendaScript", fn := fun _ => fun
  | [d] => { results := [.lit (.bool true)], args := [d] }
  | _ => none }
def agendaScriptRow : OpenClaim := { program := "ythibbjllfmhdmaa", sum := "fd0c5abfd179b143be6d375326f77a1c2484e59fb2e7a3505d80e10ad01faf55", func := "backfill/backfilllaw03.AgendaScript", spec := "agendaScript", unfollowed := true, recurses := true, apart := false }
def AgendaScriptSaid : Prop := agendaScriptRow.holds Try.pinned (OpenSpec.ofChange agendaScriptSpec)

/-- ITS FALSE NEIGHBOUR: 'it returns false'. Refute it at one input. -/
def agendaScriptWrong : ChangeSpec := { name := "agendaScript", fn := fun _ => fun
  | [d] => { results := [.lit (.bool false)], args := [d] }
  | _ => none }
def AgendaScriptWrongFalsely : Prop := agendaScriptRow.holds Try.pinned (OpenSpec.ofChange agendaScriptWrong)

/-- 'backfilllaw03.AgendaStays': WHATEVER THE INPUT: true; the input reads as it did. -/
def agendaStaysSpec : ChangeSpec := { name := "agendaStays", fn := fun _ => fun
  | [d1, d2, d3] => { results := [.lit (.bool true)], args := [d1, d2, d3] }
  | _ => none }
def agendaStaysRow : OpenClaim := { program := "ythibbjllfmhdmaa", sum := "fd0c5abfd179b143be6d375326f77a1c2484e59fb2e7a3505d80e10ad01faf55", func := "backfill/backfilllaw03.AgendaStays", spec := "agendaStays", unfollowed := true, recurses := true, apart := false }
def AgendaStaysSaid : Prop := agendaStaysRow.holds Try.pinned (OpenSpec.ofChange agendaStaysSpec)

/-- ITS FALSE NEIGHBOUR: 'it returns false'. Refute it at one input. -/
def agendaStaysWrong : ChangeSpec := { name := "agendaStays", fn := fun _ => fun
  | [d1, d2, d3] => { results := [.lit (.bool false)], args := [d1, d2, d3] }
  | _ => none }
def AgendaStaysWrongFalsely : Prop := agendaStaysRow.holds Try.pinned (OpenSpec.ofChange agendaStaysWrong)

/-- 'backfilllaw03.AgendaShares': WHATEVER THE INPUT: true; the input reads as it did. -/
def agendaSharesSpec : ChangeSpec := { name := "agendaShares", fn := fun _ => fun
  | [d1, d2, d3] => { results := [.lit (.bool true)], args := [d1, d2, d3] }
  | _ => none }
def agendaSharesRow : OpenClaim := { program := "ythibbjllfmhdmaa", sum := "fd0c5abfd179b143be6d375326f77a1c2484e59fb2e7a3505d80e10ad01faf55", func := "backfill/backfilllaw03.AgendaShares", spec := "agendaShares", unfollowed := true, recurses := true, apart := false }
def AgendaSharesSaid : Prop := agendaSharesRow.holds Try.pinned (OpenSpec.ofChange agendaSharesSpec)

/-- ITS FALSE NEIGHBOUR: 'it returns false'. Refute it at one input. -/
def agendaSharesWrong : ChangeSpec := { name := "agendaShares", fn := fun _ => fun
  | [d1, d2, d3] => { results := [.lit (.bool false)], args := [d1, d2, d3] }
  | _ => none }
def AgendaSharesWrongFalsely : Prop := agendaSharesRow.holds Try.pinned (OpenSpec.ofChange agendaSharesWrong)

/- THE SECOND FORM. 'bulk': how many values and letters a reading holds, each counted each time it is reached (what is shared counts as often as it is met; a slice's spare places count too). A statement '..UptoSaid' is the law's where the arguments, and the package variables that the reading takes, are together of bulk at most 1048576: NARROWER than '..Said'. Prove '..Said' where nothing that the law and all that it calls make is longer than what came in: it says more and counts as full. Else prove '..UptoSaid'. A law counts once. -/
mutual
def uptoBulk {H : Type} : DataW H → Nat
  | .lit (.string bytes) => bytes.length + 1
  | .lit _ => 1
  | .nil => 1
  | .ptr d => uptoBulk d + 1
  | .slice elems spare => uptoBulkAll elems + uptoBulkAll spare + 1
  | .agg parts => uptoBulkAll parts + 1
  | .iface _ d => uptoBulk d + 1
  | .map entries => uptoBulkEntries entries + 1
  | .held _ => 1
def uptoBulkAll {H : Type} : List (DataW H) → Nat
  | [] => 0
  | d :: r => uptoBulk d + uptoBulkAll r
def uptoBulkEntries {H : Type} : List (Lit × DataW H) → Nat
  | [] => 0
  | x :: r => uptoBulkEntry x + uptoBulkEntries r
def uptoBulkEntry {H : Type} : Lit × DataW H → Nat
  | (.string bytes, d) => bytes.length + uptoBulk d + 1
  | (_, d) => uptoBulk d + 1
 end
def uptoSmall : (H : Type) → List (DataW H) → Bool := fun _ ds => decide (uptoBulkAll ds ≤ 1048576)
def OpenSpec.upto (s : _root_.Go.ChangeSpec) : _root_.Go.OpenSpec := { _root_.Go.OpenSpec.ofChange s with cond := some uptoSmall }

/-- 'backfilllaw03.AgendaDue', WHERE WHAT IT READS IS OF BULK AT MOST 1048576: true; the input reads as it did. -/
def agendaDueUptoRow : OpenClaim := { program := "ythibbjllfmhdmaa", sum := "fd0c5abfd179b143be6d375326f77a1c2484e59fb2e7a3505d80e10ad01faf55", func := "backfill/backfilllaw03.AgendaDue", spec := "agendaDue", unfollowed := true, recurses := true, apart := false, narrowed := true }
def AgendaDueUptoSaid : Prop := agendaDueUptoRow.holds Try.pinned (OpenSpec.upto agendaDueSpec)

/-- 'backfilllaw03.AgendaOrder', WHERE WHAT IT READS IS OF BULK AT MOST 1048576: true; the input reads as it did. -/
def agendaOrderUptoRow : OpenClaim := { program := "ythibbjllfmhdmaa", sum := "fd0c5abfd179b143be6d375326f77a1c2484e59fb2e7a3505d80e10ad01faf55", func := "backfill/backfilllaw03.AgendaOrder", spec := "agendaOrder", unfollowed := true, recurses := true, apart := false, narrowed := true }
def AgendaOrderUptoSaid : Prop := agendaOrderUptoRow.holds Try.pinned (OpenSpec.upto agendaOrderSpec)

/-- 'backfilllaw03.AgendaScript', WHERE WHAT IT READS IS OF BULK AT MOST 1048576: true; the input reads as it did. -/
def agendaScriptUptoRow : OpenClaim := { program := "ythibbjllfmhdmaa", sum := "fd0c5abfd179b143be6d375326f77a1c2484e59fb2e7a3505d80e10ad01faf55", func := "backfill/backfilllaw03.AgendaScript", spec := "agendaScript", unfollowed := true, recurses := true, apart := false, narrowed := true }
def AgendaScriptUptoSaid : Prop := agendaScriptUptoRow.holds Try.pinned (OpenSpec.upto agendaScriptSpec)

/-- 'backfilllaw03.AgendaStays', WHERE WHAT IT READS IS OF BULK AT MOST 1048576: true; the input reads as it did. -/
def agendaStaysUptoRow : OpenClaim := { program := "ythibbjllfmhdmaa", sum := "fd0c5abfd179b143be6d375326f77a1c2484e59fb2e7a3505d80e10ad01faf55", func := "backfill/backfilllaw03.AgendaStays", spec := "agendaStays", unfollowed := true, recurses := true, apart := false, narrowed := true }
def AgendaStaysUptoSaid : Prop := agendaStaysUptoRow.holds Try.pinned (OpenSpec.upto agendaStaysSpec)

/-- 'backfilllaw03.AgendaShares', WHERE WHAT IT READS IS OF BULK AT MOST 1048576: true; the input reads as it did. -/
def agendaSharesUptoRow : OpenClaim := { program := "ythibbjllfmhdmaa", sum := "fd0c5abfd179b143be6d375326f77a1c2484e59fb2e7a3505d80e10ad01faf55", func := "backfill/backfilllaw03.AgendaShares", spec := "agendaShares", unfollowed := true, recurses := true, apart := false, narrowed := true }
def AgendaSharesUptoSaid : Prop := agendaSharesUptoRow.holds Try.pinned (OpenSpec.upto agendaSharesSpec)

end Rows
end Go.Proofs.Ythibbjllfmhdmaa

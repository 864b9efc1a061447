/-
  No cell of these rows narrows 'for every input' (looked for: loops, veiled, ifaces, maps, wideKeys, modest, calm, conditions, laid).
  DERIVED. THE GIVEN ROWS OF THIS SEAT. 4 by the template 'for every input the law returns true; each argument reads behind the call as it read before'; 0 by the template 'total and deterministic' (their statements: YtiejjjbnhkdfeaaTotals.lean).
  GIVEN WITH THE SEED: the statements are not yours to turn. If you find one false, say at which input.
  Laid BY PROGRAM, IN A SANDBOX (cutbox-rows.mjs): the forced cells as the released guide's own fill.sh prints them over the translation 6842cdff04247a6b… (all of the seat's roots in one cut). By AI agents, Wed Nov 11 2026. No macro, syntax, notation, axiom, sorry.
-/
import Derived.Test.YtiejjjbnhkdfeaaChecked
import GoSem.Claim
import GoSem.ClaimJoined
import GoSem.ClaimMapViews
import Derived.JoinedTies
import Derived.KernelRfl
namespace Go.Proofs.Ytiejjjbnhkdfeaa
/- THE CELL 'sum', in the pinned program and in every row, IS THE sha256 OF THE DUMP (.gsa) THAT YtiejjjbnhkdfeaaProg.lean LOADS. Nothing in Lean hashes anything: it is a label: what it is worth is what the hold of that sum in a sandbox is worth. -/
noncomputable def Try.pinned : Pinned := { name := "ytiejjjbnhkdfeaa", sum := "6842cdff04247a6b64b02f82d63abfa0b69e6d3d0d786d55b5b74cd143108040", checked := Try.checked }
namespace Rows
def none {H : Type} : Left H := { results := [], args := [] }

/-- 'farhailkeep.FieldRing': WHATEVER THE INPUT: true; the input reads as it did. -/
def fieldRingSpec : ChangeSpec := { name := "fieldRing", fn := fun _ => fun
  | [d1, d2, d3] => { results := [.lit (.bool true)], args := [d1, d2, d3] }
  | _ => none }
def fieldRingRow : OpenClaim := { program := "ytiejjjbnhkdfeaa", sum := "6842cdff04247a6b64b02f82d63abfa0b69e6d3d0d786d55b5b74cd143108040", func := "farhail/farhailkeep.FieldRing", spec := "fieldRing", apart := false }
def FieldRingSaid : Prop := fieldRingRow.holds Try.pinned (OpenSpec.ofChange fieldRingSpec)

/-- ITS FALSE NEIGHBOUR: 'it returns false'. Refute it at one input. -/
def fieldRingWrong : ChangeSpec := { name := "fieldRing", fn := fun _ => fun
  | [d1, d2, d3] => { results := [.lit (.bool false)], args := [d1, d2, d3] }
  | _ => none }
def FieldRingWrongFalsely : Prop := fieldRingRow.holds Try.pinned (OpenSpec.ofChange fieldRingWrong)

/-- 'farhailkeep.FieldLogs': WHATEVER THE INPUT: true; the input reads as it did. -/
def fieldLogsSpec : ChangeSpec := { name := "fieldLogs", fn := fun _ => fun
  | [d1, d2] => { results := [.lit (.bool true)], args := [d1, d2] }
  | _ => none }
def fieldLogsRow : OpenClaim := { program := "ytiejjjbnhkdfeaa", sum := "6842cdff04247a6b64b02f82d63abfa0b69e6d3d0d786d55b5b74cd143108040", func := "farhail/farhailkeep.FieldLogs", spec := "fieldLogs", apart := false }
def FieldLogsSaid : Prop := fieldLogsRow.holds Try.pinned (OpenSpec.ofChange fieldLogsSpec)

/-- ITS FALSE NEIGHBOUR: 'it returns false'. Refute it at one input. -/
def fieldLogsWrong : ChangeSpec := { name := "fieldLogs", fn := fun _ => fun
  | [d1, d2] => { results := [.lit (.bool false)], args := [d1, d2] }
  | _ => none }
def FieldLogsWrongFalsely : Prop := fieldLogsRow.holds Try.pinned (OpenSpec.ofChange fieldLogsWrong)

/-- 'farhailkeep.FieldDivides': WHATEVER THE INPUT: true; the input reads as it did. -/
def fieldDividesSpec : ChangeSpec := { name := "fieldDivides", fn := fun _ => fun
  | [d1, d2] => { results := [.lit (.bool true)], args := [d1, d2] }
  | _ => none }
def fieldDividesRow : OpenClaim := { program := "ytiejjjbnhkdfeaa", sum := "6842cdff04247a6b64b02f82d63abfa0b69e6d3d0d786d55b5b74cd143108040", func := "farhail/farhailkeep.FieldDivides", spec := "fieldDivides", apart := false }
def FieldDividesSaid : Prop := fieldDividesRow.holds Try.pinned (OpenSpec.ofChange fieldDividesSpec)

/-- ITS FALSE NEIGHBOUR: 'it returns false'. Refute it at one input. -/
def fieldDividesWrong : ChangeSpec := { name := "fieldDivides", fn := fun _ => fun
  | [d1, d2] => { results := [.lit (.bool false)], args := [d1, d2] }
  | _ => none }
def FieldDividesWrongFalsely : Prop := fieldDividesRow.holds Try.pinned (OpenSpec.ofChange fieldDividesWrong)

/-- 'farhailkeep.FieldPoints': WHATEVER THE INPUT: true; the input reads as it did. -/
def fieldPointsSpec : ChangeSpec := { name := "fieldPoints", fn := fun _ => fun
  | [d1, d2, d3, d4] => { results := [.lit (.bool true)], args := [d1, d2, d3, d4] }
  | _ => none }
def fieldPointsRow : OpenClaim := { program := "ytiejjjbnhkdfeaa", sum := "6842cdff04247a6b64b02f82d63abfa0b69e6d3d0d786d55b5b74cd143108040", func := "farhail/farhailkeep.FieldPoints", spec := "fieldPoints", unfollowed := true, recurses := true, apart := false }
def FieldPointsSaid : Prop := fieldPointsRow.holds Try.pinned (OpenSpec.ofChange fieldPointsSpec)

/-- ITS FALSE NEIGHBOUR: 'it returns false'. Refute it at one input. -/
def fieldPointsWrong : ChangeSpec := { name := "fieldPoints", fn := fun _ => fun
  | [d1, d2, d3, d4] => { results := [.lit (.bool false)], args := [d1, d2, d3, d4] }
  | _ => none }
def FieldPointsWrongFalsely : Prop := fieldPointsRow.holds Try.pinned (OpenSpec.ofChange fieldPointsWrong)

/- THE SECOND FORM. 'bulk': how many values and letters a reading holds, each counted each time it is reached (what is shared counts as often as it is met; a slice's spare places count too). A statement '..UptoSaid' is the law's where the arguments, and the package variables that the reading takes, are together of bulk at most 1048576: NARROWER than '..Said'. Prove '..Said' where nothing that the law and all that it calls make is longer than what came in: it says more and counts as full. Else prove '..UptoSaid'. A law counts once. -/
mutual
def uptoBulk {H : Type} : DataW H → Nat
  | .lit (.string bytes) => bytes.length + 1
  | .lit _ => 1
  | .nil => 1
  | .ptr d => uptoBulk d + 1
  | .slice elems spare => uptoBulkAll elems + uptoBulkAll spare + 1
  | .agg parts => uptoBulkAll parts + 1
  | .iface _ d => uptoBulk d + 1
  | .map entries => uptoBulkEntries entries + 1
  | .held _ => 1
def uptoBulkAll {H : Type} : List (DataW H) → Nat
  | [] => 0
  | d :: r => uptoBulk d + uptoBulkAll r
def uptoBulkEntries {H : Type} : List (Lit × DataW H) → Nat
  | [] => 0
  | x :: r => uptoBulkEntry x + uptoBulkEntries r
def uptoBulkEntry {H : Type} : Lit × DataW H → Nat
  | (.string bytes, d) => bytes.length + uptoBulk d + 1
  | (_, d) => uptoBulk d + 1
 end
def uptoSmall : (H : Type) → List (DataW H) → Bool := fun _ ds => decide (uptoBulkAll ds ≤ 1048576)
def OpenSpec.upto (s : _root_.Go.ChangeSpec) : _root_.Go.OpenSpec := { _root_.Go.OpenSpec.ofChange s with cond := some uptoSmall }

/-- 'farhailkeep.FieldRing', WHERE WHAT IT READS IS OF BULK AT MOST 1048576: true; the input reads as it did. -/
def fieldRingUptoRow : OpenClaim := { program := "ytiejjjbnhkdfeaa", sum := "6842cdff04247a6b64b02f82d63abfa0b69e6d3d0d786d55b5b74cd143108040", func := "farhail/farhailkeep.FieldRing", spec := "fieldRing", apart := false, narrowed := true }
def FieldRingUptoSaid : Prop := fieldRingUptoRow.holds Try.pinned (OpenSpec.upto fieldRingSpec)

/-- 'farhailkeep.FieldLogs', WHERE WHAT IT READS IS OF BULK AT MOST 1048576: true; the input reads as it did. -/
def fieldLogsUptoRow : OpenClaim := { program := "ytiejjjbnhkdfeaa", sum := "6842cdff04247a6b64b02f82d63abfa0b69e6d3d0d786d55b5b74cd143108040", func := "farhail/farhailkeep.FieldLogs", spec := "fieldLogs", apart := false, narrowed := true }
def FieldLogsUptoSaid : Prop := fieldLogsUptoRow.holds Try.pinned (OpenSpec.upto fieldLogsSpec)

/-- 'farhailkeep.FieldDivides', WHERE WHAT IT READS IS OF BULK AT MOST 1048576: true; the input reads as it did. -/
def fieldDividesUptoRow : OpenClaim := { program := "ytiejjjbnhkdfeaa", sum := "6842cdff04247a6b64b02f82d63abfa0b69e6d3d0d786d55b5b74cd143108040", func := "farhail/farhailkeep.FieldDivides", spec := "fieldDivides", apart := false, narrowed := true }
def FieldDividesUptoSaid : Prop := fieldDividesUptoRow.holds Try.pinned (OpenSpec.upto fieldDividesSpec)

/-- 'farhailkeep.FieldPoints', WHERE WHAT IT READS IS OF BULK AT MOST 1048576: true; the input reads as it did. -/
def fieldPointsUptoRow : OpenClaim := { program := "ytiejjjbnhkdfeaa", sum := "6842cdff04247a6b64b02f82d63abfa0b69e6d3d0d786d55b5b74cd143108040", func := "farhail/farhailkeep.FieldPoints", spec := "fieldPoints", unfollowed := true, recurses := true, apart := false, narrowed := true }
def FieldPointsUptoSaid : Prop := fieldPointsUptoRow.holds Try.pinned (OpenSpec.upto fieldPointsSpec)

end Rows
end Go.Proofs.Ytiejjjbnhkdfeaa

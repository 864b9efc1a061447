/-
  No cell of these rows narrows 'for every input' (looked for: loops, veiled, ifaces, maps, wideKeys, modest, calm, conditions, laid).
  DERIVED. THE GIVEN ROWS OF THIS SEAT. 3 by the template 'for every input the law returns true; each argument reads behind the call as it read before'; 0 by the template 'total and deterministic' (their statements: YtlbpmepifegeiaaTotals.lean).
  GIVEN WITH THE SEED: the statements are not yours to turn. If you find one false, say at which input.
  Laid BY PROGRAM, IN A SANDBOX (cutbox-rows.mjs): the forced cells as the released guide's own fill.sh prints them over the translation 9c5d282681d1a69a… (all of the seat's roots in one cut). By AI agents, Wed Nov 11 2026. No macro, syntax, notation, axiom, sorry.
-/
import Derived.Test.YtlbpmepifegeiaaChecked
import GoSem.Claim
import GoSem.ClaimJoined
import GoSem.ClaimMapViews
import Derived.JoinedTies
import Derived.KernelRfl
namespace Go.Proofs.Ytlbpmepifegeiaa
/- THE CELL 'sum', in the pinned program and in every row, IS THE sha256 OF THE DUMP (.gsa) THAT YtlbpmepifegeiaaProg.lean LOADS. Nothing in Lean hashes anything: it is a label: what it is worth is what the hold of that sum in a sandbox is worth. -/
noncomputable def Try.pinned : Pinned := { name := "ytlbpmepifegeiaa", sum := "9c5d282681d1a69acfeefd387a9b84c9048b37b6682b5004b3c9feaba288732e", checked := Try.checked }
namespace Rows
def none {H : Type} : Left H := { results := [], args := [] }

/-- 'farhailkeep.StreamCuts': WHATEVER THE INPUT: true; the input reads as it did. -/
def streamCutsSpec : ChangeSpec := { name := "streamCuts", fn := fun _ => fun
  | [d1, d2, d3] => { results := [.lit (.bool true)], args := [d1, d2, d3] }
  | _ => none }
def streamCutsRow : OpenClaim := { program := "ytlbpmepifegeiaa", sum := "9c5d282681d1a69acfeefd387a9b84c9048b37b6682b5004b3c9feaba288732e", func := "farhail/farhailkeep.StreamCuts", spec := "streamCuts", inPlace := ["internal/reflectlite.TypeOf"], unfollowed := true, recurses := true, apart := false }
def StreamCutsSaid : Prop := streamCutsRow.holds Try.pinned (OpenSpec.ofChange streamCutsSpec)

/-- ITS FALSE NEIGHBOUR: 'it returns false'. Refute it at one input. -/
def streamCutsWrong : ChangeSpec := { name := "streamCuts", fn := fun _ => fun
  | [d1, d2, d3] => { results := [.lit (.bool false)], args := [d1, d2, d3] }
  | _ => none }
def StreamCutsWrongFalsely : Prop := streamCutsRow.holds Try.pinned (OpenSpec.ofChange streamCutsWrong)

/-- 'farhailkeep.StreamAll': WHATEVER THE INPUT: true; the input reads as it did. -/
def streamAllSpec : ChangeSpec := { name := "streamAll", fn := fun _ => fun
  | [d1, d2, d3] => { results := [.lit (.bool true)], args := [d1, d2, d3] }
  | _ => none }
def streamAllRow : OpenClaim := { program := "ytlbpmepifegeiaa", sum := "9c5d282681d1a69acfeefd387a9b84c9048b37b6682b5004b3c9feaba288732e", func := "farhail/farhailkeep.StreamAll", spec := "streamAll", inPlace := ["internal/reflectlite.TypeOf"], unfollowed := true, recurses := true, apart := false }
def StreamAllSaid : Prop := streamAllRow.holds Try.pinned (OpenSpec.ofChange streamAllSpec)

/-- ITS FALSE NEIGHBOUR: 'it returns false'. Refute it at one input. -/
def streamAllWrong : ChangeSpec := { name := "streamAll", fn := fun _ => fun
  | [d1, d2, d3] => { results := [.lit (.bool false)], args := [d1, d2, d3] }
  | _ => none }
def StreamAllWrongFalsely : Prop := streamAllRow.holds Try.pinned (OpenSpec.ofChange streamAllWrong)

/-- 'farhailkeep.StreamSlip': WHATEVER THE INPUT: true; the input reads as it did. -/
def streamSlipSpec : ChangeSpec := { name := "streamSlip", fn := fun _ => fun
  | [d1, d2, d3, d4, d5, d6] => { results := [.lit (.bool true)], args := [d1, d2, d3, d4, d5, d6] }
  | _ => none }
def streamSlipRow : OpenClaim := { program := "ytlbpmepifegeiaa", sum := "9c5d282681d1a69acfeefd387a9b84c9048b37b6682b5004b3c9feaba288732e", func := "farhail/farhailkeep.StreamSlip", spec := "streamSlip", inPlace := ["internal/reflectlite.TypeOf"], unfollowed := true, recurses := true, apart := false }
def StreamSlipSaid : Prop := streamSlipRow.holds Try.pinned (OpenSpec.ofChange streamSlipSpec)

/-- ITS FALSE NEIGHBOUR: 'it returns false'. Refute it at one input. -/
def streamSlipWrong : ChangeSpec := { name := "streamSlip", fn := fun _ => fun
  | [d1, d2, d3, d4, d5, d6] => { results := [.lit (.bool false)], args := [d1, d2, d3, d4, d5, d6] }
  | _ => none }
def StreamSlipWrongFalsely : Prop := streamSlipRow.holds Try.pinned (OpenSpec.ofChange streamSlipWrong)

/- THE SECOND FORM. 'bulk': how many values and letters a reading holds, each counted each time it is reached (what is shared counts as often as it is met; a slice's spare places count too). A statement '..UptoSaid' is the law's where the arguments, and the package variables that the reading takes, are together of bulk at most 1048576: NARROWER than '..Said'. Prove '..Said' where nothing that the law and all that it calls make is longer than what came in: it says more and counts as full. Else prove '..UptoSaid'. A law counts once. -/
mutual
def uptoBulk {H : Type} : DataW H → Nat
  | .lit (.string bytes) => bytes.length + 1
  | .lit _ => 1
  | .nil => 1
  | .ptr d => uptoBulk d + 1
  | .slice elems spare => uptoBulkAll elems + uptoBulkAll spare + 1
  | .agg parts => uptoBulkAll parts + 1
  | .iface _ d => uptoBulk d + 1
  | .map entries => uptoBulkEntries entries + 1
  | .held _ => 1
def uptoBulkAll {H : Type} : List (DataW H) → Nat
  | [] => 0
  | d :: r => uptoBulk d + uptoBulkAll r
def uptoBulkEntries {H : Type} : List (Lit × DataW H) → Nat
  | [] => 0
  | x :: r => uptoBulkEntry x + uptoBulkEntries r
def uptoBulkEntry {H : Type} : Lit × DataW H → Nat
  | (.string bytes, d) => bytes.length + uptoBulk d + 1
  | (_, d) => uptoBulk d + 1
 end
def uptoSmall : (H : Type) → List (DataW H) → Bool := fun _ ds => decide (uptoBulkAll ds ≤ 1048576)
def OpenSpec.upto (s : _root_.Go.ChangeSpec) : _root_.Go.OpenSpec := { _root_.Go.OpenSpec.ofChange s with cond := some uptoSmall }

/-- 'farhailkeep.StreamCuts', WHERE WHAT IT READS IS OF BULK AT MOST 1048576: true; the input reads as it did. -/
def streamCutsUptoRow : OpenClaim := { program := "ytlbpmepifegeiaa", sum := "9c5d282681d1a69acfeefd387a9b84c9048b37b6682b5004b3c9feaba288732e", func := "farhail/farhailkeep.StreamCuts", spec := "streamCuts", inPlace := ["internal/reflectlite.TypeOf"], unfollowed := true, recurses := true, apart := false, narrowed := true }
def StreamCutsUptoSaid : Prop := streamCutsUptoRow.holds Try.pinned (OpenSpec.upto streamCutsSpec)

/-- 'farhailkeep.StreamAll', WHERE WHAT IT READS IS OF BULK AT MOST 1048576: true; the input reads as it did. -/
def streamAllUptoRow : OpenClaim := { program := "ytlbpmepifegeiaa", sum := "9c5d282681d1a69acfeefd387a9b84c9048b37b6682b5004b3c9feaba288732e", func := "farhail/farhailkeep.StreamAll", spec := "streamAll", inPlace := ["internal/reflectlite.TypeOf"], unfollowed := true, recurses := true, apart := false, narrowed := true }
def StreamAllUptoSaid : Prop := streamAllUptoRow.holds Try.pinned (OpenSpec.upto streamAllSpec)

/-- 'farhailkeep.StreamSlip', WHERE WHAT IT READS IS OF BULK AT MOST 1048576: true; the input reads as it did. -/
def streamSlipUptoRow : OpenClaim := { program := "ytlbpmepifegeiaa", sum := "9c5d282681d1a69acfeefd387a9b84c9048b37b6682b5004b3c9feaba288732e", func := "farhail/farhailkeep.StreamSlip", spec := "streamSlip", inPlace := ["internal/reflectlite.TypeOf"], unfollowed := true, recurses := true, apart := false, narrowed := true }
def StreamSlipUptoSaid : Prop := streamSlipUptoRow.holds Try.pinned (OpenSpec.upto streamSlipSpec)

end Rows
end Go.Proofs.Ytlbpmepifegeiaa

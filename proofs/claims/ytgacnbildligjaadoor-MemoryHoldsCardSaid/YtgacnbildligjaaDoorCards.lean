/-
  DERIVED. GIVEN WITH THE SEED: THE CARDS: each row of YtgacnbildligjaaDoorRows.lean that lists a variable, with what it lists TIED to the program's text (the seventh form; the later family's looks); each row that meets fmt, with fmt's text TOLD by the authors' own Lean function (tested against real Go, not proved from fmt's source: count such statements apart). THE CARD IS WHAT COUNTS. Prove the row's statement (the work); the ties are given (YtgacnbildligjaaDoorTie.lean); close each card by the builder's one call (the guide's Derived/Test/ToyasCard.lean, 'card_holds'). Laid BY PROGRAM, IN A SANDBOX (cutbox-door.mjs). By AI agents, Wed Nov 11 2026. No macro, syntax, notation, axiom, sorry.
-/
import Derived.Test.YtgacnbildligjaaDoorRows
import GoSem.ClaimSeven
namespace Go.Proofs.YtgacnbildligjaaDoor
namespace Rows

/-- THE TIED CARD OF 'farhailkeep.MemoryTwo'. -/
def memoryTwoCard : Claim7 := { stood := { row := memoryTwoRow, standIns := [], harness := (true, "cadf8bae6bd917d8958ca4155ba5c9ea61a55db8c0b47d133c404d6826054ad1"), looks := true }, kinds := [], alts := [], laidByText := true, laidKinds := [.data, .data], laidTests := true, laidLooks := .later }
def MemoryTwoCardSaid : Prop := Claim7.holds Tryd.pinned (.plain (OpenSpec.ofChange memoryTwoSpec)) memoryTwoCard

/-- THE TIED CARD OF 'farhailkeep.MemoryHolds'. -/
def memoryHoldsCard : Claim7 := { stood := { row := memoryHoldsRow, standIns := [], harness := (true, "cadf8bae6bd917d8958ca4155ba5c9ea61a55db8c0b47d133c404d6826054ad1"), looks := true }, kinds := [], alts := [], laidByText := true, laidKinds := [.data, .data, .handle], laidTests := true, laidLooks := .later }
def MemoryHoldsCardSaid : Prop := Claim7.holds Tryd.pinned (.plain (OpenSpec.ofChange memoryHoldsSpec)) memoryHoldsCard

/-- THE SECOND FORM's CARD OF 'farhailkeep.MemoryTwo'. -/
def memoryTwoUptoCard : Claim7 := { stood := { row := memoryTwoUptoRow, standIns := [], harness := (true, "cadf8bae6bd917d8958ca4155ba5c9ea61a55db8c0b47d133c404d6826054ad1"), looks := true }, kinds := [], alts := [], laidByText := true, laidKinds := [.data, .data], laidTests := true, laidLooks := .later }
def MemoryTwoUptoCardSaid : Prop := Claim7.holds Tryd.pinned (.plain (OpenSpec.upto memoryTwoSpec)) memoryTwoUptoCard

/-- THE SECOND FORM's CARD OF 'farhailkeep.MemoryHolds'. -/
def memoryHoldsUptoCard : Claim7 := { stood := { row := memoryHoldsUptoRow, standIns := [], harness := (true, "cadf8bae6bd917d8958ca4155ba5c9ea61a55db8c0b47d133c404d6826054ad1"), looks := true }, kinds := [], alts := [], laidByText := true, laidKinds := [.data, .data, .handle], laidTests := true, laidLooks := .later }
def MemoryHoldsUptoCardSaid : Prop := Claim7.holds Tryd.pinned (.plain (OpenSpec.upto memoryHoldsSpec)) memoryHoldsUptoCard
end Rows
end Go.Proofs.YtgacnbildligjaaDoor

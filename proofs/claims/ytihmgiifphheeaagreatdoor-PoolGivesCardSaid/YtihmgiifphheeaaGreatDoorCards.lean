/-
  DERIVED. GIVEN WITH THE SEED: THE CARDS: each row of YtihmgiifphheeaaGreatDoorRows.lean that lists a variable, with what it lists TIED to the program's text (the seventh form; the later family's looks); each row that meets fmt, with fmt's text TOLD by the authors' own Lean function (tested against real Go, not proved from fmt's source: count such statements apart). THE CARD IS WHAT COUNTS. Prove the row's statement (the work); the ties are given (YtihmgiifphheeaaGreatDoorTie.lean); close each card by the builder's one call (the guide's Derived/Test/ToyasCard.lean, 'card_holds'). Laid BY PROGRAM, IN A SANDBOX (cutbox-door.mjs). By AI agents, Wed Nov 11 2026. No macro, syntax, notation, axiom, sorry.
-/
import Derived.Test.YtihmgiifphheeaaGreatDoorRows
import GoSem.ClaimSeven
namespace Go.Proofs.YtihmgiifphheeaaGreatDoor
namespace Rows

/-- THE TIED CARD OF 'selionlaw10.PoolTakes'. -/
def poolTakesCard : Claim7 := { stood := { row := poolTakesRow, standIns := [], harness := (true, "5048b3496de747e06ac4f84bf4d692d3f5d3885e288bb33edb4e93b687d0f25e"), looks := true }, kinds := [], alts := [], laidByText := true, laidKinds := [.handle, .sentinel, .sentinel], laidTests := true, laidLooks := .later }
def PoolTakesCardSaid : Prop := Claim7.holds Tryz.pinned (.plain (OpenSpec.ofChange poolTakesSpec)) poolTakesCard

/-- THE TIED CARD OF 'selionlaw10.PoolGives'. -/
def poolGivesCard : Claim7 := { stood := { row := poolGivesRow, standIns := [], harness := (true, "5048b3496de747e06ac4f84bf4d692d3f5d3885e288bb33edb4e93b687d0f25e"), looks := true }, kinds := [], alts := [], laidByText := true, laidKinds := [.handle, .sentinel, .sentinel], laidTests := true, laidLooks := .later }
def PoolGivesCardSaid : Prop := Claim7.holds Tryz.pinned (.plain (OpenSpec.ofChange poolGivesSpec)) poolGivesCard

/-- THE SECOND FORM's CARD OF 'selionlaw10.PoolTakes'. -/
def poolTakesUptoCard : Claim7 := { stood := { row := poolTakesUptoRow, standIns := [], harness := (true, "5048b3496de747e06ac4f84bf4d692d3f5d3885e288bb33edb4e93b687d0f25e"), looks := true }, kinds := [], alts := [], laidByText := true, laidKinds := [.handle, .sentinel, .sentinel], laidTests := true, laidLooks := .later }
def PoolTakesUptoCardSaid : Prop := Claim7.holds Tryz.pinned (.plain (OpenSpec.upto poolTakesSpec)) poolTakesUptoCard

/-- THE SECOND FORM's CARD OF 'selionlaw10.PoolGives'. -/
def poolGivesUptoCard : Claim7 := { stood := { row := poolGivesUptoRow, standIns := [], harness := (true, "5048b3496de747e06ac4f84bf4d692d3f5d3885e288bb33edb4e93b687d0f25e"), looks := true }, kinds := [], alts := [], laidByText := true, laidKinds := [.handle, .sentinel, .sentinel], laidTests := true, laidLooks := .later }
def PoolGivesUptoCardSaid : Prop := Claim7.holds Tryz.pinned (.plain (OpenSpec.upto poolGivesSpec)) poolGivesUptoCard
end Rows
end Go.Proofs.YtihmgiifphheeaaGreatDoor

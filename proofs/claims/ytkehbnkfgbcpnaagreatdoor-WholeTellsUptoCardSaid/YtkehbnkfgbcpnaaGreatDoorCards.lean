/-
  DERIVED. GIVEN WITH THE SEED: THE CARDS: each row of YtkehbnkfgbcpnaaGreatDoorRows.lean that lists a variable, with what it lists TIED to the program's text (the seventh form; the later family's looks); each row that meets fmt, with fmt's text TOLD by the authors' own Lean function (tested against real Go, not proved from fmt's source: count such statements apart). THE CARD IS WHAT COUNTS. Prove the row's statement (the work); the ties are given (YtkehbnkfgbcpnaaGreatDoorTie.lean); close each card by the builder's one call (the guide's Derived/Test/ToyasCard.lean, 'card_holds'). Laid BY PROGRAM, IN A SANDBOX (cutbox-door.mjs). By AI agents, Wed Nov 11 2026. No macro, syntax, notation, axiom, sorry.
-/
import Derived.Test.YtkehbnkfgbcpnaaGreatDoorRows
import GoSem.ClaimSeven
namespace Go.Proofs.YtkehbnkfgbcpnaaGreatDoor
namespace Rows

/-- THE TIED CARD OF 'cachepotlaw29.WholeTells'. -/
def wholeTellsCard : Claim7 := { stood := { row := wholeTellsRow, standIns := [], harness := (true, "19375ca4307316d90aed08123eb370d4884187f1d75d106959ed570a24755fa9"), looks := true }, kinds := [], alts := [], laidByText := true, laidKinds := [.data, .data, .data, .data, .sentinel, .sentinel, .pinned], laidTests := true, laidLooks := .later }
def WholeTellsCardSaid : Prop := Claim7.holds Tryz.pinned (.plain (OpenSpec.ofChange wholeTellsSpec)) wholeTellsCard

/-- THE SECOND FORM's CARD OF 'cachepotlaw29.WholeTells'. -/
def wholeTellsUptoCard : Claim7 := { stood := { row := wholeTellsUptoRow, standIns := [], harness := (true, "19375ca4307316d90aed08123eb370d4884187f1d75d106959ed570a24755fa9"), looks := true }, kinds := [], alts := [], laidByText := true, laidKinds := [.data, .data, .data, .data, .sentinel, .sentinel, .pinned], laidTests := true, laidLooks := .later }
def WholeTellsUptoCardSaid : Prop := Claim7.holds Tryz.pinned (.plain (OpenSpec.upto wholeTellsSpec)) wholeTellsUptoCard
end Rows
end Go.Proofs.YtkehbnkfgbcpnaaGreatDoor

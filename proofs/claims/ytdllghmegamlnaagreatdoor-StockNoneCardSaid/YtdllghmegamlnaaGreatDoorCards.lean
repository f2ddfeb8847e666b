/-
  DERIVED. GIVEN WITH THE SEED: THE CARDS: each row of YtdllghmegamlnaaGreatDoorRows.lean that lists a variable, with what it lists TIED to the program's text (the seventh form; the later family's looks); each row that meets fmt, with fmt's text TOLD by the authors' own Lean function (tested against real Go, not proved from fmt's source: count such statements apart). THE CARD IS WHAT COUNTS. Prove the row's statement (the work); the ties are given (YtdllghmegamlnaaGreatDoorTie.lean); close each card by the builder's one call (the guide's Derived/Test/ToyasCard.lean, 'card_holds'). Laid BY PROGRAM, IN A SANDBOX (cutbox-door.mjs). By AI agents, Wed Nov 11 2026. No macro, syntax, notation, axiom, sorry.
-/
import Derived.Test.YtdllghmegamlnaaGreatDoorRows
import GoSem.ClaimSeven
namespace Go.Proofs.YtdllghmegamlnaaGreatDoor
namespace Rows

/-- THE TIED CARD OF 'cachepotlaw17.StockNone'. -/
def stockNoneCard : Claim7 := { stood := { row := stockNoneRow, standIns := [], harness := (true, "170083330973024eabf1f495c14badfa80b0bbc80f8152b2ee49ed9029780238"), looks := true }, kinds := [], alts := [], laidByText := true, laidKinds := [.data, .pinned], laidTests := true, laidLooks := .later }
def StockNoneCardSaid : Prop := Claim7.holds Tryz.pinned (.plain (OpenSpec.ofChange stockNoneSpec)) stockNoneCard

/-- THE SECOND FORM's CARD OF 'cachepotlaw17.StockNone'. -/
def stockNoneUptoCard : Claim7 := { stood := { row := stockNoneUptoRow, standIns := [], harness := (true, "170083330973024eabf1f495c14badfa80b0bbc80f8152b2ee49ed9029780238"), looks := true }, kinds := [], alts := [], laidByText := true, laidKinds := [.data, .pinned], laidTests := true, laidLooks := .later }
def StockNoneUptoCardSaid : Prop := Claim7.holds Tryz.pinned (.plain (OpenSpec.upto stockNoneSpec)) stockNoneUptoCard
end Rows
end Go.Proofs.YtdllghmegamlnaaGreatDoor

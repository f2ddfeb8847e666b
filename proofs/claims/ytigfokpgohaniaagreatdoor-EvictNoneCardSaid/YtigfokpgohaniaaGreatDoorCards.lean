/-
  DERIVED. GIVEN WITH THE SEED: THE CARDS: each row of YtigfokpgohaniaaGreatDoorRows.lean that lists a variable, with what it lists TIED to the program's text (the seventh form; the later family's looks); each row that meets fmt, with fmt's text TOLD by the authors' own Lean function (tested against real Go, not proved from fmt's source: count such statements apart). THE CARD IS WHAT COUNTS. Prove the row's statement (the work); the ties are given (YtigfokpgohaniaaGreatDoorTie.lean); close each card by the builder's one call (the guide's Derived/Test/ToyasCard.lean, 'card_holds'). Laid BY PROGRAM, IN A SANDBOX (cutbox-door.mjs). By AI agents, Wed Nov 11 2026. No macro, syntax, notation, axiom, sorry.
-/
import Derived.Test.YtigfokpgohaniaaGreatDoorRows
import GoSem.ClaimSeven
namespace Go.Proofs.YtigfokpgohaniaaGreatDoor
namespace Rows

/-- THE TIED CARD OF 'cachepotlaw18.EvictNone'. -/
def evictNoneCard : Claim7 := { stood := { row := evictNoneRow, standIns := [], harness := (true, "7e4b6ba2c7d8109775033eeb282f1912459089904bf26acecd902188c252b7f2"), looks := true }, kinds := [], alts := [], laidByText := true, laidKinds := [.data, .pinned], laidTests := true, laidLooks := .later }
def EvictNoneCardSaid : Prop := Claim7.holds Tryz.pinned (.plain (OpenSpec.ofChange evictNoneSpec)) evictNoneCard

/-- THE SECOND FORM's CARD OF 'cachepotlaw18.EvictNone'. -/
def evictNoneUptoCard : Claim7 := { stood := { row := evictNoneUptoRow, standIns := [], harness := (true, "7e4b6ba2c7d8109775033eeb282f1912459089904bf26acecd902188c252b7f2"), looks := true }, kinds := [], alts := [], laidByText := true, laidKinds := [.data, .pinned], laidTests := true, laidLooks := .later }
def EvictNoneUptoCardSaid : Prop := Claim7.holds Tryz.pinned (.plain (OpenSpec.upto evictNoneSpec)) evictNoneUptoCard
end Rows
end Go.Proofs.YtigfokpgohaniaaGreatDoor

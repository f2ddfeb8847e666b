/-
  DERIVED. GIVEN WITH THE SEED: THE CARDS: each row of YtcooafoheknhhaaGreatDoorRows.lean that lists a variable, with what it lists TIED to the program's text (the seventh form; the later family's looks); each row that meets fmt, with fmt's text TOLD by the authors' own Lean function (tested against real Go, not proved from fmt's source: count such statements apart). THE CARD IS WHAT COUNTS. Prove the row's statement (the work); the ties are given (YtcooafoheknhhaaGreatDoorTie.lean); close each card by the builder's one call (the guide's Derived/Test/ToyasCard.lean, 'card_holds'). Laid BY PROGRAM, IN A SANDBOX (cutbox-door.mjs). By AI agents, Wed Nov 11 2026. No macro, syntax, notation, axiom, sorry.
-/
import Derived.Test.YtcooafoheknhhaaGreatDoorRows
import GoSem.ClaimSeven
namespace Go.Proofs.YtcooafoheknhhaaGreatDoor
namespace Rows

/-- THE TIED CARD OF 'cachepotlaw19.StoreNone'. -/
def storeNoneCard : Claim7 := { stood := { row := storeNoneRow, standIns := [], harness := (true, "5e7f932a756eb8458ace98db22e5b18f98aff94894e3d3ede476b2d4d7cc0d41"), looks := true }, kinds := [], alts := [], laidByText := true, laidKinds := [.data, .pinned], laidTests := true, laidLooks := .later }
def StoreNoneCardSaid : Prop := Claim7.holds Tryz.pinned (.plain (OpenSpec.ofChange storeNoneSpec)) storeNoneCard

/-- THE TIED CARD OF 'cachepotlaw24.CacheNone'. -/
def cacheNoneCard : Claim7 := { stood := { row := cacheNoneRow, standIns := [], harness := (true, "5e7f932a756eb8458ace98db22e5b18f98aff94894e3d3ede476b2d4d7cc0d41"), looks := true }, kinds := [], alts := [], laidByText := true, laidKinds := [.data, .pinned], laidTests := true, laidLooks := .later }
def CacheNoneCardSaid : Prop := Claim7.holds Tryz.pinned (.plain (OpenSpec.ofChange cacheNoneSpec)) cacheNoneCard

/-- THE TIED CARD OF 'cachepotlaw27.WorldNone'. -/
def worldNoneCard : Claim7 := { stood := { row := worldNoneRow, standIns := [], harness := (true, "5e7f932a756eb8458ace98db22e5b18f98aff94894e3d3ede476b2d4d7cc0d41"), looks := true }, kinds := [], alts := [], laidByText := true, laidKinds := [.data, .pinned], laidTests := true, laidLooks := .later }
def WorldNoneCardSaid : Prop := Claim7.holds Tryz.pinned (.plain (OpenSpec.ofChange worldNoneSpec)) worldNoneCard

/-- THE TIED CARD OF 'cachepotlaw27.WorldNew'. -/
def worldNewCard : Claim7 := { stood := { row := worldNewRow, standIns := [], harness := (true, "5e7f932a756eb8458ace98db22e5b18f98aff94894e3d3ede476b2d4d7cc0d41"), looks := true }, kinds := [], alts := [], laidByText := true, laidKinds := [.data, .pinned], laidTests := true, laidLooks := .later }
def WorldNewCardSaid : Prop := Claim7.holds Tryz.pinned (.plain (OpenSpec.ofChange worldNewSpec)) worldNewCard

/-- THE SECOND FORM's CARD OF 'cachepotlaw19.StoreNone'. -/
def storeNoneUptoCard : Claim7 := { stood := { row := storeNoneUptoRow, standIns := [], harness := (true, "5e7f932a756eb8458ace98db22e5b18f98aff94894e3d3ede476b2d4d7cc0d41"), looks := true }, kinds := [], alts := [], laidByText := true, laidKinds := [.data, .pinned], laidTests := true, laidLooks := .later }
def StoreNoneUptoCardSaid : Prop := Claim7.holds Tryz.pinned (.plain (OpenSpec.upto storeNoneSpec)) storeNoneUptoCard

/-- THE SECOND FORM's CARD OF 'cachepotlaw24.CacheNone'. -/
def cacheNoneUptoCard : Claim7 := { stood := { row := cacheNoneUptoRow, standIns := [], harness := (true, "5e7f932a756eb8458ace98db22e5b18f98aff94894e3d3ede476b2d4d7cc0d41"), looks := true }, kinds := [], alts := [], laidByText := true, laidKinds := [.data, .pinned], laidTests := true, laidLooks := .later }
def CacheNoneUptoCardSaid : Prop := Claim7.holds Tryz.pinned (.plain (OpenSpec.upto cacheNoneSpec)) cacheNoneUptoCard

/-- THE SECOND FORM's CARD OF 'cachepotlaw27.WorldNone'. -/
def worldNoneUptoCard : Claim7 := { stood := { row := worldNoneUptoRow, standIns := [], harness := (true, "5e7f932a756eb8458ace98db22e5b18f98aff94894e3d3ede476b2d4d7cc0d41"), looks := true }, kinds := [], alts := [], laidByText := true, laidKinds := [.data, .pinned], laidTests := true, laidLooks := .later }
def WorldNoneUptoCardSaid : Prop := Claim7.holds Tryz.pinned (.plain (OpenSpec.upto worldNoneSpec)) worldNoneUptoCard

/-- THE SECOND FORM's CARD OF 'cachepotlaw27.WorldNew'. -/
def worldNewUptoCard : Claim7 := { stood := { row := worldNewUptoRow, standIns := [], harness := (true, "5e7f932a756eb8458ace98db22e5b18f98aff94894e3d3ede476b2d4d7cc0d41"), looks := true }, kinds := [], alts := [], laidByText := true, laidKinds := [.data, .pinned], laidTests := true, laidLooks := .later }
def WorldNewUptoCardSaid : Prop := Claim7.holds Tryz.pinned (.plain (OpenSpec.upto worldNewSpec)) worldNewUptoCard
end Rows
end Go.Proofs.YtcooafoheknhhaaGreatDoor

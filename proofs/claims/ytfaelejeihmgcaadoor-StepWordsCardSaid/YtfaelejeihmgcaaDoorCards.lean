/-
  DERIVED. GIVEN WITH THE SEED: THE CARDS: each row of YtfaelejeihmgcaaDoorRows.lean that lists a variable, with what it lists TIED to the program's text (the seventh form; the later family's looks); each row that meets fmt, with fmt's text TOLD by the authors' own Lean function (tested against real Go, not proved from fmt's source: count such statements apart). THE CARD IS WHAT COUNTS. Prove the row's statement (the work); the ties are given (YtfaelejeihmgcaaDoorTie.lean); close each card by the builder's one call (the guide's Derived/Test/ToyasCard.lean, 'card_holds'). Laid BY PROGRAM, IN A SANDBOX (cutbox-door.mjs). By AI agents, Wed Nov 11 2026. No macro, syntax, notation, axiom, sorry.
-/
import Derived.Test.YtfaelejeihmgcaaDoorRows
import GoSem.ClaimSeven
namespace Go.Proofs.YtfaelejeihmgcaaDoor
namespace Rows

/-- THE TIED CARD OF 'cachepotlaw25.WordSplits'. -/
def wordSplitsCard : Claim7 := { stood := { row := wordSplitsRow, standIns := [], harness := (true, "ddd1cf58b3a80ed1532dd678ab2a0c111cf9264a9041d76f09f078a5b2873b86"), looks := true }, kinds := [], alts := [], laidByText := true, laidKinds := [.data, .pinned], laidTests := true, laidLooks := .later }
def WordSplitsCardSaid : Prop := Claim7.holds Tryd.pinned (.plain (OpenSpec.ofChange wordSplitsSpec)) wordSplitsCard

/-- THE TIED CARD OF 'cachepotlaw25.WordBent'. -/
def wordBentCard : Claim7 := { stood := { row := wordBentRow, standIns := [], harness := (true, "ddd1cf58b3a80ed1532dd678ab2a0c111cf9264a9041d76f09f078a5b2873b86"), looks := true }, kinds := [], alts := [], laidByText := true, laidKinds := [.data, .pinned], laidTests := true, laidLooks := .later }
def WordBentCardSaid : Prop := Claim7.holds Tryd.pinned (.plain (OpenSpec.ofChange wordBentSpec)) wordBentCard

/-- THE TIED CARD OF 'cachepotlaw25.WordLines'. -/
def wordLinesCard : Claim7 := { stood := { row := wordLinesRow, standIns := [], harness := (true, "ddd1cf58b3a80ed1532dd678ab2a0c111cf9264a9041d76f09f078a5b2873b86"), looks := true }, kinds := [], alts := [], laidByText := true, laidKinds := [.data, .pinned], laidTests := true, laidLooks := .later }
def WordLinesCardSaid : Prop := Claim7.holds Tryd.pinned (.plain (OpenSpec.ofChange wordLinesSpec)) wordLinesCard

/-- THE TIED CARD OF 'cachepotlaw25.WordQuotes'. -/
def wordQuotesCard : Claim7 := { stood := { row := wordQuotesRow, standIns := [], harness := (true, "ddd1cf58b3a80ed1532dd678ab2a0c111cf9264a9041d76f09f078a5b2873b86"), looks := true }, kinds := [], alts := [], laidByText := true, laidKinds := [.data, .pinned], laidTests := true, laidLooks := .later }
def WordQuotesCardSaid : Prop := Claim7.holds Tryd.pinned (.plain (OpenSpec.ofChange wordQuotesSpec)) wordQuotesCard

/-- THE TIED CARD OF 'cachepotlaw25.WordBack'. -/
def wordBackCard : Claim7 := { stood := { row := wordBackRow, standIns := [], harness := (true, "ddd1cf58b3a80ed1532dd678ab2a0c111cf9264a9041d76f09f078a5b2873b86"), looks := true }, kinds := [], alts := [], laidByText := true, laidKinds := [.data, .pinned], laidTests := true, laidLooks := .later }
def WordBackCardSaid : Prop := Claim7.holds Tryd.pinned (.plain (OpenSpec.ofChange wordBackSpec)) wordBackCard

/-- THE TIED CARD OF 'cachepotlaw25.WordPlain'. -/
def wordPlainCard : Claim7 := { stood := { row := wordPlainRow, standIns := [], harness := (true, "ddd1cf58b3a80ed1532dd678ab2a0c111cf9264a9041d76f09f078a5b2873b86"), looks := true }, kinds := [], alts := [], laidByText := true, laidKinds := [.data, .pinned], laidTests := true, laidLooks := .later }
def WordPlainCardSaid : Prop := Claim7.holds Tryd.pinned (.plain (OpenSpec.ofChange wordPlainSpec)) wordPlainCard

/-- THE TIED CARD OF 'cachepotlaw21.LedgerLines'. -/
def ledgerLinesCard : Claim7 := { stood := { row := ledgerLinesRow, standIns := [], harness := (true, "ddd1cf58b3a80ed1532dd678ab2a0c111cf9264a9041d76f09f078a5b2873b86"), looks := true }, kinds := [], alts := [], laidByText := true, laidKinds := [.data, .data, .data], laidTests := true, laidLooks := .later }
def LedgerLinesCardSaid : Prop := Claim7.holds Tryd.pinned (.plain (OpenSpec.ofChange ledgerLinesSpec)) ledgerLinesCard

/-- THE TIED CARD OF 'cachepotlaw21.LedgerParts'. -/
def ledgerPartsCard : Claim7 := { stood := { row := ledgerPartsRow, standIns := [], harness := (true, "ddd1cf58b3a80ed1532dd678ab2a0c111cf9264a9041d76f09f078a5b2873b86"), looks := true }, kinds := [], alts := [], laidByText := true, laidKinds := [.data, .data, .data, .data], laidTests := true, laidLooks := .later }
def LedgerPartsCardSaid : Prop := Claim7.holds Tryd.pinned (.plain (OpenSpec.ofChange ledgerPartsSpec)) ledgerPartsCard

/-- THE TIED CARD OF 'cachepotlaw21.LedgerReplays'. -/
def ledgerReplaysCard : Claim7 := { stood := { row := ledgerReplaysRow, standIns := [], harness := (true, "ddd1cf58b3a80ed1532dd678ab2a0c111cf9264a9041d76f09f078a5b2873b86"), looks := true }, kinds := [], alts := [], laidByText := true, laidKinds := [.data, .data, .data, .data], laidTests := true, laidLooks := .later }
def LedgerReplaysCardSaid : Prop := Claim7.holds Tryd.pinned (.plain (OpenSpec.ofChange ledgerReplaysSpec)) ledgerReplaysCard

/-- THE TIED CARD OF 'cachepotlaw21.LedgerAny'. -/
def ledgerAnyCard : Claim7 := { stood := { row := ledgerAnyRow, standIns := [], harness := (true, "ddd1cf58b3a80ed1532dd678ab2a0c111cf9264a9041d76f09f078a5b2873b86"), looks := true }, kinds := [], alts := [], laidByText := true, laidKinds := [.data, .data, .data], laidTests := true, laidLooks := .later }
def LedgerAnyCardSaid : Prop := Claim7.holds Tryd.pinned (.plain (OpenSpec.ofChange ledgerAnySpec)) ledgerAnyCard

/-- THE TIED CARD OF 'cachepotlaw21.LedgerRuns'. -/
def ledgerRunsCard : Claim7 := { stood := { row := ledgerRunsRow, standIns := [], harness := (true, "ddd1cf58b3a80ed1532dd678ab2a0c111cf9264a9041d76f09f078a5b2873b86"), looks := true }, kinds := [], alts := [], laidByText := true, laidKinds := [.data, .data, .data, .data], laidTests := true, laidLooks := .later }
def LedgerRunsCardSaid : Prop := Claim7.holds Tryd.pinned (.plain (OpenSpec.ofChange ledgerRunsSpec)) ledgerRunsCard

/-- THE TIED CARD OF 'cachepotlaw26.StepParses'. -/
def stepParsesCard : Claim7 := { stood := { row := stepParsesRow, standIns := [], harness := (true, "ddd1cf58b3a80ed1532dd678ab2a0c111cf9264a9041d76f09f078a5b2873b86"), looks := true }, kinds := [], alts := [], laidByText := true, laidKinds := [.data, .data, .data, .data, .data, .sentinel, .sentinel, .pinned], laidTests := true, laidLooks := .later }
def StepParsesCardSaid : Prop := Claim7.holds Tryd.pinned (.plain (OpenSpec.ofChange stepParsesSpec)) stepParsesCard

/-- THE TIED CARD OF 'cachepotlaw26.StepPrints'. -/
def stepPrintsCard : Claim7 := { stood := { row := stepPrintsRow, standIns := [], harness := (true, "ddd1cf58b3a80ed1532dd678ab2a0c111cf9264a9041d76f09f078a5b2873b86"), looks := true }, kinds := [], alts := [], laidByText := true, laidKinds := [.data, .data, .data, .data, .data, .sentinel, .sentinel, .pinned], laidTests := true, laidLooks := .later }
def StepPrintsCardSaid : Prop := Claim7.holds Tryd.pinned (.plain (OpenSpec.ofChange stepPrintsSpec)) stepPrintsCard

/-- THE TIED CARD OF 'cachepotlaw26.StepBack'. -/
def stepBackCard : Claim7 := { stood := { row := stepBackRow, standIns := [], harness := (true, "ddd1cf58b3a80ed1532dd678ab2a0c111cf9264a9041d76f09f078a5b2873b86"), looks := true }, kinds := [], alts := [], laidByText := true, laidKinds := [.data, .data, .data, .data, .sentinel, .sentinel, .pinned], laidTests := true, laidLooks := .later }
def StepBackCardSaid : Prop := Claim7.holds Tryd.pinned (.plain (OpenSpec.ofChange stepBackSpec)) stepBackCard

/-- THE TIED CARD OF 'cachepotlaw26.StepWords'. -/
def stepWordsCard : Claim7 := { stood := { row := stepWordsRow, standIns := [], harness := (true, "ddd1cf58b3a80ed1532dd678ab2a0c111cf9264a9041d76f09f078a5b2873b86"), looks := true }, kinds := [], alts := [], laidByText := true, laidKinds := [.data, .data, .data, .data, .data, .data, .sentinel, .sentinel, .pinned], laidTests := true, laidLooks := .later }
def StepWordsCardSaid : Prop := Claim7.holds Tryd.pinned (.plain (OpenSpec.ofChange stepWordsSpec)) stepWordsCard

/-- THE TIED CARD OF 'cachepotlaw26.StepBounds'. -/
def stepBoundsCard : Claim7 := { stood := { row := stepBoundsRow, standIns := [], harness := (true, "ddd1cf58b3a80ed1532dd678ab2a0c111cf9264a9041d76f09f078a5b2873b86"), looks := true }, kinds := [], alts := [], laidByText := true, laidKinds := [.data, .data, .data, .data, .sentinel, .sentinel, .pinned], laidTests := true, laidLooks := .later }
def StepBoundsCardSaid : Prop := Claim7.holds Tryd.pinned (.plain (OpenSpec.ofChange stepBoundsSpec)) stepBoundsCard

/-- THE SECOND FORM's CARD OF 'cachepotlaw25.WordSplits'. -/
def wordSplitsUptoCard : Claim7 := { stood := { row := wordSplitsUptoRow, standIns := [], harness := (true, "ddd1cf58b3a80ed1532dd678ab2a0c111cf9264a9041d76f09f078a5b2873b86"), looks := true }, kinds := [], alts := [], laidByText := true, laidKinds := [.data, .pinned], laidTests := true, laidLooks := .later }
def WordSplitsUptoCardSaid : Prop := Claim7.holds Tryd.pinned (.plain (OpenSpec.upto wordSplitsSpec)) wordSplitsUptoCard

/-- THE SECOND FORM's CARD OF 'cachepotlaw25.WordBent'. -/
def wordBentUptoCard : Claim7 := { stood := { row := wordBentUptoRow, standIns := [], harness := (true, "ddd1cf58b3a80ed1532dd678ab2a0c111cf9264a9041d76f09f078a5b2873b86"), looks := true }, kinds := [], alts := [], laidByText := true, laidKinds := [.data, .pinned], laidTests := true, laidLooks := .later }
def WordBentUptoCardSaid : Prop := Claim7.holds Tryd.pinned (.plain (OpenSpec.upto wordBentSpec)) wordBentUptoCard

/-- THE SECOND FORM's CARD OF 'cachepotlaw25.WordLines'. -/
def wordLinesUptoCard : Claim7 := { stood := { row := wordLinesUptoRow, standIns := [], harness := (true, "ddd1cf58b3a80ed1532dd678ab2a0c111cf9264a9041d76f09f078a5b2873b86"), looks := true }, kinds := [], alts := [], laidByText := true, laidKinds := [.data, .pinned], laidTests := true, laidLooks := .later }
def WordLinesUptoCardSaid : Prop := Claim7.holds Tryd.pinned (.plain (OpenSpec.upto wordLinesSpec)) wordLinesUptoCard

/-- THE SECOND FORM's CARD OF 'cachepotlaw25.WordQuotes'. -/
def wordQuotesUptoCard : Claim7 := { stood := { row := wordQuotesUptoRow, standIns := [], harness := (true, "ddd1cf58b3a80ed1532dd678ab2a0c111cf9264a9041d76f09f078a5b2873b86"), looks := true }, kinds := [], alts := [], laidByText := true, laidKinds := [.data, .pinned], laidTests := true, laidLooks := .later }
def WordQuotesUptoCardSaid : Prop := Claim7.holds Tryd.pinned (.plain (OpenSpec.upto wordQuotesSpec)) wordQuotesUptoCard

/-- THE SECOND FORM's CARD OF 'cachepotlaw25.WordBack'. -/
def wordBackUptoCard : Claim7 := { stood := { row := wordBackUptoRow, standIns := [], harness := (true, "ddd1cf58b3a80ed1532dd678ab2a0c111cf9264a9041d76f09f078a5b2873b86"), looks := true }, kinds := [], alts := [], laidByText := true, laidKinds := [.data, .pinned], laidTests := true, laidLooks := .later }
def WordBackUptoCardSaid : Prop := Claim7.holds Tryd.pinned (.plain (OpenSpec.upto wordBackSpec)) wordBackUptoCard

/-- THE SECOND FORM's CARD OF 'cachepotlaw25.WordPlain'. -/
def wordPlainUptoCard : Claim7 := { stood := { row := wordPlainUptoRow, standIns := [], harness := (true, "ddd1cf58b3a80ed1532dd678ab2a0c111cf9264a9041d76f09f078a5b2873b86"), looks := true }, kinds := [], alts := [], laidByText := true, laidKinds := [.data, .pinned], laidTests := true, laidLooks := .later }
def WordPlainUptoCardSaid : Prop := Claim7.holds Tryd.pinned (.plain (OpenSpec.upto wordPlainSpec)) wordPlainUptoCard

/-- THE SECOND FORM's CARD OF 'cachepotlaw21.LedgerLines'. -/
def ledgerLinesUptoCard : Claim7 := { stood := { row := ledgerLinesUptoRow, standIns := [], harness := (true, "ddd1cf58b3a80ed1532dd678ab2a0c111cf9264a9041d76f09f078a5b2873b86"), looks := true }, kinds := [], alts := [], laidByText := true, laidKinds := [.data, .data, .data], laidTests := true, laidLooks := .later }
def LedgerLinesUptoCardSaid : Prop := Claim7.holds Tryd.pinned (.plain (OpenSpec.upto ledgerLinesSpec)) ledgerLinesUptoCard

/-- THE SECOND FORM's CARD OF 'cachepotlaw21.LedgerParts'. -/
def ledgerPartsUptoCard : Claim7 := { stood := { row := ledgerPartsUptoRow, standIns := [], harness := (true, "ddd1cf58b3a80ed1532dd678ab2a0c111cf9264a9041d76f09f078a5b2873b86"), looks := true }, kinds := [], alts := [], laidByText := true, laidKinds := [.data, .data, .data, .data], laidTests := true, laidLooks := .later }
def LedgerPartsUptoCardSaid : Prop := Claim7.holds Tryd.pinned (.plain (OpenSpec.upto ledgerPartsSpec)) ledgerPartsUptoCard

/-- THE SECOND FORM's CARD OF 'cachepotlaw21.LedgerReplays'. -/
def ledgerReplaysUptoCard : Claim7 := { stood := { row := ledgerReplaysUptoRow, standIns := [], harness := (true, "ddd1cf58b3a80ed1532dd678ab2a0c111cf9264a9041d76f09f078a5b2873b86"), looks := true }, kinds := [], alts := [], laidByText := true, laidKinds := [.data, .data, .data, .data], laidTests := true, laidLooks := .later }
def LedgerReplaysUptoCardSaid : Prop := Claim7.holds Tryd.pinned (.plain (OpenSpec.upto ledgerReplaysSpec)) ledgerReplaysUptoCard

/-- THE SECOND FORM's CARD OF 'cachepotlaw21.LedgerAny'. -/
def ledgerAnyUptoCard : Claim7 := { stood := { row := ledgerAnyUptoRow, standIns := [], harness := (true, "ddd1cf58b3a80ed1532dd678ab2a0c111cf9264a9041d76f09f078a5b2873b86"), looks := true }, kinds := [], alts := [], laidByText := true, laidKinds := [.data, .data, .data], laidTests := true, laidLooks := .later }
def LedgerAnyUptoCardSaid : Prop := Claim7.holds Tryd.pinned (.plain (OpenSpec.upto ledgerAnySpec)) ledgerAnyUptoCard

/-- THE SECOND FORM's CARD OF 'cachepotlaw21.LedgerRuns'. -/
def ledgerRunsUptoCard : Claim7 := { stood := { row := ledgerRunsUptoRow, standIns := [], harness := (true, "ddd1cf58b3a80ed1532dd678ab2a0c111cf9264a9041d76f09f078a5b2873b86"), looks := true }, kinds := [], alts := [], laidByText := true, laidKinds := [.data, .data, .data, .data], laidTests := true, laidLooks := .later }
def LedgerRunsUptoCardSaid : Prop := Claim7.holds Tryd.pinned (.plain (OpenSpec.upto ledgerRunsSpec)) ledgerRunsUptoCard

/-- THE SECOND FORM's CARD OF 'cachepotlaw26.StepParses'. -/
def stepParsesUptoCard : Claim7 := { stood := { row := stepParsesUptoRow, standIns := [], harness := (true, "ddd1cf58b3a80ed1532dd678ab2a0c111cf9264a9041d76f09f078a5b2873b86"), looks := true }, kinds := [], alts := [], laidByText := true, laidKinds := [.data, .data, .data, .data, .data, .sentinel, .sentinel, .pinned], laidTests := true, laidLooks := .later }
def StepParsesUptoCardSaid : Prop := Claim7.holds Tryd.pinned (.plain (OpenSpec.upto stepParsesSpec)) stepParsesUptoCard

/-- THE SECOND FORM's CARD OF 'cachepotlaw26.StepPrints'. -/
def stepPrintsUptoCard : Claim7 := { stood := { row := stepPrintsUptoRow, standIns := [], harness := (true, "ddd1cf58b3a80ed1532dd678ab2a0c111cf9264a9041d76f09f078a5b2873b86"), looks := true }, kinds := [], alts := [], laidByText := true, laidKinds := [.data, .data, .data, .data, .data, .sentinel, .sentinel, .pinned], laidTests := true, laidLooks := .later }
def StepPrintsUptoCardSaid : Prop := Claim7.holds Tryd.pinned (.plain (OpenSpec.upto stepPrintsSpec)) stepPrintsUptoCard

/-- THE SECOND FORM's CARD OF 'cachepotlaw26.StepBack'. -/
def stepBackUptoCard : Claim7 := { stood := { row := stepBackUptoRow, standIns := [], harness := (true, "ddd1cf58b3a80ed1532dd678ab2a0c111cf9264a9041d76f09f078a5b2873b86"), looks := true }, kinds := [], alts := [], laidByText := true, laidKinds := [.data, .data, .data, .data, .sentinel, .sentinel, .pinned], laidTests := true, laidLooks := .later }
def StepBackUptoCardSaid : Prop := Claim7.holds Tryd.pinned (.plain (OpenSpec.upto stepBackSpec)) stepBackUptoCard

/-- THE SECOND FORM's CARD OF 'cachepotlaw26.StepWords'. -/
def stepWordsUptoCard : Claim7 := { stood := { row := stepWordsUptoRow, standIns := [], harness := (true, "ddd1cf58b3a80ed1532dd678ab2a0c111cf9264a9041d76f09f078a5b2873b86"), looks := true }, kinds := [], alts := [], laidByText := true, laidKinds := [.data, .data, .data, .data, .data, .data, .sentinel, .sentinel, .pinned], laidTests := true, laidLooks := .later }
def StepWordsUptoCardSaid : Prop := Claim7.holds Tryd.pinned (.plain (OpenSpec.upto stepWordsSpec)) stepWordsUptoCard

/-- THE SECOND FORM's CARD OF 'cachepotlaw26.StepBounds'. -/
def stepBoundsUptoCard : Claim7 := { stood := { row := stepBoundsUptoRow, standIns := [], harness := (true, "ddd1cf58b3a80ed1532dd678ab2a0c111cf9264a9041d76f09f078a5b2873b86"), looks := true }, kinds := [], alts := [], laidByText := true, laidKinds := [.data, .data, .data, .data, .sentinel, .sentinel, .pinned], laidTests := true, laidLooks := .later }
def StepBoundsUptoCardSaid : Prop := Claim7.holds Tryd.pinned (.plain (OpenSpec.upto stepBoundsSpec)) stepBoundsUptoCard
end Rows
end Go.Proofs.YtfaelejeihmgcaaDoor

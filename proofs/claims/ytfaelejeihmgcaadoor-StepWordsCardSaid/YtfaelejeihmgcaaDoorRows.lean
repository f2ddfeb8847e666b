/-
  NARROWER THAN 'FOR EVERY INPUT', by the rows' own cells (each row's printed sentence says how): WordSplits: laid · WordBent: laid · WordLines: laid · WordQuotes: laid · WordBack: laid · WordPlain: laid · LedgerLines: laid · LedgerParts: laid · LedgerReplays: laid · LedgerAny: laid · LedgerRuns: laid · StepParses: laid · StepPrints: laid · StepBack: laid · StepWords: laid · StepBounds: laid.
  DERIVED. THE GIVEN ROWS OF THIS SEAT. 16 by the template 'for every input the law returns true; each argument reads behind the call as it read before'; 0 by the template 'total and deterministic' (their statements: YtfaelejeihmgcaaDoorTotals.lean).
  GIVEN WITH THE SEED: the statements are not yours to turn. If you find one false, say at which input.
  Laid BY PROGRAM, IN A SANDBOX (cutbox-rows.mjs): the forced cells as the released guide's own fill.sh prints them over the translation 80fb17a89741c891… (all of the seat's roots in one cut). By AI agents, Wed Nov 11 2026. No macro, syntax, notation, axiom, sorry.
-/
import Derived.Test.YtfaelejeihmgcaaDoorChecked
import GoSem.PinnedTables
import GoSem.Claim
import GoSem.ClaimJoined
import GoSem.ClaimMapViews
import Derived.JoinedTies
import Derived.KernelRfl
namespace Go.Proofs.YtfaelejeihmgcaaDoor
/- THE CELL 'sum', in the pinned program and in every row, IS THE sha256 OF THE DUMP (.gsa) THAT YtfaelejeihmgcaaDoorProg.lean LOADS. Nothing in Lean hashes anything: it is a label: what it is worth is what the hold of that sum in a sandbox is worth. -/
noncomputable def Tryd.pinned : Pinned := { name := "ytfaelejeihmgcaadoor", sum := "80fb17a89741c8911a3dcee8fb7e7108b0367cd9f12d68715fabcfcbf1aea4a1", checked := Tryd.checked }
namespace Rows
def none {H : Type} : Left H := { results := [], args := [] }

/- WHAT THE LISTED PACKAGE-LEVEL VARIABLES READ AS WHEN THE CALL BEGINS. Each datum BY PROGRAM (the guide's laid-datum.mjs) off the statement by which the dump's own 'gosem.cut.vars' lays the variable. In a bare row this is a premise. The card (YtfaelejeihmgcaaDoorCards.lean) ties it to the program's text. -/
def laid_unicode_utf8_acceptRanges {H : Type} : DataW H := .agg [.agg [.lit (.int .u8 128), .lit (.int .u8 191)], .agg [.lit (.int .u8 160), .lit (.int .u8 191)], .agg [.lit (.int .u8 128), .lit (.int .u8 159)], .agg [.lit (.int .u8 144), .lit (.int .u8 191)], .agg [.lit (.int .u8 128), .lit (.int .u8 143)], .agg [.lit (.int .u8 0), .lit (.int .u8 0)], .agg [.lit (.int .u8 0), .lit (.int .u8 0)], .agg [.lit (.int .u8 0), .lit (.int .u8 0)], .agg [.lit (.int .u8 0), .lit (.int .u8 0)], .agg [.lit (.int .u8 0), .lit (.int .u8 0)], .agg [.lit (.int .u8 0), .lit (.int .u8 0)], .agg [.lit (.int .u8 0), .lit (.int .u8 0)], .agg [.lit (.int .u8 0), .lit (.int .u8 0)], .agg [.lit (.int .u8 0), .lit (.int .u8 0)], .agg [.lit (.int .u8 0), .lit (.int .u8 0)], .agg [.lit (.int .u8 0), .lit (.int .u8 0)]]
/-- One of Go's own tables, pinned by name: the form's constant. -/
def laid_unicode_utf8_first : DataW Unit := Go.Pinned.utf8First
def laid_math_bits_deBruijn32tab {H : Type} : DataW H := .agg [.lit (.int .u8 0), .lit (.int .u8 1), .lit (.int .u8 28), .lit (.int .u8 2), .lit (.int .u8 29), .lit (.int .u8 14), .lit (.int .u8 24), .lit (.int .u8 3), .lit (.int .u8 30), .lit (.int .u8 22), .lit (.int .u8 20), .lit (.int .u8 15), .lit (.int .u8 25), .lit (.int .u8 17), .lit (.int .u8 4), .lit (.int .u8 8), .lit (.int .u8 31), .lit (.int .u8 27), .lit (.int .u8 13), .lit (.int .u8 23), .lit (.int .u8 21), .lit (.int .u8 19), .lit (.int .u8 16), .lit (.int .u8 7), .lit (.int .u8 26), .lit (.int .u8 12), .lit (.int .u8 18), .lit (.int .u8 6), .lit (.int .u8 11), .lit (.int .u8 5), .lit (.int .u8 10), .lit (.int .u8 9)]
def laid_math_bits_deBruijn64tab {H : Type} : DataW H := .agg [.lit (.int .u8 0), .lit (.int .u8 1), .lit (.int .u8 56), .lit (.int .u8 2), .lit (.int .u8 57), .lit (.int .u8 49), .lit (.int .u8 28), .lit (.int .u8 3), .lit (.int .u8 61), .lit (.int .u8 58), .lit (.int .u8 42), .lit (.int .u8 50), .lit (.int .u8 38), .lit (.int .u8 29), .lit (.int .u8 17), .lit (.int .u8 4), .lit (.int .u8 62), .lit (.int .u8 47), .lit (.int .u8 59), .lit (.int .u8 36), .lit (.int .u8 45), .lit (.int .u8 43), .lit (.int .u8 51), .lit (.int .u8 22), .lit (.int .u8 53), .lit (.int .u8 39), .lit (.int .u8 33), .lit (.int .u8 30), .lit (.int .u8 24), .lit (.int .u8 18), .lit (.int .u8 12), .lit (.int .u8 5), .lit (.int .u8 63), .lit (.int .u8 55), .lit (.int .u8 48), .lit (.int .u8 27), .lit (.int .u8 60), .lit (.int .u8 41), .lit (.int .u8 37), .lit (.int .u8 16), .lit (.int .u8 46), .lit (.int .u8 35), .lit (.int .u8 44), .lit (.int .u8 21), .lit (.int .u8 52), .lit (.int .u8 32), .lit (.int .u8 23), .lit (.int .u8 11), .lit (.int .u8 54), .lit (.int .u8 26), .lit (.int .u8 40), .lit (.int .u8 15), .lit (.int .u8 34), .lit (.int .u8 20), .lit (.int .u8 31), .lit (.int .u8 10), .lit (.int .u8 25), .lit (.int .u8 14), .lit (.int .u8 19), .lit (.int .u8 9), .lit (.int .u8 13), .lit (.int .u8 8), .lit (.int .u8 7), .lit (.int .u8 6)]
def laid_internal_strconv_uint64pow10 {H : Type} : DataW H := .agg [.lit (.int .u64 1), .lit (.int .u64 10), .lit (.int .u64 100), .lit (.int .u64 1000), .lit (.int .u64 10000), .lit (.int .u64 100000), .lit (.int .u64 1000000), .lit (.int .u64 10000000), .lit (.int .u64 100000000), .lit (.int .u64 1000000000), .lit (.int .u64 10000000000), .lit (.int .u64 100000000000), .lit (.int .u64 1000000000000), .lit (.int .u64 10000000000000), .lit (.int .u64 100000000000000), .lit (.int .u64 1000000000000000), .lit (.int .u64 10000000000000000), .lit (.int .u64 100000000000000000), .lit (.int .u64 1000000000000000000), .lit (.int .u64 10000000000000000000)]
def laid_cachepot_cachepothand_names {H : Type} : DataW H := .agg [.lit (.string [97]), .lit (.string [98]), .lit (.string [99]), .lit (.string [97, 98]), .lit (.string [107, 49]), .lit (.string [107, 50]), .lit (.string [107, 51]), .lit (.string [195, 169]), .lit (.string [195, 169, 97]), .lit (.string [240, 159, 152, 128]), .lit (.string [42]), .lit (.string [122, 122])]
def laid_cachepot_cachepotref3_words {H : Type} : DataW H := .agg [.lit (.string []), .lit (.string [98, 101, 103, 105, 110]), .lit (.string [112, 117, 116]), .lit (.string [100, 101, 108]), .lit (.string [103, 101, 116]), .lit (.string [99, 111, 109, 109, 105, 116]), .lit (.string [97, 98, 111, 114, 116]), .lit (.string [101, 118, 105, 99, 116]), .lit (.string [102, 105, 110, 100]), .lit (.string [112, 117, 114, 103, 101]), .lit (.string [102, 108, 117, 115, 104]), .lit (.string [102, 117, 115, 101]), .lit (.string [99, 114, 97, 115, 104]), .lit (.string [114, 111, 116]), .lit (.string [111, 112, 101, 110])]
def laid_strconv_ErrRange {H : Type} : DataW H := .iface "*errors.errorString" (.ptr (.agg [.lit (.string [118, 97, 108, 117, 101, 32, 111, 117, 116, 32, 111, 102, 32, 114, 97, 110, 103, 101])]))
def laid_strconv_ErrSyntax {H : Type} : DataW H := .iface "*errors.errorString" (.ptr (.agg [.lit (.string [105, 110, 118, 97, 108, 105, 100, 32, 115, 121, 110, 116, 97, 120])]))

/-- 'cachepotlaw25.WordSplits': WHATEVER THE INPUT: true; the input reads as it did. -/
def wordSplitsSpec : ChangeSpec := { name := "wordSplits", fn := fun _ => fun
  | [d] => { results := [.lit (.bool true)], args := [d] }
  | _ => none }
def wordSplitsRow : OpenClaim := { program := "ytfaelejeihmgcaadoor", sum := "80fb17a89741c8911a3dcee8fb7e7108b0367cd9f12d68715fabcfcbf1aea4a1", func := "cachepot/cachepotlaw25.WordSplits", spec := "wordSplits", inPlace := ["internal/abi.NoEscape"], named := ["unicode/utf8.first", "unicode/utf8.acceptRanges"], apart := false, laid := [("unicode/utf8.acceptRanges", laid_unicode_utf8_acceptRanges), ("unicode/utf8.first", laid_unicode_utf8_first)] }
def WordSplitsSaid : Prop := wordSplitsRow.holds Tryd.pinned (OpenSpec.ofChange wordSplitsSpec)

/-- ITS FALSE NEIGHBOUR: 'it returns false'. Refute it at one input. -/
def wordSplitsWrong : ChangeSpec := { name := "wordSplits", fn := fun _ => fun
  | [d] => { results := [.lit (.bool false)], args := [d] }
  | _ => none }
def WordSplitsWrongFalsely : Prop := wordSplitsRow.holds Tryd.pinned (OpenSpec.ofChange wordSplitsWrong)

/-- 'cachepotlaw25.WordBent': WHATEVER THE INPUT: true; the input reads as it did. -/
def wordBentSpec : ChangeSpec := { name := "wordBent", fn := fun _ => fun
  | [d1, d2, d3, d4] => { results := [.lit (.bool true)], args := [d1, d2, d3, d4] }
  | _ => none }
def wordBentRow : OpenClaim := { program := "ytfaelejeihmgcaadoor", sum := "80fb17a89741c8911a3dcee8fb7e7108b0367cd9f12d68715fabcfcbf1aea4a1", func := "cachepot/cachepotlaw25.WordBent", spec := "wordBent", inPlace := ["internal/abi.NoEscape"], named := ["unicode/utf8.first", "unicode/utf8.acceptRanges"], apart := false, laid := [("unicode/utf8.acceptRanges", laid_unicode_utf8_acceptRanges), ("unicode/utf8.first", laid_unicode_utf8_first)] }
def WordBentSaid : Prop := wordBentRow.holds Tryd.pinned (OpenSpec.ofChange wordBentSpec)

/-- ITS FALSE NEIGHBOUR: 'it returns false'. Refute it at one input. -/
def wordBentWrong : ChangeSpec := { name := "wordBent", fn := fun _ => fun
  | [d1, d2, d3, d4] => { results := [.lit (.bool false)], args := [d1, d2, d3, d4] }
  | _ => none }
def WordBentWrongFalsely : Prop := wordBentRow.holds Tryd.pinned (OpenSpec.ofChange wordBentWrong)

/-- 'cachepotlaw25.WordLines': WHATEVER THE INPUT: true; the input reads as it did. -/
def wordLinesSpec : ChangeSpec := { name := "wordLines", fn := fun _ => fun
  | [d1, d2] => { results := [.lit (.bool true)], args := [d1, d2] }
  | _ => none }
def wordLinesRow : OpenClaim := { program := "ytfaelejeihmgcaadoor", sum := "80fb17a89741c8911a3dcee8fb7e7108b0367cd9f12d68715fabcfcbf1aea4a1", func := "cachepot/cachepotlaw25.WordLines", spec := "wordLines", inPlace := ["internal/abi.NoEscape"], named := ["unicode/utf8.first", "unicode/utf8.acceptRanges"], apart := false, laid := [("unicode/utf8.acceptRanges", laid_unicode_utf8_acceptRanges), ("unicode/utf8.first", laid_unicode_utf8_first)] }
def WordLinesSaid : Prop := wordLinesRow.holds Tryd.pinned (OpenSpec.ofChange wordLinesSpec)

/-- ITS FALSE NEIGHBOUR: 'it returns false'. Refute it at one input. -/
def wordLinesWrong : ChangeSpec := { name := "wordLines", fn := fun _ => fun
  | [d1, d2] => { results := [.lit (.bool false)], args := [d1, d2] }
  | _ => none }
def WordLinesWrongFalsely : Prop := wordLinesRow.holds Tryd.pinned (OpenSpec.ofChange wordLinesWrong)

/-- 'cachepotlaw25.WordQuotes': WHATEVER THE INPUT: true; the input reads as it did. -/
def wordQuotesSpec : ChangeSpec := { name := "wordQuotes", fn := fun _ => fun
  | [d1, d2] => { results := [.lit (.bool true)], args := [d1, d2] }
  | _ => none }
def wordQuotesRow : OpenClaim := { program := "ytfaelejeihmgcaadoor", sum := "80fb17a89741c8911a3dcee8fb7e7108b0367cd9f12d68715fabcfcbf1aea4a1", func := "cachepot/cachepotlaw25.WordQuotes", spec := "wordQuotes", inPlace := ["internal/abi.NoEscape", "internal/bytealg.MakeNoZero"], named := ["unicode/utf8.first", "unicode/utf8.acceptRanges"], apart := false, laid := [("unicode/utf8.acceptRanges", laid_unicode_utf8_acceptRanges), ("unicode/utf8.first", laid_unicode_utf8_first)] }
def WordQuotesSaid : Prop := wordQuotesRow.holds Tryd.pinned (OpenSpec.ofChange wordQuotesSpec)

/-- ITS FALSE NEIGHBOUR: 'it returns false'. Refute it at one input. -/
def wordQuotesWrong : ChangeSpec := { name := "wordQuotes", fn := fun _ => fun
  | [d1, d2] => { results := [.lit (.bool false)], args := [d1, d2] }
  | _ => none }
def WordQuotesWrongFalsely : Prop := wordQuotesRow.holds Tryd.pinned (OpenSpec.ofChange wordQuotesWrong)

/-- 'cachepotlaw25.WordBack': WHATEVER THE INPUT: true; the input reads as it did. -/
def wordBackSpec : ChangeSpec := { name := "wordBack", fn := fun _ => fun
  | [d] => { results := [.lit (.bool true)], args := [d] }
  | _ => none }
def wordBackRow : OpenClaim := { program := "ytfaelejeihmgcaadoor", sum := "80fb17a89741c8911a3dcee8fb7e7108b0367cd9f12d68715fabcfcbf1aea4a1", func := "cachepot/cachepotlaw25.WordBack", spec := "wordBack", inPlace := ["internal/abi.NoEscape", "internal/bytealg.MakeNoZero"], named := ["unicode/utf8.first", "unicode/utf8.acceptRanges"], apart := false, laid := [("unicode/utf8.acceptRanges", laid_unicode_utf8_acceptRanges), ("unicode/utf8.first", laid_unicode_utf8_first)] }
def WordBackSaid : Prop := wordBackRow.holds Tryd.pinned (OpenSpec.ofChange wordBackSpec)

/-- ITS FALSE NEIGHBOUR: 'it returns false'. Refute it at one input. -/
def wordBackWrong : ChangeSpec := { name := "wordBack", fn := fun _ => fun
  | [d] => { results := [.lit (.bool false)], args := [d] }
  | _ => none }
def WordBackWrongFalsely : Prop := wordBackRow.holds Tryd.pinned (OpenSpec.ofChange wordBackWrong)

/-- 'cachepotlaw25.WordPlain': WHATEVER THE INPUT: true; the input reads as it did. -/
def wordPlainSpec : ChangeSpec := { name := "wordPlain", fn := fun _ => fun
  | [d1, d2] => { results := [.lit (.bool true)], args := [d1, d2] }
  | _ => none }
def wordPlainRow : OpenClaim := { program := "ytfaelejeihmgcaadoor", sum := "80fb17a89741c8911a3dcee8fb7e7108b0367cd9f12d68715fabcfcbf1aea4a1", func := "cachepot/cachepotlaw25.WordPlain", spec := "wordPlain", inPlace := ["internal/abi.NoEscape", "internal/bytealg.MakeNoZero"], named := ["unicode/utf8.first", "unicode/utf8.acceptRanges"], apart := false, laid := [("unicode/utf8.acceptRanges", laid_unicode_utf8_acceptRanges), ("unicode/utf8.first", laid_unicode_utf8_first)] }
def WordPlainSaid : Prop := wordPlainRow.holds Tryd.pinned (OpenSpec.ofChange wordPlainSpec)

/-- ITS FALSE NEIGHBOUR: 'it returns false'. Refute it at one input. -/
def wordPlainWrong : ChangeSpec := { name := "wordPlain", fn := fun _ => fun
  | [d1, d2] => { results := [.lit (.bool false)], args := [d1, d2] }
  | _ => none }
def WordPlainWrongFalsely : Prop := wordPlainRow.holds Tryd.pinned (OpenSpec.ofChange wordPlainWrong)

/-- 'cachepotlaw21.LedgerLines': WHATEVER THE INPUT: true; the input reads as it did. -/
def ledgerLinesSpec : ChangeSpec := { name := "ledgerLines", fn := fun _ => fun
  | [d] => { results := [.lit (.bool true)], args := [d] }
  | _ => none }
def ledgerLinesRow : OpenClaim := { program := "ytfaelejeihmgcaadoor", sum := "80fb17a89741c8911a3dcee8fb7e7108b0367cd9f12d68715fabcfcbf1aea4a1", func := "cachepot/cachepotlaw21.LedgerLines", spec := "ledgerLines", inPlace := ["internal/abi.NoEscape", "internal/bytealg.MakeNoZero"], recurses := true, named := ["internal/strconv.uint64pow10", "math/bits.deBruijn32tab", "math/bits.deBruijn64tab"], apart := false, laid := [("math/bits.deBruijn32tab", laid_math_bits_deBruijn32tab), ("math/bits.deBruijn64tab", laid_math_bits_deBruijn64tab), ("internal/strconv.uint64pow10", laid_internal_strconv_uint64pow10)] }
def LedgerLinesSaid : Prop := ledgerLinesRow.holds Tryd.pinned (OpenSpec.ofChange ledgerLinesSpec)

/-- ITS FALSE NEIGHBOUR: 'it returns false'. Refute it at one input. -/
def ledgerLinesWrong : ChangeSpec := { name := "ledgerLines", fn := fun _ => fun
  | [d] => { results := [.lit (.bool false)], args := [d] }
  | _ => none }
def LedgerLinesWrongFalsely : Prop := ledgerLinesRow.holds Tryd.pinned (OpenSpec.ofChange ledgerLinesWrong)

/-- 'cachepotlaw21.LedgerParts': WHATEVER THE INPUT: true; the input reads as it did. -/
def ledgerPartsSpec : ChangeSpec := { name := "ledgerParts", fn := fun _ => fun
  | [d1, d2, d3] => { results := [.lit (.bool true)], args := [d1, d2, d3] }
  | _ => none }
def ledgerPartsRow : OpenClaim := { program := "ytfaelejeihmgcaadoor", sum := "80fb17a89741c8911a3dcee8fb7e7108b0367cd9f12d68715fabcfcbf1aea4a1", func := "cachepot/cachepotlaw21.LedgerParts", spec := "ledgerParts", inPlace := ["internal/abi.NoEscape", "internal/bytealg.MakeNoZero"], named := ["cachepot/cachepothand.names", "internal/strconv.uint64pow10", "math/bits.deBruijn32tab", "math/bits.deBruijn64tab"], apart := false, laid := [("cachepot/cachepothand.names", laid_cachepot_cachepothand_names), ("math/bits.deBruijn32tab", laid_math_bits_deBruijn32tab), ("math/bits.deBruijn64tab", laid_math_bits_deBruijn64tab), ("internal/strconv.uint64pow10", laid_internal_strconv_uint64pow10)] }
def LedgerPartsSaid : Prop := ledgerPartsRow.holds Tryd.pinned (OpenSpec.ofChange ledgerPartsSpec)

/-- ITS FALSE NEIGHBOUR: 'it returns false'. Refute it at one input. -/
def ledgerPartsWrong : ChangeSpec := { name := "ledgerParts", fn := fun _ => fun
  | [d1, d2, d3] => { results := [.lit (.bool false)], args := [d1, d2, d3] }
  | _ => none }
def LedgerPartsWrongFalsely : Prop := ledgerPartsRow.holds Tryd.pinned (OpenSpec.ofChange ledgerPartsWrong)

/-- 'cachepotlaw21.LedgerReplays': WHATEVER THE INPUT: true; the input reads as it did. -/
def ledgerReplaysSpec : ChangeSpec := { name := "ledgerReplays", fn := fun _ => fun
  | [d1, d2] => { results := [.lit (.bool true)], args := [d1, d2] }
  | _ => none }
def ledgerReplaysRow : OpenClaim := { program := "ytfaelejeihmgcaadoor", sum := "80fb17a89741c8911a3dcee8fb7e7108b0367cd9f12d68715fabcfcbf1aea4a1", func := "cachepot/cachepotlaw21.LedgerReplays", spec := "ledgerReplays", inPlace := ["internal/abi.NoEscape", "internal/bytealg.MakeNoZero"], named := ["cachepot/cachepothand.names", "internal/strconv.uint64pow10", "math/bits.deBruijn32tab", "math/bits.deBruijn64tab"], apart := false, laid := [("cachepot/cachepothand.names", laid_cachepot_cachepothand_names), ("math/bits.deBruijn32tab", laid_math_bits_deBruijn32tab), ("math/bits.deBruijn64tab", laid_math_bits_deBruijn64tab), ("internal/strconv.uint64pow10", laid_internal_strconv_uint64pow10)] }
def LedgerReplaysSaid : Prop := ledgerReplaysRow.holds Tryd.pinned (OpenSpec.ofChange ledgerReplaysSpec)

/-- ITS FALSE NEIGHBOUR: 'it returns false'. Refute it at one input. -/
def ledgerReplaysWrong : ChangeSpec := { name := "ledgerReplays", fn := fun _ => fun
  | [d1, d2] => { results := [.lit (.bool false)], args := [d1, d2] }
  | _ => none }
def LedgerReplaysWrongFalsely : Prop := ledgerReplaysRow.holds Tryd.pinned (OpenSpec.ofChange ledgerReplaysWrong)

/-- 'cachepotlaw21.LedgerAny': WHATEVER THE INPUT: true; the input reads as it did. -/
def ledgerAnySpec : ChangeSpec := { name := "ledgerAny", fn := fun _ => fun
  | [d] => { results := [.lit (.bool true)], args := [d] }
  | _ => none }
def ledgerAnyRow : OpenClaim := { program := "ytfaelejeihmgcaadoor", sum := "80fb17a89741c8911a3dcee8fb7e7108b0367cd9f12d68715fabcfcbf1aea4a1", func := "cachepot/cachepotlaw21.LedgerAny", spec := "ledgerAny", inPlace := ["internal/abi.NoEscape", "internal/bytealg.MakeNoZero"], named := ["internal/strconv.uint64pow10", "math/bits.deBruijn32tab", "math/bits.deBruijn64tab"], apart := false, laid := [("math/bits.deBruijn32tab", laid_math_bits_deBruijn32tab), ("math/bits.deBruijn64tab", laid_math_bits_deBruijn64tab), ("internal/strconv.uint64pow10", laid_internal_strconv_uint64pow10)] }
def LedgerAnySaid : Prop := ledgerAnyRow.holds Tryd.pinned (OpenSpec.ofChange ledgerAnySpec)

/-- ITS FALSE NEIGHBOUR: 'it returns false'. Refute it at one input. -/
def ledgerAnyWrong : ChangeSpec := { name := "ledgerAny", fn := fun _ => fun
  | [d] => { results := [.lit (.bool false)], args := [d] }
  | _ => none }
def LedgerAnyWrongFalsely : Prop := ledgerAnyRow.holds Tryd.pinned (OpenSpec.ofChange ledgerAnyWrong)

/-- 'cachepotlaw21.LedgerRuns': WHATEVER THE INPUT: true; the input reads as it did. -/
def ledgerRunsSpec : ChangeSpec := { name := "ledgerRuns", fn := fun _ => fun
  | [d] => { results := [.lit (.bool true)], args := [d] }
  | _ => none }
def ledgerRunsRow : OpenClaim := { program := "ytfaelejeihmgcaadoor", sum := "80fb17a89741c8911a3dcee8fb7e7108b0367cd9f12d68715fabcfcbf1aea4a1", func := "cachepot/cachepotlaw21.LedgerRuns", spec := "ledgerRuns", inPlace := ["internal/abi.NoEscape", "internal/bytealg.MakeNoZero"], named := ["cachepot/cachepothand.names", "internal/strconv.uint64pow10", "math/bits.deBruijn32tab", "math/bits.deBruijn64tab"], apart := false, laid := [("cachepot/cachepothand.names", laid_cachepot_cachepothand_names), ("math/bits.deBruijn32tab", laid_math_bits_deBruijn32tab), ("math/bits.deBruijn64tab", laid_math_bits_deBruijn64tab), ("internal/strconv.uint64pow10", laid_internal_strconv_uint64pow10)] }
def LedgerRunsSaid : Prop := ledgerRunsRow.holds Tryd.pinned (OpenSpec.ofChange ledgerRunsSpec)

/-- ITS FALSE NEIGHBOUR: 'it returns false'. Refute it at one input. -/
def ledgerRunsWrong : ChangeSpec := { name := "ledgerRuns", fn := fun _ => fun
  | [d] => { results := [.lit (.bool false)], args := [d] }
  | _ => none }
def LedgerRunsWrongFalsely : Prop := ledgerRunsRow.holds Tryd.pinned (OpenSpec.ofChange ledgerRunsWrong)

/-- 'cachepotlaw26.StepParses': WHATEVER THE INPUT: true; the input reads as it did. -/
def stepParsesSpec : ChangeSpec := { name := "stepParses", fn := fun _ => fun
  | [d] => { results := [.lit (.bool true)], args := [d] }
  | _ => none }
def stepParsesRow : OpenClaim := { program := "ytfaelejeihmgcaadoor", sum := "80fb17a89741c8911a3dcee8fb7e7108b0367cd9f12d68715fabcfcbf1aea4a1", func := "cachepot/cachepotlaw26.StepParses", spec := "stepParses", inPlace := ["internal/abi.NoEscape"], named := ["unicode/utf8.first", "unicode/utf8.acceptRanges", "strconv.ErrSyntax", "strconv.ErrRange", "internal/strconv.uint64pow10", "math/bits.deBruijn32tab", "math/bits.deBruijn64tab", "cachepot/cachepotref3.words"], apart := false, laid := [("cachepot/cachepotref3.words", laid_cachepot_cachepotref3_words), ("math/bits.deBruijn32tab", laid_math_bits_deBruijn32tab), ("math/bits.deBruijn64tab", laid_math_bits_deBruijn64tab), ("internal/strconv.uint64pow10", laid_internal_strconv_uint64pow10), ("unicode/utf8.acceptRanges", laid_unicode_utf8_acceptRanges), ("strconv.ErrRange", laid_strconv_ErrRange), ("strconv.ErrSyntax", laid_strconv_ErrSyntax), ("unicode/utf8.first", laid_unicode_utf8_first)] }
def StepParsesSaid : Prop := stepParsesRow.holds Tryd.pinned (OpenSpec.ofChange stepParsesSpec)

/-- ITS FALSE NEIGHBOUR: 'it returns false'. Refute it at one input. -/
def stepParsesWrong : ChangeSpec := { name := "stepParses", fn := fun _ => fun
  | [d] => { results := [.lit (.bool false)], args := [d] }
  | _ => none }
def StepParsesWrongFalsely : Prop := stepParsesRow.holds Tryd.pinned (OpenSpec.ofChange stepParsesWrong)

/-- 'cachepotlaw26.StepPrints': WHATEVER THE INPUT: true; the input reads as it did. -/
def stepPrintsSpec : ChangeSpec := { name := "stepPrints", fn := fun _ => fun
  | [d1, d2] => { results := [.lit (.bool true)], args := [d1, d2] }
  | _ => none }
def stepPrintsRow : OpenClaim := { program := "ytfaelejeihmgcaadoor", sum := "80fb17a89741c8911a3dcee8fb7e7108b0367cd9f12d68715fabcfcbf1aea4a1", func := "cachepot/cachepotlaw26.StepPrints", spec := "stepPrints", inPlace := ["internal/abi.NoEscape", "internal/bytealg.MakeNoZero"], recurses := true, named := ["internal/strconv.uint64pow10", "math/bits.deBruijn32tab", "math/bits.deBruijn64tab", "unicode/utf8.first", "unicode/utf8.acceptRanges", "cachepot/cachepotref3.words", "strconv.ErrSyntax", "strconv.ErrRange"], apart := false, laid := [("cachepot/cachepotref3.words", laid_cachepot_cachepotref3_words), ("math/bits.deBruijn32tab", laid_math_bits_deBruijn32tab), ("math/bits.deBruijn64tab", laid_math_bits_deBruijn64tab), ("internal/strconv.uint64pow10", laid_internal_strconv_uint64pow10), ("unicode/utf8.acceptRanges", laid_unicode_utf8_acceptRanges), ("strconv.ErrRange", laid_strconv_ErrRange), ("strconv.ErrSyntax", laid_strconv_ErrSyntax), ("unicode/utf8.first", laid_unicode_utf8_first)] }
def StepPrintsSaid : Prop := stepPrintsRow.holds Tryd.pinned (OpenSpec.ofChange stepPrintsSpec)

/-- ITS FALSE NEIGHBOUR: 'it returns false'. Refute it at one input. -/
def stepPrintsWrong : ChangeSpec := { name := "stepPrints", fn := fun _ => fun
  | [d1, d2] => { results := [.lit (.bool false)], args := [d1, d2] }
  | _ => none }
def StepPrintsWrongFalsely : Prop := stepPrintsRow.holds Tryd.pinned (OpenSpec.ofChange stepPrintsWrong)

/-- 'cachepotlaw26.StepBack': WHATEVER THE INPUT: true; the input reads as it did. -/
def stepBackSpec : ChangeSpec := { name := "stepBack", fn := fun _ => fun
  | [d] => { results := [.lit (.bool true)], args := [d] }
  | _ => none }
def stepBackRow : OpenClaim := { program := "ytfaelejeihmgcaadoor", sum := "80fb17a89741c8911a3dcee8fb7e7108b0367cd9f12d68715fabcfcbf1aea4a1", func := "cachepot/cachepotlaw26.StepBack", spec := "stepBack", inPlace := ["internal/abi.NoEscape", "internal/bytealg.MakeNoZero"], named := ["internal/strconv.uint64pow10", "math/bits.deBruijn32tab", "math/bits.deBruijn64tab", "unicode/utf8.first", "unicode/utf8.acceptRanges", "strconv.ErrSyntax", "strconv.ErrRange"], apart := false, laid := [("math/bits.deBruijn32tab", laid_math_bits_deBruijn32tab), ("math/bits.deBruijn64tab", laid_math_bits_deBruijn64tab), ("internal/strconv.uint64pow10", laid_internal_strconv_uint64pow10), ("unicode/utf8.acceptRanges", laid_unicode_utf8_acceptRanges), ("strconv.ErrRange", laid_strconv_ErrRange), ("strconv.ErrSyntax", laid_strconv_ErrSyntax), ("unicode/utf8.first", laid_unicode_utf8_first)] }
def StepBackSaid : Prop := stepBackRow.holds Tryd.pinned (OpenSpec.ofChange stepBackSpec)

/-- ITS FALSE NEIGHBOUR: 'it returns false'. Refute it at one input. -/
def stepBackWrong : ChangeSpec := { name := "stepBack", fn := fun _ => fun
  | [d] => { results := [.lit (.bool false)], args := [d] }
  | _ => none }
def StepBackWrongFalsely : Prop := stepBackRow.holds Tryd.pinned (OpenSpec.ofChange stepBackWrong)

/-- 'cachepotlaw26.StepWords': WHATEVER THE INPUT: true; the input reads as it did. -/
def stepWordsSpec : ChangeSpec := { name := "stepWords", fn := fun _ => fun
  | [d1, d2, d3, d4] => { results := [.lit (.bool true)], args := [d1, d2, d3, d4] }
  | _ => none }
def stepWordsRow : OpenClaim := { program := "ytfaelejeihmgcaadoor", sum := "80fb17a89741c8911a3dcee8fb7e7108b0367cd9f12d68715fabcfcbf1aea4a1", func := "cachepot/cachepotlaw26.StepWords", spec := "stepWords", inPlace := ["internal/abi.NoEscape", "internal/bytealg.MakeNoZero"], recurses := true, named := ["cachepot/cachepothand.names", "unicode/utf8.first", "unicode/utf8.acceptRanges", "strconv.ErrSyntax", "strconv.ErrRange", "internal/strconv.uint64pow10", "math/bits.deBruijn32tab", "math/bits.deBruijn64tab", "cachepot/cachepotref3.words"], apart := false, laid := [("cachepot/cachepothand.names", laid_cachepot_cachepothand_names), ("cachepot/cachepotref3.words", laid_cachepot_cachepotref3_words), ("math/bits.deBruijn32tab", laid_math_bits_deBruijn32tab), ("math/bits.deBruijn64tab", laid_math_bits_deBruijn64tab), ("internal/strconv.uint64pow10", laid_internal_strconv_uint64pow10), ("unicode/utf8.acceptRanges", laid_unicode_utf8_acceptRanges), ("strconv.ErrRange", laid_strconv_ErrRange), ("strconv.ErrSyntax", laid_strconv_ErrSyntax), ("unicode/utf8.first", laid_unicode_utf8_first)] }
def StepWordsSaid : Prop := stepWordsRow.holds Tryd.pinned (OpenSpec.ofChange stepWordsSpec)

/-- ITS FALSE NEIGHBOUR: 'it returns false'. Refute it at one input. -/
def stepWordsWrong : ChangeSpec := { name := "stepWords", fn := fun _ => fun
  | [d1, d2, d3, d4] => { results := [.lit (.bool false)], args := [d1, d2, d3, d4] }
  | _ => none }
def StepWordsWrongFalsely : Prop := stepWordsRow.holds Tryd.pinned (OpenSpec.ofChange stepWordsWrong)

/-- 'cachepotlaw26.StepBounds': WHATEVER THE INPUT: true; the input reads as it did. -/
def stepBoundsSpec : ChangeSpec := { name := "stepBounds", fn := fun _ => fun
  | [d] => { results := [.lit (.bool true)], args := [d] }
  | _ => none }
def stepBoundsRow : OpenClaim := { program := "ytfaelejeihmgcaadoor", sum := "80fb17a89741c8911a3dcee8fb7e7108b0367cd9f12d68715fabcfcbf1aea4a1", func := "cachepot/cachepotlaw26.StepBounds", spec := "stepBounds", inPlace := ["internal/abi.NoEscape", "internal/bytealg.MakeNoZero"], recurses := true, named := ["internal/strconv.uint64pow10", "math/bits.deBruijn32tab", "math/bits.deBruijn64tab", "unicode/utf8.first", "unicode/utf8.acceptRanges", "strconv.ErrSyntax", "strconv.ErrRange"], apart := false, laid := [("math/bits.deBruijn32tab", laid_math_bits_deBruijn32tab), ("math/bits.deBruijn64tab", laid_math_bits_deBruijn64tab), ("internal/strconv.uint64pow10", laid_internal_strconv_uint64pow10), ("unicode/utf8.acceptRanges", laid_unicode_utf8_acceptRanges), ("strconv.ErrRange", laid_strconv_ErrRange), ("strconv.ErrSyntax", laid_strconv_ErrSyntax), ("unicode/utf8.first", laid_unicode_utf8_first)] }
def StepBoundsSaid : Prop := stepBoundsRow.holds Tryd.pinned (OpenSpec.ofChange stepBoundsSpec)

/-- ITS FALSE NEIGHBOUR: 'it returns false'. Refute it at one input. -/
def stepBoundsWrong : ChangeSpec := { name := "stepBounds", fn := fun _ => fun
  | [d] => { results := [.lit (.bool false)], args := [d] }
  | _ => none }
def StepBoundsWrongFalsely : Prop := stepBoundsRow.holds Tryd.pinned (OpenSpec.ofChange stepBoundsWrong)

/- THE SECOND FORM. 'bulk': how many values and letters a reading holds, each counted each time it is reached (what is shared counts as often as it is met; a slice's spare places count too). A statement '..UptoSaid' is the law's where the arguments, and the package variables that the reading takes, are together of bulk at most 1048576: NARROWER than '..Said'. Prove '..Said' where nothing that the law and all that it calls make is longer than what came in: it says more and counts as full. Else prove '..UptoSaid'. A law counts once. -/
mutual
def uptoBulk {H : Type} : DataW H → Nat
  | .lit (.string bytes) => bytes.length + 1
  | .lit _ => 1
  | .nil => 1
  | .ptr d => uptoBulk d + 1
  | .slice elems spare => uptoBulkAll elems + uptoBulkAll spare + 1
  | .agg parts => uptoBulkAll parts + 1
  | .iface _ d => uptoBulk d + 1
  | .map entries => uptoBulkEntries entries + 1
  | .held _ => 1
def uptoBulkAll {H : Type} : List (DataW H) → Nat
  | [] => 0
  | d :: r => uptoBulk d + uptoBulkAll r
def uptoBulkEntries {H : Type} : List (Lit × DataW H) → Nat
  | [] => 0
  | x :: r => uptoBulkEntry x + uptoBulkEntries r
def uptoBulkEntry {H : Type} : Lit × DataW H → Nat
  | (.string bytes, d) => bytes.length + uptoBulk d + 1
  | (_, d) => uptoBulk d + 1
 end
def uptoSmall : (H : Type) → List (DataW H) → Bool := fun _ ds => decide (uptoBulkAll ds ≤ 1048576)
def OpenSpec.upto (s : _root_.Go.ChangeSpec) : _root_.Go.OpenSpec := { _root_.Go.OpenSpec.ofChange s with cond := some uptoSmall }

/-- 'cachepotlaw25.WordSplits', WHERE WHAT IT READS IS OF BULK AT MOST 1048576: true; the input reads as it did. -/
def wordSplitsUptoRow : OpenClaim := { program := "ytfaelejeihmgcaadoor", sum := "80fb17a89741c8911a3dcee8fb7e7108b0367cd9f12d68715fabcfcbf1aea4a1", func := "cachepot/cachepotlaw25.WordSplits", spec := "wordSplits", inPlace := ["internal/abi.NoEscape"], named := ["unicode/utf8.first", "unicode/utf8.acceptRanges"], apart := false, laid := [("unicode/utf8.acceptRanges", laid_unicode_utf8_acceptRanges), ("unicode/utf8.first", laid_unicode_utf8_first)], narrowed := true }
def WordSplitsUptoSaid : Prop := wordSplitsUptoRow.holds Tryd.pinned (OpenSpec.upto wordSplitsSpec)

/-- 'cachepotlaw25.WordBent', WHERE WHAT IT READS IS OF BULK AT MOST 1048576: true; the input reads as it did. -/
def wordBentUptoRow : OpenClaim := { program := "ytfaelejeihmgcaadoor", sum := "80fb17a89741c8911a3dcee8fb7e7108b0367cd9f12d68715fabcfcbf1aea4a1", func := "cachepot/cachepotlaw25.WordBent", spec := "wordBent", inPlace := ["internal/abi.NoEscape"], named := ["unicode/utf8.first", "unicode/utf8.acceptRanges"], apart := false, laid := [("unicode/utf8.acceptRanges", laid_unicode_utf8_acceptRanges), ("unicode/utf8.first", laid_unicode_utf8_first)], narrowed := true }
def WordBentUptoSaid : Prop := wordBentUptoRow.holds Tryd.pinned (OpenSpec.upto wordBentSpec)

/-- 'cachepotlaw25.WordLines', WHERE WHAT IT READS IS OF BULK AT MOST 1048576: true; the input reads as it did. -/
def wordLinesUptoRow : OpenClaim := { program := "ytfaelejeihmgcaadoor", sum := "80fb17a89741c8911a3dcee8fb7e7108b0367cd9f12d68715fabcfcbf1aea4a1", func := "cachepot/cachepotlaw25.WordLines", spec := "wordLines", inPlace := ["internal/abi.NoEscape"], named := ["unicode/utf8.first", "unicode/utf8.acceptRanges"], apart := false, laid := [("unicode/utf8.acceptRanges", laid_unicode_utf8_acceptRanges), ("unicode/utf8.first", laid_unicode_utf8_first)], narrowed := true }
def WordLinesUptoSaid : Prop := wordLinesUptoRow.holds Tryd.pinned (OpenSpec.upto wordLinesSpec)

/-- 'cachepotlaw25.WordQuotes', WHERE WHAT IT READS IS OF BULK AT MOST 1048576: true; the input reads as it did. -/
def wordQuotesUptoRow : OpenClaim := { program := "ytfaelejeihmgcaadoor", sum := "80fb17a89741c8911a3dcee8fb7e7108b0367cd9f12d68715fabcfcbf1aea4a1", func := "cachepot/cachepotlaw25.WordQuotes", spec := "wordQuotes", inPlace := ["internal/abi.NoEscape", "internal/bytealg.MakeNoZero"], named := ["unicode/utf8.first", "unicode/utf8.acceptRanges"], apart := false, laid := [("unicode/utf8.acceptRanges", laid_unicode_utf8_acceptRanges), ("unicode/utf8.first", laid_unicode_utf8_first)], narrowed := true }
def WordQuotesUptoSaid : Prop := wordQuotesUptoRow.holds Tryd.pinned (OpenSpec.upto wordQuotesSpec)

/-- 'cachepotlaw25.WordBack', WHERE WHAT IT READS IS OF BULK AT MOST 1048576: true; the input reads as it did. -/
def wordBackUptoRow : OpenClaim := { program := "ytfaelejeihmgcaadoor", sum := "80fb17a89741c8911a3dcee8fb7e7108b0367cd9f12d68715fabcfcbf1aea4a1", func := "cachepot/cachepotlaw25.WordBack", spec := "wordBack", inPlace := ["internal/abi.NoEscape", "internal/bytealg.MakeNoZero"], named := ["unicode/utf8.first", "unicode/utf8.acceptRanges"], apart := false, laid := [("unicode/utf8.acceptRanges", laid_unicode_utf8_acceptRanges), ("unicode/utf8.first", laid_unicode_utf8_first)], narrowed := true }
def WordBackUptoSaid : Prop := wordBackUptoRow.holds Tryd.pinned (OpenSpec.upto wordBackSpec)

/-- 'cachepotlaw25.WordPlain', WHERE WHAT IT READS IS OF BULK AT MOST 1048576: true; the input reads as it did. -/
def wordPlainUptoRow : OpenClaim := { program := "ytfaelejeihmgcaadoor", sum := "80fb17a89741c8911a3dcee8fb7e7108b0367cd9f12d68715fabcfcbf1aea4a1", func := "cachepot/cachepotlaw25.WordPlain", spec := "wordPlain", inPlace := ["internal/abi.NoEscape", "internal/bytealg.MakeNoZero"], named := ["unicode/utf8.first", "unicode/utf8.acceptRanges"], apart := false, laid := [("unicode/utf8.acceptRanges", laid_unicode_utf8_acceptRanges), ("unicode/utf8.first", laid_unicode_utf8_first)], narrowed := true }
def WordPlainUptoSaid : Prop := wordPlainUptoRow.holds Tryd.pinned (OpenSpec.upto wordPlainSpec)

/-- 'cachepotlaw21.LedgerLines', WHERE WHAT IT READS IS OF BULK AT MOST 1048576: true; the input reads as it did. -/
def ledgerLinesUptoRow : OpenClaim := { program := "ytfaelejeihmgcaadoor", sum := "80fb17a89741c8911a3dcee8fb7e7108b0367cd9f12d68715fabcfcbf1aea4a1", func := "cachepot/cachepotlaw21.LedgerLines", spec := "ledgerLines", inPlace := ["internal/abi.NoEscape", "internal/bytealg.MakeNoZero"], recurses := true, named := ["internal/strconv.uint64pow10", "math/bits.deBruijn32tab", "math/bits.deBruijn64tab"], apart := false, laid := [("math/bits.deBruijn32tab", laid_math_bits_deBruijn32tab), ("math/bits.deBruijn64tab", laid_math_bits_deBruijn64tab), ("internal/strconv.uint64pow10", laid_internal_strconv_uint64pow10)], narrowed := true }
def LedgerLinesUptoSaid : Prop := ledgerLinesUptoRow.holds Tryd.pinned (OpenSpec.upto ledgerLinesSpec)

/-- 'cachepotlaw21.LedgerParts', WHERE WHAT IT READS IS OF BULK AT MOST 1048576: true; the input reads as it did. -/
def ledgerPartsUptoRow : OpenClaim := { program := "ytfaelejeihmgcaadoor", sum := "80fb17a89741c8911a3dcee8fb7e7108b0367cd9f12d68715fabcfcbf1aea4a1", func := "cachepot/cachepotlaw21.LedgerParts", spec := "ledgerParts", inPlace := ["internal/abi.NoEscape", "internal/bytealg.MakeNoZero"], named := ["cachepot/cachepothand.names", "internal/strconv.uint64pow10", "math/bits.deBruijn32tab", "math/bits.deBruijn64tab"], apart := false, laid := [("cachepot/cachepothand.names", laid_cachepot_cachepothand_names), ("math/bits.deBruijn32tab", laid_math_bits_deBruijn32tab), ("math/bits.deBruijn64tab", laid_math_bits_deBruijn64tab), ("internal/strconv.uint64pow10", laid_internal_strconv_uint64pow10)], narrowed := true }
def LedgerPartsUptoSaid : Prop := ledgerPartsUptoRow.holds Tryd.pinned (OpenSpec.upto ledgerPartsSpec)

/-- 'cachepotlaw21.LedgerReplays', WHERE WHAT IT READS IS OF BULK AT MOST 1048576: true; the input reads as it did. -/
def ledgerReplaysUptoRow : OpenClaim := { program := "ytfaelejeihmgcaadoor", sum := "80fb17a89741c8911a3dcee8fb7e7108b0367cd9f12d68715fabcfcbf1aea4a1", func := "cachepot/cachepotlaw21.LedgerReplays", spec := "ledgerReplays", inPlace := ["internal/abi.NoEscape", "internal/bytealg.MakeNoZero"], named := ["cachepot/cachepothand.names", "internal/strconv.uint64pow10", "math/bits.deBruijn32tab", "math/bits.deBruijn64tab"], apart := false, laid := [("cachepot/cachepothand.names", laid_cachepot_cachepothand_names), ("math/bits.deBruijn32tab", laid_math_bits_deBruijn32tab), ("math/bits.deBruijn64tab", laid_math_bits_deBruijn64tab), ("internal/strconv.uint64pow10", laid_internal_strconv_uint64pow10)], narrowed := true }
def LedgerReplaysUptoSaid : Prop := ledgerReplaysUptoRow.holds Tryd.pinned (OpenSpec.upto ledgerReplaysSpec)

/-- 'cachepotlaw21.LedgerAny', WHERE WHAT IT READS IS OF BULK AT MOST 1048576: true; the input reads as it did. -/
def ledgerAnyUptoRow : OpenClaim := { program := "ytfaelejeihmgcaadoor", sum := "80fb17a89741c8911a3dcee8fb7e7108b0367cd9f12d68715fabcfcbf1aea4a1", func := "cachepot/cachepotlaw21.LedgerAny", spec := "ledgerAny", inPlace := ["internal/abi.NoEscape", "internal/bytealg.MakeNoZero"], named := ["internal/strconv.uint64pow10", "math/bits.deBruijn32tab", "math/bits.deBruijn64tab"], apart := false, laid := [("math/bits.deBruijn32tab", laid_math_bits_deBruijn32tab), ("math/bits.deBruijn64tab", laid_math_bits_deBruijn64tab), ("internal/strconv.uint64pow10", laid_internal_strconv_uint64pow10)], narrowed := true }
def LedgerAnyUptoSaid : Prop := ledgerAnyUptoRow.holds Tryd.pinned (OpenSpec.upto ledgerAnySpec)

/-- 'cachepotlaw21.LedgerRuns', WHERE WHAT IT READS IS OF BULK AT MOST 1048576: true; the input reads as it did. -/
def ledgerRunsUptoRow : OpenClaim := { program := "ytfaelejeihmgcaadoor", sum := "80fb17a89741c8911a3dcee8fb7e7108b0367cd9f12d68715fabcfcbf1aea4a1", func := "cachepot/cachepotlaw21.LedgerRuns", spec := "ledgerRuns", inPlace := ["internal/abi.NoEscape", "internal/bytealg.MakeNoZero"], named := ["cachepot/cachepothand.names", "internal/strconv.uint64pow10", "math/bits.deBruijn32tab", "math/bits.deBruijn64tab"], apart := false, laid := [("cachepot/cachepothand.names", laid_cachepot_cachepothand_names), ("math/bits.deBruijn32tab", laid_math_bits_deBruijn32tab), ("math/bits.deBruijn64tab", laid_math_bits_deBruijn64tab), ("internal/strconv.uint64pow10", laid_internal_strconv_uint64pow10)], narrowed := true }
def LedgerRunsUptoSaid : Prop := ledgerRunsUptoRow.holds Tryd.pinned (OpenSpec.upto ledgerRunsSpec)

/-- 'cachepotlaw26.StepParses', WHERE WHAT IT READS IS OF BULK AT MOST 1048576: true; the input reads as it did. -/
def stepParsesUptoRow : OpenClaim := { program := "ytfaelejeihmgcaadoor", sum := "80fb17a89741c8911a3dcee8fb7e7108b0367cd9f12d68715fabcfcbf1aea4a1", func := "cachepot/cachepotlaw26.StepParses", spec := "stepParses", inPlace := ["internal/abi.NoEscape"], named := ["unicode/utf8.first", "unicode/utf8.acceptRanges", "strconv.ErrSyntax", "strconv.ErrRange", "internal/strconv.uint64pow10", "math/bits.deBruijn32tab", "math/bits.deBruijn64tab", "cachepot/cachepotref3.words"], apart := false, laid := [("cachepot/cachepotref3.words", laid_cachepot_cachepotref3_words), ("math/bits.deBruijn32tab", laid_math_bits_deBruijn32tab), ("math/bits.deBruijn64tab", laid_math_bits_deBruijn64tab), ("internal/strconv.uint64pow10", laid_internal_strconv_uint64pow10), ("unicode/utf8.acceptRanges", laid_unicode_utf8_acceptRanges), ("strconv.ErrRange", laid_strconv_ErrRange), ("strconv.ErrSyntax", laid_strconv_ErrSyntax), ("unicode/utf8.first", laid_unicode_utf8_first)], narrowed := true }
def StepParsesUptoSaid : Prop := stepParsesUptoRow.holds Tryd.pinned (OpenSpec.upto stepParsesSpec)

/-- 'cachepotlaw26.StepPrints', WHERE WHAT IT READS IS OF BULK AT MOST 1048576: true; the input reads as it did. -/
def stepPrintsUptoRow : OpenClaim := { program := "ytfaelejeihmgcaadoor", sum := "80fb17a89741c8911a3dcee8fb7e7108b0367cd9f12d68715fabcfcbf1aea4a1", func := "cachepot/cachepotlaw26.StepPrints", spec := "stepPrints", inPlace := ["internal/abi.NoEscape", "internal/bytealg.MakeNoZero"], recurses := true, named := ["internal/strconv.uint64pow10", "math/bits.deBruijn32tab", "math/bits.deBruijn64tab", "unicode/utf8.first", "unicode/utf8.acceptRanges", "cachepot/cachepotref3.words", "strconv.ErrSyntax", "strconv.ErrRange"], apart := false, laid := [("cachepot/cachepotref3.words", laid_cachepot_cachepotref3_words), ("math/bits.deBruijn32tab", laid_math_bits_deBruijn32tab), ("math/bits.deBruijn64tab", laid_math_bits_deBruijn64tab), ("internal/strconv.uint64pow10", laid_internal_strconv_uint64pow10), ("unicode/utf8.acceptRanges", laid_unicode_utf8_acceptRanges), ("strconv.ErrRange", laid_strconv_ErrRange), ("strconv.ErrSyntax", laid_strconv_ErrSyntax), ("unicode/utf8.first", laid_unicode_utf8_first)], narrowed := true }
def StepPrintsUptoSaid : Prop := stepPrintsUptoRow.holds Tryd.pinned (OpenSpec.upto stepPrintsSpec)

/-- 'cachepotlaw26.StepBack', WHERE WHAT IT READS IS OF BULK AT MOST 1048576: true; the input reads as it did. -/
def stepBackUptoRow : OpenClaim := { program := "ytfaelejeihmgcaadoor", sum := "80fb17a89741c8911a3dcee8fb7e7108b0367cd9f12d68715fabcfcbf1aea4a1", func := "cachepot/cachepotlaw26.StepBack", spec := "stepBack", inPlace := ["internal/abi.NoEscape", "internal/bytealg.MakeNoZero"], named := ["internal/strconv.uint64pow10", "math/bits.deBruijn32tab", "math/bits.deBruijn64tab", "unicode/utf8.first", "unicode/utf8.acceptRanges", "strconv.ErrSyntax", "strconv.ErrRange"], apart := false, laid := [("math/bits.deBruijn32tab", laid_math_bits_deBruijn32tab), ("math/bits.deBruijn64tab", laid_math_bits_deBruijn64tab), ("internal/strconv.uint64pow10", laid_internal_strconv_uint64pow10), ("unicode/utf8.acceptRanges", laid_unicode_utf8_acceptRanges), ("strconv.ErrRange", laid_strconv_ErrRange), ("strconv.ErrSyntax", laid_strconv_ErrSyntax), ("unicode/utf8.first", laid_unicode_utf8_first)], narrowed := true }
def StepBackUptoSaid : Prop := stepBackUptoRow.holds Tryd.pinned (OpenSpec.upto stepBackSpec)

/-- 'cachepotlaw26.StepWords', WHERE WHAT IT READS IS OF BULK AT MOST 1048576: true; the input reads as it did. -/
def stepWordsUptoRow : OpenClaim := { program := "ytfaelejeihmgcaadoor", sum := "80fb17a89741c8911a3dcee8fb7e7108b0367cd9f12d68715fabcfcbf1aea4a1", func := "cachepot/cachepotlaw26.StepWords", spec := "stepWords", inPlace := ["internal/abi.NoEscape", "internal/bytealg.MakeNoZero"], recurses := true, named := ["cachepot/cachepothand.names", "unicode/utf8.first", "unicode/utf8.acceptRanges", "strconv.ErrSyntax", "strconv.ErrRange", "internal/strconv.uint64pow10", "math/bits.deBruijn32tab", "math/bits.deBruijn64tab", "cachepot/cachepotref3.words"], apart := false, laid := [("cachepot/cachepothand.names", laid_cachepot_cachepothand_names), ("cachepot/cachepotref3.words", laid_cachepot_cachepotref3_words), ("math/bits.deBruijn32tab", laid_math_bits_deBruijn32tab), ("math/bits.deBruijn64tab", laid_math_bits_deBruijn64tab), ("internal/strconv.uint64pow10", laid_internal_strconv_uint64pow10), ("unicode/utf8.acceptRanges", laid_unicode_utf8_acceptRanges), ("strconv.ErrRange", laid_strconv_ErrRange), ("strconv.ErrSyntax", laid_strconv_ErrSyntax), ("unicode/utf8.first", laid_unicode_utf8_first)], narrowed := true }
def StepWordsUptoSaid : Prop := stepWordsUptoRow.holds Tryd.pinned (OpenSpec.upto stepWordsSpec)

/-- 'cachepotlaw26.StepBounds', WHERE WHAT IT READS IS OF BULK AT MOST 1048576: true; the input reads as it did. -/
def stepBoundsUptoRow : OpenClaim := { program := "ytfaelejeihmgcaadoor", sum := "80fb17a89741c8911a3dcee8fb7e7108b0367cd9f12d68715fabcfcbf1aea4a1", func := "cachepot/cachepotlaw26.StepBounds", spec := "stepBounds", inPlace := ["internal/abi.NoEscape", "internal/bytealg.MakeNoZero"], recurses := true, named := ["internal/strconv.uint64pow10", "math/bits.deBruijn32tab", "math/bits.deBruijn64tab", "unicode/utf8.first", "unicode/utf8.acceptRanges", "strconv.ErrSyntax", "strconv.ErrRange"], apart := false, laid := [("math/bits.deBruijn32tab", laid_math_bits_deBruijn32tab), ("math/bits.deBruijn64tab", laid_math_bits_deBruijn64tab), ("internal/strconv.uint64pow10", laid_internal_strconv_uint64pow10), ("unicode/utf8.acceptRanges", laid_unicode_utf8_acceptRanges), ("strconv.ErrRange", laid_strconv_ErrRange), ("strconv.ErrSyntax", laid_strconv_ErrSyntax), ("unicode/utf8.first", laid_unicode_utf8_first)], narrowed := true }
def StepBoundsUptoSaid : Prop := stepBoundsUptoRow.holds Tryd.pinned (OpenSpec.upto stepBoundsSpec)

end Rows
end Go.Proofs.YtfaelejeihmgcaaDoor

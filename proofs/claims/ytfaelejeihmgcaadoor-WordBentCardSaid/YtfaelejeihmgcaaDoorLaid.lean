/-
  What the rows of the word laws list (unicode/utf8's two tables) gives the walks; a witness' world.
-/
import Derived.Test.YtfaelejeihmgcaaDoorTabs
import Derived.Test.YtfaelejeihmgcaaDoorCards
import Derived.Test.YtfaelejeihmgcaaDoorTie
import Derived.Lib.LaidU8T
import Derived.PinnedBridge
import Derived.LaidMore
import Derived.Lay
import Derived.ProofKit
import Derived.OpenShut
import Derived.SevenTiedAt
import Derived.Stop.Joined
import Derived.Deep.DeepHandedRow
namespace Go.Proofs.YtfaelejeihmgcaaDoor
open Go.ChangeShapes Go.WideShapes Go.ChangeAt Go.RowKit Go.Lib Go.Shelf

theorem own : ownKnob Tryd.prog.godebug = none := by kernel_rfl

/-- this dump's numbers for unicode/utf8's tables and types -/
def u8ren : Ren where
  f := fun x => x
  t := fun x => if x = 5 then 5 else if x = 119 then 159 else if x = 138 then 161 else if x = 139 then 162 else x
  g := fun x => if x = 3 then 2 else if x = 4 then 3 else x

theorem u8types : U8Types Tryd.prog u8ren where
  t5 := by kernel_rfl
  t119 := by kernel_rfl
  t138 := by kernel_rfl
  t139 := by kernel_rfl
theorem u8extra : U8Extra Tryd.prog u8ren where
  n3 := by kernel_rfl
  n4 := by kernel_rfl
  y3 := by kernel_rfl
  y4 := by kernel_rfl
  c5 := by kernel_rfl
  c119 := by kernel_rfl
  c138 := by kernel_rfl

theorem accept_eq : (Rows.laid_unicode_utf8_acceptRanges : DataW Unit) = acceptData := by kernel_rfl

/-- What a row's list gives: the tables lie. -/
theorem tabs_of_reads {w : World} (h1 : VarReads Tryd.prog w "unicode/utf8.first" Rows.laid_unicode_utf8_first) (h2 : VarReads Tryd.prog w "unicode/utf8.acceptRanges" Rows.laid_unicode_utf8_acceptRanges) : Tabs w :=
  ⟨utf8Tabs_of_readsT u8types u8extra (Pinned.utf8First_eq ▸ h1) (accept_eq ▸ h2)⟩

/-- the two tables, as the word laws' rows list them -/
def laidWords : List (String × DataW Unit) := [("unicode/utf8.acceptRanges", Rows.laid_unicode_utf8_acceptRanges), ("unicode/utf8.first", Rows.laid_unicode_utf8_first)]
theorem tabs_of_laid {w : World} (h : laidMetH Tryd.prog laidWords w) : Tabs w := by
  rw [MakeChecks.laidMetH_plain _ _ _ (by kernel_rfl)] at h
  exact tabs_of_reads (laidMet.reads h (List.Mem.tail _ (List.Mem.head _))) (laidMet.reads h (List.Mem.head _))
theorem words_met (os : Os) (args : Array Value) : laidMetH Tryd.prog laidWords ((World.laidAll Tryd.prog os laidWords).forCall (fun _ _ => 0) ⟨#[], args, []⟩).memory := by
  rw [MakeChecks.laidMetH_plain _ _ _ (by kernel_rfl)]
  exact laidMet_laidAll _ (by kernel_rfl) (by kernel_rfl)

end Go.Proofs.YtfaelejeihmgcaaDoor

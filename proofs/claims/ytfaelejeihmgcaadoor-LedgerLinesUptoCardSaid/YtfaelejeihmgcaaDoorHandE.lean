/-
  strings.Join by the shelf's contract, in the form of the printed functions.
-/
import Derived.Test.YtfaelejeihmgcaaDoorWd0
import Derived.Test.YtfaelejeihmgcaaDoorShelf
namespace Go.Proofs.YtfaelejeihmgcaaDoor.Wd
open Go.RowKit Go.Proofs.YtfaelejeihmgcaaDoorW.PrintWords Go.Proofs.YtfaelejeihmgcaaDoorW.PrintLast

def joinB (l : List ByteArray) (sep : ByteArray) : List UInt8 := Lib.join (l.map (·.data.toList)) sep.data.toList
def strings_Join.f (l0 : List ByteArray) (a1 : ByteArray) : Option ByteArray :=
  if l0.length ≤ 1099511627776 ∧ (joinB l0 a1).length ≤ 1099511627776 then some ⟨(joinB l0 a1).toArray⟩ else none

theorem add_zero' (ad : Addr) : ad.add 0 = ad := by simp [Addr.add]

theorem strings_Join.calls (A0 : Option Addr) (c0 : Nat) (l0 : List ByteArray) (a1 : ByteArray) (r : ByteArray) (w : World) (hr0 : Kd.C Kd.string w A0 l0.length l0) (hc0 : l0.length ≤ c0) (h : strings_Join.f l0 a1 = some r) :
    Calls Tryd.prog 62 #[.slice A0 l0.length c0, .string a1] w fun e w' => e = .returned (.string r) ∧ Below w.heap.size w w' := by
  unfold strings_Join.f at h
  split at h
  · rename_i hb
    obtain rfl := Option.some.inj h
    have hr := Kd.reads_of_C (d := ByteArray.empty) hr0
    cases l0 with
    | nil =>
      refine (Tryd.strings_Join_none A0 c0 a1 w).mono ?_
      rintro e w' ⟨rfl, rfl⟩
      exact ⟨rfl, Below.refl _ _⟩
    | cons x l =>
      obtain ⟨ad, rfl, hc⟩ := hr.2.2 (by simp)
      obtain ⟨bk, o, rfl⟩ : ∃ bk o, ad = ⟨bk, o, none⟩ := by
        have h0 := hc 0 (by simp)
        rw [add_zero'] at h0
        obtain ⟨bk, o, p⟩ := ad
        cases p with
        | none => exact ⟨bk, o, rfl⟩
        | some p =>
          simp [World.cell?] at h0
          split at h0 <;> cases h0
      have hcells : ∀ (j : Nat) y, (x :: l)[j]? = some y → w.cell? ⟨bk, o + j, none⟩ = some (.string y) := by
        intro j y hj
        have hlt : j < (x :: l).length := by
          rcases Nat.lt_or_ge j (x :: l).length with h | h
          · exact h
          · rw [List.getElem?_eq_none h] at hj; cases hj
        have h1 := hc j hlt
        have e : (⟨bk, o, none⟩ : Addr).add j = ⟨bk, o + j, none⟩ := by
          unfold Addr.add
          split
          · rename_i hj0; simp_all
          · rfl
        rw [e] at h1
        rw [h1, List.getD_eq_getElem?_getD, hj]
        rfl
      refine (Tryd.strings_Join bk o c0 (x :: l) a1 w hcells ?_ (by omega) hc0 (by have := hb.2; unfold joinB at this; omega)).mono ?_
      · have := hcells 0 x rfl
        exact World.block_lt_of_cell? w _ this
      · rintro e w' ⟨rfl, h2⟩
        exact ⟨rfl, h2⟩
  · cases h

end Go.Proofs.YtfaelejeihmgcaaDoor.Wd

/-
  Plain law: the law WordBent answers true.
-/
import Derived.Test.YtfaelejeihmgcaaDoorPureD
import Derived.Test.YtfaelejeihmgcaaDoorWd8
namespace Go.Proofs.YtfaelejeihmgcaaDoor.Wd
open Go.RowKit Go.Proofs.YtfaelejeihmgcaaDoorW.PrintWords Go.Proofs.YtfaelejeihmgcaaDoorW.PrintLast Go.Proofs.YtfaelejeihmgcaaDoorW.PrintMore

theorem strOne (b : Int) : (strOfNums [b]).size = 1 := rfl

/-- THE PLAIN LAW of WordBent -/
theorem WordBent_f (l : List ByteArray) (a1 a2 a3 : Int) (k : Nat) (hk : 20000001 < k) : cachepotlaw25_WordBent.f k l a1 a2 a3 = some true := by
  have ha := alive_f k (by omega)
  have hj : ∀ x : ByteArray, x.size ≤ 1048576 → cachepotlaw25_WordBent.j0 k x = some true := by
    intro x hx
    obtain ⟨k, rfl⟩ : ∃ j, k = j + 1 := ⟨k - 1, by omega⟩
    exact WordSplits_f x hx k (by omega)
  have hT := texts_f l 8 20 k (by decide) (by omega)
  have hTl := textsL_length l 8 20
  have hTs := textsL_size l 8 20
  generalize textsL l 8 20 = t at hT hTl hTs
  have hL := joinL_len 20 t hTs
  have hJ := rJoin_f t (by omega) (fun x hx => by have := hTs x hx; omega) k (by omega)
  have hz : (⟨(joinL t).toArray⟩ : ByteArray).size ≤ 1000 := by
    rw [Lib.size_eq]
    show (joinL t).length ≤ 1000
    have : (3 * 20 + 3) * t.length ≤ 63 * 8 := Nat.mul_le_mul (by decide) hTl
    omega
  generalize (⟨(joinL t).toArray⟩ : ByteArray) = s at hJ hz
  unfold cachepotlaw25_WordBent.f
  rw [show ((8 : Nat) : Int) = 8 from rfl, show ((20 : Nat) : Int) = 20 from rfl] at hT
  rw [hT, Option.bind_some, hJ, Option.bind_some]
  by_cases h0 : s.size = 0
  · rw [if_pos ((empty_iff s).2 h0), ha]
    rfl
  · rw [if_neg (fun hh => h0 ((empty_iff s).1 hh))]
    obtain ⟨p, hp, hP⟩ := pick_f a1 s.size (by omega) (by omega)
    obtain ⟨q, hq, hQ⟩ := pick_f a2 3 (by decide) (by decide)
    rw [show ((3 : Nat) : Int) = 3 from rfl] at hQ
    rw [hP, Option.bind_some, hQ, Option.bind_some]
    have e1 : ((p : Nat) : Int).toNat = p := by omega
    have e2 : ((p + 1 : Nat) : Int).toNat = p + 1 := by omega
    have z1 : (s.extract 0 p).size = p := by simp; omega
    have z2 : (s.extract (p + 1) s.size).size = s.size - (p + 1) := by simp
    have z3 : (s.extract p s.size).size = s.size - p := by simp
    have z4 := strOne a3
    rw [e1, wn1 p (by omega), e2]
    have c1 := hj ((s.extract 0 p ++ strOfNums [a3]) ++ s.extract (p + 1) s.size) (by rw [app_size, app_size]; omega)
    have c2 := hj (s.extract 0 p ++ s.extract (p + 1) s.size) (by rw [app_size]; omega)
    have c3 := hj ((s.extract 0 p ++ strOfNums [a3]) ++ s.extract p s.size) (by rw [app_size, app_size]; omega)
    have z5 : (s.extract 0 p ++ strOfNums [a3]).size = p + 1 := by rw [app_size]; omega
    by_cases hq0 : q = 0
    · rw [if_pos (by omega), if_pos (by omega), if_pos (by omega), Option.bind_some, if_pos (by omega), if_pos (by omega), if_pos (by omega), if_pos (by omega), c1]
    · rw [if_neg (by omega)]
      by_cases hq1 : q = 1
      · rw [if_pos (by omega), if_pos (by omega), if_pos (by omega), if_pos (by omega), if_pos (by omega), if_pos (by omega), c2]
      · rw [if_neg (by omega), if_pos (by omega), if_pos (by omega), Option.bind_some, if_pos (by omega), if_pos (by omega), c3]

end Go.Proofs.YtfaelejeihmgcaaDoor.Wd

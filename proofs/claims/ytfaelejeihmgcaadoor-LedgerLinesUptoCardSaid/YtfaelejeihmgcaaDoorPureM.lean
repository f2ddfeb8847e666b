/-
  Plain Lean: whether two rows of answers are one (slices.Equal at answers).
-/
import Derived.Test.YtfaelejeihmgcaaDoorLg3
namespace Go.Proofs.YtfaelejeihmgcaaDoor.Lgx
open Go.RowKit Go.Proofs.YtfaelejeihmgcaaDoorW.PrintWords Go.Proofs.YtfaelejeihmgcaaDoorW.PrintLast

def neA (x y : S98) : Bool := !(x.f0.toList == y.f0.toList) || (!(x.f1 == y.f1) || (!(x.f2.toList == y.f2.toList) || (!(x.f3 == y.f3))))
def sameA : List S98 → List S98 → Bool
  | [], [] => true
  | x :: l, y :: l' => !neA x y && sameA l l'
  | _, _ => false

theorem rd98 {l : List S98} {k : Nat} (h : k < l.length) : rd_T98 l (k : Int) = l[k] := by
  unfold rd_T98
  rw [List.getD_eq_getElem?_getD, Int.toNat_natCast, List.getElem?_eq_getElem h]
  rfl

theorem w64 (x : Int) (h0 : 0 ≤ x) (h1 : x ≤ 9223372036854775807) : wrap64 x = x := by unfold wrap64; omega

theorem sameA_len : ∀ (l l' : List S98), sameA l l' = true → l.length = l'.length
  | [], [], _ => rfl
  | x :: l, y :: l', h => by
    simp only [sameA, Bool.and_eq_true] at h
    simp [sameA_len l l' h.2]
  | [], y :: l', h => by simp [sameA] at h
  | x :: l, [], h => by simp [sameA] at h

theorem sameA_ne (l l' : List S98) (h : ¬ l.length = l'.length) : sameA l l' = false := by
  cases hs : sameA l l'
  · rfl
  · exact absurd (sameA_len l l' hs) h

theorem api_l0 (x y : List S98) (hlen : x.length = y.length) (hb : x.length ≤ 9223372036854775806) : ∀ (d k j : Nat), x.length - j = d → j ≤ x.length → d < k → api_Answer.l0 k x y (x.length : Int) (j : Int) = some (sameA (x.drop j) (y.drop j)) := by
  intro d
  induction d with
  | zero =>
    intro k j hd hj hk
    obtain ⟨k, rfl⟩ : ∃ m, k = m + 1 := ⟨k - 1, by omega⟩
    rw [List.drop_eq_nil_of_le (by omega), List.drop_eq_nil_of_le (by omega)]
    simp only [api_Answer.l0]
    rw [if_neg (by omega)]
    rfl
  | succ d ih =>
    intro k j hd hj hk
    obtain ⟨k, rfl⟩ : ∃ m, k = m + 1 := ⟨k - 1, by omega⟩
    have h1 : j < x.length := by omega
    have h2 : j < y.length := by omega
    have hi := ih k (j + 1) (by omega) (by omega) (by omega)
    rw [List.drop_eq_getElem_cons h1, List.drop_eq_getElem_cons h2]
    simp only [api_Answer.l0]
    rw [if_pos (by omega), if_pos (by omega), if_pos (by omega), if_pos (by omega), rd98 h1, rd98 h2, w64 _ (by omega) (by omega)]
    show (if neA x[j] y[j] = true then some false else _) = _
    simp only [sameA]
    cases neA x[j] y[j]
    · rw [if_neg (by decide)]
      exact hi
    · rw [if_pos rfl]
      rfl

theorem api_f (x y : List S98) (hb : x.length ≤ 9223372036854775806) (k : Nat) (hk : x.length < k) : api_Answer.f k x y = some (sameA x y) := by
  unfold api_Answer.f
  by_cases h : x.length = y.length
  · rw [if_pos (by omega)]
    exact api_l0 x y h hb x.length k 0 (by omega) (by omega) hk
  · rw [if_neg (by omega), sameA_ne x y h]

end Go.Proofs.YtfaelejeihmgcaaDoor.Lgx

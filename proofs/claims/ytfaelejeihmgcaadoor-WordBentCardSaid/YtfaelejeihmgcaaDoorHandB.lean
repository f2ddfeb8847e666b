/-
  word.plain by hand: a range over a string's runes, each asked by word.may; in the form of the printed functions.
-/
import Derived.Test.YtfaelejeihmgcaaDoorWd1
import Derived.Test.YtfaelejeihmgcaaDoorBld
import Derived.Test.YtfaelejeihmgcaaDoorSpecW
import Derived.Lib.OthersKept
import Derived.Lib.Hide
import Derived.BigCall
import Derived.Outline
namespace Go.Proofs.YtfaelejeihmgcaaDoor.Wd
open Go.RowKit Go.Proofs.YtfaelejeihmgcaaDoorW.PrintWords Go.Proofs.YtfaelejeihmgcaaDoorW.PrintLast

theorem get_lt (t : ByteArray) (i : Nat) (h : i < t.size) : t.get! i = t[i] := by
  cases t with
  | mk d => exact getElem!_pos d i h
theorem get_ge (t : ByteArray) (i : Nat) (h : ¬ i < t.size) : t.get! i = default := by
  cases t with
  | mk d => exact getElem!_neg d i h
theorem get_extract (s : ByteArray) (i j : Nat) : (s.extract i s.size).get! j = s.get! (i + j) := by
  by_cases h : i + j < s.size
  · have h1 : j < (s.extract i s.size).size := by simp; omega
    rw [get_lt _ _ h1, get_lt _ _ h, ByteArray.getElem_extract]
  · rw [get_ge _ _ (by simp; omega), get_ge _ _ h]

theorem decode_extract (s : ByteArray) (i j : Nat) : Utf8.decode (s.extract i s.size) j = Utf8.decode s (i + j) := by
  rw [Lib.decode_at, Lib.decode_at]
  simp only [get_extract, ByteArray.size_extract, Nat.add_assoc]
  congr 1
  omega

theorem may_f (s : ByteArray) (i : Nat) (h : i < s.size) : word_may.f (s.extract i s.size) = some (mayB s i, (width s i : Int)) := by
  have e : Lib.decodeGo (s.extract i s.size) = Utf8.decode s i := by
    unfold Lib.decodeGo
    rw [if_neg (by simp; omega), decode_extract]
    rfl
  unfold word_may.f utf8_DecodeRuneInString.f
  simp only [Option.bind_some, e, mayB, width]
  generalize (Utf8.decode s i).1 = r
  generalize (Utf8.decode s i).2 = n
  unfold mayR
  repeat' split
  all_goals (simp only [Option.some.injEq, Prod.mk.injEq, and_true]; (first | (rw [Bool.eq_iff_iff]; simp; omega) | (simp; omega)))

theorem notEmpty (s : ByteArray) : (!s.toList.isEmpty) = decide (s.size ≠ 0) := by
  rw [Lib.toList_data, Lib.size_eq]
  cases s.data.toList <;> simp

theorem ret_bool {a b : Bool} (h : a = b) : Ending.returned (.bool a) = .returned (.bool b) := by rw [h]

def word_plain.f (a0 : ByteArray) : Option Bool := some (plainB a0)

set_option maxHeartbeats 2000000 in
set_option maxRecDepth 100000 in
theorem word_plain.calls (a0 : ByteArray) (r : Bool) (w : World) (h : word_plain.f a0 = some r) (hT : Tabs w) :
    Calls Tryd.prog 55 #[.string a0] w fun e w' => e = .returned (.bool r) ∧ Below w.heap.size w w' := by
  obtain rfl := Option.some.inj h
  clear h
  go_enter Tryd.func55, Tryd.ntmps55
  go_wp2
  go_loopw [] (fun wr => ∃ pos fuel : Nat, wr.heap[w.heap.size]? = some (.stringIter a0 pos) ∧ Below w.heap.size w wr ∧ Aside0 (plainFrom a0 fuel pos = plainFrom a0 a0.size 0) ∧ a0.size ≤ pos + fuel) (fun wr => a0.size - wr.iterPos w.heap.size)
  case atStart =>
    refine ⟨0, a0.size, ?_, (Below.refl _ w).alloc (Nat.le_refl _) _, ⟨rfl⟩, by omega⟩
    exact World.iter_heap w a0 0
  case round =>
    obtain ⟨pos, fuel, hit, hbw, hpl, hfu⟩ := hrel
    by_cases hp : pos < a0.size
    · have hnx : ∀ ty, (Instr.next (.pointer (some ⟨w.heap.size, 0, none⟩)) true ty).run Tryd.prog wr = _ := fun ty => Lib.run_next_any_at wr w.heap.size a0 pos ty hit hp
      have hwd := width_pos a0 pos
      have hwl := width_le a0 pos hp
      have hit2 := Lib.iterAt_heap wr w.heap.size a0 pos (pos + (Utf8.decode a0 pos).2) hit
      have hbw2 := Lib.below_iterAt hbw (k := w.heap.size) (Nat.le_refl _) a0 (pos + (Utf8.decode a0 pos).2)
      obtain ⟨f, rfl⟩ : ∃ f, fuel = f + 1 := ⟨fuel - 1, by omega⟩
      have hmf := Aside0.mk (may_f a0 pos hp)
      have hpl2 : Aside0 ((mayB a0 pos && plainFrom a0 f (pos + width a0 pos)) = plainFrom a0 a0.size 0) := ⟨by have := hpl.out; rw [plainFrom, if_pos hp] at this; exact this⟩
      clear hpl
      cases hm : mayB a0 pos
      · rw [hm] at hmf hpl2
        clear hm
        go_wp2_with fail
        refine (word_may.calls _ false (width a0 pos) _ hmf.out (hT.below hbw2)).mono ?_
        rintro e w1 ⟨rfl, hb⟩
        go_wp2
        go_ret
        refine ⟨ret_bool ?_, hbw2.trans (hb.mono (by rw [Lib.iterAt_size]; exact hbw.size))⟩
        have h1 := hpl2.out
        simp only [Bool.false_and] at h1
        simp [plainB, ← h1]
      · rw [hm] at hmf hpl2
        clear hm
        go_wp2_with fail
        refine (word_may.calls _ true (width a0 pos) _ hmf.out (hT.below hbw2)).mono ?_
        rintro e w1 ⟨rfl, hb⟩
        have hit3 : w1.heap[w.heap.size]? = some (.stringIter a0 (pos + (Utf8.decode a0 pos).2)) := by
          rw [hb.block _ (by rw [Lib.iterAt_size]; exact (Array.getElem?_eq_some_iff.1 hit).1)]; exact hit2
        have hbw3 : Below w.heap.size w w1 := hbw2.trans (hb.mono (by rw [Lib.iterAt_size]; exact hbw.size))
        go_wp2
        go_roundw
        case rel =>
          refine ⟨pos + width a0 pos, f, hit3, hbw3, ⟨?_⟩, by omega⟩
          have h1 := hpl2.out
          simpa using h1
        case measure =>
          simp only [World.iterPos, hit3, hit]
          unfold width at hwd
          omega
    · have hnx : ∀ ty, (Instr.next (.pointer (some ⟨w.heap.size, 0, none⟩)) true ty).run Tryd.prog wr = _ := fun ty => Lib.run_next_end_at wr w.heap.size a0 pos ty hit hp
      go_wp2
      go_ret
      refine ⟨ret_bool ?_, hbw⟩
      have h1 := hpl.out
      have h2 : plainFrom a0 fuel pos = true := by
        cases fuel with
        | zero => rfl
        | succ f => rw [plainFrom, if_neg hp]
      rw [plainB, ← h1, h2]
      rw [Bool.true_and, ← notEmpty]

end Go.Proofs.YtfaelejeihmgcaaDoor.Wd

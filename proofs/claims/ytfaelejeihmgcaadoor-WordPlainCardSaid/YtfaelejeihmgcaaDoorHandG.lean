/-
  keys.Right by hand: a range over a string's runes; in the form of the printed functions.
-/
import Derived.Test.YtfaelejeihmgcaaDoorHandB
namespace Go.Proofs.YtfaelejeihmgcaaDoor.Wd
open Go.RowKit Go.Proofs.YtfaelejeihmgcaaDoorW.PrintWords Go.Proofs.YtfaelejeihmgcaaDoorW.PrintLast

/-- may the rune stand in a key? -/
def rightR (r n : Nat) : Bool := !(decide (r < 33) || decide (127 ≤ r ∧ r ≤ 160) || decide (r = 65533 ∧ n = 1))
def rightFrom (s : ByteArray) : Nat → Nat → Nat → Bool
  | 0, _, n => decide (0 < n)
  | f + 1, pos, n => if pos < s.size then decide (n + 1 ≤ 12) && (rightR (Utf8.decode s pos).1 (width s pos) && rightFrom s f (pos + width s pos) (n + 1)) else decide (0 < n)
def rightB (s : ByteArray) : Bool := rightFrom s s.size 0 0
def keys_Right.f (a0 : ByteArray) : Option Bool := some (rightB a0)

theorem dec_f (s : ByteArray) (i : Nat) (h : i < s.size) : utf8_DecodeRuneInString.f (s.extract i s.size) = some (((Utf8.decode s i).1 : Int), (width s i : Int)) := by
  have e : Lib.decodeGo (s.extract i s.size) = Utf8.decode s i := by
    unfold Lib.decodeGo
    rw [if_neg (by simp; omega), decode_extract]
    rfl
  unfold utf8_DecodeRuneInString.f
  rw [e]
  rfl

set_option maxHeartbeats 2000000 in
set_option maxRecDepth 100000 in
theorem keys_Right.calls (a0 : ByteArray) (r : Bool) (w : World) (h : keys_Right.f a0 = some r) (hT : Tabs w) :
    Calls Tryd.prog 30 #[.string a0] w fun e w' => e = .returned (.bool r) ∧ Below w.heap.size w w' := by
  have hr := Aside0.mk (Option.some.inj h)
  clear h
  go_enter Tryd.func30, Tryd.ntmps30
  go_wp2
  go_loopw [3] (fun v3 wr => ∃ pos fuel n : Nat, v3 = .int .i64 (n : Int) ∧ wr.heap[w.heap.size]? = some (.stringIter a0 pos) ∧ Below w.heap.size w wr ∧ Aside0 (rightFrom a0 fuel pos n = rightB a0) ∧ a0.size ≤ pos + fuel ∧ n ≤ 12) (fun _ wr => a0.size - wr.iterPos w.heap.size)
  case atStart =>
    exact ⟨0, a0.size, 0, rfl, World.iter_heap w a0 0, (Below.refl _ w).alloc (Nat.le_refl _) _, ⟨rfl⟩, by omega, by omega⟩
  case round =>
    obtain ⟨pos, fuel, n, rfl, hit, hbw, hpl, hfu, hn12⟩ := hrel
    by_cases hp : pos < a0.size
    · have hnx : ∀ ty, (Instr.next (.pointer (some ⟨w.heap.size, 0, none⟩)) true ty).run Tryd.prog wr = _ := fun ty => Lib.run_next_any_at wr w.heap.size a0 pos ty hit hp
      have hwd := width_pos a0 pos
      have hwl := width_le a0 pos hp
      have hit2 := Lib.iterAt_heap wr w.heap.size a0 pos (pos + (Utf8.decode a0 pos).2) hit
      have hbw2 := Lib.below_iterAt hbw (k := w.heap.size) (Nat.le_refl _) a0 (pos + (Utf8.decode a0 pos).2)
      obtain ⟨f, rfl⟩ : ∃ f, fuel = f + 1 := ⟨fuel - 1, by omega⟩
      have hdf := Aside0.mk (dec_f a0 pos hp)
      have p1 := hpl.out
      rw [rightFrom, if_pos hp] at p1
      clear hpl
      have hwe : (Utf8.decode a0 pos).2 = width a0 pos := rfl
      rw [hwe] at hnx hit2 hbw2
      generalize width a0 pos = m at *
      generalize (Utf8.decode a0 pos).1 = c at *
      clear hwe
      have bad : ∀ (_ : (decide (n + 1 ≤ 12) && rightR c m) = false), r = false := by
        intro hb
        rw [← hr.out, ← p1, ← Bool.and_assoc, hb, Bool.false_and]
      have good : ∀ (_ : n + 1 ≤ 12) (_ : rightR c m = true), Aside0 (rightFrom a0 f (pos + m) (n + 1) = rightB a0) := by
        intro h1 h2
        rw [decide_eq_true h1, h2, Bool.true_and, Bool.true_and] at p1
        exact ⟨p1⟩
      clear p1
      have Bad := Lib.hid bad
      have Good := Lib.hid good
      clear bad good
      by_cases c1 : n + 1 ≤ 12
      · by_cases c2 : c < 33
        · go_wp2
          go_ret
          refine ⟨ret_bool (Bad.out (by simp [rightR, c2])).symm, hbw2⟩
        · by_cases c3 : 127 ≤ c ∧ c ≤ 160
          · obtain ⟨c3a, c3b⟩ := c3
            go_wp2
            go_ret
            refine ⟨ret_bool (Bad.out (by simp [rightR, c3a, c3b])).symm, hbw2⟩
          · by_cases c4 : c < 127
            · have c5 : ¬ c = 65533 := by omega
              go_wp2_with fail
              refine (utf8_DecodeRuneInString.calls _ (c : Int) (m : Int) _ hdf.out (hT.below hbw2)).mono ?_
              rintro e w1 ⟨rfl, hb⟩
              have hit3 : w1.heap[w.heap.size]? = some (.stringIter a0 (pos + m)) := by
                rw [hb.block _ (by rw [Lib.iterAt_size]; exact (Array.getElem?_eq_some_iff.1 hit).1)]; exact hit2
              have hbw3 : Below w.heap.size w w1 := hbw2.trans (hb.mono (by rw [Lib.iterAt_size]; exact hbw.size))
              go_wp2
              go_roundw
              case rel => exact ⟨pos + m, f, n + 1, by simp, hit3, hbw3, Good.out c1 (by simp [rightR]; omega), by omega, c1⟩
              case measure =>
                simp only [World.iterPos, hit3, hit]
                omega
            · have c4b : 160 < c := by omega
              by_cases c5 : c = 65533
              · by_cases c6 : m = 1
                · subst c5
                  subst c6
                  go_wp2_with fail
                  refine (utf8_DecodeRuneInString.calls _ 65533 1 _ hdf.out (hT.below hbw2)).mono ?_
                  rintro e w1 ⟨rfl, hb⟩
                  have hit3 : w1.heap[w.heap.size]? = some (.stringIter a0 (pos + 1)) := by
                    rw [hb.block _ (by rw [Lib.iterAt_size]; exact (Array.getElem?_eq_some_iff.1 hit).1)]; exact hit2
                  have hbw3 : Below w.heap.size w w1 := hbw2.trans (hb.mono (by rw [Lib.iterAt_size]; exact hbw.size))
                  go_wp2
                  go_ret
                  refine ⟨ret_bool (Bad.out (by simp [rightR])).symm, hbw3⟩
                · go_wp2_with fail
                  refine (utf8_DecodeRuneInString.calls _ (c : Int) (m : Int) _ hdf.out (hT.below hbw2)).mono ?_
                  rintro e w1 ⟨rfl, hb⟩
                  have hit3 : w1.heap[w.heap.size]? = some (.stringIter a0 (pos + m)) := by
                    rw [hb.block _ (by rw [Lib.iterAt_size]; exact (Array.getElem?_eq_some_iff.1 hit).1)]; exact hit2
                  have hbw3 : Below w.heap.size w w1 := hbw2.trans (hb.mono (by rw [Lib.iterAt_size]; exact hbw.size))
                  go_wp2
                  go_roundw
                  case rel => exact ⟨pos + m, f, n + 1, by simp, hit3, hbw3, Good.out c1 (by simp [rightR]; omega), by omega, c1⟩
                  case measure =>
                    simp only [World.iterPos, hit3, hit]
                    omega
              · go_wp2_with fail
                refine (utf8_DecodeRuneInString.calls _ (c : Int) (m : Int) _ hdf.out (hT.below hbw2)).mono ?_
                rintro e w1 ⟨rfl, hb⟩
                have hit3 : w1.heap[w.heap.size]? = some (.stringIter a0 (pos + m)) := by
                  rw [hb.block _ (by rw [Lib.iterAt_size]; exact (Array.getElem?_eq_some_iff.1 hit).1)]; exact hit2
                have hbw3 : Below w.heap.size w w1 := hbw2.trans (hb.mono (by rw [Lib.iterAt_size]; exact hbw.size))
                go_wp2
                go_roundw
                case rel => exact ⟨pos + m, f, n + 1, by simp, hit3, hbw3, Good.out c1 (by simp [rightR]; omega), by omega, c1⟩
                case measure =>
                  simp only [World.iterPos, hit3, hit]
                  omega
      · go_wp2
        go_ret
        refine ⟨ret_bool (Bad.out (by simp; omega)).symm, hbw2⟩
    · have hnx : ∀ ty, (Instr.next (.pointer (some ⟨w.heap.size, 0, none⟩)) true ty).run Tryd.prog wr = _ := fun ty => Lib.run_next_end_at wr w.heap.size a0 pos ty hit hp
      go_wp2
      go_ret
      refine ⟨ret_bool ?_, hbw⟩
      have h2 : rightFrom a0 fuel pos n = decide (0 < n) := by
        cases fuel with
        | zero => rfl
        | succ f => rw [rightFrom, if_neg hp]
      rw [← hr.out, ← hpl.out, h2]
end Go.Proofs.YtfaelejeihmgcaaDoor.Wd

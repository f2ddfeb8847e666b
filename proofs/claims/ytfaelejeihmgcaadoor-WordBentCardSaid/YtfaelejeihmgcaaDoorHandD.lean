/-
  word.Quote by hand: a text as a word, rune by rune into a strings.Builder; in the form of the printed functions.
-/
import Derived.Test.YtfaelejeihmgcaaDoorHandC
import Derived.StillTailTactics
import Derived.Deep.LoopGhost
namespace Go.Proofs.YtfaelejeihmgcaaDoor.Wd
open Go.RowKit Go.Proofs.YtfaelejeihmgcaaDoorW.PrintWords Go.Proofs.YtfaelejeihmgcaaDoorW.PrintLast

def word_Quote.f (a0 : ByteArray) : Option ByteArray := if a0.size ≤ 1099511627776 then some ⟨(quoteB a0).toArray⟩ else none

theorem notOwn_iter {B b : Nat} {v : Value} {l : List UInt8} {w : World} (h : Bld.Is B b v l w) {k pos : Nat} {s : ByteArray} (hk : w.heap[k]? = some (.stringIter s pos)) : some k ≠ v.ownBlock := by
  intro e
  rcases h.own.2 with ⟨hv, _⟩ | ⟨g, cap, cur, hv, hg, hc, _⟩
  · rw [hv] at e; simp [Value.ownBlock] at e
  · rw [hv] at e
    simp only [Value.ownBlock, Option.some.injEq] at e
    subst e
    rw [hk] at hc
    cases hc

theorem notOwn_mark {B b : Nat} {v : Value} {l : List UInt8} {w : World} (h : Bld.Is B b v l w) {k m : Nat} {cs : Array Value} (hk : w.heap[k]? = some (.cells cs 5 (m, m + 1))) : some k ≠ v.ownBlock := by
  intro e
  rcases h.own.2 with ⟨hv, _⟩ | ⟨g, cap, cur, hv, hg, hc, _⟩
  · rw [hv] at e; simp [Value.ownBlock] at e
  · rw [hv] at e
    simp only [Value.ownBlock, Option.some.injEq] at e
    subst e
    rw [hk] at hc
    simp at hc

theorem is_iterAt {B b : Nat} {v : Value} {l : List UInt8} {w : World} (h : Bld.Is B b v l w) {k pos : Nat} {s : ByteArray} (hk : w.heap[k]? = some (.stringIter s pos)) (q : Nat) : Bld.Is B b v l (w.iterAt k s q) := by
  have hne : ∀ i, i ≠ k → (w.iterAt k s q).heap[i]? = w.heap[i]? := fun i hi => by
    simp [World.iterAt, Ne.symm hi]
  refine h.move (hne b ?_) (fun i hi => hne i ?_)
  · intro e
    obtain ⟨p, _, hb⟩ := h.blk
    rw [e, hk] at hb
    cases hb
  · intro e
    exact notOwn_iter h hk (by rw [hi, e])

theorem is_lt_ne {B b : Nat} {v : Value} {l : List UInt8} {w : World} (h : Bld.Is B b v l w) {k pos : Nat} {s : ByteArray} (hk : w.heap[k]? = some (.stringIter s pos)) : k ≠ b := by
  rintro rfl
  obtain ⟨p, _, hb⟩ := h.blk
  rw [hk] at hb
  cases hb
theorem is_mark_ne {B b : Nat} {v : Value} {l : List UInt8} {w : World} (h : Bld.Is B b v l w) {k m : Nat} {cs : Array Value} (hk : w.heap[k]? = some (.cells cs 5 (m, m + 1))) : k ≠ b := by
  rintro rfl
  obtain ⟨p, _, hb⟩ := h.blk
  rw [hk] at hb
  simp at hb

/-- a write beside an iterator and a conversion's row of bytes -/
theorem write_it (B : Nat) (v : Value) (acc : List UInt8) (t : ByteArray) (W : World) (hI : Bld.Is B B v acc W) (hlen : acc.length + t.size ≤ 140737488355328) :
    Calls Tryd.prog 58 #[.pointer (some ⟨B, 0, none⟩), .string t] W fun (e : Ending) (w' : World) => e = .returned (.tuple #[.int .i64 t.size, .nilIface]) ∧ ∃ v', Bld.Is B B v' (acc ++ t.data.toList) w' ∧ Below B W w' ∧
      (∀ (k : Nat) (s : ByteArray) (pos : Nat), W.heap[k]? = some (Obj.stringIter s pos) → w'.heap[k]? = some (Obj.stringIter s pos)) ∧ (∀ (k m : Nat) (cs : Array Value), W.heap[k]? = some (Obj.cells cs 5 (m, m + 1)) → w'.heap[k]? = some (Obj.cells cs 5 (m, m + 1))) := by
  refine (Bld.writeString B B v acc t W hI hlen (by have := hI.lt; omega)).mono ?_
  rintro e w' ⟨rfl, v', h1, h2, h3⟩
  exact ⟨rfl, v', h1, h2, fun k s pos hk => h3 k _ hk (is_lt_ne hI hk) (notOwn_iter hI hk), fun k m cs hk => h3 k _ hk (is_mark_ne hI hk) (notOwn_mark hI hk)⟩

theorem quoteFrom_end (s : ByteArray) (fuel pos : Nat) (h : ¬ pos < s.size) : quoteFrom s fuel pos = [] := by
  cases fuel with
  | zero => rfl
  | succ f => rw [quoteFrom, if_neg h]

set_option maxRecDepth 100000 in
theorem and_nib : ∀ x : Fin 256, Go.bits .and .u8 ((x.val : Nat) : Int) 15 = ((x.val % 16 : Nat) : Int) := by decide
theorem u8_small (x : Int) (h0 : 0 ≤ x) (h1 : x < 256) : IntKind.u8.wrap x = x := IntWalk.u8_in x (by omega)
theorem hexQs_length (l : List UInt8) : (l.flatMap hexQ).length = 3 * l.length := by
  induction l with
  | nil => rfl
  | cons c l ih => rw [List.flatMap_cons, List.length_append, ih]; simp [hexQ]; omega
theorem hexQ_str (c : UInt8) : (((⟨#[92]⟩ : ByteArray) ++ (⟨#[hexD (c.toNat / 16)]⟩ : ByteArray)) ++ (⟨#[hexD (c.toNat % 16)]⟩ : ByteArray)).data.toList = hexQ c := rfl
theorem hexQ_size (c : UInt8) : (((⟨#[92]⟩ : ByteArray) ++ (⟨#[hexD (c.toNat / 16)]⟩ : ByteArray)) ++ (⟨#[hexD (c.toNat % 16)]⟩ : ByteArray)).size = 3 := rfl
abbrev DIG : ByteArray := ⟨#[48, 49, 50, 51, 52, 53, 54, 55, 56, 57, 97, 98, 99, 100, 101, 102]⟩
theorem dig_at : ∀ h : Fin 16, DIG.extract h.val (h.val + 1) = ⟨#[hexD h.val]⟩ := by decide
theorem slice_dig (n : Nat) (hn : n < 16) (x y : Int) (hx : x = n) (hy : y = n + 1) (W : World) :
    (Instr.slice 9 (.string DIG) (some (.int .u8 x)) (some (.int .u8 y)) none).run Tryd.prog W = .ok (.string ⟨#[hexD n]⟩) W := by
  subst hx; subst hy
  have := run_slice_string (P := Tryd.prog) W 9 DIG .u8 .u8 (n : Int) ((n : Int) + 1) Tryd.underlying9 (by omega) (by omega) (by show (n : Int) + 1 ≤ (16 : Nat); omega)
  have e : ((n : Int) + 1).toNat = n + 1 := by omega
  have e2 : ((n : Nat) : Int).toNat = n := by omega
  rw [e, e2, dig_at ⟨n, hn⟩] at this
  exact this

theorem ret_str {a b : ByteArray} (h : a = b) : Ending.returned (.string a) = .returned (.string b) := by rw [h]

set_option maxHeartbeats 4000000 in
set_option maxRecDepth 100000 in
theorem word_Quote.calls (a0 : ByteArray) (r : ByteArray) (w : World) (h : word_Quote.f a0 = some r) (hT : Tabs w) :
    Calls Tryd.prog 26 #[.string a0] w fun e w' => e = .returned (.string r) ∧ Below w.heap.size w w' := by
  have hs : a0.size ≤ 1099511627776 := by
    unfold word_Quote.f at h
    split at h
    · assumption
    · cases h
  have hr : Aside0 (⟨(quoteB a0).toArray⟩ = r) := ⟨by unfold word_Quote.f at h; rw [if_pos hs] at h; exact Option.some.inj h⟩
  clear h
  cases hpl : plainB a0
  · have hpl2 := Aside0.mk hpl
    have hcall : Aside0 (word_plain.f a0 = some false) := ⟨by rw [word_plain.f, hpl]⟩
    clear hpl
    go_enter Tryd.func26, Tryd.ntmps26
    go_wp2_with fail
    refine (word_plain.calls a0 false _ hcall.out hT).mono ?_
    rintro e w1 ⟨rfl, hb1⟩
    have hz1 := hb1.size
    go_wp2_with fail
    refine (Bld.writeByte w1.heap.size w1.heap.size _ [] 34 _ (Bld.Is.fresh w1) (by simp) (by simp)).mono ?_
    rintro e w2 ⟨rfl, v2, hI2, hb2, _⟩
    have hz2 := hb2.size
    have hlt2 := hI2.lt
    have hw2 : Below w.heap.size w w2 := (hb1.alloc hz1 _).trans (hb2.mono hz1)
    have hT2 := hT.below hw2
    go_wp2
    go_loopw [] (fun wr => ∃ (pos fuel : Nat) (acc : List UInt8) (v : Value), Bld.Is w1.heap.size w1.heap.size v acc wr ∧ wr.heap[w2.heap.size]? = some (.stringIter a0 pos) ∧ Below w.heap.size w wr ∧ Aside0 (acc ++ quoteFrom a0 fuel pos = 34 :: quoteFrom a0 a0.size 0) ∧ a0.size ≤ pos + fuel ∧ acc.length ≤ 1 + 3 * pos ∧ pos ≤ a0.size) (fun wr => a0.size - wr.iterPos w2.heap.size)
    case atStart =>
      refine ⟨0, a0.size, [34], v2, hI2.alloc _, World.iter_heap w2 a0 0, hw2.alloc hw2.size _, ⟨rfl⟩, by omega, by simp, by omega⟩
    case round =>
      obtain ⟨pos, fuel, acc, v, hI, hit, hbw, hq, hfu, hal, hpz⟩ := hrel
      by_cases hp : pos < a0.size
      · have hnx : ∀ ty, (Instr.next (.pointer (some ⟨w2.heap.size, 0, none⟩)) true ty).run Tryd.prog wr = _ := fun ty => Lib.run_next_any_at wr w2.heap.size a0 pos ty hit hp
        have hwd := width_pos a0 pos
        have hwl := width_le a0 pos hp
        have hit2 := Lib.iterAt_heap wr w2.heap.size a0 pos (pos + (Utf8.decode a0 pos).2) hit
        have hbw2 := Lib.below_iterAt hbw (k := w2.heap.size) (by omega) a0 (pos + (Utf8.decode a0 pos).2)
        have hI2' := is_iterAt hI hit (pos + (Utf8.decode a0 pos).2)
        obtain ⟨f, rfl⟩ : ∃ f, fuel = f + 1 := ⟨fuel - 1, by omega⟩
        have hmf := Aside0.mk (may_f a0 pos hp)
        have q1 := hq.out
        rw [quoteFrom, if_pos hp] at q1
        clear hq
        have hsl := slice_at a0 pos (width a0 pos) hwl
        have hsl1 : ∀ W : World, (Instr.slice 9 (.string a0) (some (.int .i64 (pos : Int))) (some (.int .i64 ((pos : Int) + 1))) none).run Tryd.prog W = .ok (.string (a0.extract pos (pos + 1))) W := slice_at a0 pos 1 (by omega)
        have hba : byteAt a0 pos = a0[pos] := get_lt a0 pos hp
        have hbl : (a0.extract pos (pos + width a0 pos)).size = width a0 pos := by simp; omega
        have hbe := extract_bytes a0 pos (width a0 pos)
        have hszq : (wr.iterAt w2.heap.size a0 (pos + (Utf8.decode a0 pos).2)).heap.size = wr.heap.size := Lib.iterAt_size _ _ _ _
        have hwz : w.heap.size ≤ wr.heap.size := hbw.size
        by_cases hok : (mayB a0 pos || byteAt a0 pos == 32) = true
        · have hq1 : quote1 a0 pos = bytesAt a0 pos (width a0 pos) := by rw [quote1, if_pos hok]
          rw [hq1, ← List.append_assoc] at q1
          have q2 := Aside0.mk q1
          have hal2 : (acc ++ bytesAt a0 pos (width a0 pos)).length ≤ 1 + 3 * (pos + width a0 pos) := by
            rw [List.length_append]
            have : (bytesAt a0 pos (width a0 pos)).length ≤ width a0 pos := List.length_take_le _ _
            omega
          clear q1 hq1
          have step : ∀ w3, Below wr.heap.size (wr.iterAt w2.heap.size a0 (pos + (Utf8.decode a0 pos).2)) w3 → Calls Tryd.prog 58 #[.pointer (some ⟨w1.heap.size, 0, none⟩), .string (a0.extract pos (pos + width a0 pos))] w3 fun e w' => e = .returned (.tuple #[.int .i64 (a0.extract pos (pos + width a0 pos)).size, .nilIface]) ∧ ∃ v', Bld.Is w1.heap.size w1.heap.size v' (acc ++ bytesAt a0 pos (width a0 pos)) w' ∧ Below w.heap.size w w' ∧ w'.heap[w2.heap.size]? = some (.stringIter a0 (pos + width a0 pos)) := by
            intro w3 hb3
            refine (write_it w1.heap.size v acc _ w3 (hI2'.below (by rw [hszq]; exact hb3)) (by rw [hbl]; omega)).mono ?_
            rintro e w' ⟨rfl, v', h1, h2, h3, _⟩
            rw [hbe] at h1
            refine ⟨rfl, v', h1, (hbw2.trans (hb3.mono hwz)).trans (h2.mono hz1), h3 _ _ _ ?_⟩
            rw [hb3.block _ (Array.getElem?_eq_some_iff.1 hit).1]
            exact hit2
          cases hm : mayB a0 pos
          · have h32 : a0[pos] = 32 := by
              rw [hm, Bool.false_or, hba] at hok
              simpa using hok
            have t32 : ((a0[pos].toNat : Int) == 32) = true := by rw [h32]; rfl
            have hmf2 : Aside0 (word_may.f (a0.extract pos a0.size) = some (false, (width a0 pos : Int))) := ⟨by rw [hmf.out, hm]⟩
            clear h32 hm hok hba hmf hbl hbe hsl1
            go_wp2_with fail
            refine (word_may.calls _ false (width a0 pos) _ hmf2.out (hT.below hbw2)).mono ?_
            rintro e w3 ⟨rfl, hb⟩
            rw [hszq] at hb
            go_wp2_with fail
            refine (step w3 hb).mono ?_
            rintro e w4 ⟨rfl, v', hI4, hb4, hit4⟩
            go_wp2
            go_roundw
            case rel => exact ⟨pos + width a0 pos, f, _, v', hI4, hit4, hb4, q2, by omega, hal2, hwl⟩
            case measure =>
              simp only [World.iterPos, hit4, hit]
              omega
          · have hmf2 : Aside0 (word_may.f (a0.extract pos a0.size) = some (true, (width a0 pos : Int))) := ⟨by rw [hmf.out, hm]⟩
            clear hm hok hba hmf hbl hbe hsl1
            go_wp2_with fail
            refine (word_may.calls _ true (width a0 pos) _ hmf2.out (hT.below hbw2)).mono ?_
            rintro e w3 ⟨rfl, hb⟩
            rw [hszq] at hb
            go_wp2_with fail
            refine (step w3 hb).mono ?_
            rintro e w4 ⟨rfl, v', hI4, hb4, hit4⟩
            go_wp2
            go_roundw
            case rel => exact ⟨pos + width a0 pos, f, _, v', hI4, hit4, hb4, q2, by omega, hal2, hwl⟩
            case measure =>
              simp only [World.iterPos, hit4, hit]
              omega
        · have hm : mayB a0 pos = false := by
            cases h : mayB a0 pos
            · rfl
            · rw [h] at hok; simp at hok
          have h32 : ¬ a0[pos] = 32 := by
            rw [hm, Bool.false_or, hba] at hok
            simpa using hok
          have t32 : ((a0[pos].toNat : Int) == 32) = false := by
            rw [beq_eq_false_iff_ne]
            intro h
            exact h32 (UInt8.toNat_inj.1 (by have : a0[pos].toNat = 32 := by omega
                                             simpa using this))
          have hmf2 : Aside0 (word_may.f (a0.extract pos a0.size) = some (false, (width a0 pos : Int))) := ⟨by rw [hmf.out, hm]⟩
          have q3 : quote1 a0 pos = if byteAt a0 pos == 34 || byteAt a0 pos == 92 then [92, byteAt a0 pos] else (bytesAt a0 pos (width a0 pos)).flatMap hexQ := by rw [quote1, if_neg hok]
          rw [q3, hba, ← List.append_assoc] at q1
          clear h32 hm hok hmf q3
          by_cases h2 : a0[pos] = 34 ∨ a0[pos] = 92
          · rw [if_pos (by rcases h2 with h | h <;> rw [h] <;> rfl)] at q1
            have q2 := Aside0.mk q1
            clear q1
            have hw1 : width a0 pos = 1 := by
              unfold width
              rw [decode_ascii a0 pos hp (by rcases h2 with h | h <;> rw [h] <;> decide)]
            have hb1' : (⟨#[92]⟩ ++ a0.extract pos (pos + 1) : ByteArray).data.toList = [92, a0[pos]] := by
              rw [ByteArray.data_append, Array.toList_append, extract_bytes, bytesAt, List.drop_eq_getElem_cons (by rw [← Lib.size_eq]; exact hp)]
              rfl
            have hbz : (⟨#[92]⟩ ++ a0.extract pos (pos + 1) : ByteArray).size = 2 := by
              rw [Lib.size_eq, hb1']; rfl
            have hez : (a0.extract pos (pos + 1)).size = 1 := by simp; omega
            have step : ∀ w3, Below wr.heap.size (wr.iterAt w2.heap.size a0 (pos + (Utf8.decode a0 pos).2)) w3 → Calls Tryd.prog 58 #[.pointer (some ⟨w1.heap.size, 0, none⟩), .string (⟨#[92]⟩ ++ a0.extract pos (pos + 1))] w3 fun e w' => e = .returned (.tuple #[.int .i64 (⟨#[92]⟩ ++ a0.extract pos (pos + 1) : ByteArray).size, .nilIface]) ∧ ∃ v', Bld.Is w1.heap.size w1.heap.size v' (acc ++ [92, a0[pos]]) w' ∧ Below w.heap.size w w' ∧ w'.heap[w2.heap.size]? = some (.stringIter a0 (pos + width a0 pos)) := by
              intro w3 hb3
              refine (write_it w1.heap.size v acc _ w3 (hI2'.below (by rw [hszq]; exact hb3)) (by rw [hbz]; omega)).mono ?_
              rintro e w' ⟨rfl, v', h1, h2, h3, _⟩
              rw [hb1'] at h1
              refine ⟨rfl, v', h1, (hbw2.trans (hb3.mono hwz)).trans (h2.mono hz1), h3 _ _ _ ?_⟩
              rw [hb3.block _ (Array.getElem?_eq_some_iff.1 hit).1]
              exact hit2
            have hal2 : (acc ++ [92, a0[pos]]).length ≤ 1 + 3 * (pos + width a0 pos) := by
              rw [List.length_append]
              simp
              omega
            clear hba hbl hbe hsl hb1'
            have hez2 : ¬ 9223372036854775807 < 1 + (a0.extract pos (pos + 1)).size := by omega
            clear hbz hez hw1
            rcases h2 with h34 | h92
            · have t34 : ((a0[pos].toNat : Int) == 34) = true := by rw [h34]; rfl
              clear h34
              go_wp2_with fail
              refine (word_may.calls _ false (width a0 pos) _ hmf2.out (hT.below hbw2)).mono ?_
              rintro e w3 ⟨rfl, hb⟩
              rw [hszq] at hb
              go_wp2_with fail
              refine (step w3 hb).mono ?_
              rintro e w4 ⟨rfl, v', hI4, hb4, hit4⟩
              go_wp2
              go_roundw
              case rel => exact ⟨pos + width a0 pos, f, _, v', hI4, hit4, hb4, q2, by omega, hal2, hwl⟩
              case measure =>
                simp only [World.iterPos, hit4, hit]
                omega
            · have t34 : ((a0[pos].toNat : Int) == 34) = false := by rw [h92]; rfl
              have t92 : ((a0[pos].toNat : Int) == 92) = true := by rw [h92]; rfl
              clear h92
              go_wp2_with fail
              refine (word_may.calls _ false (width a0 pos) _ hmf2.out (hT.below hbw2)).mono ?_
              rintro e w3 ⟨rfl, hb⟩
              rw [hszq] at hb
              go_wp2_with fail
              refine (step w3 hb).mono ?_
              rintro e w4 ⟨rfl, v', hI4, hb4, hit4⟩
              go_wp2
              go_roundw
              case rel => exact ⟨pos + width a0 pos, f, _, v', hI4, hit4, hb4, q2, by omega, hal2, hwl⟩
              case measure =>
                simp only [World.iterPos, hit4, hit]
                omega
          · rw [if_neg (by intro h; rw [Bool.or_eq_true] at h; exact h2 (h.imp (by simp) (by simp)))] at q1
            have q2 := Aside0.mk q1
            clear q1
            have t34 : ((a0[pos].toNat : Int) == 34) = false := by
              rw [beq_eq_false_iff_ne]
              intro h
              exact h2 (.inl (UInt8.toNat_inj.1 (by have : a0[pos].toNat = 34 := by omega
                                                    simpa using this)))
            have t92 : ((a0[pos].toNat : Int) == 92) = false := by
              rw [beq_eq_false_iff_ne]
              intro h
              exact h2 (.inr (UInt8.toNat_inj.1 (by have : a0[pos].toNat = 92 := by omega
                                                    simpa using this)))
            have kb := fun W => print_bytes (P := Tryd.prog) 9 32 5 Tryd.underlying9 Tryd.underlying32 Tryd.underlying5 (a0.extract pos (pos + width a0 pos)) W
            clear h2 hba hsl1
            go_wp2_with fail
            refine (word_may.calls _ false (width a0 pos) _ hmf2.out (hT.below hbw2)).mono ?_
            rintro e w3 ⟨rfl, hb⟩
            rw [hszq] at hb
            obtain ⟨wo, rfl⟩ : ∃ wo : World, wo = wr := ⟨_, rfl⟩
            have hes : (a0.extract pos (pos + width a0 pos)).size ≤ 9223372036854775807 := by omega
            obtain ⟨cs, m, hcs, hcell⟩ : ∃ (cs : Array Value) (m : Nat), (Lib.bytesWorld w3 5 (a0.extract pos (pos + width a0 pos))).heap[w3.heap.size]? = some (Obj.cells cs 5 (m, m + 1)) ∧ ∀ j, (hj : j < (bytesAt a0 pos (width a0 pos)).length) → cs[j]? = some (Value.int .u8 ((bytesAt a0 pos (width a0 pos))[j].toNat : Int)) := by
              refine ⟨_, _, Lib.bytesWorld_at_new w3 5 _, fun j hj => ?_⟩
              have h1 := Lib.bytesWorld_cell w3 5 (a0.extract pos (pos + width a0 pos)) j (by rw [Lib.size_eq, hbe]; exact hj)
              have h2 : (Lib.bytesWorld w3 5 (a0.extract pos (pos + width a0 pos))).cell? ⟨w3.heap.size, j, none⟩ = (Lib.bytesCells w3 5 (a0.extract pos (pos + width a0 pos)))[j]? := Lib.cell_of_heap (Lib.bytesWorld_at_new w3 5 _) j
              rw [← h2, h1]
              congr 3
              have : (a0.extract pos (pos + width a0 pos)).data.toList[j]'(by rw [hbe]; exact hj) = (bytesAt a0 pos (width a0 pos))[j] := by simp only [hbe]
              rw [← this, List.getD_eq_getElem?_getD, List.getElem?_eq_getElem (by rw [hbe]; exact hj)]
              rfl
            have hlen : (bytesAt a0 pos (width a0 pos)).length = width a0 pos := by rw [← hbe, ← Lib.size_eq, hbl]
            have hz3 := hb.size
            have hblt := hI2'.lt
            have hitlt := (Array.getElem?_eq_some_iff.1 hit).1
            have hI3 : Bld.Is w1.heap.size w1.heap.size v acc w3 := hI2'.below (by rw [hszq]; exact hb)
            have hit3 : w3.heap[w2.heap.size]? = some (.stringIter a0 (pos + (Utf8.decode a0 pos).2)) := by rw [hb.block _ hitlt]; exact hit2
            have hw3 : Below w.heap.size w w3 := hbw2.trans (hb.mono hwz)
            have hIb : Bld.Is w1.heap.size w1.heap.size v acc (Lib.bytesWorld w3 5 (a0.extract pos (pos + width a0 pos))) :=
              hI3.below (bytes_below (Below.refl _ _) (Nat.le_refl _) 5 _)
            have hitb : (Lib.bytesWorld w3 5 (a0.extract pos (pos + width a0 pos))).heap[w2.heap.size]? = some (.stringIter a0 (pos + (Utf8.decode a0 pos).2)) := by
              rw [Lib.bytesWorld_at_old _ _ _ _ (by omega)]; exact hit3
            have hwb : Below w.heap.size w (Lib.bytesWorld w3 5 (a0.extract pos (pos + width a0 pos))) := bytes_below hw3 hw3.size 5 _
            have Hlen := Lib.hid hlen
            clear hlen hbe hbl
            go_wp2_with fail
            go_loopw [33] (fun i wi => ∃ (j : Nat) (acc2 : List UInt8) (v2 : Value), i = .int .i64 j ∧ j ≤ width a0 pos ∧ Bld.Is w1.heap.size w1.heap.size v2 acc2 wi ∧ wi.heap[w2.heap.size]? = some (.stringIter a0 (pos + (Utf8.decode a0 pos).2)) ∧ wi.heap[w3.heap.size]? = some (Obj.cells cs 5 (m, m + 1)) ∧ Below w.heap.size w wi ∧ Aside0 (acc2 = acc ++ ((bytesAt a0 pos (width a0 pos)).take j).flatMap hexQ)) (fun i _ => width a0 pos - (intOf i).toNat)
            case atStart => exact ⟨0, acc, v, rfl, Nat.zero_le _, hIb, hitb, hcs, hwb, ⟨by simp⟩⟩
            case round =>
              obtain ⟨j, acc2, v2, rfl, hj, hI5, hit5, hcs5, hw5, hacc⟩ := hrel
              by_cases hlt : j < width a0 pos
              · have hc : wr.cell? ⟨w3.heap.size, j, none⟩ = some (.int .u8 ((bytesAt a0 pos (width a0 pos))[j]'(by rw [Hlen.out]; exact hlt)).toNat) := by
                  rw [Lib.cell_of_heap hcs5]; exact hcell j _
                generalize hcb : (bytesAt a0 pos (width a0 pos))[j]'(by rw [Hlen.out]; exact hlt) = c at hc
                have Hcb := Lib.hid hcb
                clear hcb
                have hc255 := c.toNat_lt
                go_wp2
                have hs1 : ∀ W : World, (Instr.slice 9 (.string DIG) (some (.int .u8 ((c.toNat : Int) / 16))) (some (.int .u8 (IntKind.u8.wrap ((c.toNat : Int) / 16 + 1)))) none).run Tryd.prog W = .ok (.string ⟨#[hexD (c.toNat / 16)]⟩) W :=
                  fun W => slice_dig (c.toNat / 16) (by omega) _ _ (by omega) (by rw [u8_small _ (by omega) (by omega)]; omega) W
                have hs2 : ∀ W : World, (Instr.slice 9 (.string DIG) (some (.int .u8 (Go.bits .and .u8 (c.toNat : Int) 15))) (some (.int .u8 (IntKind.u8.wrap (Go.bits .and .u8 (c.toNat : Int) 15 + 1)))) none).run Tryd.prog W = .ok (.string ⟨#[hexD (c.toNat % 16)]⟩) W := fun W => by
                  have e := and_nib ⟨c.toNat, hc255⟩
                  exact slice_dig (c.toNat % 16) (by omega) _ _ e (by rw [e, u8_small _ (by omega) (by simp only []; omega)]) W
                have hj1 : acc2.length + 3 ≤ 140737488355328 := by
                  rw [hacc.out, List.length_append, hexQs_length]
                  have : ((bytesAt a0 pos (width a0 pos)).take j).length ≤ j := List.length_take_le _ _
                  omega
                go_still_tail 14, (by kernel_rfl)
                change wpList _ _ _ _ _ wr.drew
                clear hs1 hs2
                go_wp2_with fail
                refine (write_it w1.heap.size v2 acc2 _ wr.drew hI5.drew (by rw [hexQ_size]; exact hj1)).mono ?_
                rintro e w6 ⟨rfl, v6, hI6, hb6, hk6, hm6⟩
                rw [hexQ_str] at hI6
                go_wp2
                go_roundw
                case rel =>
                  refine ⟨j + 1, _, v6, by simp, hlt, hI6, hk6 _ _ _ hit5, hm6 _ _ _ hcs5, (hw5.drew).trans (hb6.mono hz1), ⟨?_⟩⟩
                  rw [hacc.out, List.append_assoc, List.take_succ_eq_append_getElem (by rw [Hlen.out]; exact hlt), List.flatMap_append, Hcb.out]
                  simp
                case measure => simp [intOf]; omega
              · have hjw : j = width a0 pos := by omega
                have Hjw := Lib.hid hjw
                clear hjw
                go_wp2
                go_roundw
                case rel =>
                  refine ⟨pos + width a0 pos, f, acc2, v2, hI5, hit5, hw5, ⟨?_⟩, by omega, ?_, hwl⟩
                  · rw [hacc.out, Hjw.out, List.take_of_length_le (by rw [Hlen.out]; exact Nat.le_refl _)]
                    exact q2.out
                  · rw [hacc.out, List.length_append, hexQs_length]
                    have : ((bytesAt a0 pos (width a0 pos)).take j).length ≤ j := List.length_take_le _ _
                    omega
                case measure =>
                  simp only [World.iterPos, hit5, hit]
                  unfold width at hwd
                  omega
      · have hnx : ∀ ty, (Instr.next (.pointer (some ⟨w2.heap.size, 0, none⟩)) true ty).run Tryd.prog wr = _ := fun ty => Lib.run_next_end_at wr w2.heap.size a0 pos ty hit hp
        go_wp2_with fail
        refine (Bld.string w1.heap.size w1.heap.size v acc wr hI (by have := hI.lt; omega)).mono ?_
        rintro e w3 ⟨rfl, hb3⟩
        have hcc : ¬ 9223372036854775807 < acc.length + 1 := by omega
        go_wp2
        go_ret
        refine ⟨ret_str ?_, hbw.trans (hb3.mono hz1)⟩
        have q1 := hq.out
        rw [quoteFrom_end _ _ _ hp, List.append_nil] at q1
        rw [← hr.out, quoteB, if_neg (by rw [hpl2.out]; decide), q1]
        rfl
  · have hpl2 := Aside0.mk hpl
    have hcall : Aside0 (word_plain.f a0 = some true) := ⟨by rw [word_plain.f, hpl]⟩
    clear hpl
    go_enter Tryd.func26, Tryd.ntmps26
    go_wp2_with fail
    refine (word_plain.calls a0 true _ hcall.out hT).mono ?_
    rintro e w1 ⟨rfl, hb1⟩
    go_wp2
    go_ret
    refine ⟨ret_str ?_, hb1⟩
    rw [← hr.out, quoteB, if_pos hpl2.out]

end Go.Proofs.YtfaelejeihmgcaaDoor.Wd

/-
  Texts of mine, and texts that print.sh and pp.py wrote, merged and cut to what is used: HandD, Wd6, HandSg, PureP3, PureP4, PureP5, HandSh, HandH, PureA, PureB, PureSs, HandSi, OpnS, St3, PureDg, HandF, HandI, Wd7, HandE, Wd9, PureD, PureE, PureF, PurePr, HandPa, HandPb, HandPc, HandPd, PurePs
-/
import Derived.Test.YtfaelejeihmgcaaDoorProg
import Derived.Below
import Derived.Shelf.Unicode.DecodeSlow
import Derived.Lib.ItoaMem
import Derived.Lib.LaidTab
import Derived.Test.YtfaelejeihmgcaaDoorCards
import Derived.Test.YtfaelejeihmgcaaDoorTie
import Derived.Lib.LaidU8T
import Derived.PinnedBridge
import Derived.LaidMore
import Derived.Lay
import Derived.ProofKit
import Derived.OpenShut
import Derived.SevenTiedAt
import Derived.Stop.Joined
import Derived.Deep.DeepHandedRow
import Derived.Deep.Draws
import Derived.Deep.AppendLies
import Derived.Maps.AppendAt
import Derived.OwnWalk
import Derived.Laws.BytesArg
import Derived.Laws.MakeOwn
import Derived.Laws.OwnMore
import Derived.Deep.OwnRows
import Derived.Tactics
import Derived.Lib.ConvBytes
import Derived.Laws.Slices
import Derived.WalkKit
import Derived.KernelRfl
import Derived.RowKit3
import Derived.Deep.LoopGhost
import Derived.Deep.QuietTactic
import Derived.BigQuiet
import Derived.WideLaws
import Derived.Deep.DeepCutAuto
import Derived.Deep.CutBlock
import Derived.Deep.RegionHeld3
import Derived.Laws.Rows
import Derived.Lib.AppendStr
import Derived.ArgAppend
import Derived.Laws.IdiomCopy
import Derived.RowKit
import Derived.Test.YtfaelejeihmgcaaDoorRows
import Derived.ChangeArms
import Derived.DataReads
import Derived.DataElems
import Derived.Shelf.Strings.Builder1
import Derived.Shelf.Strings.Builder2
import Derived.Shelf.Strings.OnBuilder
import Derived.Shelf.Strings.BuilderF
import Derived.Shelf.Strings.BuilderK
import Derived.Shelf.Strings.Builder2Cap
import Derived.Shelf.Strconv.Atoi
import Derived.Shelf.Strconv.Itoa0
import Derived.Shelf.Strconv.Itoa1
import Derived.Shelf.LaysM
import Derived.Shelf.Strconv.Itoa2
import Derived.Shelf.Strconv.Itoa3
import Derived.Shelf.Strconv.AtoiErrFast
import Derived.Shelf.Strconv.ParseIntEmpty
import Derived.Shelf.Strconv.AtoiFail
import Derived.Shelf.Strconv.Clone
import Derived.Shelf.Strconv.SyntaxError
import Derived.Shelf.LaysC
import Derived.Shelf.Strconv.ToError
import Derived.Shelf.Strconv.Lower
import Derived.Shelf.Strconv.ParseUint10
import Derived.Shelf.Strconv.ParseUint10Empty
import Derived.Shelf.Strconv.ParseUint10Any
import Derived.Shelf.Strconv.ParseInt10
import Derived.Shelf.Strconv.AtoiLong
import Derived.Shelf.Strconv.AtoiInnerAll
import Derived.Shelf.Strconv.RangeError
import Derived.Shelf.Strconv.ToErrorRange
import Derived.Shelf.Strconv.AtoiAll
import Derived.Shelf.Strconv.ErrVarAll
import Derived.Shelf.Strconv.ParseUintEmpty
import Derived.Shelf.Strconv.ParseUint10b64
import Derived.Shelf.Strconv.ParseUint10b32
import Derived.Shelf.Strconv.ParseUint10b16
import Derived.Shelf.Strconv.ParseUint10b8
import Derived.Shelf.Strings.Prefix
import Derived.Shelf.Unicode.Decode
import Derived.Shelf.Unicode.DecodeAny
import Derived.Lib.AppendIntMem
import Derived.FnData
import Derived.Outline
import Derived.Tactics2
import Derived.OrdersHeld
import Derived.Laws.BitsLemmas
import Derived.Laws.StructEq
import Derived.Lib.AtoiTie
import Derived.Lib.Strings
import Derived.Lib.Slices
import Derived.Lib.Walk
import Derived.Lib.Builder
import Derived.Lib.UnsafeStr
import Derived.Laws.Externs
import Derived.Lib.DecodeNEq
import Derived.Lib.OthersKept
import Derived.Lib.Hide
import Derived.BigCall
import Derived.StillTailTactics
import Derived.BigRegion
import Derived.RegionTactic
import Derived.IntWalk
import Derived.WalkSpells
import Derived.Laws.Pointers
import Derived.Deep.RegionWith
import Derived.Test.YtfaelejeihmgcaaDoorMu0
import Derived.Test.YtfaelejeihmgcaaDoorMu1

section
namespace Go.Proofs.YtfaelejeihmgcaaDoor.Wd
open Go.RowKit Go.Proofs.YtfaelejeihmgcaaDoorW.PrintWords Go.Proofs.YtfaelejeihmgcaaDoorW.PrintLast
def word_Quote.f (a0 : ByteArray) : Option ByteArray := if a0.size ≤ 1099511627776 then some ⟨(quoteB a0).toArray⟩ else none
theorem notOwn_iter {B b : Nat} {v : Value} {l : List UInt8} {w : World} (h : Bld.Is B b v l w) {k pos : Nat} {s : ByteArray} (hk : w.heap[k]? = some (.stringIter s pos)) : some k ≠ v.ownBlock := by
  intro e
  rcases h.own.2 with ⟨hv, _⟩ | ⟨g, cap, cur, hv, hg, hc, _⟩
  · rw [hv] at e; simp [Value.ownBlock] at e
  · rw [hv] at e
    simp only [Value.ownBlock, Option.some.injEq] at e
    subst e
    rw [hk] at hc
    cases hc
theorem notOwn_mark {B b : Nat} {v : Value} {l : List UInt8} {w : World} (h : Bld.Is B b v l w) {k m : Nat} {cs : Array Value} (hk : w.heap[k]? = some (.cells cs 5 (m, m + 1))) : some k ≠ v.ownBlock := by
  intro e
  rcases h.own.2 with ⟨hv, _⟩ | ⟨g, cap, cur, hv, hg, hc, _⟩
  · rw [hv] at e; simp [Value.ownBlock] at e
  · rw [hv] at e
    simp only [Value.ownBlock, Option.some.injEq] at e
    subst e
    rw [hk] at hc
    simp at hc
theorem is_iterAt {B b : Nat} {v : Value} {l : List UInt8} {w : World} (h : Bld.Is B b v l w) {k pos : Nat} {s : ByteArray} (hk : w.heap[k]? = some (.stringIter s pos)) (q : Nat) : Bld.Is B b v l (w.iterAt k s q) := by
  have hne : ∀ i, i ≠ k → (w.iterAt k s q).heap[i]? = w.heap[i]? := fun i hi => by
    simp [World.iterAt, Ne.symm hi]
  refine h.move (hne b ?_) (fun i hi => hne i ?_)
  · intro e
    obtain ⟨p, _, hb⟩ := h.blk
    rw [e, hk] at hb
    cases hb
  · intro e
    exact notOwn_iter h hk (by rw [hi, e])
theorem is_lt_ne {B b : Nat} {v : Value} {l : List UInt8} {w : World} (h : Bld.Is B b v l w) {k pos : Nat} {s : ByteArray} (hk : w.heap[k]? = some (.stringIter s pos)) : k ≠ b := by
  rintro rfl
  obtain ⟨p, _, hb⟩ := h.blk
  rw [hk] at hb
  cases hb
theorem is_mark_ne {B b : Nat} {v : Value} {l : List UInt8} {w : World} (h : Bld.Is B b v l w) {k m : Nat} {cs : Array Value} (hk : w.heap[k]? = some (.cells cs 5 (m, m + 1))) : k ≠ b := by
  rintro rfl
  obtain ⟨p, _, hb⟩ := h.blk
  rw [hk] at hb
  simp at hb
/-- a write beside an iterator and a conversion's row of bytes -/
theorem write_it (B : Nat) (v : Value) (acc : List UInt8) (t : ByteArray) (W : World) (hI : Bld.Is B B v acc W) (hlen : acc.length + t.size ≤ 140737488355328) :
    Calls Tryd.prog 58 #[.pointer (some ⟨B, 0, none⟩), .string t] W fun (e : Ending) (w' : World) => e = .returned (.tuple #[.int .i64 t.size, .nilIface]) ∧ ∃ v', Bld.Is B B v' (acc ++ t.data.toList) w' ∧ Below B W w' ∧
      (∀ (k : Nat) (s : ByteArray) (pos : Nat), W.heap[k]? = some (Obj.stringIter s pos) → w'.heap[k]? = some (Obj.stringIter s pos)) ∧ (∀ (k m : Nat) (cs : Array Value), W.heap[k]? = some (Obj.cells cs 5 (m, m + 1)) → w'.heap[k]? = some (Obj.cells cs 5 (m, m + 1))) := by
  refine (Bld.writeString B B v acc t W hI hlen (by have := hI.lt; omega)).mono ?_
  rintro e w' ⟨rfl, v', h1, h2, h3⟩
  exact ⟨rfl, v', h1, h2, fun k s pos hk => h3 k _ hk (is_lt_ne hI hk) (notOwn_iter hI hk), fun k m cs hk => h3 k _ hk (is_mark_ne hI hk) (notOwn_mark hI hk)⟩
theorem quoteFrom_end (s : ByteArray) (fuel pos : Nat) (h : ¬ pos < s.size) : quoteFrom s fuel pos = [] := by
  cases fuel with
  | zero => rfl
  | succ f => rw [quoteFrom, if_neg h]
set_option maxRecDepth 100000 in
theorem and_nib : ∀ x : Fin 256, Go.bits .and .u8 ((x.val : Nat) : Int) 15 = ((x.val % 16 : Nat) : Int) := by decide
theorem u8_small (x : Int) (h0 : 0 ≤ x) (h1 : x < 256) : IntKind.u8.wrap x = x := IntWalk.u8_in x (by omega)
theorem hexQs_length (l : List UInt8) : (l.flatMap hexQ).length = 3 * l.length := by
  induction l with
  | nil => rfl
  | cons c l ih => rw [List.flatMap_cons, List.length_append, ih]; simp [hexQ]; omega
theorem hexQ_str (c : UInt8) : (((⟨#[92]⟩ : ByteArray) ++ (⟨#[hexD (c.toNat / 16)]⟩ : ByteArray)) ++ (⟨#[hexD (c.toNat % 16)]⟩ : ByteArray)).data.toList = hexQ c := rfl
theorem hexQ_size (c : UInt8) : (((⟨#[92]⟩ : ByteArray) ++ (⟨#[hexD (c.toNat / 16)]⟩ : ByteArray)) ++ (⟨#[hexD (c.toNat % 16)]⟩ : ByteArray)).size = 3 := rfl
abbrev DIG : ByteArray := ⟨#[48, 49, 50, 51, 52, 53, 54, 55, 56, 57, 97, 98, 99, 100, 101, 102]⟩
theorem dig_at : ∀ h : Fin 16, DIG.extract h.val (h.val + 1) = ⟨#[hexD h.val]⟩ := by decide
theorem slice_dig (n : Nat) (hn : n < 16) (x y : Int) (hx : x = n) (hy : y = n + 1) (W : World) :
    (Instr.slice 9 (.string DIG) (some (.int .u8 x)) (some (.int .u8 y)) none).run Tryd.prog W = .ok (.string ⟨#[hexD n]⟩) W := by
  subst hx; subst hy
  have := run_slice_string (P := Tryd.prog) W 9 DIG .u8 .u8 (n : Int) ((n : Int) + 1) Tryd.underlying9 (by omega) (by omega) (by show (n : Int) + 1 ≤ (16 : Nat); omega)
  have e : ((n : Int) + 1).toNat = n + 1 := by omega
  have e2 : ((n : Nat) : Int).toNat = n := by omega
  rw [e, e2, dig_at ⟨n, hn⟩] at this
  exact this
theorem ret_str {a b : ByteArray} (h : a = b) : Ending.returned (.string a) = .returned (.string b) := by rw [h]
set_option maxHeartbeats 4000000 in
set_option maxRecDepth 100000 in
theorem word_Quote.calls (a0 : ByteArray) (r : ByteArray) (w : World) (h : word_Quote.f a0 = some r) (hT : Tabs w) :
    Calls Tryd.prog 26 #[.string a0] w fun e w' => e = .returned (.string r) ∧ Below w.heap.size w w' := by
  have hs : a0.size ≤ 1099511627776 := by
    unfold word_Quote.f at h
    split at h
    · assumption
    · cases h
  have hr : Aside0 (⟨(quoteB a0).toArray⟩ = r) := ⟨by unfold word_Quote.f at h; rw [if_pos hs] at h; exact Option.some.inj h⟩
  clear h
  cases hpl : plainB a0
  · have hpl2 := Aside0.mk hpl
    have hcall : Aside0 (word_plain.f a0 = some false) := ⟨by rw [word_plain.f, hpl]⟩
    clear hpl
    go_enter Tryd.func26, Tryd.ntmps26
    go_wp2_with fail
    refine (word_plain.calls a0 false _ hcall.out hT).mono ?_
    rintro e w1 ⟨rfl, hb1⟩
    have hz1 := hb1.size
    go_wp2_with fail
    refine (Bld.writeByte w1.heap.size w1.heap.size _ [] 34 _ (Bld.Is.fresh w1) (by simp) (by simp)).mono ?_
    rintro e w2 ⟨rfl, v2, hI2, hb2, _⟩
    have hz2 := hb2.size
    have hlt2 := hI2.lt
    have hw2 : Below w.heap.size w w2 := (hb1.alloc hz1 _).trans (hb2.mono hz1)
    have hT2 := hT.below hw2
    go_wp2
    go_loopw [] (fun wr => ∃ (pos fuel : Nat) (acc : List UInt8) (v : Value), Bld.Is w1.heap.size w1.heap.size v acc wr ∧ wr.heap[w2.heap.size]? = some (.stringIter a0 pos) ∧ Below w.heap.size w wr ∧ Aside0 (acc ++ quoteFrom a0 fuel pos = 34 :: quoteFrom a0 a0.size 0) ∧ a0.size ≤ pos + fuel ∧ acc.length ≤ 1 + 3 * pos ∧ pos ≤ a0.size) (fun wr => a0.size - wr.iterPos w2.heap.size)
    case atStart =>
      refine ⟨0, a0.size, [34], v2, hI2.alloc _, World.iter_heap w2 a0 0, hw2.alloc hw2.size _, ⟨rfl⟩, by omega, by simp, by omega⟩
    case round =>
      obtain ⟨pos, fuel, acc, v, hI, hit, hbw, hq, hfu, hal, hpz⟩ := hrel
      by_cases hp : pos < a0.size
      · have hnx : ∀ ty, (Instr.next (.pointer (some ⟨w2.heap.size, 0, none⟩)) true ty).run Tryd.prog wr = _ := fun ty => Lib.run_next_any_at wr w2.heap.size a0 pos ty hit hp
        have hwd := width_pos a0 pos
        have hwl := width_le a0 pos hp
        have hit2 := Lib.iterAt_heap wr w2.heap.size a0 pos (pos + (Utf8.decode a0 pos).2) hit
        have hbw2 := Lib.below_iterAt hbw (k := w2.heap.size) (by omega) a0 (pos + (Utf8.decode a0 pos).2)
        have hI2' := is_iterAt hI hit (pos + (Utf8.decode a0 pos).2)
        obtain ⟨f, rfl⟩ : ∃ f, fuel = f + 1 := ⟨fuel - 1, by omega⟩
        have hmf := Aside0.mk (may_f a0 pos hp)
        have q1 := hq.out
        rw [quoteFrom, if_pos hp] at q1
        clear hq
        have hsl := slice_at a0 pos (width a0 pos) hwl
        have hsl1 : ∀ W : World, (Instr.slice 9 (.string a0) (some (.int .i64 (pos : Int))) (some (.int .i64 ((pos : Int) + 1))) none).run Tryd.prog W = .ok (.string (a0.extract pos (pos + 1))) W := slice_at a0 pos 1 (by omega)
        have hba : byteAt a0 pos = a0[pos] := get_lt a0 pos hp
        have hbl : (a0.extract pos (pos + width a0 pos)).size = width a0 pos := by simp; omega
        have hbe := extract_bytes a0 pos (width a0 pos)
        have hszq : (wr.iterAt w2.heap.size a0 (pos + (Utf8.decode a0 pos).2)).heap.size = wr.heap.size := Lib.iterAt_size _ _ _ _
        have hwz : w.heap.size ≤ wr.heap.size := hbw.size
        by_cases hok : (mayB a0 pos || byteAt a0 pos == 32) = true
        · have hq1 : quote1 a0 pos = bytesAt a0 pos (width a0 pos) := by rw [quote1, if_pos hok]
          rw [hq1, ← List.append_assoc] at q1
          have q2 := Aside0.mk q1
          have hal2 : (acc ++ bytesAt a0 pos (width a0 pos)).length ≤ 1 + 3 * (pos + width a0 pos) := by
            rw [List.length_append]
            have : (bytesAt a0 pos (width a0 pos)).length ≤ width a0 pos := List.length_take_le _ _
            omega
          clear q1 hq1
          have step : ∀ w3, Below wr.heap.size (wr.iterAt w2.heap.size a0 (pos + (Utf8.decode a0 pos).2)) w3 → Calls Tryd.prog 58 #[.pointer (some ⟨w1.heap.size, 0, none⟩), .string (a0.extract pos (pos + width a0 pos))] w3 fun e w' => e = .returned (.tuple #[.int .i64 (a0.extract pos (pos + width a0 pos)).size, .nilIface]) ∧ ∃ v', Bld.Is w1.heap.size w1.heap.size v' (acc ++ bytesAt a0 pos (width a0 pos)) w' ∧ Below w.heap.size w w' ∧ w'.heap[w2.heap.size]? = some (.stringIter a0 (pos + width a0 pos)) := by
            intro w3 hb3
            refine (write_it w1.heap.size v acc _ w3 (hI2'.below (by rw [hszq]; exact hb3)) (by rw [hbl]; omega)).mono ?_
            rintro e w' ⟨rfl, v', h1, h2, h3, _⟩
            rw [hbe] at h1
            refine ⟨rfl, v', h1, (hbw2.trans (hb3.mono hwz)).trans (h2.mono hz1), h3 _ _ _ ?_⟩
            rw [hb3.block _ (Array.getElem?_eq_some_iff.1 hit).1]
            exact hit2
          cases hm : mayB a0 pos
          · have h32 : a0[pos] = 32 := by
              rw [hm, Bool.false_or, hba] at hok
              simpa using hok
            have t32 : ((a0[pos].toNat : Int) == 32) = true := by rw [h32]; rfl
            have hmf2 : Aside0 (word_may.f (a0.extract pos a0.size) = some (false, (width a0 pos : Int))) := ⟨by rw [hmf.out, hm]⟩
            clear h32 hm hok hba hmf hbl hbe hsl1
            go_wp2_with fail
            refine (word_may.calls _ false (width a0 pos) _ hmf2.out (hT.below hbw2)).mono ?_
            rintro e w3 ⟨rfl, hb⟩
            rw [hszq] at hb
            go_wp2_with fail
            refine (step w3 hb).mono ?_
            rintro e w4 ⟨rfl, v', hI4, hb4, hit4⟩
            go_wp2
            go_roundw
            case rel => exact ⟨pos + width a0 pos, f, _, v', hI4, hit4, hb4, q2, by omega, hal2, hwl⟩
            case measure =>
              simp only [World.iterPos, hit4, hit]
              omega
          · have hmf2 : Aside0 (word_may.f (a0.extract pos a0.size) = some (true, (width a0 pos : Int))) := ⟨by rw [hmf.out, hm]⟩
            clear hm hok hba hmf hbl hbe hsl1
            go_wp2_with fail
            refine (word_may.calls _ true (width a0 pos) _ hmf2.out (hT.below hbw2)).mono ?_
            rintro e w3 ⟨rfl, hb⟩
            rw [hszq] at hb
            go_wp2_with fail
            refine (step w3 hb).mono ?_
            rintro e w4 ⟨rfl, v', hI4, hb4, hit4⟩
            go_wp2
            go_roundw
            case rel => exact ⟨pos + width a0 pos, f, _, v', hI4, hit4, hb4, q2, by omega, hal2, hwl⟩
            case measure =>
              simp only [World.iterPos, hit4, hit]
              omega
        · have hm : mayB a0 pos = false := by
            cases h : mayB a0 pos
            · rfl
            · rw [h] at hok; simp at hok
          have h32 : ¬ a0[pos] = 32 := by
            rw [hm, Bool.false_or, hba] at hok
            simpa using hok
          have t32 : ((a0[pos].toNat : Int) == 32) = false := by
            rw [beq_eq_false_iff_ne]
            intro h
            exact h32 (UInt8.toNat_inj.1 (by have : a0[pos].toNat = 32 := by omega
                                             simpa using this))
          have hmf2 : Aside0 (word_may.f (a0.extract pos a0.size) = some (false, (width a0 pos : Int))) := ⟨by rw [hmf.out, hm]⟩
          have q3 : quote1 a0 pos = if byteAt a0 pos == 34 || byteAt a0 pos == 92 then [92, byteAt a0 pos] else (bytesAt a0 pos (width a0 pos)).flatMap hexQ := by rw [quote1, if_neg hok]
          rw [q3, hba, ← List.append_assoc] at q1
          clear h32 hm hok hmf q3
          by_cases h2 : a0[pos] = 34 ∨ a0[pos] = 92
          · rw [if_pos (by rcases h2 with h | h <;> rw [h] <;> rfl)] at q1
            have q2 := Aside0.mk q1
            clear q1
            have hw1 : width a0 pos = 1 := by
              unfold width
              rw [decode_ascii a0 pos hp (by rcases h2 with h | h <;> rw [h] <;> decide)]
            have hb1' : (⟨#[92]⟩ ++ a0.extract pos (pos + 1) : ByteArray).data.toList = [92, a0[pos]] := by
              rw [ByteArray.data_append, Array.toList_append, extract_bytes, bytesAt, List.drop_eq_getElem_cons (by rw [← Lib.size_eq]; exact hp)]
              rfl
            have hbz : (⟨#[92]⟩ ++ a0.extract pos (pos + 1) : ByteArray).size = 2 := by
              rw [Lib.size_eq, hb1']; rfl
            have hez : (a0.extract pos (pos + 1)).size = 1 := by simp; omega
            have step : ∀ w3, Below wr.heap.size (wr.iterAt w2.heap.size a0 (pos + (Utf8.decode a0 pos).2)) w3 → Calls Tryd.prog 58 #[.pointer (some ⟨w1.heap.size, 0, none⟩), .string (⟨#[92]⟩ ++ a0.extract pos (pos + 1))] w3 fun e w' => e = .returned (.tuple #[.int .i64 (⟨#[92]⟩ ++ a0.extract pos (pos + 1) : ByteArray).size, .nilIface]) ∧ ∃ v', Bld.Is w1.heap.size w1.heap.size v' (acc ++ [92, a0[pos]]) w' ∧ Below w.heap.size w w' ∧ w'.heap[w2.heap.size]? = some (.stringIter a0 (pos + width a0 pos)) := by
              intro w3 hb3
              refine (write_it w1.heap.size v acc _ w3 (hI2'.below (by rw [hszq]; exact hb3)) (by rw [hbz]; omega)).mono ?_
              rintro e w' ⟨rfl, v', h1, h2, h3, _⟩
              rw [hb1'] at h1
              refine ⟨rfl, v', h1, (hbw2.trans (hb3.mono hwz)).trans (h2.mono hz1), h3 _ _ _ ?_⟩
              rw [hb3.block _ (Array.getElem?_eq_some_iff.1 hit).1]
              exact hit2
            have hal2 : (acc ++ [92, a0[pos]]).length ≤ 1 + 3 * (pos + width a0 pos) := by
              rw [List.length_append]
              simp
              omega
            clear hba hbl hbe hsl hb1'
            have hez2 : ¬ 9223372036854775807 < 1 + (a0.extract pos (pos + 1)).size := by omega
            clear hbz hez hw1
            rcases h2 with h34 | h92
            · have t34 : ((a0[pos].toNat : Int) == 34) = true := by rw [h34]; rfl
              clear h34
              go_wp2_with fail
              refine (word_may.calls _ false (width a0 pos) _ hmf2.out (hT.below hbw2)).mono ?_
              rintro e w3 ⟨rfl, hb⟩
              rw [hszq] at hb
              go_wp2_with fail
              refine (step w3 hb).mono ?_
              rintro e w4 ⟨rfl, v', hI4, hb4, hit4⟩
              go_wp2
              go_roundw
              case rel => exact ⟨pos + width a0 pos, f, _, v', hI4, hit4, hb4, q2, by omega, hal2, hwl⟩
              case measure =>
                simp only [World.iterPos, hit4, hit]
                omega
            · have t34 : ((a0[pos].toNat : Int) == 34) = false := by rw [h92]; rfl
              have t92 : ((a0[pos].toNat : Int) == 92) = true := by rw [h92]; rfl
              clear h92
              go_wp2_with fail
              refine (word_may.calls _ false (width a0 pos) _ hmf2.out (hT.below hbw2)).mono ?_
              rintro e w3 ⟨rfl, hb⟩
              rw [hszq] at hb
              go_wp2_with fail
              refine (step w3 hb).mono ?_
              rintro e w4 ⟨rfl, v', hI4, hb4, hit4⟩
              go_wp2
              go_roundw
              case rel => exact ⟨pos + width a0 pos, f, _, v', hI4, hit4, hb4, q2, by omega, hal2, hwl⟩
              case measure =>
                simp only [World.iterPos, hit4, hit]
                omega
          · rw [if_neg (by intro h; rw [Bool.or_eq_true] at h; exact h2 (h.imp (by simp) (by simp)))] at q1
            have q2 := Aside0.mk q1
            clear q1
            have t34 : ((a0[pos].toNat : Int) == 34) = false := by
              rw [beq_eq_false_iff_ne]
              intro h
              exact h2 (.inl (UInt8.toNat_inj.1 (by have : a0[pos].toNat = 34 := by omega
                                                    simpa using this)))
            have t92 : ((a0[pos].toNat : Int) == 92) = false := by
              rw [beq_eq_false_iff_ne]
              intro h
              exact h2 (.inr (UInt8.toNat_inj.1 (by have : a0[pos].toNat = 92 := by omega
                                                    simpa using this)))
            have kb := fun W => print_bytes (P := Tryd.prog) 9 32 5 Tryd.underlying9 Tryd.underlying32 Tryd.underlying5 (a0.extract pos (pos + width a0 pos)) W
            clear h2 hba hsl1
            go_wp2_with fail
            refine (word_may.calls _ false (width a0 pos) _ hmf2.out (hT.below hbw2)).mono ?_
            rintro e w3 ⟨rfl, hb⟩
            rw [hszq] at hb
            obtain ⟨wo, rfl⟩ : ∃ wo : World, wo = wr := ⟨_, rfl⟩
            have hes : (a0.extract pos (pos + width a0 pos)).size ≤ 9223372036854775807 := by omega
            obtain ⟨cs, m, hcs, hcell⟩ : ∃ (cs : Array Value) (m : Nat), (Lib.bytesWorld w3 5 (a0.extract pos (pos + width a0 pos))).heap[w3.heap.size]? = some (Obj.cells cs 5 (m, m + 1)) ∧ ∀ j, (hj : j < (bytesAt a0 pos (width a0 pos)).length) → cs[j]? = some (Value.int .u8 ((bytesAt a0 pos (width a0 pos))[j].toNat : Int)) := by
              refine ⟨_, _, Lib.bytesWorld_at_new w3 5 _, fun j hj => ?_⟩
              have h1 := Lib.bytesWorld_cell w3 5 (a0.extract pos (pos + width a0 pos)) j (by rw [Lib.size_eq, hbe]; exact hj)
              have h2 : (Lib.bytesWorld w3 5 (a0.extract pos (pos + width a0 pos))).cell? ⟨w3.heap.size, j, none⟩ = (Lib.bytesCells w3 5 (a0.extract pos (pos + width a0 pos)))[j]? := Lib.cell_of_heap (Lib.bytesWorld_at_new w3 5 _) j
              rw [← h2, h1]
              congr 3
              have : (a0.extract pos (pos + width a0 pos)).data.toList[j]'(by rw [hbe]; exact hj) = (bytesAt a0 pos (width a0 pos))[j] := by simp only [hbe]
              rw [← this, List.getD_eq_getElem?_getD, List.getElem?_eq_getElem (by rw [hbe]; exact hj)]
              rfl
            have hlen : (bytesAt a0 pos (width a0 pos)).length = width a0 pos := by rw [← hbe, ← Lib.size_eq, hbl]
            have hz3 := hb.size
            have hblt := hI2'.lt
            have hitlt := (Array.getElem?_eq_some_iff.1 hit).1
            have hI3 : Bld.Is w1.heap.size w1.heap.size v acc w3 := hI2'.below (by rw [hszq]; exact hb)
            have hit3 : w3.heap[w2.heap.size]? = some (.stringIter a0 (pos + (Utf8.decode a0 pos).2)) := by rw [hb.block _ hitlt]; exact hit2
            have hw3 : Below w.heap.size w w3 := hbw2.trans (hb.mono hwz)
            have hIb : Bld.Is w1.heap.size w1.heap.size v acc (Lib.bytesWorld w3 5 (a0.extract pos (pos + width a0 pos))) :=
              hI3.below (bytes_below (Below.refl _ _) (Nat.le_refl _) 5 _)
            have hitb : (Lib.bytesWorld w3 5 (a0.extract pos (pos + width a0 pos))).heap[w2.heap.size]? = some (.stringIter a0 (pos + (Utf8.decode a0 pos).2)) := by
              rw [Lib.bytesWorld_at_old _ _ _ _ (by omega)]; exact hit3
            have hwb : Below w.heap.size w (Lib.bytesWorld w3 5 (a0.extract pos (pos + width a0 pos))) := bytes_below hw3 hw3.size 5 _
            have Hlen := Lib.hid hlen
            clear hlen hbe hbl
            go_wp2_with fail
            go_loopw [33] (fun i wi => ∃ (j : Nat) (acc2 : List UInt8) (v2 : Value), i = .int .i64 j ∧ j ≤ width a0 pos ∧ Bld.Is w1.heap.size w1.heap.size v2 acc2 wi ∧ wi.heap[w2.heap.size]? = some (.stringIter a0 (pos + (Utf8.decode a0 pos).2)) ∧ wi.heap[w3.heap.size]? = some (Obj.cells cs 5 (m, m + 1)) ∧ Below w.heap.size w wi ∧ Aside0 (acc2 = acc ++ ((bytesAt a0 pos (width a0 pos)).take j).flatMap hexQ)) (fun i _ => width a0 pos - (intOf i).toNat)
            case atStart => exact ⟨0, acc, v, rfl, Nat.zero_le _, hIb, hitb, hcs, hwb, ⟨by simp⟩⟩
            case round =>
              obtain ⟨j, acc2, v2, rfl, hj, hI5, hit5, hcs5, hw5, hacc⟩ := hrel
              by_cases hlt : j < width a0 pos
              · have hc : wr.cell? ⟨w3.heap.size, j, none⟩ = some (.int .u8 ((bytesAt a0 pos (width a0 pos))[j]'(by rw [Hlen.out]; exact hlt)).toNat) := by
                  rw [Lib.cell_of_heap hcs5]; exact hcell j _
                generalize hcb : (bytesAt a0 pos (width a0 pos))[j]'(by rw [Hlen.out]; exact hlt) = c at hc
                have Hcb := Lib.hid hcb
                clear hcb
                have hc255 := c.toNat_lt
                go_wp2
                have hs1 : ∀ W : World, (Instr.slice 9 (.string DIG) (some (.int .u8 ((c.toNat : Int) / 16))) (some (.int .u8 (IntKind.u8.wrap ((c.toNat : Int) / 16 + 1)))) none).run Tryd.prog W = .ok (.string ⟨#[hexD (c.toNat / 16)]⟩) W :=
                  fun W => slice_dig (c.toNat / 16) (by omega) _ _ (by omega) (by rw [u8_small _ (by omega) (by omega)]; omega) W
                have hs2 : ∀ W : World, (Instr.slice 9 (.string DIG) (some (.int .u8 (Go.bits .and .u8 (c.toNat : Int) 15))) (some (.int .u8 (IntKind.u8.wrap (Go.bits .and .u8 (c.toNat : Int) 15 + 1)))) none).run Tryd.prog W = .ok (.string ⟨#[hexD (c.toNat % 16)]⟩) W := fun W => by
                  have e := and_nib ⟨c.toNat, hc255⟩
                  exact slice_dig (c.toNat % 16) (by omega) _ _ e (by rw [e, u8_small _ (by omega) (by simp only []; omega)]) W
                have hj1 : acc2.length + 3 ≤ 140737488355328 := by
                  rw [hacc.out, List.length_append, hexQs_length]
                  have : ((bytesAt a0 pos (width a0 pos)).take j).length ≤ j := List.length_take_le _ _
                  omega
                go_still_tail 14, (by kernel_rfl)
                change wpList _ _ _ _ _ wr.drew
                clear hs1 hs2
                go_wp2_with fail
                refine (write_it w1.heap.size v2 acc2 _ wr.drew hI5.drew (by rw [hexQ_size]; exact hj1)).mono ?_
                rintro e w6 ⟨rfl, v6, hI6, hb6, hk6, hm6⟩
                rw [hexQ_str] at hI6
                go_wp2
                go_roundw
                case rel =>
                  refine ⟨j + 1, _, v6, by simp, hlt, hI6, hk6 _ _ _ hit5, hm6 _ _ _ hcs5, (hw5.drew).trans (hb6.mono hz1), ⟨?_⟩⟩
                  rw [hacc.out, List.append_assoc, List.take_succ_eq_append_getElem (by rw [Hlen.out]; exact hlt), List.flatMap_append, Hcb.out]
                  simp
                case measure => simp [intOf]; omega
              · have hjw : j = width a0 pos := by omega
                have Hjw := Lib.hid hjw
                clear hjw
                go_wp2
                go_roundw
                case rel =>
                  refine ⟨pos + width a0 pos, f, acc2, v2, hI5, hit5, hw5, ⟨?_⟩, by omega, ?_, hwl⟩
                  · rw [hacc.out, Hjw.out, List.take_of_length_le (by rw [Hlen.out]; exact Nat.le_refl _)]
                    exact q2.out
                  · rw [hacc.out, List.length_append, hexQs_length]
                    have : ((bytesAt a0 pos (width a0 pos)).take j).length ≤ j := List.length_take_le _ _
                    omega
                case measure =>
                  simp only [World.iterPos, hit5, hit]
                  unfold width at hwd
                  omega
      · have hnx : ∀ ty, (Instr.next (.pointer (some ⟨w2.heap.size, 0, none⟩)) true ty).run Tryd.prog wr = _ := fun ty => Lib.run_next_end_at wr w2.heap.size a0 pos ty hit hp
        go_wp2_with fail
        refine (Bld.string w1.heap.size w1.heap.size v acc wr hI (by have := hI.lt; omega)).mono ?_
        rintro e w3 ⟨rfl, hb3⟩
        have hcc : ¬ 9223372036854775807 < acc.length + 1 := by omega
        go_wp2
        go_ret
        refine ⟨ret_str ?_, hbw.trans (hb3.mono hz1)⟩
        have q1 := hq.out
        rw [quoteFrom_end _ _ _ hp, List.append_nil] at q1
        rw [← hr.out, quoteB, if_neg (by rw [hpl2.out]; decide), q1]
        rfl
  · have hpl2 := Aside0.mk hpl
    have hcall : Aside0 (word_plain.f a0 = some true) := ⟨by rw [word_plain.f, hpl]⟩
    clear hpl
    go_enter Tryd.func26, Tryd.ntmps26
    go_wp2_with fail
    refine (word_plain.calls a0 true _ hcall.out hT).mono ?_
    rintro e w1 ⟨rfl, hb1⟩
    go_wp2
    go_ret
    refine ⟨ret_str ?_, hb1⟩
    rw [← hr.out, quoteB, if_pos hpl2.out]
end Go.Proofs.YtfaelejeihmgcaaDoor.Wd
end

section
namespace Go.Proofs.YtfaelejeihmgcaaDoor.Wd
open Go.RowKit Go.Proofs.YtfaelejeihmgcaaDoorW.PrintWords Go.Proofs.YtfaelejeihmgcaaDoorW.PrintLast Go.Proofs.YtfaelejeihmgcaaDoorW.PrintMore
attribute [local go_sem] max2_int min2_int max_two min_two max_three min_three max_four min_four   -- for this text's walks alone
set_option linter.unusedVariables false
set_option linter.unusedSimpArgs false
mutual
def cachepotref3_Split.l0 : Nat → ByteArray → List ByteArray → Int → Option (List ByteArray × Int)
  | 0, _, _, _ => none
  | k + 1, x0, x4, x5 => if x5 < (x0.size : Int) then (if 0 ≤ x5 then (cachepotref3_Split.j1 k x0 x4 x5 ((bt x0 x5) == 34)) else (none)) else (cachepotref3_Split.j1 k x0 x4 x5 false)
def cachepotref3_Split.j1 : Nat → ByteArray → List ByteArray → Int → Bool → Option (List ByteArray × Int)
  | 0, _, _, _, _ => none
  | k + 1, x0, x4, x5, x24 => if x24 = true then ((cachepotref3_quoted.f k x0 x5).bind fun bt146 => (if bt146.2.2 = true then (cachepotref3_Split.j3 k x0 x4 bt146.2.1 bt146.1) else (some (([] : List ByteArray), 2)))) else (cachepotref3_Split.l1 k x0 x4 x5 x5)
def cachepotref3_Split.j3 : Nat → ByteArray → List ByteArray → Int → ByteArray → Option (List ByteArray × Int)
  | 0, _, _, _, _ => none
  | k + 1, x0, x4, x5, x6 => if x4.length < 8796093022208 then ((some (x4 ++ [x6] : List ByteArray)).bind fun y151 => (if x5 = (x0.size : Int) then (some (y151, 0)) else (if 0 ≤ x5 then (if x5 < (x0.size : Int) then (if (bt x0 x5) = 32 then (cachepotref3_Split.l0 k x0 y151 (wrap64 (x5 + 1))) else (some (([] : List ByteArray), 2))) else (none)) else (none)))) else (none)
def cachepotref3_Split.l1 : Nat → ByteArray → List ByteArray → Int → Int → Option (List ByteArray × Int)
  | 0, _, _, _, _ => none
  | k + 1, x0, x4, x5, x10 => if x5 < (x0.size : Int) then ((cachepotref3_plain.f k x0 x5).bind fun t149 => (if t149 > 0 then ((cachepotref3_plain.f k x0 x5).bind fun t150 => (cachepotref3_Split.l1 k x0 x4 (wrap64 (x5 + t150)) x10)) else (if x5 = x10 then (some (([] : List ByteArray), 2)) else (if 0 ≤ x10 then (if x10 ≤ x5 then (if x5 ≤ (x0.size : Int) then (cachepotref3_Split.j3 k x0 x4 x5 (x0.extract (x10 : Int).toNat (x5 : Int).toNat)) else (none)) else (none)) else (none))))) else (if x5 = x10 then (some (([] : List ByteArray), 2)) else (if 0 ≤ x10 then (if x10 ≤ x5 then (if x5 ≤ (x0.size : Int) then (cachepotref3_Split.j3 k x0 x4 x5 (x0.extract (x10 : Int).toNat (x5 : Int).toNat)) else (none)) else (none)) else (none)))
end
def cachepotref3_Split.f (k : Nat) (a0 : ByteArray) : Option (List ByteArray × Int) := if a0.toList = ([] : List UInt8) then (some (([] : List ByteArray), 0)) else (cachepotref3_Split.l0 k a0 ([] : List ByteArray) 0)
def cachepotlaw25_alive.f (k : Nat)  : Option (Bool) := (word_Split.f k (⟨#[97, 32, 34, 98, 32, 99, 34]⟩ : ByteArray)).bind fun bt154 => ((word_Split.f k (⟨#[97, 32, 32, 98]⟩ : ByteArray)).bind fun bt158 => (if bt154.2 = 0 then (if (bt154.1.length : Int) = 2 then (if 1 < (bt154.1.length : Int) then (if (rdOf ByteArray.empty bt154.1 1).toList = ([98, 32, 99] : List UInt8) then (if bt158.2 = 2 then ((word_Quote.f (⟨#[255]⟩ : ByteArray)).bind fun t163 => (some (t163.toList == ([34, 92, 102, 102, 34] : List UInt8)))) else (some false)) else (some false)) else (none)) else (some false)) else (some false)))
def cachepotbook_SameTexts.l0 : Nat → List ByteArray → List ByteArray → Int → Option (Bool)
  | 0, _, _, _ => none
  | k + 1, x0, x1, x5 => if x5 < (x0.length : Int) then (if 0 ≤ x5 then (if x5 < (x1.length : Int) then (if (rdOf ByteArray.empty x0 x5).toList = (rdOf ByteArray.empty x1 x5).toList then (cachepotbook_SameTexts.l0 k x0 x1 (wrap64 (x5 + 1))) else (some false)) else (none)) else (none)) else (some true)
def cachepotbook_SameTexts.f (k : Nat) (l0 : List ByteArray) (l1 : List ByteArray) : Option (Bool) := if (l0.length : Int) = (l1.length : Int) then (cachepotbook_SameTexts.l0 k l0 l1 0) else (some false)
def cachepotlaw25_WordSplits.f (k : Nat) (a0 : ByteArray) : Option (Bool) := (word_Split.f k a0).bind fun bt166 => ((cachepotref3_Split.f k a0).bind fun bt170 => ((cachepotlaw25_alive.f k).bind fun t174 => (if t174 = true then (if bt166.2 = bt170.2 then ((cachepotbook_SameTexts.f k bt166.1 bt170.1).bind fun t175 => (some t175)) else (some false)) else (some false))))
end Go.Proofs.YtfaelejeihmgcaaDoor.Wd
end

section
namespace Go.Proofs.YtfaelejeihmgcaaDoor.Stp
open Go.RowKit Go.Proofs.YtfaelejeihmgcaaDoorW.PrintWords Go.Proofs.YtfaelejeihmgcaaDoorW.PrintLast
def refResO (r : OpV × Bool) : OpV × Int := if r.2 = true then (r.1, 0) else (zeroOp 0, 2)
def refParseO (l : List ByteArray) (e : Int) : OpV × Int := if e = 0 then refResO (refStepF l) else (zeroOp 0, e)
end Go.Proofs.YtfaelejeihmgcaaDoor.Stp
end

section
namespace Go.Proofs.YtfaelejeihmgcaaDoor.Stp
open Go.RowKit Go.Proofs.YtfaelejeihmgcaaDoorW.PrintWords
def refBody (k : Nat) (t : List ByteArray) : OpV × Bool :=
  if k = 1 ∨ k = 7 ∨ k = 10 ∨ k = 14 then (zeroOp k, decide (t.length = 0))
  else if k = 8 ∨ k = 9 then (if t.length = 1 then ({ zeroOp k with key := t.headD ⟨#[]⟩ }, true) else (zeroOp 0, false))
  else if k = 12 then ({ zeroOp k with mask := (numbersT t).1 }, (numbersT t).2)
  else if k = 13 then (if (numbersT t).2 = true ∧ (numbersT t).1.length = 3 ∧ 0 ≤ (numbersT t).1.getD 2 0 ∧ (numbersT t).1.getD 2 0 ≤ 255 then ({ zeroOp k with page := (numbersT t).1.getD 0 0, at_ := (numbersT t).1.getD 1 0, x := (numbersT t).1.getD 2 0 }, true) else (zeroOp 0, false))
  else if k = 11 then (if (numbersT t).2 = true ∧ (numbersT t).1.length = 1 then ({ zeroOp k with n := (numbersT t).1.getD 0 0 }, true) else (zeroOp 0, false))
  else if k = 2 ∨ k = 3 ∨ k = 4 ∨ k = 5 ∨ k = 6 then
    (if t.length = 0 then (zeroOp 0, false) else
      if k = 2 then (if (numberT (t.headD ⟨#[]⟩)).2 = true ∧ t.tail.length = 2 then ({ zeroOp k with s := (numberT (t.headD ⟨#[]⟩)).1, key := t.tail.headD ⟨#[]⟩, val := t.tail.tail.headD ⟨#[]⟩ }, true) else (zeroOp 0, false))
      else if k = 3 then (if (numberT (t.headD ⟨#[]⟩)).2 = true ∧ t.tail.length = 1 then ({ zeroOp k with s := (numberT (t.headD ⟨#[]⟩)).1, key := t.tail.headD ⟨#[]⟩ }, true) else (zeroOp 0, false))
      else if k = 4 then ({ zeroOp k with s := (numberT (t.headD ⟨#[]⟩)).1, keys := t.tail }, (numberT (t.headD ⟨#[]⟩)).2)
      else ({ zeroOp k with s := (numberT (t.headD ⟨#[]⟩)).1 }, (numberT (t.headD ⟨#[]⟩)).2 && decide (t.tail.length = 0)))
  else (zeroOp 0, false)
theorem ref_body (x : ByteArray) (t : List ByteArray) (k : Nat) (hk : refK x 15 = k) : refStepF (x :: t) = refBody k t := by
  rw [refStepF, if_neg (by simp)]
  show refBody (refK x 15) t = _
  rw [hk]
theorem fl1 : (nameT ((1 : Nat) : Int)).2.data.toList = [] := by decide +kernel
theorem fl2 : (nameT ((2 : Nat) : Int)).2.data.toList = [115, 107, 118] := by decide +kernel
theorem fl3 : (nameT ((3 : Nat) : Int)).2.data.toList = [115, 107] := by decide +kernel
theorem fl4 : (nameT ((4 : Nat) : Int)).2.data.toList = [115, 75] := by decide +kernel
theorem fl5 : (nameT ((5 : Nat) : Int)).2.data.toList = [115] := by decide +kernel
theorem fl6 : (nameT ((6 : Nat) : Int)).2.data.toList = [115] := by decide +kernel
theorem fl7 : (nameT ((7 : Nat) : Int)).2.data.toList = [] := by decide +kernel
theorem fl8 : (nameT ((8 : Nat) : Int)).2.data.toList = [107] := by decide +kernel
theorem fl9 : (nameT ((9 : Nat) : Int)).2.data.toList = [107] := by decide +kernel
theorem fl10 : (nameT ((10 : Nat) : Int)).2.data.toList = [] := by decide +kernel
theorem fl11 : (nameT ((11 : Nat) : Int)).2.data.toList = [110] := by decide +kernel
theorem fl12 : (nameT ((12 : Nat) : Int)).2.data.toList = [77] := by decide +kernel
theorem fl13 : (nameT ((13 : Nat) : Int)).2.data.toList = [112, 97, 120] := by decide +kernel
theorem fl14 : (nameT ((14 : Nat) : Int)).2.data.toList = [] := by decide +kernel
theorem nums_len : ∀ (l : List ByteArray) (out : List Int), (numsT l out).2 = true → (numsT l out).1.length = out.length + l.length
  | [], out, _ => rfl
  | x :: l, out, h => by
    rw [numsT] at h ⊢
    by_cases hq : (numT x).2 = true
    · rw [if_pos hq] at h ⊢
      rw [nums_len l _ h]
      simp only [List.length_append, List.length_cons, List.length_nil]
      omega
    · rw [if_neg hq] at h
      cases h
theorem k_none (x : ByteArray) (t : List ByteArray) (j : Nat) (hj : j = 1 ∨ j = 7 ∨ j = 10 ∨ j = 14) (hk : refK x 15 = j) (hf : (nameT (j : Int)).2.data.toList = []) : resO (resK t j) = refResO (refStepF (x :: t)) := by
  have e : refStepF (x :: t) = (zeroOp (j : Int), decide (t.length = 0)) := by
    rw [ref_body x t _ hk, refBody]
    rw [if_pos hj]
  rw [e, resK, hf, fill_nil]
  unfold refResO
  simp only
  cases decide (t.length = 0) <;> rfl
theorem fill_M (fs : List UInt8) (o : OpV) (l : List ByteArray) : fillF (77 :: fs) o l = ((fillM l []).1, { o with mask := (fillM l []).2 }) := by
  rw [fillF, if_neg (show ¬ ((77 : UInt8).toNat : Int) = 75 by decide), if_pos (show ((77 : UInt8).toNat : Int) = 77 from rfl)]
theorem one_key (o : OpV) (x : ByteArray) : oneF o 107 x = (true, { o with key := x }) := by unfold oneF; rw [if_pos rfl]
theorem one_val (o : OpV) (x : ByteArray) : oneF o 118 x = (true, { o with val := x }) := by unfold oneF; rw [if_neg (by decide), if_pos rfl]
theorem k_key (x : ByteArray) (t : List ByteArray) (j : Nat) (hj : j = 8 ∨ j = 9) (hk : refK x 15 = j) (hf : (nameT (j : Int)).2.data.toList = [107]) : resO (resK t j) = refResO (refStepF (x :: t)) := by
  have e : refStepF (x :: t) = (if t.length = 1 then ({ zeroOp (j : Int) with key := t.headD ⟨#[]⟩ }, true) else (zeroOp 0, false)) := by
    rw [ref_body x t _ hk, refBody]
    rw [if_neg (by omega), if_pos hj]
  rw [e, resK, hf]
  match t with
  | [] => rw [fill_end _ _ _ (by decide) (by decide)]; rfl
  | [y] =>
    rw [fill_one _ _ _ _ _ (by decide) (by decide), show ((107 : UInt8).toNat : Int) = 107 from rfl, one_key, if_pos rfl, fill_nil]
    rfl
  | y :: z :: u =>
    rw [fill_one _ _ _ _ _ (by decide) (by decide), show ((107 : UInt8).toNat : Int) = 107 from rfl, one_key, if_pos rfl, fill_nil, if_neg (by simp)]
    rfl
theorem k_s (x : ByteArray) (t : List ByteArray) (j : Nat) (hj : j = 5 ∨ j = 6) (hk : refK x 15 = j) (hf : (nameT (j : Int)).2.data.toList = [115]) (hN : ∀ y ∈ t, numberT y = numT y) : resO (resK t j) = refResO (refStepF (x :: t)) := by
  have e : refStepF (x :: t) = (if t.length = 0 then (zeroOp 0, false) else ({ zeroOp (j : Int) with s := (numberT (t.headD ⟨#[]⟩)).1 }, (numberT (t.headD ⟨#[]⟩)).2 && decide (t.tail.length = 0))) := by
    rw [ref_body x t _ hk, refBody]
    rw [if_neg (by omega), if_neg (by omega), if_neg (by omega), if_neg (by omega), if_neg (by omega), if_pos (by omega), if_neg (show ¬ j = 2 by omega), if_neg (show ¬ j = 3 by omega), if_neg (show ¬ j = 4 by omega)]
  rw [e, resK, hf]
  match t, hN with
  | [], _ => rw [fill_end _ _ _ (by decide) (by decide)]; rfl
  | y :: u, hN =>
    rw [fill_one _ _ _ _ _ (by decide) (by decide), show ((115 : UInt8).toNat : Int) = 115 from rfl, one_num _ _ _ (by decide) (by decide) (by decide), if_neg (show ¬ (y :: u).length = 0 by simp)]
    simp only [List.headD_cons, List.tail_cons, hN y (by simp)]
    cases hn : (numT y).2
    · rfl
    · rw [if_pos rfl, fill_nil]
      cases u with
      | nil => rfl
      | cons z v => rfl
theorem k_sk (x : ByteArray) (t : List ByteArray) (hk : refK x 15 = 3) (hN : ∀ y ∈ t, numberT y = numT y) : resO (resK t 3) = refResO (refStepF (x :: t)) := by
  have e : refStepF (x :: t) = (if t.length = 0 then (zeroOp 0, false) else (if (numberT (t.headD ⟨#[]⟩)).2 = true ∧ t.tail.length = 1 then ({ zeroOp ((3 : Nat) : Int) with s := (numberT (t.headD ⟨#[]⟩)).1, key := t.tail.headD ⟨#[]⟩ }, true) else (zeroOp 0, false))) := by
    rw [ref_body x t _ hk, refBody]
    rw [if_neg (by omega), if_neg (by omega), if_neg (by omega), if_neg (by omega), if_neg (by omega), if_pos (by omega), if_neg (show ¬ (3 : Nat) = 2 by omega), if_pos rfl]
  rw [e, resK, fl3]
  match t, hN with
  | [], _ => rw [fill_end _ _ _ (by decide) (by decide)]; rfl
  | y :: u, hN =>
    rw [fill_one _ _ _ _ _ (by decide) (by decide), show ((115 : UInt8).toNat : Int) = 115 from rfl, one_num _ _ _ (by decide) (by decide) (by decide), if_neg (show ¬ (y :: u).length = 0 by simp)]
    simp only [List.headD_cons, List.tail_cons, hN y (by simp)]
    cases hn : (numT y).2
    · rfl
    · rw [if_pos rfl]
      cases u with
      | nil => rw [fill_end _ _ _ (by decide) (by decide)]; rfl
      | cons z v =>
        rw [fill_one _ _ _ _ _ (by decide) (by decide), show ((107 : UInt8).toNat : Int) = 107 from rfl, one_key, if_pos rfl, fill_nil]
        cases v with
        | nil => rfl
        | cons a b => rw [if_neg (show ¬ (true = true ∧ (z :: a :: b).length = 1) by simp)]; rfl
theorem k_skv (x : ByteArray) (t : List ByteArray) (hk : refK x 15 = 2) (hN : ∀ y ∈ t, numberT y = numT y) : resO (resK t 2) = refResO (refStepF (x :: t)) := by
  have e : refStepF (x :: t) = (if t.length = 0 then (zeroOp 0, false) else (if (numberT (t.headD ⟨#[]⟩)).2 = true ∧ t.tail.length = 2 then ({ zeroOp ((2 : Nat) : Int) with s := (numberT (t.headD ⟨#[]⟩)).1, key := t.tail.headD ⟨#[]⟩, val := t.tail.tail.headD ⟨#[]⟩ }, true) else (zeroOp 0, false))) := by
    rw [ref_body x t _ hk, refBody]
    rw [if_neg (by omega), if_neg (by omega), if_neg (by omega), if_neg (by omega), if_neg (by omega), if_pos (by omega), if_pos rfl]
  rw [e, resK, fl2]
  match t, hN with
  | [], _ => rw [fill_end _ _ _ (by decide) (by decide)]; rfl
  | y :: u, hN =>
    rw [fill_one _ _ _ _ _ (by decide) (by decide), show ((115 : UInt8).toNat : Int) = 115 from rfl, one_num _ _ _ (by decide) (by decide) (by decide), if_neg (show ¬ (y :: u).length = 0 by simp)]
    simp only [List.headD_cons, List.tail_cons, hN y (by simp)]
    cases hn : (numT y).2
    · rfl
    · rw [if_pos rfl]
      cases u with
      | nil => rw [fill_end _ _ _ (by decide) (by decide)]; rfl
      | cons z v =>
        rw [fill_one _ _ _ _ _ (by decide) (by decide), show ((107 : UInt8).toNat : Int) = 107 from rfl, one_key, if_pos rfl]
        cases v with
        | nil => rw [fill_end _ _ _ (by decide) (by decide)]; rfl
        | cons a b =>
          rw [fill_one _ _ _ _ _ (by decide) (by decide), show ((118 : UInt8).toNat : Int) = 118 from rfl, one_val, if_pos rfl, fill_nil]
          cases b with
          | nil => rfl
          | cons c d => rw [if_neg (show ¬ (true = true ∧ (z :: a :: c :: d).length = 2) by simp)]; rfl
theorem k_sK (x : ByteArray) (t : List ByteArray) (hk : refK x 15 = 4) (hN : ∀ y ∈ t, numberT y = numT y) : resO (resK t 4) = refResO (refStepF (x :: t)) := by
  have e : refStepF (x :: t) = (if t.length = 0 then (zeroOp 0, false) else ({ zeroOp ((4 : Nat) : Int) with s := (numberT (t.headD ⟨#[]⟩)).1, keys := t.tail }, (numberT (t.headD ⟨#[]⟩)).2)) := by
    rw [ref_body x t _ hk, refBody]
    rw [if_neg (by omega), if_neg (by omega), if_neg (by omega), if_neg (by omega), if_neg (by omega), if_pos (by omega), if_neg (show ¬ (4 : Nat) = 2 by omega), if_neg (show ¬ (4 : Nat) = 3 by omega), if_pos rfl]
  rw [e, resK, fl4]
  match t, hN with
  | [], _ => rw [fill_end _ _ _ (by decide) (by decide)]; rfl
  | y :: u, hN =>
    rw [fill_one _ _ _ _ _ (by decide) (by decide), show ((115 : UInt8).toNat : Int) = 115 from rfl, one_num _ _ _ (by decide) (by decide) (by decide), if_neg (show ¬ (y :: u).length = 0 by simp)]
    simp only [List.headD_cons, List.tail_cons, hN y (by simp)]
    cases hn : (numT y).2
    · rfl
    · rw [if_pos rfl, fillF, if_pos rfl]
      rfl
theorem k_M (x : ByteArray) (t : List ByteArray) (hk : refK x 15 = 12) (hNs : numbersT t = numsT t []) : resO (resK t 12) = refResO (refStepF (x :: t)) := by
  have e : refStepF (x :: t) = ({ zeroOp ((12 : Nat) : Int) with mask := (numsT t []).1 }, (numsT t []).2) := by
    rw [ref_body x t _ hk, refBody]
    rw [if_neg (by omega), if_neg (by omega), if_pos rfl, hNs]
  have h := fillM_nums t []
  rw [e, resK, fl12, fill_M, h.1]
  cases hq : (numsT t []).2
  · rfl
  · rw [h.2 hq, if_pos rfl]
    rfl
theorem k_n (x : ByteArray) (t : List ByteArray) (hk : refK x 15 = 11) (hNs : numbersT t = numsT t []) : resO (resK t 11) = refResO (refStepF (x :: t)) := by
  have e : refStepF (x :: t) = (if (numsT t []).2 = true ∧ (numsT t []).1.length = 1 then ({ zeroOp ((11 : Nat) : Int) with n := (numsT t []).1.getD 0 0 }, true) else (zeroOp 0, false)) := by
    rw [ref_body x t _ hk, refBody]
    rw [if_neg (by omega), if_neg (by omega), if_neg (by omega), if_neg (by omega), if_pos rfl, hNs]
  rw [e, resK, fl11]
  match t with
  | [] => rw [fill_end _ _ _ (by decide) (by decide)]; rfl
  | [y] =>
    rw [fill_one _ _ _ _ _ (by decide) (by decide), show ((110 : UInt8).toNat : Int) = 110 from rfl, one_num _ _ _ (by decide) (by decide) (by decide), numsT]
    cases hn : (numT y).2
    · rfl
    · rfl
  | y :: z :: u =>
    have hl := nums_len (y :: z :: u) []
    rw [fill_one _ _ _ _ _ (by decide) (by decide), show ((110 : UInt8).toNat : Int) = 110 from rfl, one_num _ _ _ (by decide) (by decide) (by decide), if_neg (show ¬ ((numsT (y :: z :: u) []).2 = true ∧ (numsT (y :: z :: u) []).1.length = 1) from fun h => by have := hl h.1; simp only [List.length_cons, List.length_nil] at this; omega)]
    cases hn : (numT y).2
    · rfl
    · rfl
theorem fill_num (c : UInt8) (fs : List UInt8) (o : OpV) (y : ByteArray) (u : List ByteArray) (h1 : (c.toNat : Int) ≠ 75) (h2 : (c.toNat : Int) ≠ 77) (h3 : (c.toNat : Int) ≠ 107) (h4 : (c.toNat : Int) ≠ 118) (h5 : (c.toNat : Int) ≠ 120) :
    fillF (c :: fs) o (y :: u) = if (numT y).2 = true then fillF fs (setNum o (c.toNat : Int) (numT y).1) u else (false, o) := by
  rw [fill_one _ _ _ _ _ h1 h2, one_num _ _ _ h3 h4 h5]
  by_cases h : (numT y).2 = true
  · simp only [if_pos h]
    rfl
  · simp only [if_neg h]
    rfl
theorem fill_x (o : OpV) (y : ByteArray) (u : List ByteArray) : fillF [120] o (y :: u) = if (numT y).2 = true ∧ 0 ≤ (numT y).1 ∧ (numT y).1 ≤ 255 then fillF [] { o with x := (numT y).1 } u else (false, o) := by
  rw [fill_one _ _ _ _ _ (by decide) (by decide), show ((120 : UInt8).toNat : Int) = 120 from rfl, one_x]
  by_cases h : (numT y).2 = true ∧ 0 ≤ (numT y).1 ∧ (numT y).1 ≤ 255
  · simp only [if_pos h]
    rfl
  · simp only [if_neg h]
    rfl
theorem k_pax (x : ByteArray) (t : List ByteArray) (hk : refK x 15 = 13) (hNs : numbersT t = numsT t []) : resO (resK t 13) = refResO (refStepF (x :: t)) := by
  have e : refStepF (x :: t) = (if (numsT t []).2 = true ∧ (numsT t []).1.length = 3 ∧ 0 ≤ (numsT t []).1.getD 2 0 ∧ (numsT t []).1.getD 2 0 ≤ 255 then ({ zeroOp ((13 : Nat) : Int) with page := (numsT t []).1.getD 0 0, at_ := (numsT t []).1.getD 1 0, x := (numsT t []).1.getD 2 0 }, true) else (zeroOp 0, false)) := by
    rw [ref_body x t _ hk, refBody]
    rw [if_neg (by omega), if_neg (by omega), if_neg (by omega), if_pos rfl, hNs]
  have hl := nums_len t []
  rw [e, resK, fl13]
  have no : t.length ≠ 3 → refResO (if (numsT t []).2 = true ∧ (numsT t []).1.length = 3 ∧ 0 ≤ (numsT t []).1.getD 2 0 ∧ (numsT t []).1.getD 2 0 ≤ 255 then ({ zeroOp ((13 : Nat) : Int) with page := (numsT t []).1.getD 0 0, at_ := (numsT t []).1.getD 1 0, x := (numsT t []).1.getD 2 0 }, true) else (zeroOp 0, false)) = (zeroOp 0, 2) := fun h => by
    rw [if_neg (fun h2 => h (by have := hl h2.1; rw [h2.2.1] at this; simp only [List.length_nil] at this; omega))]
    rfl
  match t, no with
  | [], no =>
    rw [no (by simp), fill_end _ _ _ (by decide) (by decide)]
    rfl
  | [a], no =>
    rw [no (by simp), fill_num 112 _ _ _ _ (by decide) (by decide) (by decide) (by decide) (by decide), fill_end _ _ _ (by decide) (by decide)]
    cases (numT a).2 <;> rfl
  | [a, b], no =>
    rw [no (by simp), fill_num 112 _ _ _ _ (by decide) (by decide) (by decide) (by decide) (by decide), fill_num 97 _ _ _ _ (by decide) (by decide) (by decide) (by decide) (by decide), fill_end _ _ _ (by decide) (by decide)]
    cases (numT a).2 <;> cases (numT b).2 <;> rfl
  | [a, b, c], _ =>
    rw [fill_num 112 _ _ _ _ (by decide) (by decide) (by decide) (by decide) (by decide), fill_num 97 _ _ _ _ (by decide) (by decide) (by decide) (by decide) (by decide), fill_x, fill_nil]
    by_cases ha : (numT a).2 = true
    · by_cases hb : (numT b).2 = true
      · by_cases hc : (numT c).2 = true
        · have hn : numsT [a, b, c] [] = ([(numT a).1, (numT b).1, (numT c).1], true) := by rw [numsT, if_pos ha, numsT, if_pos hb, numsT, if_pos hc]; rfl
          rw [hn, if_pos ha, if_pos hb]
          by_cases h : 0 ≤ (numT c).1 ∧ (numT c).1 ≤ 255
          · rw [if_pos (show (numT c).2 = true ∧ 0 ≤ (numT c).1 ∧ (numT c).1 ≤ 255 from ⟨hc, h⟩)]
            refine Eq.trans ?_ (congrArg refResO (if_pos (show true = true ∧ [(numT a).1, (numT b).1, (numT c).1].length = 3 ∧ 0 ≤ [(numT a).1, (numT b).1, (numT c).1].getD 2 0 ∧ [(numT a).1, (numT b).1, (numT c).1].getD 2 0 ≤ 255 from ⟨rfl, rfl, h⟩)).symm)
            rfl
          · rw [if_neg (show ¬ ((numT c).2 = true ∧ 0 ≤ (numT c).1 ∧ (numT c).1 ≤ 255) from fun e => h e.2)]
            refine Eq.trans ?_ (congrArg refResO (if_neg (show ¬ (true = true ∧ [(numT a).1, (numT b).1, (numT c).1].length = 3 ∧ 0 ≤ [(numT a).1, (numT b).1, (numT c).1].getD 2 0 ∧ [(numT a).1, (numT b).1, (numT c).1].getD 2 0 ≤ 255) from fun e => h e.2.2)).symm)
            rfl
        · have hn : numsT [a, b, c] [] = ([], false) := by rw [numsT, if_pos ha, numsT, if_pos hb, numsT, if_neg hc]
          rw [hn, if_pos ha, if_pos hb, if_neg (show ¬ ((numT c).2 = true ∧ 0 ≤ (numT c).1 ∧ (numT c).1 ≤ 255) from fun e => hc e.1)]
          rfl
      · have hn : numsT [a, b, c] [] = ([], false) := by rw [numsT, if_pos ha, numsT, if_neg hb]
        rw [hn, if_pos ha, if_neg hb]
        rfl
    · have hn : numsT [a, b, c] [] = ([], false) := by rw [numsT, if_neg ha]
      rw [hn, if_neg ha]
      rfl
  | a :: b :: c :: d :: u, no =>
    rw [no (by simp), fill_num 112 _ _ _ _ (by decide) (by decide) (by decide) (by decide) (by decide), fill_num 97 _ _ _ _ (by decide) (by decide) (by decide) (by decide) (by decide), fill_x, fill_nil]
    by_cases ha : (numT a).2 = true
    · by_cases hb : (numT b).2 = true
      · rw [if_pos ha, if_pos hb]
        by_cases h : (numT c).2 = true ∧ 0 ≤ (numT c).1 ∧ (numT c).1 ≤ 255
        · rw [if_pos h]
          rfl
        · rw [if_neg h]
          rfl
      · rw [if_pos ha, if_neg hb]
        rfl
    · rw [if_neg ha]
      rfl
/-- THE TWO READINGS OF WORDS SAY THE SAME -/
theorem step_same (l : List ByteArray) (hs : ∀ x ∈ l, x.size ≤ 1099511627776) (hl : l.length ≤ 1048576) : resO (parseK l 14 1) = refResO (refStepF l) := by
  cases l with
  | nil => rw [parseK_nil]; rfl
  | cons x t =>
    have hN : ∀ y ∈ t, numberT y = numT y := fun y hy => numberT_eq y (hs y (List.mem_cons_of_mem _ hy))
    have hNs : numbersT t = numsT t [] := numbersT_eq t (fun y hy => hs y (List.mem_cons_of_mem _ hy)) (by simp only [List.length_cons] at hl; omega)
    by_cases h : ∃ j, 1 ≤ j ∧ j < 15 ∧ nameW j = x.toList
    · obtain ⟨j, h1, h2, h3⟩ := h
      have hP := parseK_hit x t j h3 14 1 h1 (by omega) (fun i h4 h5 e => by
        have := words_apart ⟨i, by omega⟩ ⟨j, h2⟩ h4 h1 (e.trans h3.symm)
        have := congrArg Fin.val this
        simp only at this
        omega)
      have hR : refK x 15 = j := refK_hit x j h1 ((words_same ⟨j, h2⟩ h1).symm.trans h3) 15 h2 (fun i h4 h5 e => by
        have := words_apart ⟨i, h5⟩ ⟨j, h2⟩ (by show 1 ≤ i; omega) h1 ((words_same ⟨i, h5⟩ (by show 1 ≤ i; omega)).trans (e.trans h3.symm))
        have := congrArg Fin.val this
        simp only at this
        omega)
      rw [hP]
      rcases (by omega : j = 1 ∨ j = 2 ∨ j = 3 ∨ j = 4 ∨ j = 5 ∨ j = 6 ∨ j = 7 ∨ j = 8 ∨ j = 9 ∨ j = 10 ∨ j = 11 ∨ j = 12 ∨ j = 13 ∨ j = 14) with rfl | rfl | rfl | rfl | rfl | rfl | rfl | rfl | rfl | rfl | rfl | rfl | rfl | rfl
      · exact k_none x t 1 (by decide) hR fl1
      · exact k_skv x t hR hN
      · exact k_sk x t hR hN
      · exact k_sK x t hR hN
      · exact k_s x t 5 (by decide) hR fl5 hN
      · exact k_s x t 6 (by decide) hR fl6 hN
      · exact k_none x t 7 (by decide) hR fl7
      · exact k_key x t 8 (by decide) hR fl8
      · exact k_key x t 9 (by decide) hR fl9
      · exact k_none x t 10 (by decide) hR fl10
      · exact k_n x t hR hNs
      · exact k_M x t hR hNs
      · exact k_pax x t hR hNs
      · exact k_none x t 14 (by decide) hR fl14
    · have hm : ∀ i, 1 ≤ i → i < 15 → nameW i ≠ x.toList := fun i h1 h2 e => h ⟨i, h1, h2, e⟩
      rw [parseK_miss x t 14 1 (fun i h1 h2 => hm i h1 (by omega))]
      have hR : refK x 15 = 0 := refK_miss x 15 (fun i h1 h2 e => hm i h1 h2 ((words_same ⟨i, h2⟩ h1).trans e))
      rw [ref_body x t 0 hR]
      rfl
theorem parse_same (l : List ByteArray) (e : Int) (hs : ∀ x ∈ l, x.size ≤ 1099511627776) (hl : l.length ≤ 1048576) : parseO l e = refParseO l e := by
  unfold parseO refParseO
  rw [step_same l hs hl]
end Go.Proofs.YtfaelejeihmgcaaDoor.Stp
end

section
namespace Go.Proofs.YtfaelejeihmgcaaDoor.Stp
open Go.RowKit Go.Proofs.YtfaelejeihmgcaaDoorW.PrintWords
theorem ints_l0 (l : List Int) (hl : l.length ≤ 1048576) : ∀ (d k i : Nat), l.length - i = d → i ≤ l.length → d < k → cachepotbook_SameInts.l0 k l l (i : Int) = some true := by
  intro d
  induction d with
  | zero =>
    intro k i hd hi hk
    obtain ⟨k, rfl⟩ : ∃ m, k = m + 1 := ⟨k - 1, by omega⟩
    rw [cachepotbook_SameInts.l0, if_neg (by omega)]
  | succ d ih =>
    intro k i hd hi hk
    obtain ⟨k, rfl⟩ : ∃ m, k = m + 1 := ⟨k - 1, by omega⟩
    rw [cachepotbook_SameInts.l0, if_pos (by omega), if_pos (by omega), if_pos (by omega), if_pos rfl, w64 (v := (i : Int) + 1) (by omega) (by omega)]
    exact ih k (i + 1) (by omega) (by omega) (by omega)
theorem ints_same (l : List Int) (hl : l.length ≤ 1048576) (k : Nat) (hk : l.length < k) : cachepotbook_SameInts.f k l l = some true := by
  rw [cachepotbook_SameInts.f, if_pos rfl]
  exact ints_l0 l hl l.length k 0 (by omega) (by omega) hk
theorem texts_l0 (l : List ByteArray) (hl : l.length ≤ 1048576) : ∀ (d k i : Nat), l.length - i = d → i ≤ l.length → d < k → cachepotbook_SameTexts.l0 k l l (i : Int) = some true := by
  intro d
  induction d with
  | zero =>
    intro k i hd hi hk
    obtain ⟨k, rfl⟩ : ∃ m, k = m + 1 := ⟨k - 1, by omega⟩
    rw [cachepotbook_SameTexts.l0, if_neg (by omega)]
  | succ d ih =>
    intro k i hd hi hk
    obtain ⟨k, rfl⟩ : ∃ m, k = m + 1 := ⟨k - 1, by omega⟩
    rw [cachepotbook_SameTexts.l0, if_pos (by omega), if_pos (by omega), if_pos (by omega), if_pos rfl, w64 (v := (i : Int) + 1) (by omega) (by omega)]
    exact ih k (i + 1) (by omega) (by omega) (by omega)
theorem texts_same (l : List ByteArray) (hl : l.length ≤ 1048576) (k : Nat) (hk : l.length < k) : cachepotbook_SameTexts.f k l l = some true := by
  rw [cachepotbook_SameTexts.f, if_pos rfl]
  exact texts_l0 l hl l.length k 0 (by omega) (by omega) hk
theorem op_same (o : OpV) (h1 : o.keys.length ≤ 1048576) (h2 : o.mask.length ≤ 1048576) (k : Nat) (hk : 1048576 < k) :
    cachepotbook_SameOp.f k o.kind o.s o.key o.val o.keys o.n o.mask o.page o.at_ o.x o.kind o.s o.key o.val o.keys o.n o.mask o.page o.at_ o.x = some true := by
  rw [cachepotbook_SameOp.f, if_pos rfl, if_pos rfl, if_pos rfl, if_pos rfl, if_pos rfl, if_pos rfl, if_pos rfl, if_pos rfl, ints_same o.mask h2 k (by omega), Option.bind_some, if_pos rfl, texts_same o.keys h1 k (by omega)]
  rfl
end Go.Proofs.YtfaelejeihmgcaaDoor.Stp
end

section
namespace Go.Proofs.YtfaelejeihmgcaaDoor.Stp
open Go.RowKit Go.Proofs.YtfaelejeihmgcaaDoorW.PrintWords
def aliveA : ByteArray := ⟨#[112, 117, 116, 32, 49, 32, 97, 32, 34, 98, 32, 99, 34]⟩
def aliveB : ByteArray := ⟨#[102, 117, 115, 101, 32, 48, 49]⟩
def wordsA : List ByteArray := [⟨#[112, 117, 116]⟩, ⟨#[49]⟩, ⟨#[97]⟩, ⟨#[98, 32, 99]⟩]
def wordsB : List ByteArray := [⟨#[102, 117, 115, 101]⟩, ⟨#[48, 49]⟩]
theorem splitA : Wd.word_Split.f 100 aliveA = some (wordsA, 0) := by decide +kernel
theorem splitB : Wd.word_Split.f 100 aliveB = some (wordsB, 0) := by decide +kernel
theorem smallA : ∀ x ∈ wordsA, x.size ≤ 1099511627776 := by
  intro x hx
  have : wordsA.all (fun x => decide (x.size ≤ 1099511627776)) = true := by decide +kernel
  exact of_decide_eq_true (List.all_eq_true.1 this x hx)
theorem smallB : ∀ x ∈ wordsB, x.size ≤ 1099511627776 := by
  intro x hx
  have : wordsB.all (fun x => decide (x.size ≤ 1099511627776)) = true := by decide +kernel
  exact of_decide_eq_true (List.all_eq_true.1 this x hx)
theorem parseA : parseO wordsA 0 = ({ zeroOp 2 with s := 1, key := ⟨#[97]⟩, val := ⟨#[98, 32, 99]⟩ }, 0) := by
  rw [parse_same wordsA 0 smallA (by decide)]
  kernel_rfl
theorem parseB : parseO wordsB 0 = (zeroOp 0, 2) := by
  rw [parse_same wordsB 0 smallB (by decide)]
  kernel_rfl
end Go.Proofs.YtfaelejeihmgcaaDoor.Stp
end

section
namespace Go.Proofs.YtfaelejeihmgcaaDoor.Stp
open Go.RowKit Go.Proofs.YtfaelejeihmgcaaDoorW.PrintWords Go.Proofs.YtfaelejeihmgcaaDoorW.PrintLast
theorem parsed_A (w : World) (hT : Tabs w) : Calls Tryd.prog 42 #[.string ⟨#[112, 117, 116, 32, 49, 32, 97, 32, 34, 98, 32, 99, 34]⟩] w fun e w' => ∃ Ak ck Am cm, e = .returned (.tuple #[.agg #[.int .i64 2, .int .i64 1, .string ⟨#[97]⟩, .string ⟨#[98, 32, 99]⟩, .slice Ak 0 ck, .int .i64 0, .slice Am 0 cm, .int .i64 0, .int .i64 0, .int .i64 0], .int .i64 0]) ∧ Below w.heap.size w w' := by
  have h := step_Parse_walk 100 aliveA wordsA 0 w splitA (by decide) smallA hT
  rw [parseA] at h
  refine h.mono ?_
  rintro e w' ⟨vk, vm, he, hk, hm, hb⟩
  obtain ⟨Ak, ck, ek⟩ := Kd.R_slice hk
  obtain ⟨Am, cm, em⟩ := Kd.R_slice hm
  subst ek
  subst em
  exact ⟨Ak, ck, Am, cm, he, hb⟩
theorem parsed_B (w : World) (hT : Tabs w) : Calls Tryd.prog 42 #[.string ⟨#[102, 117, 115, 101, 32, 48, 49]⟩] w fun e w' => ∃ Ak ck Am cm, e = .returned (.tuple #[.agg #[.int .i64 0, .int .i64 0, .string ⟨#[]⟩, .string ⟨#[]⟩, .slice Ak 0 ck, .int .i64 0, .slice Am 0 cm, .int .i64 0, .int .i64 0, .int .i64 0], .int .i64 2]) ∧ Below w.heap.size w w' := by
  have h := step_Parse_walk 100 aliveB wordsB 0 w splitB (by decide) smallB hT
  rw [parseB] at h
  refine h.mono ?_
  rintro e w' ⟨vk, vm, he, hk, hm, hb⟩
  obtain ⟨Ak, ck, ek⟩ := Kd.R_slice hk
  obtain ⟨Am, cm, em⟩ := Kd.R_slice hm
  subst ek
  subst em
  exact ⟨Ak, ck, Am, cm, he, hb⟩
set_option maxHeartbeats 16000000 in
set_option maxRecDepth 100000 in
theorem alive_walk (w : World) (hT : Tabs w) : Calls Tryd.prog 44 #[] w fun e w' => e = .returned (.bool true) ∧ Below w.heap.size w w' := by
  go_enter Tryd.func44, Tryd.ntmps44
  go_wp2_with fail
  refine (parsed_A w hT).mono ?_
  rintro en w1 ⟨Ak, ck, Am, cm, rfl, hb1⟩
  go_upto_region 2 with (fail)
  change Code.wp _ _ _ _ (w1.alloc (.cells #[.int .i64 2, .int .i64 1, .string ⟨#[97]⟩, .string ⟨#[98, 32, 99]⟩, .slice Ak 0 ck, .int .i64 0, .slice Am 0 cm, .int .i64 0, .int .i64 0, .int .i64 0] 61))
  obtain ⟨O, hO⟩ : ∃ O : Obj, O = .cells #[.int .i64 2, .int .i64 1, .string ⟨#[97]⟩, .string ⟨#[98, 32, 99]⟩, .slice Ak 0 ck, .int .i64 0, .slice Am 0 cm, .int .i64 0, .int .i64 0, .int .i64 0] 61 := ⟨_, rfl⟩
  rw [← hO]
  have hz2 : (w1.alloc O).heap[w1.heap.size]? = some (.cells #[.int .i64 2, .int .i64 1, .string ⟨#[97]⟩, .string ⟨#[98, 32, 99]⟩, .slice Ak 0 ck, .int .i64 0, .slice Am 0 cm, .int .i64 0, .int .i64 0, .int .i64 0] 61) := (heap_alloc_new w1 O).trans (by rw [hO])
  have hb2 := below_alloc hb1 O
  have hlt : w1.heap.size < (w1.alloc O).heap.size := by simp
  clear hO hb1
  generalize w1.alloc O = w2 at hz2 hb2 hlt ⊢
  have hT2 := hT.below hb2
  go_wp2_with fail
  refine (parsed_B w2 hT2).mono ?_
  rintro en w3 ⟨Bk, dk, Bm, dm, rfl, hb3⟩
  have hz3 := (hb3.block w1.heap.size hlt).trans hz2
  have hb4 := below_then hb2 hb2.size hb3
  clear hz2 hb2 hb3 hT2 hT
  go_upto_region 3 with (fail)
  change Code.wp _ _ _ _ (w3.alloc (.cells #[.int .i64 0, .int .i64 0, .string ⟨#[]⟩, .string ⟨#[]⟩, .slice Bk 0 dk, .int .i64 0, .slice Bm 0 dm, .int .i64 0, .int .i64 0, .int .i64 0] 61))
  generalize (Obj.cells #[.int .i64 0, .int .i64 0, .string ⟨#[]⟩, .string ⟨#[]⟩, .slice Bk 0 dk, .int .i64 0, .slice Bm 0 dm, .int .i64 0, .int .i64 0, .int .i64 0] 61) = O2
  have hz5 := (Lib.alloc_old w3 O2 _ (Array.getElem?_eq_some_iff.1 hz3).1).trans hz3
  have hb5 := below_alloc hb4 O2
  clear hz3 hb4
  generalize w3.alloc O2 = w5 at hz5 hb5 ⊢
  have r0 : w5.cell? ⟨w1.heap.size, 0, none⟩ = some (.int .i64 2) := Lib.cell_of_heap hz5 0
  have r1 : w5.cell? ⟨w1.heap.size, 1, none⟩ = some (.int .i64 1) := Lib.cell_of_heap hz5 1
  have r2 : w5.cell? ⟨w1.heap.size, 2, none⟩ = some (.string ⟨#[97]⟩) := Lib.cell_of_heap hz5 2
  have r3 : w5.cell? ⟨w1.heap.size, 3, none⟩ = some (.string ⟨#[98, 32, 99]⟩) := Lib.cell_of_heap hz5 3
  have HB := Lib.hid hb5
  clear hz5 hb5
  go_wp2
  go_ret
  exact ⟨rfl, HB.out⟩
end Go.Proofs.YtfaelejeihmgcaaDoor.Stp
end

section
namespace Go.Proofs.YtfaelejeihmgcaaDoor.Wd
open Go.RowKit Go.Proofs.YtfaelejeihmgcaaDoorW.PrintWords Go.Proofs.YtfaelejeihmgcaaDoorW.PrintLast
theorem w64 (x : Int) (h0 : -9223372036854775808 ≤ x) (h1 : x ≤ 9223372036854775807) : wrap64 x = x := by unfold wrap64; omega
end Go.Proofs.YtfaelejeihmgcaaDoor.Wd
end

section
namespace Go.Proofs.YtfaelejeihmgcaaDoor.Wd
open Go.RowKit Go.Proofs.YtfaelejeihmgcaaDoorW.PrintWords Go.Proofs.YtfaelejeihmgcaaDoorW.PrintLast
theorem mayB_ex (s : ByteArray) (p i : Nat) : mayB (s.extract p s.size) i = mayB s (p + i) := by unfold mayB; rw [decode_extract]
theorem width_ex (s : ByteArray) (p i : Nat) : width (s.extract p s.size) i = width s (p + i) := by unfold width; rw [decode_extract]
theorem byteAt_ex (s : ByteArray) (p i : Nat) : byteAt (s.extract p s.size) i = byteAt s (p + i) := by unfold byteAt; rw [get_extract]
theorem size_ex (s : ByteArray) (p : Nat) : (s.extract p s.size).size = s.size - p := by simp
theorem bytesAt_ex (s : ByteArray) (p i n : Nat) : bytesAt (s.extract p s.size) i n = bytesAt s (p + i) n := by
  unfold bytesAt
  rw [Lib.extract_data, Lib.size_eq, ← List.length_drop, List.take_length, List.drop_drop]
theorem escB_ex (s : ByteArray) (p i : Nat) : escB (s.extract p s.size) i = escB s (p + i) := by
  unfold escB
  rw [byteAt_ex, byteAt_ex, size_ex]
  simp only [show ∀ c : Nat, (c < s.size - p) = (p + c < s.size) from fun c => propext ⟨fun h => by omega, fun h => by omega⟩, Nat.add_assoc]
/-- a match's result, its place moved back by p -/
def back (p : Nat) : Option (List UInt8 × Nat) → Option (List UInt8 × Nat)
  | some (l, n) => some (l, n - p)
  | none => none
theorem quotedFrom_ex (s : ByteArray) (p : Nat) : ∀ f i acc, quotedFrom (s.extract p s.size) f i acc = back p (quotedFrom s f (p + i) acc) := by
  intro f
  induction f with
  | zero => intro i acc; rfl
  | succ f ih =>
    intro i acc
    rw [quotedFrom, quotedFrom, mayB_ex, byteAt_ex, width_ex, bytesAt_ex, size_ex, escB_ex]
    by_cases h : i < s.size - p
    · have h' : p + i < s.size := by omega
      rw [if_pos h, if_pos h']
      by_cases h1 : (mayB s (p + i) || byteAt s (p + i) == 32) = true
      · rw [if_pos h1, if_pos h1, ih, Nat.add_assoc]
      · rw [if_neg h1, if_neg h1]
        by_cases h2 : byteAt s (p + i) = 34
        · rw [if_pos h2, if_pos h2, back]
          congr 2
          omega
        · rw [if_neg h2, if_neg h2]
          by_cases h3 : byteAt s (p + i) = 92
          · rw [if_pos h3, if_pos h3, Nat.add_assoc]
            cases escB s (p + (i + 1)) with
            | none => rfl
            | some cn => simp only [ih]; congr 2; omega
          · rw [if_neg h3, if_neg h3]; rfl
    · have h' : ¬ p + i < s.size := by omega
      rw [if_neg h, if_neg h']; rfl
theorem quotedFrom_fuel (s : ByteArray) : ∀ f f' pos acc, s.size ≤ pos + f → s.size ≤ pos + f' → quotedFrom s f pos acc = quotedFrom s f' pos acc := by
  intro f
  induction f with
  | zero =>
    intro f' pos acc h h'
    rw [quotedFrom_end s _ pos acc (by omega), quotedFrom_end s _ pos acc (by omega)]
  | succ f ih =>
    intro f' pos acc h h'
    by_cases hp : pos < s.size
    · obtain ⟨g, rfl⟩ : ∃ g, f' = g + 1 := ⟨f' - 1, by omega⟩
      have hw := width_pos s pos
      rw [quotedFrom, quotedFrom, if_pos hp, if_pos hp]
      by_cases h1 : (mayB s pos || byteAt s pos == 32) = true
      · rw [if_pos h1, if_pos h1]
        exact ih _ _ _ (by omega) (by omega)
      · rw [if_neg h1, if_neg h1]
        by_cases h2 : byteAt s pos = 34
        · rw [if_pos h2, if_pos h2]
        · rw [if_neg h2, if_neg h2]
          by_cases h3 : byteAt s pos = 92
          · rw [if_pos h3, if_pos h3]
            cases hE : escB s (pos + 1) with
            | none => rfl
            | some cn =>
              have := escB_le (show escB s (pos + 1) = some (cn.1, cn.2) from hE)
              exact ih _ _ _ (by omega) (by omega)
          · rw [if_neg h3, if_neg h3]
    · rw [quotedFrom_end s _ pos acc hp, quotedFrom_end s _ pos acc hp]
/-- where a run of plain runes ends -/
def runPlain (s : ByteArray) : Nat → Nat → Nat
  | 0, pos => pos
  | f + 1, pos => if pos < s.size then (if mayB s pos = true then runPlain s f (pos + width s pos) else pos) else pos
theorem runPlain_le (s : ByteArray) : ∀ f pos, pos ≤ s.size → pos ≤ runPlain s f pos ∧ runPlain s f pos ≤ s.size := by
  intro f
  induction f with
  | zero => intro pos h; exact ⟨Nat.le_refl _, h⟩
  | succ f ih =>
    intro pos h
    rw [runPlain]
    by_cases hp : pos < s.size
    · rw [if_pos hp]
      have hw := width_le s pos hp
      split
      · have := ih (pos + width s pos) hw
        omega
      · omega
    · rw [if_neg hp]; omega
theorem runPlain_ex (s : ByteArray) (p : Nat) (hp : p ≤ s.size) : ∀ f i, p + runPlain (s.extract p s.size) f i = runPlain s f (p + i) := by
  intro f
  induction f with
  | zero => intro i; rfl
  | succ f ih =>
    intro i
    rw [runPlain, runPlain, size_ex, mayB_ex, width_ex]
    by_cases h : i < s.size - p
    · have h' : p + i < s.size := by omega
      rw [if_pos h, if_pos h']
      split
      · rw [ih, Nat.add_assoc]
      · rfl
    · have h' : ¬ p + i < s.size := by omega
      rw [if_neg h, if_neg h']
/-- the word that stands at a place, and the place behind it -/
def firstAt (s : ByteArray) (pos : Nat) : Option (ByteArray × Nat) :=
  if pos < s.size ∧ byteAt s pos = 34 then
    match quotedFrom s s.size (pos + 1) [] with
    | some (l, n) => some (⟨l.toArray⟩, n)
    | none => none
  else if runPlain s s.size pos = pos then none else some (s.extract pos (runPlain s s.size pos), runPlain s s.size pos)
def splitFrom (s : ByteArray) : Nat → Nat → List ByteArray → Option (List ByteArray)
  | 0, _, _ => none
  | f + 1, pos, acc =>
    match firstAt s pos with
    | none => none
    | some (w, n) => if n = s.size then some (acc ++ [w]) else if byteAt s n = 32 then splitFrom s f (n + 1) (acc ++ [w]) else none
theorem ba_ext {a b : ByteArray} (h : a.data.toList = b.data.toList) : a = b := by
  cases a with
  | mk da => cases b with
    | mk db =>
      simp at h
      rw [h]
theorem ex_ex (s : ByteArray) (p a : Nat) : (s.extract p s.size).extract a (s.extract p s.size).size = s.extract (p + a) s.size := by
  apply ba_ext
  rw [Lib.extract_data, Lib.extract_data, Lib.extract_data, size_ex]
  rw [Lib.size_eq, ← List.length_drop, List.take_length, List.drop_drop]
  rw [List.take_of_length_le (by simp; omega), List.take_of_length_le (by simp)]
theorem ex_ex0 (s : ByteArray) (p n : Nat) (h : p + n ≤ s.size) : (s.extract p s.size).extract 0 n = s.extract p (p + n) := by
  apply ba_ext
  rw [Lib.extract_data, Lib.extract_data, Lib.extract_data]
  simp only [List.drop_zero, Nat.sub_zero, List.take_take]
  congr 1
  omega
theorem bt_nat (t : ByteArray) (i : Nat) : bt t (i : Int) = ((byteAt t i).toNat : Int) := by rw [bt_get]; rfl
theorem u8_eq_iff (c : UInt8) (n : Nat) (hn : n < 256) : ((c.toNat : Int) = (n : Int)) ↔ c = UInt8.ofNat n := by
  constructor
  · intro h
    apply UInt8.toNat_inj.1
    have : c.toNat = n := by omega
    rw [this]
    simp [Nat.mod_eq_of_lt hn]
  · intro h
    rw [h]
    simp [Nat.mod_eq_of_lt hn]
/-- what word.first answers -/
def firstR (p : Nat) : Option (ByteArray × Nat) → Option (ByteArray × Int × Bool) → Prop
  | some (w, n), r => r = some (w, ((n - p : Nat) : Int), true)
  | none, r => ∃ a b, r = some (a, b, false)
theorem first_l0 (t : ByteArray) (ht : t.size ≤ 1099511627776) : ∀ (d k i : Nat), i ≤ t.size → t.size - i ≤ d → d < k →
    word_first.l0 k t (i : Int) = some (t.extract 0 (runPlain t d i), (runPlain t d i : Int), decide (((runPlain t d i : Nat) : Int) > 0)) := by
  intro d
  induction d with
  | zero =>
    intro k i hi hd hk
    obtain ⟨k, rfl⟩ : ∃ m, k = m + 1 := ⟨k - 1, by omega⟩
    rw [word_first.l0, if_neg (by omega), if_pos (by omega), if_pos (by omega), runPlain]
    rfl
  | succ d ih =>
    intro k i hi hd hk
    obtain ⟨k, rfl⟩ : ∃ m, k = m + 1 := ⟨k - 1, by omega⟩
    rw [word_first.l0]
    by_cases hp : i < t.size
    · rw [if_pos (by omega), if_pos (by omega), if_pos (by omega)]
      have e : ((i : Int)).toNat = i := by omega
      rw [e, may_f t i hp]
      simp only [Option.bind_some]
      rw [runPlain, if_pos hp]
      have hw := width_le t i hp
      have hw1 := width_pos t i
      cases hm : mayB t i with
      | true =>
        rw [if_pos rfl, if_pos rfl]
        have e2 : wrap64 ((i : Int) + ((width t i : Nat) : Int)) = ((i + width t i : Nat) : Int) := by
          have := w64 ((i : Int) + ((width t i : Nat) : Int)) (by omega) (by omega)
          rw [this]; rfl
        rw [e2]
        exact ih k (i + width t i) hw (by omega) (by omega)
      | false =>
        rw [if_neg (by decide), if_neg (by decide)]
    · rw [if_neg (by omega), if_pos (by omega), if_pos (by omega), runPlain, if_neg hp]
      rfl
theorem prefix_f (t : ByteArray) : strings_HasPrefix.f t ⟨#[34]⟩ = some (decide (0 < t.size ∧ byteAt t 0 = 34)) := by
  unfold strings_HasPrefix.f stringslite_HasPrefix.f
  have e1 : ((⟨#[34]⟩ : ByteArray).size : Int) = 1 := rfl
  rw [e1]
  by_cases h : 0 < t.size
  · rw [if_pos (by omega), if_pos (by omega), if_pos (by omega)]
    simp only [Option.bind_some]
    congr 1
    have e2 : (t.extract 0 (1 : Int).toNat).toList = [byteAt t 0] := by
      rw [Lib.toList_data, Lib.extract_data]
      have : t.data.toList.drop 0 = t[0] :: t.data.toList.drop 1 := List.drop_eq_getElem_cons (by rw [← Lib.size_eq]; exact h)
      rw [this]
      have e3 : byteAt t 0 = t[0] := get_lt t 0 h
      rw [e3]
      rfl
    rw [e2, Lib.toList_data, Bool.eq_iff_iff]
    simp [h]
  · rw [if_neg (by omega)]
    simp only [Option.bind_some]
    congr 1
    rw [eq_comm, decide_eq_false_iff_not]
    exact fun hh => h hh.1
theorem first_f (s : ByteArray) (hs : s.size ≤ 1099511627776) (p : Nat) (hp : p ≤ s.size) (k : Nat) (hk : s.size < k) : firstR p (firstAt s p) (word_first.f k (s.extract p s.size)) := by
  have hz := size_ex s p
  unfold word_first.f firstAt
  have hb0 : byteAt (s.extract p s.size) 0 = byteAt s p := byteAt_ex s p 0
  rw [prefix_f, size_ex, hb0]
  simp only [Option.bind_some]
  by_cases h : p < s.size ∧ byteAt s p = 34
  · rw [if_pos h, decide_eq_true (show 0 < s.size - p ∧ byteAt s p = 34 from ⟨by omega, h.2⟩), if_pos rfl]
    unfold word_quoted.f
    rw [if_pos (by rw [hz]; omega), quotedR, quotedFrom_ex, quotedFrom_fuel s (s.extract p s.size).size s.size (p + 1) [] (by rw [hz]; omega) (by omega)]
    cases quotedFrom s s.size (p + 1) [] with
    | none => exact ⟨_, _, rfl⟩
    | some ln => rfl
  · rw [if_neg h, decide_eq_false (show ¬ (0 < s.size - p ∧ byteAt s p = 34) from fun hh => h ⟨by omega, hh.2⟩), if_neg (show ¬ (false = true) by decide)]
    have h1 := first_l0 (s.extract p s.size) (by rw [hz]; omega) s.size k 0 (by omega) (by rw [hz]; omega) hk
    have h2 := runPlain_ex s p hp s.size 0
    rw [Nat.add_zero] at h2
    have h3 := runPlain_le s s.size p hp
    have e0 : ((0 : Nat) : Int) = 0 := rfl
    rw [e0] at h1
    rw [h1]
    by_cases h4 : runPlain s s.size p = p
    · rw [if_pos h4]
      have : runPlain (s.extract p s.size) s.size 0 = 0 := by omega
      rw [this]
      exact ⟨_, _, rfl⟩
    · rw [if_neg h4]
      have h5 : runPlain (s.extract p s.size) s.size 0 = runPlain s s.size p - p := by omega
      rw [h5]
      show _ = _
      have h6 : s.extract p (runPlain s s.size p) = (s.extract p s.size).extract 0 (runPlain s s.size p - p) := by
        rw [ex_ex0 s p _ (by omega)]
        congr 1
        omega
      rw [h6, decide_eq_true (by omega)]
theorem quotedFrom_le (s : ByteArray) : ∀ f pos acc l n, quotedFrom s f pos acc = some (l, n) → pos < n ∧ n ≤ s.size := by
  intro f
  induction f with
  | zero => intro pos acc l n h; cases h
  | succ f ih =>
    intro pos acc l n h
    rw [quotedFrom] at h
    split at h
    · rename_i hp
      have hw := width_pos s pos
      split at h
      · have := ih _ _ _ _ h; omega
      · split at h
        · cases h; omega
        · split at h
          · cases hE : escB s (pos + 1) with
            | none => rw [hE] at h; cases h
            | some cn =>
              rw [hE] at h
              have := ih _ _ _ _ h
              omega
          · cases h
    · cases h
theorem firstAt_le (s : ByteArray) (p : Nat) (hp : p ≤ s.size) (w : ByteArray) (n : Nat) (h : firstAt s p = some (w, n)) : p < n ∧ n ≤ s.size := by
  unfold firstAt at h
  split at h
  · cases hq : quotedFrom s s.size (p + 1) [] with
    | none => rw [hq] at h; cases h
    | some ln =>
      rw [hq] at h
      have := quotedFrom_le s _ _ _ _ _ (show _ = some (ln.1, ln.2) from hq)
      cases h
      omega
  · have h3 := runPlain_le s s.size p hp
    split at h
    · cases h
    · cases h; omega
def splitO : Option (List ByteArray) → List ByteArray × Int
  | some l => (l, 0)
  | none => ([], 2)
theorem split_l0 (s : ByteArray) (hs : s.size ≤ 1099511627776) : ∀ (f p k : Nat) (acc : List ByteArray), p ≤ s.size → s.size - p < f → s.size + f < k → acc.length + f ≤ 2199023255552 →
    word_Split.l0 k (s.extract p s.size) acc = some (splitO (splitFrom s f p acc)) := by
  intro f
  induction f with
  | zero => intro p k acc hp hf; omega
  | succ f ih =>
    intro p k acc hp hf hk hl
    obtain ⟨k, rfl⟩ : ∃ m, k = m + 1 := ⟨k - 1, by omega⟩
    have hz := size_ex s p
    have h1 := first_f s hs p hp k (by omega)
    rw [word_Split.l0, splitFrom]
    cases hF : firstAt s p with
    | none =>
      rw [hF] at h1
      obtain ⟨a, b, h1⟩ := h1
      rw [h1]
      simp only [Option.bind_some]
      rw [if_neg (by decide)]
      rfl
    | some wn =>
      obtain ⟨w, n⟩ := wn
      have hn := firstAt_le s p hp w n hF
      rw [hF] at h1
      have h1' : word_first.f k (s.extract p s.size) = some (w, ((n - p : Nat) : Int), true) := h1
      rw [h1']
      simp only [Option.bind_some]
      rw [if_pos trivial, if_pos (by omega), hz]
      by_cases hE : n = s.size
      · rw [if_pos hE, if_pos (by omega)]
        rfl
      · rw [if_neg hE, if_neg (by omega), if_pos (by omega), if_pos (by omega), bt_nat, byteAt_ex, show p + (n - p) = n by omega]
        by_cases h32 : byteAt s n = 32
        · rw [if_pos h32, if_pos (by rw [h32]; rfl)]
          have e2 : wrap64 (((n - p : Nat) : Int) + 1) = ((n - p + 1 : Nat) : Int) := by
            have := w64 (((n - p : Nat) : Int) + 1) (by omega) (by omega)
            rw [this]; rfl
          rw [e2]
          have e3 : ((n - p + 1 : Nat) : Int).toNat = n - p + 1 := by omega
          have h7 := ex_ex s p (n - p + 1)
          rw [hz] at h7
          rw [if_pos (by omega), if_pos (by omega), e3, h7, show p + (n - p + 1) = n + 1 by omega]
          exact ih (n + 1) k (acc ++ [w]) (by omega) (by omega) (by omega) (by simp; omega)
        · rw [if_neg h32, if_neg (show ¬ (((byteAt s n).toNat : Int) = 32) from fun h => h32 ((u8_eq_iff _ 32 (by decide)).1 h))]
          rfl
theorem ex_all (s : ByteArray) : s.extract 0 s.size = s := by
  apply ba_ext
  rw [Lib.extract_data]
  simp only [List.drop_zero, Nat.sub_zero]
  exact List.take_of_length_le (by rw [← Lib.size_eq]; exact Nat.le_refl _)
theorem empty_iff (s : ByteArray) : s.toList = ([] : List UInt8) ↔ s.size = 0 := by
  rw [Lib.toList_data, ← List.length_eq_zero_iff, ← Lib.size_eq]
/-- what the program's Split computes -/
theorem word_Split_f (s : ByteArray) (hs : s.size ≤ 1099511627776) (k : Nat) (hk : 2 * s.size + 1 < k) : word_Split.f k s = some (if s.size = 0 then ([], 0) else splitO (splitFrom s (s.size + 1) 0 [])) := by
  unfold word_Split.f
  by_cases h : s.size = 0
  · rw [if_pos ((empty_iff s).2 h), if_pos h]
  · rw [if_neg (fun hh => h ((empty_iff s).1 hh)), if_neg h]
    have := split_l0 s hs (s.size + 1) 0 k [] (by omega) (by omega) (by omega) (by simp; omega)
    rw [ex_all] at this
    exact this
end Go.Proofs.YtfaelejeihmgcaaDoor.Wd
end

section
namespace Go.Proofs.YtfaelejeihmgcaaDoor.Wd
open Go.RowKit Go.Proofs.YtfaelejeihmgcaaDoorW.PrintWords Go.Proofs.YtfaelejeihmgcaaDoorW.PrintLast
theorem decode_lt (s : ByteArray) (i : Nat) (hi : i < s.size) (h : (byteAt s i).toNat < 128) : Utf8.decode s i = ((byteAt s i).toNat, 1) := by
  have e : byteAt s i = s[i] := get_lt s i hi
  rw [e] at h ⊢
  exact decode_ascii s i hi h
theorem wn (i n : Nat) (h : i + n ≤ 1099511627780) : wrap64 ((i : Int) + (n : Int)) = ((i + n : Nat) : Int) := by
  have := w64 ((i : Int) + (n : Int)) (by omega) (by omega)
  rw [this]; rfl
theorem wn1 (i : Nat) (h : i + 1 ≤ 1099511627780) : wrap64 ((i : Int) + 1) = ((i + 1 : Nat) : Int) := wn i 1 h
end Go.Proofs.YtfaelejeihmgcaaDoor.Wd
end

section
namespace Go.Proofs.YtfaelejeihmgcaaDoor.Stp
open Go.RowKit Go.Proofs.YtfaelejeihmgcaaDoorW.PrintWords
theorem bytesAt_len (s : ByteArray) (i n : Nat) : (Wd.bytesAt s i n).length ≤ n := by
  unfold Wd.bytesAt
  rw [List.length_take]
  omega
theorem quoted_size (s : ByteArray) : ∀ f pos acc l n, Wd.quotedFrom s f pos acc = some (l, n) → l.length + pos ≤ acc.length + n := by
  intro f
  induction f with
  | zero => intro pos acc l n h; cases h
  | succ f ih =>
    intro pos acc l n h
    rw [Wd.quotedFrom] at h
    split at h
    · split at h
      · have := ih _ _ _ _ h
        have hb := bytesAt_len s pos (Wd.width s pos)
        rw [List.length_append] at this
        omega
      · split at h
        · cases h; omega
        · split at h
          · cases hE : Wd.escB s (pos + 1) with
            | none => rw [hE] at h; cases h
            | some cn =>
              rw [hE] at h
              have := ih _ _ _ _ h
              rw [List.length_append] at this
              simp only [List.length_cons, List.length_nil] at this
              omega
          · cases h
    · cases h
theorem first_size (s : ByteArray) (p : Nat) (hp : p ≤ s.size) (w : ByteArray) (n : Nat) (h : Wd.firstAt s p = some (w, n)) : w.size ≤ s.size := by
  have hn := (Wd.firstAt_le s p hp w n h).2
  unfold Wd.firstAt at h
  split at h
  · cases hq : Wd.quotedFrom s s.size (p + 1) [] with
    | none => rw [hq] at h; cases h
    | some ln =>
      rw [hq] at h
      have := quoted_size s _ _ _ _ _ (show _ = some (ln.1, ln.2) from hq)
      cases h
      simp only [List.length_nil] at this
      show ln.1.toArray.size ≤ s.size
      rw [List.size_toArray]
      omega
  · split at h
    · cases h
    · cases h
      rw [ByteArray.size_extract]
      omega
theorem split_lim (s : ByteArray) : ∀ (f p : Nat) (acc l : List ByteArray), p ≤ s.size → Wd.splitFrom s f p acc = some l → (∀ x ∈ acc, x.size ≤ s.size) → l.length ≤ acc.length + (s.size - p) ∧ ∀ x ∈ l, x.size ≤ s.size := by
  intro f
  induction f with
  | zero => intro p acc l hp h; cases h
  | succ f ih =>
    intro p acc l hp h ha
    rw [Wd.splitFrom] at h
    cases hF : Wd.firstAt s p with
    | none => rw [hF] at h; cases h
    | some wn =>
      obtain ⟨w, n⟩ := wn
      have h1 := Wd.firstAt_le s p hp w n hF
      have h2 := first_size s p hp w n hF
      have ha' : ∀ x ∈ acc ++ [w], x.size ≤ s.size := by
        intro x hx
        rcases List.mem_append.1 hx with hx | hx
        · exact ha x hx
        · rw [List.mem_singleton.1 hx]; exact h2
      rw [hF] at h
      simp only at h
      split at h
      · cases h
        refine ⟨?_, ha'⟩
        rw [List.length_append]
        simp only [List.length_cons, List.length_nil]
        omega
      · split at h
        · have := ih (n + 1) _ _ (by omega) h ha'
          rw [List.length_append] at this
          simp only [List.length_cons, List.length_nil] at this
          exact ⟨by omega, this.2⟩
        · cases h
/-- a line's words, and whether it has any -/
def lineT (s : ByteArray) : List ByteArray × Int := if s.size = 0 then ([], 0) else Wd.splitO (Wd.splitFrom s (s.size + 1) 0 [])
theorem line_lim (s : ByteArray) : (lineT s).1.length ≤ s.size ∧ (∀ x ∈ (lineT s).1, x.size ≤ s.size) ∧ ((lineT s).2 = 0 ∨ (lineT s).2 = 2) := by
  unfold lineT
  split
  · exact ⟨Nat.zero_le _, by simp, .inl rfl⟩
  · cases h : Wd.splitFrom s (s.size + 1) 0 [] with
    | none => exact ⟨Nat.zero_le _, by simp [Wd.splitO], .inr rfl⟩
    | some l =>
      have := split_lim s _ 0 [] l (Nat.zero_le _) h (by simp)
      exact ⟨by have h1 := this.1; simp only [List.length_nil] at h1; show l.length ≤ s.size; omega, this.2, .inl rfl⟩
/-- the step that a line says -/
def parseL (s : ByteArray) : OpV × Int := parseO (lineT s).1 (lineT s).2
/-- a step's two lists, in memory -/
structure OpL (W : World) (o : OpV) (Ak : Option Addr) (ck : Nat) (Am : Option Addr) (cm : Nat) : Prop where
  k : Kd.C Kd.string W Ak o.keys.length o.keys
  kc : o.keys.length ≤ ck
  m : Kd.C (Kd.int .i64) W Am o.mask.length o.mask
  mc : o.mask.length ≤ cm
theorem OpL.below {W W1 : World} {o : OpV} {Ak Am : Option Addr} {ck cm : Nat} (h : OpL W o Ak ck Am cm) (hb : Below W.heap.size W W1) : OpL W1 o Ak ck Am cm := ⟨Kd.C_below h.k hb, h.kc, Kd.C_below h.m hb, h.mc⟩
/-- what stands behind a parsing: the step is new memory -/
def Got (w : World) (r : OpV × Int) (e : Ending) (w' : World) : Prop :=
  ∃ Ak ck Am cm, e = .returned (.tuple #[.agg #[.int .i64 r.1.kind, .int .i64 r.1.s, .string r.1.key, .string r.1.val, .slice Ak r.1.keys.length ck, .int .i64 r.1.n, .slice Am r.1.mask.length cm, .int .i64 r.1.page, .int .i64 r.1.at_, .int .i64 r.1.x], .int .i64 r.2]) ∧ OpL w' r.1 Ak ck Am cm ∧ Below w.heap.size w w'
theorem got_of {w : World} {r : OpV × Int} {e : Ending} {w' : World} (h : Parsed w r e w') : Got w r e w' := by
  obtain ⟨vk, vm, he, hk, hm, hb⟩ := h
  obtain ⟨Ak, ck, ek⟩ := Kd.R_slice hk
  obtain ⟨Am, cm, em⟩ := Kd.R_slice hm
  subst ek
  subst em
  have h1 := Kd.R_reads' hk
  have h2 := Kd.R_reads' hm
  exact ⟨Ak, ck, Am, cm, he, ⟨h1.2.2, h1.2.1, h2.2.2, h2.2.1⟩, hb⟩
theorem step_Parse_got (s : ByteArray) (hs : s.size ≤ 1048576) (w : World) (hT : Tabs w) : Calls Tryd.prog 42 #[.string s] w (Got w (parseL s)) := by
  have h := line_lim s
  exact (step_Parse_walk 3000000 s (lineT s).1 (lineT s).2 w (Wd.word_Split_f s (by omega) 3000000 (by omega)) (by omega) (fun x hx => by have := h.2.1 x hx; omega) hT).mono fun e w' h' => got_of h'
end Go.Proofs.YtfaelejeihmgcaaDoor.Stp
end

section
namespace Go.Proofs.YtfaelejeihmgcaaDoor.Stp
open Go.RowKit Go.Proofs.YtfaelejeihmgcaaDoorW.PrintWords Go.Proofs.YtfaelejeihmgcaaDoorW.PrintLast
/-- a step in a block of its own -/
def OpAt (W : World) (g : Nat) (o : OpV) (Ak : Option Addr) (ck : Nat) (Am : Option Addr) (cm : Nat) : Prop :=
  W.heap[g]? = some (.cells #[.int .i64 o.kind, .int .i64 o.s, .string o.key, .string o.val, .slice Ak o.keys.length ck, .int .i64 o.n, .slice Am o.mask.length cm, .int .i64 o.page, .int .i64 o.at_, .int .i64 o.x] 61) ∧ OpL W o Ak ck Am cm
theorem OpAt.below {W W1 : World} {g : Nat} {o : OpV} {Ak Am : Option Addr} {ck cm : Nat} (h : OpAt W g o Ak ck Am cm) (hb : Below W.heap.size W W1) : OpAt W1 g o Ak ck Am cm :=
  ⟨(hb.block g (Array.getElem?_eq_some_iff.1 h.1).1).trans h.1, h.2.below hb⟩
/-- the block that a step is stored into -/
def opO (o : OpV) (Ak : Option Addr) (ck : Nat) (Am : Option Addr) (cm : Nat) : Obj := .cells #[.int .i64 o.kind, .int .i64 o.s, .string o.key, .string o.val, .slice Ak o.keys.length ck, .int .i64 o.n, .slice Am o.mask.length cm, .int .i64 o.page, .int .i64 o.at_, .int .i64 o.x] 61
theorem OpAt.alloc {W : World} {o : OpV} {Ak Am : Option Addr} {ck cm : Nat} (h : OpL W o Ak ck Am cm) : OpAt (W.alloc (opO o Ak ck Am cm)) W.heap.size o Ak ck Am cm :=
  ⟨heap_alloc_new W _, h.below (below_alloc (Below.refl _ _) _)⟩
end Go.Proofs.YtfaelejeihmgcaaDoor.Stp
end

section
namespace Go.Proofs.YtfaelejeihmgcaaDoor.Stp
open Go.RowKit Go.Proofs.YtfaelejeihmgcaaDoorW.PrintWords Go.ChangeShapes Go.WideShapes
theorem laidOut : laidOutB Tryd.prog = true := by kernel_rfl
def okI (_ : Nat) (n : Int) : Prop := (Lit.int .i64 n).wf = true
def okS (N : Nat) (s : ByteArray) : Prop := s.size ≤ N ∧ s.size ≤ maxLen
def okT (N : Nat) (l : List ByteArray) : Prop := l.length ≤ N ∧ ∀ x ∈ l, okS N x
def okM (N : Nat) (l : List Int) : Prop := l.length ≤ N ∧ ∀ x ∈ l, okI N x
theorem o3 : Opn.Opn (Kd.int .i64) 3 okI := Opn.int Tryd.underlying3 (by kernel_rfl)
theorem o9 : Opn.Opn Kd.string 9 okS := Opn.string Tryd.underlying9 (by kernel_rfl)
theorem o22 : Opn.Opn (Kd.slice 9 Kd.string) 22 okT := Opn.slice o9 Tryd.underlying22 (by kernel_rfl)
theorem o56 : Opn.Opn (Kd.slice 3 (Kd.int .i64)) 56 okM := Opn.slice o3 Tryd.underlying56 (by kernel_rfl)
def projO (o : OpV) : Int × Int × ByteArray × ByteArray × List ByteArray × Int × List Int × Int × Int × Int := (o.kind, o.s, o.key, o.val, o.keys, o.n, o.mask, o.page, o.at_, o.x)
def k61 : Kd OpV := Kd.iso (Kd.pair (Kd.int .i64) (Kd.pair (Kd.int .i64) (Kd.pair Kd.string (Kd.pair Kd.string (Kd.pair (Kd.slice 9 Kd.string) (Kd.pair (Kd.int .i64) (Kd.pair (Kd.slice 3 (Kd.int .i64)) (Kd.pair (Kd.int .i64) (Kd.pair (Kd.int .i64) (Kd.int .i64)))))))))) projO
def ok61 (N : Nat) (o : OpV) : Prop := okI N o.kind ∧ okI N o.s ∧ okS N o.key ∧ okS N o.val ∧ okT N o.keys ∧ okI N o.n ∧ okM N o.mask ∧ okI N o.page ∧ okI N o.at_ ∧ okI N o.x
set_option maxRecDepth 100000 in
theorem o61 : Opn.Opn k61 61 ok61 :=
  Opn.struct (proj := projO) (Opn.OpnF.cons (f := { name := "Kind", type := 3, offset := 0, embedded := false, tag := "", pkgPath := "", byteOffset := 0 }) o3 rfl rfl (Opn.OpnF.cons (f := { name := "S", type := 3, offset := 1, embedded := false, tag := "", pkgPath := "", byteOffset := 8 }) o3 rfl rfl (Opn.OpnF.cons (f := { name := "Key", type := 9, offset := 2, embedded := false, tag := "", pkgPath := "", byteOffset := 16 }) o9 rfl rfl (Opn.OpnF.cons (f := { name := "Val", type := 9, offset := 3, embedded := false, tag := "", pkgPath := "", byteOffset := 32 }) o9 rfl rfl (Opn.OpnF.cons (f := { name := "Keys", type := 22, offset := 4, embedded := false, tag := "", pkgPath := "", byteOffset := 48 }) o22 rfl rfl (Opn.OpnF.cons (f := { name := "N", type := 3, offset := 5, embedded := false, tag := "", pkgPath := "", byteOffset := 72 }) o3 rfl rfl (Opn.OpnF.cons (f := { name := "Mask", type := 56, offset := 6, embedded := false, tag := "", pkgPath := "", byteOffset := 80 }) o56 rfl rfl (Opn.OpnF.cons (f := { name := "Page", type := 3, offset := 7, embedded := false, tag := "", pkgPath := "", byteOffset := 104 }) o3 rfl rfl (Opn.OpnF.cons (f := { name := "At", type := 3, offset := 8, embedded := false, tag := "", pkgPath := "", byteOffset := 112 }) o3 rfl rfl (Opn.OpnF.one (f := { name := "X", type := 3, offset := 9, embedded := false, tag := "", pkgPath := "", byteOffset := 120 }) o3 rfl rfl)))))))))) Tryd.underlying61 (by kernel_rfl) (fun y => ⟨y.1, y.2.1, y.2.2.1, y.2.2.2.1, y.2.2.2.2.1, y.2.2.2.2.2.1, y.2.2.2.2.2.2.1, y.2.2.2.2.2.2.2.1, y.2.2.2.2.2.2.2.2.1, y.2.2.2.2.2.2.2.2.2⟩) (fun _ => rfl)
set_option maxRecDepth 100000 in
/-- a step that came in -/
theorem op_arg {H : Type} {enc : TypeId × Value → H} {W : World} {b0 : Nat} {v : Value} {d : DataW H} {ps : List MemPlace} (hval : Value.okWide Tryd.prog W .any b0 61 v) (h : DataW.Trod enc Tryd.prog W 0 (fun _ => true) true 61 v d ps) :
    ∃ o A c B e, v = .agg #[.int .i64 o.kind, .int .i64 o.s, .string o.key, .string o.val, .slice A o.keys.length c, .int .i64 o.n, .slice B o.mask.length e, .int .i64 o.page, .int .i64 o.at_, .int .i64 o.x] ∧ OpL W o A c B e ∧ ok61 (Rows.uptoBulk d) o := by
  obtain ⟨cs, rfl, _⟩ := okWide_struct Tryd.underlying61 hval
  obtain ⟨fuel, hf⟩ := h
  obtain ⟨o, hK, hx⟩ := o61.opn hf
  obtain ⟨c0, r0, e0, k0, c1, r1, e1, k1, c2, r2, e2, k2, c3, r3, e3, k3, c4, r4, e4, ⟨A, c, k4, h4, g4⟩, c5, r5, e5, k5, c6, r6, e6, ⟨B, e, k6, h6, g6⟩, c7, r7, e7, k7, c8, r8, e8, k8, k9⟩ := hK
  refine ⟨o, A, c, B, e, ?_, ⟨g4, h4, g6, h6⟩, hx⟩
  have e2 : cs.toList = [.int .i64 o.kind, .int .i64 o.s, .string o.key, .string o.val, .slice A o.keys.length c, .int .i64 o.n, .slice B o.mask.length e, .int .i64 o.page, .int .i64 o.at_, .int .i64 o.x] := by
    show cs.toList = _
    have e0' : cs.toList = c0 ++ r0 := e0
    rw [e0', k0, e1, k1, e2, k2, e3, k3, e4, k4, e5, k5, e6, k6, e7, k7, e8, k8, k9]
    rfl
  obtain ⟨l⟩ := cs
  simp only at e2
  rw [e2]
end Go.Proofs.YtfaelejeihmgcaaDoor.Stp
end

section
namespace Go.Proofs.YtfaelejeihmgcaaDoor.Stp
open Go.RowKit Go.Proofs.YtfaelejeihmgcaaDoorW.PrintWords Go.Proofs.YtfaelejeihmgcaaDoorW.PrintLast Go.Proofs.YtfaelejeihmgcaaDoorW.PrintMore
attribute [local go_sem] max2_int min2_int max_two min_two max_three min_three max_four min_four   -- for this text's walks alone
set_option linter.unusedVariables false
set_option linter.unusedSimpArgs false
def cachepotref3_Digits.f : Nat → Int → Option (ByteArray)
  | 0, _ => none
  | k + 1, a0 => if a0 ≤ (-10) then ((cachepotref3_Digits.f k (wrap64 (Int.tdiv a0 10))).bind fun t175 => ((some (([(wrap64 (48 - (Int.tmod a0 10))) % 256] : List Int) : List Int)).bind fun y176 => (if t175.size + (strOfNums y176).size ≤ 9223372036854775807 then (some (t175 ++ (strOfNums y176))) else (none)))) else (if a0 < 0 then ((some (([(wrap64 (48 - a0)) % 256] : List Int) : List Int)).bind fun y179 => (if 1 + (strOfNums y179).size ≤ 9223372036854775807 then (some ((⟨#[45]⟩ : ByteArray) ++ (strOfNums y179))) else (none))) else (if a0 < 10 then (some (strOfNums (([(wrap64 (48 + a0)) % 256] : List Int)))) else ((cachepotref3_Digits.f k (wrap64 (Int.tdiv a0 10))).bind fun t185 => ((cachepotref3_Digits.f k (Int.tmod a0 10)).bind fun t186 => (if t185.size + t186.size ≤ 9223372036854775807 then (some (t185 ++ t186)) else (none))))))
def cachepotref3_Digits.T2 : Bool × List (List Nat × List Nat) := (true, [([], []), ([0], [0]), ([1], [1]), ([], []), ([3], [3]), ([4], [4]), ([5], [5]), ([6], [6]), ([7], [7]), ([2, 8], [2, 8]), ([9, 2, 0, 1, 2, 3, 4, 5, 6, 7, 8, 9], [9])])
def cachepotref3_Digits.B2 : List Nat := [0, 1, 3, 0, 8, 24, 56, 120, 248, 511, 1023]
theorem cachepotref3_Digits.tab2 : rtab .any (opsOf Tryd.f51 2) = cachepotref3_Digits.T2 := by kernel_rfl
theorem cachepotref3_Digits.bits2 : waitsOk cachepotref3_Digits.T2.2 cachepotref3_Digits.B2 = true := by kernel_rfl
set_option maxHeartbeats 8000000 in
set_option maxRecDepth 100000 in
theorem cachepotref3_Digits.calls (k : Nat) : ∀ (a0 : Int) (r : ByteArray) (w : World) (h : cachepotref3_Digits.f k a0 = some r),
    Calls Tryd.prog 51 #[.int .i64 a0] w fun e w' => e = .returned (.string r) ∧ Below w.heap.size w w' := by
  induction k using Nat.strongRecOn with
  | _ k ih =>
  intro a0 r w h
  cases k with
  | zero => exact absurd h (by simp [cachepotref3_Digits.f])
  | succ k =>
  simp only [cachepotref3_Digits.f] at h
  have HB := Aside0.mk (Below.refl w.heap.size w)
  have H : (if a0 ≤ (-10) then ((cachepotref3_Digits.f k (wrap64 (Int.tdiv a0 10))).bind fun t175 => ((some (([(wrap64 (48 - (Int.tmod a0 10))) % 256] : List Int) : List Int)).bind fun y176 => (if t175.size + (strOfNums y176).size ≤ 9223372036854775807 then (some (t175 ++ (strOfNums y176))) else (none)))) else (if a0 < 0 then ((some (([(wrap64 (48 - a0)) % 256] : List Int) : List Int)).bind fun y179 => (if 1 + (strOfNums y179).size ≤ 9223372036854775807 then (some ((⟨#[45]⟩ : ByteArray) ++ (strOfNums y179))) else (none))) else (if a0 < 10 then (some (strOfNums (([(wrap64 (48 + a0)) % 256] : List Int)))) else ((cachepotref3_Digits.f k (wrap64 (Int.tdiv a0 10))).bind fun t185 => ((cachepotref3_Digits.f k (Int.tmod a0 10)).bind fun t186 => (if t185.size + t186.size ≤ 9223372036854775807 then (some (t185 ++ t186)) else (none))))))) = some r := h
  clear h
  by_cases c2 : a0 ≤ (-10)
  · rw [if_pos c2] at H
    have c2b0 : decide (a0 ≤ (-10)) = true := decide_eq_true c2
    clear c2
    replace H := Option.bind_eq_some_iff.mp H
    obtain ⟨t175, A30, H⟩ := H
    replace H : ((some (([(wrap64 (48 - (Int.tmod a0 10))) % 256] : List Int) : List Int)).bind fun y176 => (if t175.size + (strOfNums y176).size ≤ 9223372036854775807 then (some (t175 ++ (strOfNums y176))) else (none))) = some r := H
    have A3 := Aside0.mk A30
    clear A30
    obtain ⟨y176, hy176⟩ : ∃ y_ : List Int, y_ = (([(wrap64 (48 - (Int.tmod a0 10))) % 256] : List Int)) := ⟨_, rfl⟩
    replace H : (if t175.size + (strOfNums y176).size ≤ 9223372036854775807 then (some (t175 ++ (strOfNums y176))) else (none)) = some r := by first | (rw [hy176]; with_reducible exact H) | (have H2_ := (Option.bind_some _ _).symm.trans H; rw [hy176]; with_reducible exact H2_) | (have H2_ := (Option.bind_some _ _).symm.trans H; with_reducible exact H2_) | with_reducible exact H | (rw [hy176]; exact H) | exact H
    have Ny176 := Aside0.mk hy176
    clear hy176
    by_cases c4 : t175.size + (strOfNums y176).size ≤ 9223372036854775807
    · rw [if_pos c4] at H
      have c4b0 := eq_true c4
      have c4b1 : decide (t175.size + (strOfNums y176).size ≤ 9223372036854775807) = true := decide_eq_true c4
      try have c4b2 : (9223372036854775807 < t175.size + (strOfNums y176).size) = False := eq_false (Nat.not_lt.2 c4)
      obtain rfl := Option.some.inj H
      go_enter Tryd.func51, Tryd.ntmps51
      try go_wp2
      have n0_ := Aside0.mk (below_drew1 HB.out)
      clear HB
      have HB := n0_
      clear n0_
      refine start_ (n := 11) (S := fun w' => True) (ds := []) #[false, false, false, false, false, false, false, false, false, false, false] (by kernel_rfl) rfl rfl trivial (fun hHeld => ?_); refine with_tabW cachepotref3_Digits.tab2 cachepotref3_Digits.bits2 (fun HT_ HW_ => ?_)
      generalize w.drew = w5 at HB hHeld ⊢
      refine pure_ (i := 0) (N := some 5) (v := ?_) (a' := ?_) #[true, false, false, false, false, false, false, false, false, false, false] rfl rfl (any_of HT_.out (by kernel_rfl)) (fun _ _ _ h => h) (Or.inl ⟨by rfl, ?_⟩) ?_ ?_
      rotate_left
      · intro w'
        go_simp
        with_reducible rfl
      rotate_left
      · simp only [Act.put, List.setIfInBounds_toArray, List.set_cons_zero, List.set_cons_succ, i64_w, i32_w]
        rfl
      refine pure_ (i := 1) (N := some 6) (v := ?_) (a' := ?_) #[true, true, false, false, false, false, false, false, false, false, false] rfl rfl (any_of HT_.out (by kernel_rfl)) (fun _ _ _ h => h) (Or.inl ⟨by rfl, ?_⟩) ?_ ?_
      rotate_left
      · intro w'
        go_simp
        with_reducible rfl
      rotate_left
      · simp only [Act.put, List.setIfInBounds_toArray, List.set_cons_zero, List.set_cons_succ, i64_w, i32_w]
        rfl
      refine pure_ (i := 3) (N := some 8) (v := ?_) (a' := ?_) #[true, true, false, true, false, false, false, false, false, false, false] rfl rfl (any_of HT_.out (by kernel_rfl)) (fun _ _ _ h => h) (Or.inl ⟨by rfl, ?_⟩) ?_ ?_
      rotate_left
      · intro w'
        go_simp
        with_reducible rfl
      rotate_left
      · simp only [Act.put, List.setIfInBounds_toArray, List.set_cons_zero, List.set_cons_succ, i64_w, i32_w]
        rfl
      refine pure_ (i := 4) (N := some 9) (v := ?_) (a' := ?_) #[true, true, false, true, true, false, false, false, false, false, false] rfl rfl (any_of HT_.out (by kernel_rfl)) (fun _ _ _ h => h) (Or.inl ⟨by rfl, ?_⟩) ?_ ?_
      rotate_left
      · intro w'
        go_simp
        with_reducible rfl
      rotate_left
      · simp only [Act.put, List.setIfInBounds_toArray, List.set_cons_zero, List.set_cons_succ, i64_w, i32_w]
        rfl
      refine pure_ (i := 5) (N := some 10) (v := ?_) (a' := ?_) #[true, true, false, true, true, true, false, false, false, false, false] rfl rfl (any_of HT_.out (by kernel_rfl)) (fun _ _ _ h => h) (Or.inl ⟨by rfl, ?_⟩) ?_ ?_
      rotate_left
      · intro w'
        go_simp
        with_reducible rfl
      rotate_left
      · simp only [Act.put, List.setIfInBounds_toArray, List.set_cons_zero, List.set_cons_succ, i64_w, i32_w]
        rfl
      refine pure_ (i := 6) (N := some 11) (v := ?_) (a' := ?_) #[true, true, false, true, true, true, true, false, false, false, false] rfl rfl (any_of HT_.out (by kernel_rfl)) (fun _ _ _ h => h) (Or.inl ⟨by rfl, ?_⟩) ?_ ?_
      rotate_left
      · intro w'
        go_simp
        with_reducible rfl
      rotate_left
      · simp only [Act.put, List.setIfInBounds_toArray, List.set_cons_zero, List.set_cons_succ, i64_w, i32_w]
        rfl
      refine join_ (σ := Value) 2 #[true, true, true, true, true, true, true, true, true, false, false] (fun s_ => [(7, .string t175), (12, s_), (13, .string (strOfNums y176))]) (fun s_ w' => (Kd.R (Kd.int .u8) 5 w' w.heap.size (fun _ => True) s_ y176) ∧ (Below w.heap.size w w')) ?_ ?_
      rotate_left
      · intro hCont
        refine two_ (i := 2) (j := 7) (Ni := some 7) (Nj := some 12) #[true, true, true, true, true, true, true, false, false, false, false] #[true, true, false, true, true, true, true, true, false, false, false] rfl rfl rfl rfl (two_of HT_.out (by kernel_rfl)) (by decide) (by decide) (fun K hK => ?_) (fun K hK => ?_)
        · skip
          refine goes_ Tryd.func51 (by kernel_rfl) rfl #[.int .i64 (wrap64 (Int.tdiv a0 10))] (by rfl) rfl rfl (by (try simp only [List.map_toArray, List.map_cons, List.map_nil]); first | done | rfl | (simp only [List.length_drop, List.length_take]; rfl)) ?_
          with_reducible refine (ih k (by omega) (wrap64 (Int.tdiv a0 10)) t175 _ A3.out).mono ?_
          rintro e w6 ⟨rfl, hb⟩
          refine ⟨_, rfl, ?_⟩
          have n0_ := Aside0.mk (below_step (by repeat (first | (with_reducible first | exact HB.out | apply below_alloc | apply pw_below_drewN | apply below_drew1) | exact HB.out)) hb)
          clear HB
          have HB := n0_
          clear n0_
          (try clear hb)
          (try clear hb2)
          (try clear hk)
          (try clear hi)
          refine hK.out _ _ trivial (fun hHeld => ?_)
          clear hK K
          refine norm_ (a' := ?_) ?_ ?_
          rotate_left
          · show Act.put _ (some 7) _ = _
            simp only [Act.put, List.setIfInBounds_toArray, List.set_cons_zero, List.set_cons_succ, i64_w, i32_w]
            rfl
          refine one_ (i := 7) (N := some 12) #[true, true, true, true, true, true, true, true, false, false, false] rfl rfl (one_of HT_.out (by kernel_rfl)) (by decide) (fun K hK => ?_)
          refine Kd.R_lit_step (Kd.int .u8) _ 5 ?hg (N := 12) ?hd (xs := ([(wrap64 (48 - (Int.tmod a0 10))) % 256] : List Int)) (inner := [.int .u8 ((wrap64 (48 - (Int.tmod a0 10))) % 256)]) (ok := fun _ => True) (okp := fun _ => True) ?hr ?hp (fun _ hk => hk) trivial (Below.refl _ _) (Nat.le_refl _) (by simp) ?_; (case hd => rfl); (case hg => rfl); (case hr => first | (go_simp; done) | (go_simp; rfl)); (case hp => exact (Reps.one (show Kd.M (Kd.int .u8) _ _ _ ((wrap64 (48 - (Int.tmod a0 10))) % 256) [.int .u8 ((wrap64 (48 - (Int.tmod a0 10))) % 256)] from rfl) (Reps.none _ _)))
          intro v177 w7 ho8 hb hg_ hnew_
          clear hg_ hnew_
          (first | rw [← Ny176.out] at ho8 | (simp only [Int.reduceToNat] at ho8; rw [← Ny176.out] at ho8))
          have n0_ := Aside0.mk (Kd.R_lower ho8 (below_size (by repeat (first | (with_reducible first | exact HB.out | apply below_alloc | apply pw_below_drewN | apply below_drew1) | exact HB.out))))
          have n1_ := Aside0.mk (below_step (by repeat (first | (with_reducible first | exact HB.out | apply below_alloc | apply pw_below_drewN | apply below_drew1) | exact HB.out)) hb)
          clear HB
          have HO178 := n0_
          have HB := n1_
          clear n0_ n1_
          clear hb ho8
          refine hK.out _ _ trivial (fun hHeld => ?_)
          clear hK K
          refine norm_ (a' := ?_) ?_ ?_
          rotate_left
          · show Act.put _ (some 12) _ = _
            simp only [Act.put, List.setIfInBounds_toArray, List.set_cons_zero, List.set_cons_succ, i64_w, i32_w]
            rfl
          refine one_ (i := 8) (N := some 13) #[true, true, true, true, true, true, true, true, true, false, false] rfl rfl (one_of HT_.out (by kernel_rfl)) (by decide) (fun K hK => ?_)
          have hcv9 := own_string (P := Tryd.prog) Tryd.underlying32 Tryd.underlying5 Tryd.underlying9 (Kd.own_of_R HO178.out)
          refine value_ (w1 := ?_) (v := ?_) (by rfl) rfl ?_ ?_
          rotate_left 2
          · go_simp
            constructor
            · rfl
            · rfl
          clear hcv9
          refine hK.out _ _ trivial (fun hHeld => ?_)
          clear hK K
          refine norm_ (a' := ?_) ?_ ?_
          rotate_left
          · show Act.put _ (some 13) _ = _
            simp only [Act.put, List.setIfInBounds_toArray, List.set_cons_zero, List.set_cons_succ, i64_w, i32_w]
            rfl
          exact norm_ (by simp only [putAll, Act.put, List.setIfInBounds_toArray, List.set_cons_zero, List.set_cons_succ]) (hCont (v177) _ ⟨(by (with_reducible repeat (first | apply Kd.R_alloc | apply Kd.R_drewN | apply Kd.R_drew)); exact HO178.out), (by repeat (first | (with_reducible first | exact HB.out | apply below_alloc | apply pw_below_drewN | apply below_drew1) | exact HB.out))⟩)
        · skip
          refine Kd.R_lit_step (Kd.int .u8) _ 5 ?hg (N := 12) ?hd (xs := ([(wrap64 (48 - (Int.tmod a0 10))) % 256] : List Int)) (inner := [.int .u8 ((wrap64 (48 - (Int.tmod a0 10))) % 256)]) (ok := fun _ => True) (okp := fun _ => True) ?hr ?hp (fun _ hk => hk) trivial (Below.refl _ _) (Nat.le_refl _) (by simp) ?_; (case hd => rfl); (case hg => rfl); (case hr => first | (go_simp; done) | (go_simp; rfl)); (case hp => exact (Reps.one (show Kd.M (Kd.int .u8) _ _ _ ((wrap64 (48 - (Int.tmod a0 10))) % 256) [.int .u8 ((wrap64 (48 - (Int.tmod a0 10))) % 256)] from rfl) (Reps.none _ _)))
          intro v177 w6 ho7 hb hg_ hnew_
          clear hg_ hnew_
          (first | rw [← Ny176.out] at ho7 | (simp only [Int.reduceToNat] at ho7; rw [← Ny176.out] at ho7))
          have n0_ := Aside0.mk (Kd.R_lower ho7 (below_size (by repeat (first | (with_reducible first | exact HB.out | apply below_alloc | apply pw_below_drewN | apply below_drew1) | exact HB.out))))
          have n1_ := Aside0.mk (below_step (by repeat (first | (with_reducible first | exact HB.out | apply below_alloc | apply pw_below_drewN | apply below_drew1) | exact HB.out)) hb)
          clear HB
          have HO178 := n0_
          have HB := n1_
          clear n0_ n1_
          clear hb ho7
          refine hK.out _ _ trivial (fun hHeld => ?_)
          clear hK K
          refine norm_ (a' := ?_) ?_ ?_
          rotate_left
          · show Act.put _ (some 12) _ = _
            simp only [Act.put, List.setIfInBounds_toArray, List.set_cons_zero, List.set_cons_succ, i64_w, i32_w]
            rfl
          refine two_ (i := 2) (j := 8) (Ni := some 7) (Nj := some 13) #[true, true, true, true, true, true, true, true, false, false, false] #[true, true, false, true, true, true, true, true, true, false, false] rfl rfl rfl rfl (two_of HT_.out (by kernel_rfl)) (by decide) (by decide) (fun K hK => ?_) (fun K hK => ?_)
          · skip
            refine goes_ Tryd.func51 (by kernel_rfl) rfl #[.int .i64 (wrap64 (Int.tdiv a0 10))] (by rfl) rfl rfl (by (try simp only [List.map_toArray, List.map_cons, List.map_nil]); first | done | rfl | (simp only [List.length_drop, List.length_take]; rfl)) ?_
            with_reducible refine (ih k (by omega) (wrap64 (Int.tdiv a0 10)) t175 _ A3.out).mono ?_
            rintro e w8 ⟨rfl, hb⟩
            refine ⟨_, rfl, ?_⟩
            have n0_ := Aside0.mk (Kd.R_below (by (with_reducible repeat (first | apply Kd.R_alloc | apply Kd.R_drewN | apply Kd.R_drew)); exact HO178.out) hb)
            have n1_ := Aside0.mk (below_step (by repeat (first | (with_reducible first | exact HB.out | apply below_alloc | apply pw_below_drewN | apply below_drew1) | exact HB.out)) hb)
            clear HO178
            clear HB
            have HO178 := n0_
            have HB := n1_
            clear n0_ n1_
            (try clear hb)
            (try clear hb2)
            (try clear hk)
            (try clear hi)
            refine hK.out _ _ trivial (fun hHeld => ?_)
            clear hK K
            refine norm_ (a' := ?_) ?_ ?_
            rotate_left
            · show Act.put _ (some 7) _ = _
              simp only [Act.put, List.setIfInBounds_toArray, List.set_cons_zero, List.set_cons_succ, i64_w, i32_w]
              rfl
            refine one_ (i := 8) (N := some 13) #[true, true, true, true, true, true, true, true, true, false, false] rfl rfl (one_of HT_.out (by kernel_rfl)) (by decide) (fun K hK => ?_)
            have hcv9 := own_string (P := Tryd.prog) Tryd.underlying32 Tryd.underlying5 Tryd.underlying9 (Kd.own_of_R HO178.out)
            refine value_ (w1 := ?_) (v := ?_) (by rfl) rfl ?_ ?_
            rotate_left 2
            · go_simp
              constructor
              · rfl
              · rfl
            clear hcv9
            refine hK.out _ _ trivial (fun hHeld => ?_)
            clear hK K
            refine norm_ (a' := ?_) ?_ ?_
            rotate_left
            · show Act.put _ (some 13) _ = _
              simp only [Act.put, List.setIfInBounds_toArray, List.set_cons_zero, List.set_cons_succ, i64_w, i32_w]
              rfl
            exact norm_ (by simp only [putAll, Act.put, List.setIfInBounds_toArray, List.set_cons_zero, List.set_cons_succ]) (hCont (v177) _ ⟨(by (with_reducible repeat (first | apply Kd.R_alloc | apply Kd.R_drewN | apply Kd.R_drew)); exact HO178.out), (by repeat (first | (with_reducible first | exact HB.out | apply below_alloc | apply pw_below_drewN | apply below_drew1) | exact HB.out))⟩)
          · skip
            have hcv8 := own_string (P := Tryd.prog) Tryd.underlying32 Tryd.underlying5 Tryd.underlying9 (Kd.own_of_R HO178.out)
            refine value_ (w1 := ?_) (v := ?_) (by rfl) rfl ?_ ?_
            rotate_left 2
            · go_simp
              constructor
              · rfl
              · rfl
            clear hcv8
            refine hK.out _ _ trivial (fun hHeld => ?_)
            clear hK K
            refine norm_ (a' := ?_) ?_ ?_
            rotate_left
            · show Act.put _ (some 13) _ = _
              simp only [Act.put, List.setIfInBounds_toArray, List.set_cons_zero, List.set_cons_succ, i64_w, i32_w]
              rfl
            refine one_ (i := 2) (N := some 7) #[true, true, true, true, true, true, true, true, true, false, false] rfl rfl (one_of HT_.out (by kernel_rfl)) (by decide) (fun K hK => ?_)
            refine goes_ Tryd.func51 (by kernel_rfl) rfl #[.int .i64 (wrap64 (Int.tdiv a0 10))] (by rfl) rfl rfl (by (try simp only [List.map_toArray, List.map_cons, List.map_nil]); first | done | rfl | (simp only [List.length_drop, List.length_take]; rfl)) ?_
            with_reducible refine (ih k (by omega) (wrap64 (Int.tdiv a0 10)) t175 _ A3.out).mono ?_
            rintro e w9 ⟨rfl, hb⟩
            refine ⟨_, rfl, ?_⟩
            have n0_ := Aside0.mk (Kd.R_below (by (with_reducible repeat (first | apply Kd.R_alloc | apply Kd.R_drewN | apply Kd.R_drew)); exact HO178.out) hb)
            have n1_ := Aside0.mk (below_step (by repeat (first | (with_reducible first | exact HB.out | apply below_alloc | apply pw_below_drewN | apply below_drew1) | exact HB.out)) hb)
            clear HO178
            clear HB
            have HO178 := n0_
            have HB := n1_
            clear n0_ n1_
            (try clear hb)
            (try clear hb2)
            (try clear hk)
            (try clear hi)
            refine hK.out _ _ trivial (fun hHeld => ?_)
            clear hK K
            refine norm_ (a' := ?_) ?_ ?_
            rotate_left
            · show Act.put _ (some 7) _ = _
              simp only [Act.put, List.setIfInBounds_toArray, List.set_cons_zero, List.set_cons_succ, i64_w, i32_w]
              rfl
            exact norm_ (by simp only [putAll, Act.put, List.setIfInBounds_toArray, List.set_cons_zero, List.set_cons_succ]) (hCont (v177) _ ⟨(by (with_reducible repeat (first | apply Kd.R_alloc | apply Kd.R_drewN | apply Kd.R_drew)); exact HO178.out), (by repeat (first | (with_reducible first | exact HB.out | apply below_alloc | apply pw_below_drewN | apply below_drew1) | exact HB.out))⟩)
      rintro v177 w10 ⟨h0_, h1_⟩
      have n0_ : Aside0 (Kd.R (Kd.int .u8) 5 w10 w.heap.size (fun _ => True) v177 y176) := ⟨h0_⟩
      have n1_ : Aside0 (Below w.heap.size w w10) := ⟨h1_⟩
      clear HB
      clear h0_ h1_
      have HO178 := n0_
      have HB := n1_
      clear n0_ n1_
      have hHeld := trivial
      refine norm_ (a' := ?_) ?_ ?_
      rotate_left
      · simp only [putAll, Act.put, List.setIfInBounds_toArray, List.set_cons_zero, List.set_cons_succ]
        rfl
      refine pure_ (i := 9) (N := some 14) (v := ?_) (a' := ?_) #[true, true, true, true, true, true, true, true, true, true, false] rfl rfl (any_of HT_.out (by kernel_rfl)) (fun _ _ _ h => h) (Or.inl ⟨by rfl, ?_⟩) ?_ ?_
      rotate_left
      · intro w'
        go_simp
        with_reducible rfl
      rotate_left
      · simp only [Act.put, List.setIfInBounds_toArray, List.set_cons_zero, List.set_cons_succ, i64_w, i32_w]
        rfl
      refine pure_ (i := 10) (N := some 2) (v := ?_) (a' := ?_) #[true, true, true, true, true, true, true, true, true, true, true] rfl rfl (any_of HT_.out (by kernel_rfl)) (fun _ _ _ h => h) (Or.inl ⟨by rfl, ?_⟩) ?_ ?_
      rotate_left
      · intro w'
        go_simp
        with_reducible rfl
      rotate_left
      · simp only [Act.put, List.setIfInBounds_toArray, List.set_cons_zero, List.set_cons_succ, i64_w, i32_w]
        rfl
      refine done_ (done_of HT_.out (by kernel_rfl)) ?_
      try go_wp2
      go_ret
      exact ⟨by first | rfl | (simp [errW_none, errW_some] <;> rfl) | (simp [*, errW_none, errW_some] <;> rfl), by repeat (first | (with_reducible first | exact HB.out | apply below_alloc | apply pw_below_drewN | apply below_drew1) | exact HB.out)⟩
    · rw [if_neg c4] at H
      exact absurd H (by simp)
  · rw [if_neg c2] at H
    have c2b0 : decide (a0 ≤ (-10)) = false := decide_eq_false c2
    clear c2
    by_cases c11 : a0 < 0
    · rw [if_pos c11] at H
      have c11b0 : decide (a0 < 0) = true := decide_eq_true c11
      clear c11
      obtain ⟨y179, hy179⟩ : ∃ y_ : List Int, y_ = (([(wrap64 (48 - a0)) % 256] : List Int)) := ⟨_, rfl⟩
      replace H : (if 1 + (strOfNums y179).size ≤ 9223372036854775807 then (some ((⟨#[45]⟩ : ByteArray) ++ (strOfNums y179))) else (none)) = some r := by first | (rw [hy179]; with_reducible exact H) | (have H2_ := (Option.bind_some _ _).symm.trans H; rw [hy179]; with_reducible exact H2_) | (have H2_ := (Option.bind_some _ _).symm.trans H; with_reducible exact H2_) | with_reducible exact H | (rw [hy179]; exact H) | exact H
      have Ny179 := Aside0.mk hy179
      clear hy179
      by_cases c12 : 1 + (strOfNums y179).size ≤ 9223372036854775807
      · rw [if_pos c12] at H
        have c12b0 := eq_true c12
        have c12b1 : decide (1 + (strOfNums y179).size ≤ 9223372036854775807) = true := decide_eq_true c12
        try have c12b2 : (9223372036854775807 < 1 + (strOfNums y179).size) = False := eq_false (Nat.not_lt.2 c12)
        obtain rfl := Option.some.inj H
        go_enter Tryd.func51, Tryd.ntmps51
        go_wp2_with (first | ((with_reducible refine gate_dst (N := 20) rfl ?_); refine Kd.R_lit (Kd.int .u8) _ 5 ?hg (N := 20) ?hd (xs := ([(wrap64 (48 - a0)) % 256] : List Int)) (inner := [.int .u8 ((wrap64 (48 - a0)) % 256)]) (ok := fun _ => True) (okp := fun _ => True) ?hr ?hp (fun _ hk => hk) trivial (Below.refl _ _) (Nat.le_refl _) (by simp) ?_; (case hd => rfl); (case hg => rfl); (case hr => first | (go_simp; done) | (go_simp; rfl)); (case hp => exact (Reps.one (show Kd.M (Kd.int .u8) _ _ _ ((wrap64 (48 - a0)) % 256) [.int .u8 ((wrap64 (48 - a0)) % 256)] from rfl) (Reps.none _ _))); intro v180 w13 ho14 hb hg_ hnew_; clear hg_ hnew_; (first | rw [← Ny179.out] at ho14 | (simp only [Int.reduceToNat] at ho14; rw [← Ny179.out] at ho14)); have n0_ := Aside0.mk (Kd.R_lower ho14 (below_size (by repeat (first | (with_reducible first | exact HB.out | apply below_alloc | apply pw_below_drewN | apply below_drew1) | exact HB.out)))); have n1_ := Aside0.mk (below_step (by repeat (first | (with_reducible first | exact HB.out | apply below_alloc | apply pw_below_drewN | apply below_drew1) | exact HB.out)) hb); clear HB; have HO181 := n0_; have HB := n1_; clear n0_ n1_; clear hb ho14; have hcv15 := own_string (P := Tryd.prog) Tryd.underlying32 Tryd.underlying5 Tryd.underlying9 (Kd.own_of_R HO181.out)))
        go_ret
        exact ⟨by first | rfl | (simp [errW_none, errW_some] <;> rfl) | (simp [*, errW_none, errW_some] <;> rfl), by repeat (first | (with_reducible first | exact HB.out | apply below_alloc | apply pw_below_drewN | apply below_drew1) | exact HB.out)⟩
      · rw [if_neg c12] at H
        exact absurd H (by simp)
    · rw [if_neg c11] at H
      have c11b0 : decide (a0 < 0) = false := decide_eq_false c11
      clear c11
      by_cases c16 : a0 < 10
      · rw [if_pos c16] at H
        have c16b0 : decide (a0 < 10) = true := decide_eq_true c16
        clear c16
        obtain ⟨y182, hy182⟩ : ∃ y_ : List Int, y_ = (([(wrap64 (48 + a0)) % 256] : List Int)) := ⟨_, rfl⟩
        replace H : (some (strOfNums y182)) = some r := by first | (rw [hy182]; with_reducible exact H) | (have H2_ := (Option.bind_some _ _).symm.trans H; rw [hy182]; with_reducible exact H2_) | (have H2_ := (Option.bind_some _ _).symm.trans H; with_reducible exact H2_) | with_reducible exact H | (rw [hy182]; exact H) | exact H
        have Ny182 := Aside0.mk hy182
        clear hy182
        obtain rfl := Option.some.inj H
        go_enter Tryd.func51, Tryd.ntmps51
        go_wp2_with (first | ((with_reducible refine gate_dst (N := 28) rfl ?_); refine Kd.R_lit (Kd.int .u8) _ 5 ?hg (N := 28) ?hd (xs := ([(wrap64 (48 + a0)) % 256] : List Int)) (inner := [.int .u8 ((wrap64 (48 + a0)) % 256)]) (ok := fun _ => True) (okp := fun _ => True) ?hr ?hp (fun _ hk => hk) trivial (Below.refl _ _) (Nat.le_refl _) (by simp) ?_; (case hd => rfl); (case hg => rfl); (case hr => first | (go_simp; done) | (go_simp; rfl)); (case hp => exact (Reps.one (show Kd.M (Kd.int .u8) _ _ _ ((wrap64 (48 + a0)) % 256) [.int .u8 ((wrap64 (48 + a0)) % 256)] from rfl) (Reps.none _ _))); intro v183 w17 ho18 hb hg_ hnew_; clear hg_ hnew_; (first | rw [← Ny182.out] at ho18 | (simp only [Int.reduceToNat] at ho18; rw [← Ny182.out] at ho18)); have n0_ := Aside0.mk (Kd.R_lower ho18 (below_size (by repeat (first | (with_reducible first | exact HB.out | apply below_alloc | apply pw_below_drewN | apply below_drew1) | exact HB.out)))); have n1_ := Aside0.mk (below_step (by repeat (first | (with_reducible first | exact HB.out | apply below_alloc | apply pw_below_drewN | apply below_drew1) | exact HB.out)) hb); clear HB; have HO184 := n0_; have HB := n1_; clear n0_ n1_; clear hb ho18; have hcv19 := own_string (P := Tryd.prog) Tryd.underlying32 Tryd.underlying5 Tryd.underlying9 (Kd.own_of_R HO184.out)))
        go_ret
        exact ⟨by first | rfl | (simp [errW_none, errW_some] <;> rfl) | (simp [*, errW_none, errW_some] <;> rfl), by repeat (first | (with_reducible first | exact HB.out | apply below_alloc | apply pw_below_drewN | apply below_drew1) | exact HB.out)⟩
      · rw [if_neg c16] at H
        have c16b0 : decide (a0 < 10) = false := decide_eq_false c16
        clear c16
        replace H := Option.bind_eq_some_iff.mp H
        obtain ⟨t185, A200, H⟩ := H
        replace H : ((cachepotref3_Digits.f k (Int.tmod a0 10)).bind fun t186 => (if t185.size + t186.size ≤ 9223372036854775807 then (some (t185 ++ t186)) else (none))) = some r := H
        have A20 := Aside0.mk A200
        clear A200
        replace H := Option.bind_eq_some_iff.mp H
        obtain ⟨t186, A210, H⟩ := H
        replace H : (if t185.size + t186.size ≤ 9223372036854775807 then (some (t185 ++ t186)) else (none)) = some r := H
        have A21 := Aside0.mk A210
        clear A210
        by_cases c22 : t185.size + t186.size ≤ 9223372036854775807
        · rw [if_pos c22] at H
          have c22b0 := eq_true c22
          have c22b1 : decide (t185.size + t186.size ≤ 9223372036854775807) = true := decide_eq_true c22
          try have c22b2 : (9223372036854775807 < t185.size + t186.size) = False := eq_false (Nat.not_lt.2 c22)
          obtain rfl := Option.some.inj H
          go_enter Tryd.func51, Tryd.ntmps51
          go_wp2_with (first | ((with_reducible refine gate_callee (f := 51) rfl ?_); refine goesL_ (some 32) rfl rfl Tryd.func51 (by kernel_rfl) rfl #[.int .i64 (wrap64 (Int.tdiv a0 10))] rfl (by (try simp only [List.map_toArray, List.map_cons, List.map_nil]); first | done | rfl | (simp only [List.length_drop, List.length_take]; rfl)) ?_; (with_reducible refine (ih k (by omega) (wrap64 (Int.tdiv a0 10)) t185 _ A20.out).mono ?_); rintro e w23 ⟨rfl, hb⟩; refine ⟨_, rfl, ?_⟩; have n0_ := Aside0.mk (below_step (by repeat (first | (with_reducible first | exact HB.out | apply below_alloc | apply pw_below_drewN | apply below_drew1) | exact HB.out)) hb); clear HB; have HB := n0_; clear n0_; (try clear hb); (try clear hb2); (try clear hk); (try clear hi)) | ((with_reducible refine gate_callee (f := 51) rfl ?_); refine goesL_ (some 35) rfl rfl Tryd.func51 (by kernel_rfl) rfl #[.int .i64 (Int.tmod a0 10)] rfl (by (try simp only [List.map_toArray, List.map_cons, List.map_nil]); first | done | rfl | (simp only [List.length_drop, List.length_take]; rfl)) ?_; (with_reducible refine (ih k (by omega) (Int.tmod a0 10) t186 _ A21.out).mono ?_); rintro e w24 ⟨rfl, hb⟩; refine ⟨_, rfl, ?_⟩; have n0_ := Aside0.mk (below_step (by repeat (first | (with_reducible first | exact HB.out | apply below_alloc | apply pw_below_drewN | apply below_drew1) | exact HB.out)) hb); clear HB; have HB := n0_; clear n0_; (try clear hb); (try clear hb2); (try clear hk); (try clear hi)))
          go_ret
          exact ⟨by first | rfl | (simp [errW_none, errW_some] <;> rfl) | (simp [*, errW_none, errW_some] <;> rfl), by repeat (first | (with_reducible first | exact HB.out | apply below_alloc | apply pw_below_drewN | apply below_drew1) | exact HB.out)⟩
        · rw [if_neg c22] at H
          exact absurd H (by simp)
end Go.Proofs.YtfaelejeihmgcaaDoor.Stp
end

section
namespace Go.Proofs.YtfaelejeihmgcaaDoor.Stp
open Go.RowKit Go.Proofs.YtfaelejeihmgcaaDoorW.PrintWords
def B (l : List UInt8) : ByteArray := ⟨l.toArray⟩
theorem B_size (l : List UInt8) : (B l).size = l.length := by show l.toArray.size = _; simp
theorem B_app (a b : List UInt8) : B a ++ B b = B (a ++ b) := by
  apply ByteArray.ext
  simp [B, ByteArray.data_append]
theorem dw64 (v : Int) (h0 : -9223372036854775808 ≤ v) (h1 : v ≤ 9223372036854775807) : wrap64 v = v := w64 h0 h1
theorem dec_step (u : Nat) (h : 10 ≤ u) : Lib.decDigits u = Lib.decDigits (u / 10) ++ Lib.decDigits (u % 10) := by
  conv => lhs; rw [Lib.decDigits, dif_neg (by omega)]
  rw [Lib.decDigits_one (i := u % 10) (by omega)]
theorem str1 (u : Nat) (h : u < 10) : strOfNums [wrap64 (48 + (u : Int)) % 256] = B (Lib.decDigits u) := by
  rw [Lib.decDigits_one h, dw64 _ (by omega) (by omega)]
  unfold strOfNums
  have e : ((48 + (u : Int)) % 256).toNat = 48 + u := by omega
  simp only [List.map_cons, List.map_nil, e]
  rfl
theorem dec_len (u : Nat) : (Lib.decDigits u).length ≤ u + 1 := by
  induction u using Nat.strongRecOn with
  | ind u ih =>
    by_cases h : u < 10
    · rw [Lib.decDigits_one h]; simp
    · have := ih (u / 10) (by omega)
      rw [dec_step u (by omega), List.length_append, Lib.decDigits_one (i := u % 10) (by omega)]
      simp
      omega
theorem dec_short : ∀ (k u : Nat), u < 10 ^ (k + 1) → (Lib.decDigits u).length ≤ k + 1 := by
  intro k
  induction k with
  | zero => intro u hu; rw [Lib.decDigits_one (by omega)]; simp
  | succ k ih =>
    intro u hu
    by_cases h : u < 10
    · rw [Lib.decDigits_one h]; simp
    · have := ih (u / 10) (by rw [Nat.pow_succ] at hu; omega)
      rw [dec_step u (by omega), List.length_append, Lib.decDigits_one (i := u % 10) (by omega)]
      simp
      omega
theorem digits_f : ∀ (k u : Nat), u < 10 ^ k → u ≤ 9223372036854775807 → cachepotref3_Digits.f (k + 1) (u : Int) = some (B (Lib.decDigits u)) := by
  intro k
  induction k with
  | zero =>
    intro u hu _
    have h0 : u = 0 := by omega
    subst h0
    rw [cachepotref3_Digits.f, if_neg (by omega), if_neg (by omega), if_pos (by omega), str1 0 (by omega)]
  | succ k ih =>
    intro u hu hb
    rw [cachepotref3_Digits.f, if_neg (by omega), if_neg (by omega)]
    by_cases h : u < 10
    · rw [if_pos (by omega), str1 u h]
    · rw [if_neg (by omega)]
      have hq : Int.tdiv (u : Int) 10 = ((u / 10 : Nat) : Int) := by rw [Int.tdiv_eq_ediv_of_nonneg (by omega)]; omega
      have hm : Int.tmod (u : Int) 10 = ((u % 10 : Nat) : Int) := by rw [Int.tmod_eq_emod_of_nonneg (by omega)]; omega
      have hk : 1 ≤ k := by
        rcases Nat.eq_zero_or_pos k with rfl | hk
        · simp at hu; omega
        · exact hk
      have h10 : 10 ^ 1 ≤ 10 ^ k := Nat.pow_le_pow_right (by omega) hk
      have e1 := ih (u / 10) (by rw [Nat.pow_succ] at hu; omega) (by omega)
      have e2 := ih (u % 10) (by omega) (by omega)
      have l3 : (Lib.decDigits (u % 10)).length = 1 := by rw [Lib.decDigits_one (by omega)]; rfl
      have l4 := dec_len (u / 10)
      rw [hq, hm, dw64 _ (by omega) (by omega), e1, e2]
      simp only [Option.bind_some]
      rw [if_pos (by rw [B_size, B_size, l3]; omega), B_app, ← dec_step u (by omega)]
theorem neg_div (u : Nat) : Int.tdiv (-(u : Int)) 10 = -((u / 10 : Nat) : Int) := by rw [Int.neg_tdiv, Int.tdiv_eq_ediv_of_nonneg (by omega)]; omega
theorem neg_mod (u : Nat) : Int.tmod (-(u : Int)) 10 = -((u % 10 : Nat) : Int) := by rw [Int.neg_tmod, Int.tmod_eq_emod_of_nonneg (by omega)]; omega
theorem ndigits_f : ∀ (k u : Nat), 1 ≤ u → u < 10 ^ k → u ≤ 9223372036854775808 → cachepotref3_Digits.f k (-(u : Int)) = some (B (45 :: Lib.decDigits u)) := by
  intro k
  induction k with
  | zero => intro u h1 hu; omega
  | succ k ih =>
    intro u h1 hu hb
    rw [cachepotref3_Digits.f]
    by_cases h : u < 10
    · rw [if_neg (by omega), if_pos (by omega), show (48 : Int) - -(u : Int) = 48 + (u : Int) by omega]
      simp only [Option.bind_some]
      rw [str1 u h, B_size, if_pos (by rw [Lib.decDigits_one h]; simp)]
      rw [show (⟨#[45]⟩ : ByteArray) = B [45] from rfl, B_app]
      rfl
    · rw [if_pos (by omega), neg_div, neg_mod, dw64 _ (by omega) (by omega), ih (u / 10) (by omega) (by rw [Nat.pow_succ] at hu; omega) (by omega), show (48 : Int) - -((u % 10 : Nat) : Int) = 48 + ((u % 10 : Nat) : Int) by omega]
      simp only [Option.bind_some]
      have l3 : (Lib.decDigits (u % 10)).length = 1 := by rw [Lib.decDigits_one (by omega)]; rfl
      have l4 := dec_len (u / 10)
      rw [str1 (u % 10) (by omega), if_pos (by rw [B_size, B_size, l3, List.length_cons]; omega), B_app, List.cons_append, ← dec_step u (by omega)]
theorem Digits_f (v : Int) (h0 : -9223372036854775808 ≤ v) (h1 : v ≤ 9223372036854775807) : cachepotref3_Digits.f 30 v = some (itoaB v) := by
  unfold itoaB Lib.itoa
  have hp : (9223372036854775808 : Nat) < 10 ^ 29 := by decide
  by_cases h : v < 0
  · rw [if_pos h]
    have e : v = -((v.natAbs : Nat) : Int) := by omega
    have hx : v.natAbs < 10 ^ 30 := by
      have : (10 : Nat) ^ 29 ≤ 10 ^ 30 := Nat.pow_le_pow_right (by omega) (by omega)
      omega
    have := ndigits_f 30 v.natAbs (by omega) hx (by omega)
    rw [← e] at this
    exact this
  · rw [if_neg h]
    have e : v = ((v.toNat : Nat) : Int) := by omega
    have := digits_f 29 v.toNat (by omega) (by omega)
    rw [← e] at this
    exact this
/-- a number within a million is short -/
theorem itoa_size (v : Int) (h0 : -1000000 ≤ v) (h1 : v ≤ 1000000) : (itoaB v).size ≤ 8 := by
  show (Lib.itoa v).toArray.size ≤ 8
  rw [List.size_toArray]
  unfold Lib.itoa
  have h10 : (1000000 : Nat) < 10 ^ 7 := by decide
  split
  · have := dec_short 6 v.natAbs (by omega)
    rw [List.length_cons]
    omega
  · have := dec_short 6 v.toNat (by omega)
    omega
end Go.Proofs.YtfaelejeihmgcaaDoor.Stp
end

section
namespace Go.Proofs.YtfaelejeihmgcaaDoor.Wd
open Go.RowKit Go.Proofs.YtfaelejeihmgcaaDoorW.PrintWords Go.Proofs.YtfaelejeihmgcaaDoorW.PrintLast
def hex1 (c : UInt8) : List UInt8 := [hexD (c.toNat / 16), hexD (c.toNat % 16)]
def hexB (s : ByteArray) : List UInt8 := if s.size = 0 then [45] else s.data.toList.flatMap hex1
def cachepotref3_Hex.f (a0 : ByteArray) : Option ByteArray := if a0.size ≤ 1099511627776 then some ⟨(hexB a0).toArray⟩ else none
end Go.Proofs.YtfaelejeihmgcaaDoor.Wd
end

section
namespace Go.Proofs.YtfaelejeihmgcaaDoor.Wd
open Go.RowKit Go.Proofs.YtfaelejeihmgcaaDoorW.PrintWords Go.Proofs.YtfaelejeihmgcaaDoorW.PrintLast
def cachepotref3_Quote.f (a0 : ByteArray) : Option ByteArray := if a0.size ≤ 1099511627776 then some ⟨(quoteB a0).toArray⟩ else none
theorem mayB_bytes (s : ByteArray) (i : Nat) (hi : i < s.size) (h : mayB s i = true) : ¬ byteAt s i = 34 ∧ ¬ byteAt s i = 92 ∧ ¬ byteAt s i = 32 := by
  have key : ∀ c : UInt8, c.toNat < 128 → mayR c.toNat 1 = false → ¬ byteAt s i = c := by
    intro c h1 h2 h3
    have e : byteAt s i = s[i] := get_lt s i hi
    rw [h3] at e
    have hd := decode_ascii s i hi (by rw [← e]; exact h1)
    unfold mayB at h
    rw [hd, ← e] at h
    rw [h] at h2
    cases h2
  exact ⟨key 34 (by decide) (by decide), key 92 (by decide) (by decide), key 32 (by decide) (by decide)⟩
theorem width_ascii (s : ByteArray) (i : Nat) (hi : i < s.size) (c : UInt8) (h : byteAt s i = c) (hc : c.toNat < 128) : width s i = 1 := by
  have e : byteAt s i = s[i] := get_lt s i hi
  unfold width
  rw [decode_ascii s i hi (by rw [← e, h]; exact hc)]
theorem byte_ex (s : ByteArray) (i : Nat) (hi : i < s.size) : bytesAt s i 1 = [byteAt s i] := by
  unfold bytesAt byteAt
  rw [List.drop_eq_getElem_cons (by rw [← Lib.size_eq]; exact hi), get_lt s i hi]
  rfl
theorem hexQs_len (l : List UInt8) : (l.flatMap hexQ).length = 3 * l.length := by
  induction l with
  | nil => rfl
  | cons c l ih => rw [List.flatMap_cons, List.length_append, ih]; simp [hexQ]; omega
theorem quoteFrom_endI (s : ByteArray) (fuel pos : Nat) (h : ¬ pos < s.size) : quoteFrom s fuel pos = [] := by
  cases fuel with
  | zero => rfl
  | succ f => rw [quoteFrom, if_neg h]
end Go.Proofs.YtfaelejeihmgcaaDoor.Wd
end

section
namespace Go.Proofs.YtfaelejeihmgcaaDoor.Wd
open Go.RowKit Go.Proofs.YtfaelejeihmgcaaDoorW.PrintWords Go.Proofs.YtfaelejeihmgcaaDoorW.PrintLast Go.Proofs.YtfaelejeihmgcaaDoorW.PrintMore
attribute [local go_sem] max2_int min2_int max_two min_two max_three min_three max_four min_four   -- for this text's walks alone
set_option linter.unusedVariables false
set_option linter.unusedSimpArgs false
def cachepotref3_Join.l0 : Nat → List ByteArray → ByteArray → Int → Option (ByteArray)
  | 0, _, _, _ => none
  | k + 1, x0, x3, x4 => if x4 < (x0.length : Int) then (if x4 > 0 then (if x3.size + 1 ≤ 9223372036854775807 then (if 0 ≤ x4 then ((cachepotref3_Quote.f (rdOf ByteArray.empty x0 x4)).bind fun t177 => (if (x3 ++ (⟨#[32]⟩ : ByteArray)).size + t177.size ≤ 9223372036854775807 then (cachepotref3_Join.l0 k x0 ((x3 ++ (⟨#[32]⟩ : ByteArray)) ++ t177) (wrap64 (x4 + 1))) else (none))) else (none)) else (none)) else (if 0 ≤ x4 then ((cachepotref3_Quote.f (rdOf ByteArray.empty x0 x4)).bind fun t179 => (if x3.size + t179.size ≤ 9223372036854775807 then (cachepotref3_Join.l0 k x0 (x3 ++ t179) (wrap64 (x4 + 1))) else (none))) else (none))) else (some x3)
def cachepotref3_Join.f (k : Nat) (l0 : List ByteArray) : Option (ByteArray) := cachepotref3_Join.l0 k l0 (⟨#[]⟩ : ByteArray) 0
def cachepotbook_Short.f (a0 : ByteArray) (a1 : Int) : Option (ByteArray) := if 0 ≤ (mn (a0.size : Int) a1) then (if (mn (a0.size : Int) a1) ≤ (a0.size : Int) then (some (a0.extract 0 ((mn (a0.size : Int) a1) : Int).toNat)) else (none)) else (none)
def cachepotbook_Texts.l0 : Nat → List ByteArray → Int → Int → List ByteArray → Int → Option (List ByteArray)
  | 0, _, _, _, _, _ => none
  | k + 1, x0, x1, x2, x7, x8 => if x8 < (x0.length : Int) then (if x8 < x1 then (if 0 ≤ x8 then ((cachepotbook_Short.f (rdOf ByteArray.empty x0 x8) x2).bind fun t181 => (if x7.length < 8796093022208 then (cachepotbook_Texts.l0 k x0 x1 x2 (x7 ++ [t181]) (wrap64 (x8 + 1))) else (none))) else (none)) else (some x7)) else (some x7)
def cachepotbook_Texts.f (k : Nat) (l0 : List ByteArray) (a1 : Int) (a2 : Int) : Option (List ByteArray) := cachepotbook_Texts.l0 k l0 a1 a2 ([] : List ByteArray) 0
def cachepotbook_Pick.f (a0 : Int) (a1 : Int) : Option (Int) := if a1 = 0 then (none) else (if (Int.tmod a0 a1) < 0 then (some (wrap64 ((Int.tmod a0 a1) + a1))) else (some (Int.tmod a0 a1)))
end Go.Proofs.YtfaelejeihmgcaaDoor.Wd
end

section
namespace Go.Proofs.YtfaelejeihmgcaaDoor.Wd
open Go.RowKit Go.Proofs.YtfaelejeihmgcaaDoorW.PrintWords Go.Proofs.YtfaelejeihmgcaaDoorW.PrintLast
def joinB (l : List ByteArray) (sep : ByteArray) : List UInt8 := Lib.join (l.map (·.data.toList)) sep.data.toList
def strings_Join.f (l0 : List ByteArray) (a1 : ByteArray) : Option ByteArray :=
  if l0.length ≤ 1099511627776 ∧ (joinB l0 a1).length ≤ 1099511627776 then some ⟨(joinB l0 a1).toArray⟩ else none
theorem add_zero' (ad : Addr) : ad.add 0 = ad := by simp [Addr.add]
theorem strings_Join.calls (A0 : Option Addr) (c0 : Nat) (l0 : List ByteArray) (a1 : ByteArray) (r : ByteArray) (w : World) (hr0 : Kd.C Kd.string w A0 l0.length l0) (hc0 : l0.length ≤ c0) (h : strings_Join.f l0 a1 = some r) :
    Calls Tryd.prog 62 #[.slice A0 l0.length c0, .string a1] w fun e w' => e = .returned (.string r) ∧ Below w.heap.size w w' := by
  unfold strings_Join.f at h
  split at h
  · rename_i hb
    obtain rfl := Option.some.inj h
    have hr := Kd.reads_of_C (d := ByteArray.empty) hr0
    cases l0 with
    | nil =>
      refine (Tryd.strings_Join_none A0 c0 a1 w).mono ?_
      rintro e w' ⟨rfl, rfl⟩
      exact ⟨rfl, Below.refl _ _⟩
    | cons x l =>
      obtain ⟨ad, rfl, hc⟩ := hr.2.2 (by simp)
      obtain ⟨bk, o, rfl⟩ : ∃ bk o, ad = ⟨bk, o, none⟩ := by
        have h0 := hc 0 (by simp)
        rw [add_zero'] at h0
        obtain ⟨bk, o, p⟩ := ad
        cases p with
        | none => exact ⟨bk, o, rfl⟩
        | some p =>
          simp [World.cell?] at h0
          split at h0 <;> cases h0
      have hcells : ∀ (j : Nat) y, (x :: l)[j]? = some y → w.cell? ⟨bk, o + j, none⟩ = some (.string y) := by
        intro j y hj
        have hlt : j < (x :: l).length := by
          rcases Nat.lt_or_ge j (x :: l).length with h | h
          · exact h
          · rw [List.getElem?_eq_none h] at hj; cases hj
        have h1 := hc j hlt
        have e : (⟨bk, o, none⟩ : Addr).add j = ⟨bk, o + j, none⟩ := by
          unfold Addr.add
          split
          · rename_i hj0; simp_all
          · rfl
        rw [e] at h1
        rw [h1, List.getD_eq_getElem?_getD, hj]
        rfl
      refine (Tryd.strings_Join bk o c0 (x :: l) a1 w hcells ?_ (by omega) hc0 (by have := hb.2; unfold joinB at this; omega)).mono ?_
      · have := hcells 0 x rfl
        exact World.block_lt_of_cell? w _ this
      · rintro e w' ⟨rfl, h2⟩
        exact ⟨rfl, h2⟩
  · cases h
end Go.Proofs.YtfaelejeihmgcaaDoor.Wd
end

section
namespace Go.Proofs.YtfaelejeihmgcaaDoor.Wd
open Go.RowKit Go.Proofs.YtfaelejeihmgcaaDoorW.PrintWords Go.Proofs.YtfaelejeihmgcaaDoorW.PrintLast Go.Proofs.YtfaelejeihmgcaaDoorW.PrintMore
attribute [local go_sem] max2_int min2_int max_two min_two max_three min_three max_four min_four   -- for this text's walks alone
set_option linter.unusedVariables false
set_option linter.unusedSimpArgs false
def cachepotlaw25_WordLines.l0 : Nat → ByteArray → ByteArray → ByteArray → Int → Option (Bool)
  | 0, _, _, _, _ => none
  | k + 1, x0, x1, x5, x6 => if x6 < (x5.size : Int) then (if 0 ≤ x6 then (if (bt x5 x6) = 10 then (some false) else (cachepotlaw25_WordLines.l0 k x0 x1 x5 (wrap64 (x6 + 1)))) else (none)) else ((cachepotbook_Short.f x0 40).bind fun t209 => (if t209.size + 1 ≤ 9223372036854775807 then ((cachepotbook_Short.f x1 40).bind fun t210 => (if (t209 ++ (⟨#[10]⟩ : ByteArray)).size + t210.size ≤ 9223372036854775807 then ((word_Split.f k ((t209 ++ (⟨#[10]⟩ : ByteArray)) ++ t210)).bind fun bt211 => ((cachepotlaw25_alive.f k).bind fun t215 => (if t215 = true then (some (bt211.2 == 2)) else (some false)))) else (none))) else (none)))
def cachepotlaw25_WordLines.f (k : Nat) (a0 : ByteArray) (a1 : ByteArray) : Option (Bool) := (word_Quote.f a0).bind fun t208 => (cachepotlaw25_WordLines.l0 k a0 a1 t208 0)
def word_Join.l0 : Nat → List ByteArray → List ByteArray → Int → Int → Option (ByteArray)
  | 0, _, _, _, _ => none
  | k + 1, x3, x6, x7, x8 => if x8 < x7 then (if 0 ≤ x8 then (if x8 < (x6.length : Int) then ((word_Quote.f (rdOf ByteArray.empty x6 x8)).bind fun t217 => (if x3.length < 8796093022208 then (word_Join.l0 k (x3 ++ [t217]) x6 x7 (wrap64 (x8 + 1))) else (none))) else (none)) else (none)) else ((strings_Join.f x3 (⟨#[32]⟩ : ByteArray)).bind fun t221 => (some t221))
def word_Join.f (k : Nat) (l0 : List ByteArray) : Option (ByteArray) := word_Join.l0 k ([] : List ByteArray) l0 (l0.length : Int) 0
set_option maxHeartbeats 8000000 in
set_option maxRecDepth 100000 in
theorem word_Join.calls (k : Nat) (A0 : Option Addr) (c0 : Nat) (l0 : List ByteArray) (r : ByteArray) (w : World) (hr0 : Kd.C Kd.string w A0 l0.length l0) (hc0 : l0.length ≤ c0) (h : word_Join.f k l0 = some r) (hT : Tabs w) :
    Calls Tryd.prog 29 #[.slice A0 l0.length c0] w fun e w' => e = .returned (.string r) ∧ Below w.heap.size w w' := by
  have HR0 := Aside0.mk hr0
  have HC0 := Aside0.mk hc0
  clear hr0 hc0
  have HB := Aside0.mk (Below.refl w.heap.size w)
  have H : (word_Join.l0 k ([] : List ByteArray) l0 (l0.length : Int) 0) = some r := h
  clear h
  have H' := Aside0.mk H
  clear H
  go_enter Tryd.func29, Tryd.ntmps29
  go_wp2
  go_loopg [3, 8] k (fun kq v3 v8 w' => ∃ (x3_1 : List ByteArray) (x8_1 : Int), v8 = .int .i64 x8_1 ∧ Aside0 (word_Join.l0 kq x3_1 l0 (l0.length : Int) x8_1 = some r) ∧ Aside0 (kq ≤ k) ∧ Aside0 (Kd.R Kd.string 9 w' w.heap.size (fun _ => True) v3 x3_1) ∧ Aside0 (Below w.heap.size w w'))
  case atStart => exact ⟨(([] : List ByteArray)), (0), (by first | rfl | (simp; done) | (simp [*]; done)), H', ⟨Nat.le_refl _⟩, ⟨by first | exact Kd.R_nil _ _ _ _ _ | exact Kd.N_nil _ _ _ _ _ | exact Kd.V_nil _ _ _ _ _ | exact Kd.Q_nil _ _ _ _ _ | exact Kd.S_nil _ _ _ _ _⟩, ⟨by repeat (first | (with_reducible first | exact HB.out | apply below_alloc | apply pw_below_drewN | apply below_drew1) | exact HB.out)⟩⟩
  case round =>
    clear H'
    obtain ⟨x3_1, x8_1, rfl, HA, HK1, HO_3, HB⟩ := hrel
    cases gk with
    | zero => exact absurd HA.out (by simp [word_Join.l0])
    | succ k1 =>
      have H := HA.out
      clear HA
      simp only [word_Join.l0] at H
      by_cases c2 : x8_1 < (l0.length : Int)
      · rw [if_pos c2] at H
        have c2b0 : decide (x8_1 < (l0.length : Int)) = true := decide_eq_true c2
        clear c2
        by_cases c3 : 0 ≤ x8_1
        · rw [if_pos c3] at H
          have c3b0 : decide (0 ≤ x8_1) = true := decide_eq_true c3
          clear c3
          by_cases c4 : x8_1 < (l0.length : Int)
          · rw [if_pos c4] at H
            have c4b0 : decide (x8_1 < (l0.length : Int)) = true := decide_eq_true c4
            clear c4
            replace H := Option.bind_eq_some_iff.mp H
            obtain ⟨t217, A50, H⟩ := H
            replace H : (if x3_1.length < 8796093022208 then (word_Join.l0 k1 (x3_1 ++ [t217]) l0 (l0.length : Int) (wrap64 (x8_1 + 1))) else (none)) = some r := H
            have A5 := Aside0.mk A50
            clear A50
            by_cases c6 : x3_1.length < 8796093022208
            · rw [if_pos c6] at H
              have LMc6 := Aside0.mk c6
              clear c6
              obtain ⟨y218, hy218⟩ : ∃ y_ : List ByteArray, y_ = (x3_1 ++ [t217]) := ⟨_, rfl⟩
              replace H : (word_Join.l0 k1 y218 l0 (l0.length : Int) (wrap64 (x8_1 + 1))) = some r := by first | (rw [hy218]; with_reducible exact H) | (have H2_ := (Option.bind_some _ _).symm.trans H; rw [hy218]; with_reducible exact H2_) | (have H2_ := (Option.bind_some _ _).symm.trans H; with_reducible exact H2_) | with_reducible exact H | (rw [hy218]; exact H) | exact H
              have Ny218 := Aside0.mk hy218
              clear hy218
              have H' := Aside0.mk H
              clear H
              have p216 : 0 ≤ (x8_1 : Int) := of_decide_eq_true (by first | (with_reducible assumption) | assumption)
              have q216 : x8_1 < (l0.length : Int) := of_decide_eq_true (by first | (with_reducible assumption) | assumption)
              obtain ⟨ad216, e216, hx216_0⟩ := Kd.at_string HR0.out x8_1 p216 q216
              cases e216
              replace hx216_0 := (HB.out.cell (World.block_lt_of_cell? w _ hx216_0)).trans hx216_0
              replace p216 := eq_true p216
              replace q216 := eq_true q216
              go_wp2_with (first | ((with_reducible refine gate_callee (f := 26) rfl ?_); refine goesL_ (some 14) rfl rfl Tryd.func26 (by kernel_rfl) rfl #[.string (rdOf ByteArray.empty l0 x8_1)] rfl (by (try simp only [List.map_toArray, List.map_cons, List.map_nil]); first | done | rfl | (simp only [List.length_drop, List.length_take]; rfl)) ?_; (with_reducible refine (word_Quote.calls (rdOf ByteArray.empty l0 x8_1) t217 _ A5.out (by first | exact hT | (refine Tabs.below hT ?_; (repeat (first | (with_reducible first | exact HB.out | exact Below.refl _ _ | apply below_alloc | apply pw_below_drewN | apply below_drew1) | exact HB.out))))).mono ?_); rintro e w7 ⟨rfl, hb⟩; refine ⟨_, rfl, ?_⟩; have n0_ := Aside0.mk (Kd.R_below (by (with_reducible repeat (first | apply Kd.R_alloc | apply Kd.R_drewN | apply Kd.R_drew)); exact HO_3.out) hb); have n1_ := Aside0.mk (below_step (by repeat (first | (with_reducible first | exact HB.out | apply below_alloc | apply pw_below_drewN | apply below_drew1) | exact HB.out)) hb); clear HO_3; clear HB; have HO_3 := n0_; have HB := n1_; clear n0_ n1_; (try clear hb); (try clear hb2); (try clear hk); (try clear hi)) | ((with_reducible refine gate_builtin (b := .append) (xs := #[.tmp 12, .tmp 15]) rfl ?_); at_builtin; refine Kd.R_append Kd.string (w0 := w) w.heap.size rfl (.tmp 12) (.tmp 15) 22 9 (.string ⟨#[]⟩) 16 rfl Tryd.underlying22 info9 rfl (by decide) (by omega) u3 x3_1 t217 [.string t217] (fun _ => True) (fun _ => False) rfl rfl ?aP (fun _ hk => hk.elim) ?aF ?aO ?aB ?aS ?aL ?_; (case aP => exact rfl); (case aB => exact (by repeat (first | (with_reducible first | exact HB.out | apply below_alloc | apply pw_below_drewN | apply below_drew1) | exact HB.out))); (case aF => exact (fun _ _ => trivial)); (case aO => exact (by (with_reducible repeat (first | apply Kd.R_alloc | apply Kd.R_drewN | apply Kd.R_drew)); exact HO_3.out)); (case aS => exact (below_size (by repeat (first | (with_reducible first | exact HB.out | apply below_alloc | apply pw_below_drewN | apply below_drew1) | exact HB.out)))); (case aL => have := LMc6.out; omega); intro v219 w8 ho hb hg hat; rw [← Ny218.out] at ho; have n0_ := Aside0.mk (hb); have n1_ := Aside0.mk (ho); clear HB; clear HO_3; have HB := n0_; have HO220 := n1_; clear n0_ n1_; clear ho hb hg hat))
              go_roundg k1
              case measure => have := HK1.out; omega
              case rel => exact ⟨(y218), (wrap64 (x8_1 + 1)), (by first | rfl | (simp; done) | (simp [*]; done)), H', ⟨by have := HK1.out; omega⟩, ⟨by (with_reducible repeat (first | apply Kd.R_alloc | apply Kd.R_drewN | apply Kd.R_drew)); exact HO220.out⟩, ⟨by repeat (first | (with_reducible first | exact HB.out | apply below_alloc | apply pw_below_drewN | apply below_drew1) | exact HB.out)⟩⟩
            · rw [if_neg c6] at H
              exact absurd H (by simp)
          · rw [if_neg c4] at H
            exact absurd H (by simp)
        · rw [if_neg c3] at H
          exact absurd H (by simp)
      · rw [if_neg c2] at H
        have c2b0 : decide (x8_1 < (l0.length : Int)) = false := decide_eq_false c2
        clear c2
        replace H := Option.bind_eq_some_iff.mp H
        obtain ⟨t221, A90, H⟩ := H
        replace H : (some t221) = some r := H
        have A9 := Aside0.mk A90
        clear A90
        obtain rfl := Option.some.inj H
        obtain ⟨Ao10, co10, eo10⟩ := Kd.R_slice HO_3.out
        subst eo10
        go_wp2_with (first | ((with_reducible refine gate_callee (f := 62) rfl ?_); refine goesL_ (some 19) rfl rfl Tryd.func62 (by kernel_rfl) rfl #[.slice Ao10 x3_1.length co10, .string (⟨#[32]⟩ : ByteArray)] rfl (by (try simp only [List.map_toArray, List.map_cons, List.map_nil]); first | done | rfl | (simp only [List.length_drop, List.length_take]; rfl)) ?_; (with_reducible refine (strings_Join.calls _ _ x3_1 (⟨#[32]⟩ : ByteArray) t221 _ ?side1 ?side2 A9.out).mono ?_); (case side1 => repeat (first | exact (Kd.R_reads' HO_3.out).2.2 | (with_reducible refine Kd.C_alloc ?_ _) | (with_reducible refine Kd.C_drewN ?_ _) | (with_reducible refine Kd.C_drew ?_))); (case side2 => exact (Kd.R_reads' HO_3.out).2.1); rintro e w11 ⟨rfl, hb⟩; refine ⟨_, rfl, ?_⟩; have n0_ := Aside0.mk (Kd.R_below (by (with_reducible repeat (first | apply Kd.R_alloc | apply Kd.R_drewN | apply Kd.R_drew)); exact HO_3.out) hb); have n1_ := Aside0.mk (below_step (by repeat (first | (with_reducible first | exact HB.out | apply below_alloc | apply pw_below_drewN | apply below_drew1) | exact HB.out)) hb); clear HO_3; clear HB; have HO_3 := n0_; have HB := n1_; clear n0_ n1_; (try clear hb); (try clear hb2); (try clear hk); (try clear hi)))
        go_ret
        exact ⟨by first | rfl | (simp [errW_none, errW_some] <;> rfl) | (simp [*, errW_none, errW_some] <;> rfl), by repeat (first | (with_reducible first | exact HB.out | apply below_alloc | apply pw_below_drewN | apply below_drew1) | exact HB.out)⟩
def cachepotlaw25_WordQuotes.f (k : Nat) (a0 : ByteArray) (l1 : List ByteArray) : Option (Bool) := (cachepotbook_Texts.f k l1 20 60).bind fun t222 => ((cachepotlaw25_alive.f k).bind fun t225 => (if t225 = true then ((word_Quote.f a0).bind fun t226 => ((cachepotref3_Quote.f a0).bind fun t227 => (if t226.toList = t227.toList then ((word_Join.f k t222).bind fun t228 => ((cachepotref3_Join.f k t222).bind fun t229 => (some (t228.toList == t229.toList)))) else (some false)))) else (some false)))
def cachepotlaw25_WordBack.f (k : Nat) (l0 : List ByteArray) : Option (Bool) := (cachepotbook_Texts.f k l0 20 60).bind fun t230 => ((word_Join.f k t230).bind fun t233 => ((word_Split.f k t233).bind fun bt234 => ((cachepotlaw25_alive.f k).bind fun t238 => (if t238 = true then (if bt234.2 = 0 then ((cachepotbook_SameTexts.f k bt234.1 t230).bind fun t239 => (some t239)) else (some false)) else (some false)))))
end Go.Proofs.YtfaelejeihmgcaaDoor.Wd
end

section
namespace Go.Proofs.YtfaelejeihmgcaaDoor.Wd
open Go.RowKit Go.Proofs.YtfaelejeihmgcaaDoorW.PrintWords Go.Proofs.YtfaelejeihmgcaaDoorW.PrintLast Go.Proofs.YtfaelejeihmgcaaDoorW.PrintMore
/-- the first bytes of a text, at most m of them -/
def cut (s : ByteArray) (m : Nat) : ByteArray := s.extract 0 (min s.size m)
theorem cut_size (s : ByteArray) (m : Nat) : (cut s m).size = min s.size m := by unfold cut; simp
theorem short_f (s : ByteArray) (m : Nat) : cachepotbook_Short.f s (m : Int) = some (cut s m) := by
  have e : mn (s.size : Int) (m : Int) = ((min s.size m : Nat) : Int) := by unfold mn; split <;> omega
  have e2 : ((min s.size m : Nat) : Int).toNat = min s.size m := by omega
  unfold cachepotbook_Short.f cut
  rw [e, if_pos (by omega), if_pos (by omega), e2]
/-- Texts: at most n texts, each at most m bytes -/
def textsL (l : List ByteArray) (n m : Nat) : List ByteArray := (l.take n).map fun s => cut s m
theorem texts_l0 (l : List ByteArray) (n m : Nat) (hn : n ≤ 1000000) : ∀ (d i k : Nat) (acc : List ByteArray), n - i ≤ d → i ≤ n → d < k → acc.length ≤ i →
    cachepotbook_Texts.l0 k l (n : Int) (m : Int) acc (i : Int) = some (acc ++ ((l.take n).drop i).map fun s => cut s m) := by
  intro d
  induction d with
  | zero =>
    intro i k acc hd hi hk ha
    obtain ⟨k, rfl⟩ : ∃ j, k = j + 1 := ⟨k - 1, by omega⟩
    have e : (l.take n).drop i = [] := List.drop_eq_nil_of_le (by rw [List.length_take]; omega)
    rw [cachepotbook_Texts.l0, e]
    split
    · rw [if_neg (by omega)]; simp
    · simp
  | succ d ih =>
    intro i k acc hd hi hk ha
    obtain ⟨k, rfl⟩ : ∃ j, k = j + 1 := ⟨k - 1, by omega⟩
    rw [cachepotbook_Texts.l0]
    by_cases h1 : i < l.length
    · rw [if_pos (by omega)]
      by_cases h2 : i < n
      · have hlt : i < (l.take n).length := by rw [List.length_take]; omega
        have e : rdOf ByteArray.empty l (i : Int) = l[i] := by
          unfold rdOf
          rw [show ((i : Nat) : Int).toNat = i by omega, List.getD_eq_getElem?_getD, List.getElem?_eq_getElem h1]
          rfl
        rw [if_pos (by omega), if_pos (by omega), e, short_f, Option.bind_some, if_pos (by omega), wn1 i (by omega), ih (i + 1) k _ (by omega) (by omega) (by omega) (by simp; omega), List.drop_eq_getElem_cons hlt, List.getElem_take, List.map_cons]
        simp
      · have e : (l.take n).drop i = [] := List.drop_eq_nil_of_le (by rw [List.length_take]; omega)
        rw [if_neg (by omega), e]; simp
    · have e : (l.take n).drop i = [] := List.drop_eq_nil_of_le (by rw [List.length_take]; omega)
      rw [if_neg (by omega), e]; simp
theorem texts_f (l : List ByteArray) (n m k : Nat) (hn : n ≤ 1000000) (hk : n < k) : cachepotbook_Texts.f k l (n : Int) (m : Int) = some (textsL l n m) := by
  unfold cachepotbook_Texts.f textsL
  exact texts_l0 l n m hn n 0 k [] (by omega) (by omega) hk (by simp)
theorem textsL_length (l : List ByteArray) (n m : Nat) : (textsL l n m).length ≤ n := by unfold textsL; rw [List.length_map]; exact List.length_take_le _ _
theorem textsL_size (l : List ByteArray) (n m : Nat) : ∀ x ∈ textsL l n m, x.size ≤ m := by
  intro x hx
  unfold textsL at hx
  obtain ⟨y, _, rfl⟩ := List.mem_map.1 hx
  rw [cut_size]; omega
theorem bytesAt_len (s : ByteArray) (i n : Nat) : (bytesAt s i n).length ≤ n := List.length_take_le _ _
theorem quote1_len (s : ByteArray) (i : Nat) : (quote1 s i).length ≤ 3 * width s i := by
  have hw := width_pos s i
  have hb := bytesAt_len s i (width s i)
  unfold quote1
  split
  · omega
  · split
    · simp; omega
    · rw [hexQs_len]; omega
theorem quoteFrom_len (s : ByteArray) : ∀ f i, (quoteFrom s f i).length ≤ 3 * (s.size - i) := by
  intro f
  induction f with
  | zero => intro i; simp [quoteFrom]
  | succ f ih =>
    intro i
    rw [quoteFrom]
    by_cases h : i < s.size
    · have hw := width_pos s i
      have hwl := width_le s i h
      have h1 := quote1_len s i
      have h2 := ih (i + width s i)
      rw [if_pos h, List.length_append]
      omega
    · rw [if_neg h]; simp
theorem quoteB_len (s : ByteArray) : (quoteB s).length ≤ 3 * s.size + 2 := by
  unfold quoteB
  split
  · rw [← Lib.size_eq]; omega
  · have := quoteFrom_len s s.size 0
    simp; omega
def qB (s : ByteArray) : ByteArray := ⟨(quoteB s).toArray⟩
def tailB (l : List ByteArray) : List UInt8 := Lib.joinTail [32] (l.map quoteB)
def joinL (l : List ByteArray) : List UInt8 := Lib.join (l.map quoteB) [32]
theorem tailB_nil : tailB [] = [] := rfl
theorem tailB_cons (x : ByteArray) (l : List ByteArray) : tailB (x :: l) = 32 :: (quoteB x ++ tailB l) := by simp [tailB, Lib.joinTail]
theorem joinL_nil : joinL [] = [] := rfl
theorem joinL_cons (x : ByteArray) (l : List ByteArray) : joinL (x :: l) = quoteB x ++ tailB l := by
  unfold joinL tailB
  rw [List.map_cons, Lib.join_cons]
theorem tailB_len (m : Nat) (l : List ByteArray) (h : ∀ x ∈ l, x.size ≤ m) : (tailB l).length ≤ (3 * m + 3) * l.length := by
  induction l with
  | nil => simp [tailB_nil]
  | cons x l ih =>
    have h1 := ih fun y hy => h y (List.mem_cons_of_mem _ hy)
    have h2 := quoteB_len x
    have h3 := h x (List.mem_cons_self ..)
    rw [tailB_cons, List.length_cons, List.length_append, List.length_cons, Nat.mul_succ]
    omega
theorem joinL_len (m : Nat) (l : List ByteArray) (h : ∀ x ∈ l, x.size ≤ m) : (joinL l).length ≤ (3 * m + 3) * l.length := by
  cases l with
  | nil => simp [joinL_nil]
  | cons x l =>
    have h1 := tailB_len m l fun y hy => h y (List.mem_cons_of_mem _ hy)
    have h2 := quoteB_len x
    have h3 := h x (List.mem_cons_self ..)
    rw [joinL_cons, List.length_append, List.length_cons, Nat.mul_succ]
    omega
theorem wQuote_f (s : ByteArray) (h : s.size ≤ 1099511627776) : word_Quote.f s = some (qB s) := if_pos h
theorem rd_at (l : List ByteArray) (i : Nat) (h : i < l.length) : rdOf ByteArray.empty l (i : Int) = l[i] := by
  unfold rdOf
  rw [show ((i : Nat) : Int).toNat = i by omega, List.getD_eq_getElem?_getD, List.getElem?_eq_getElem h]
  rfl
theorem wjoin_l0 (l : List ByteArray) (hl : l.length ≤ 1048576) (hm : ∀ x ∈ l, x.size ≤ 1048576) (hJ : (joinL l).length ≤ 1099511627776) : ∀ (d i k : Nat), l.length - i ≤ d → i ≤ l.length → d < k →
    word_Join.l0 k ((l.take i).map qB) l (l.length : Int) (i : Int) = some ⟨(joinL l).toArray⟩ := by
  have hjb : joinB (l.map qB) (⟨#[32]⟩ : ByteArray) = joinL l := by
    unfold joinB joinL
    rw [List.map_map]
    rfl
  have fin : ∀ (k i : Nat), i = l.length → word_Join.l0 (k + 1) ((l.take i).map qB) l (l.length : Int) (i : Int) = some ⟨(joinL l).toArray⟩ := by
    intro k i h
    rw [word_Join.l0, if_neg (by omega), h, List.take_length, strings_Join.f, if_pos (by rw [hjb, List.length_map]; exact ⟨by omega, hJ⟩), Option.bind_some, hjb]
  intro d
  induction d with
  | zero =>
    intro i k hd hi hk
    obtain ⟨k, rfl⟩ : ∃ j, k = j + 1 := ⟨k - 1, by omega⟩
    exact fin k i (by omega)
  | succ d ih =>
    intro i k hd hi hk
    obtain ⟨k, rfl⟩ : ∃ j, k = j + 1 := ⟨k - 1, by omega⟩
    by_cases h : i < l.length
    · have hx := hm _ (List.getElem_mem h)
      have hlen : ((l.take i).map qB).length ≤ i := by rw [List.length_map]; exact List.length_take_le _ _
      have e : (l.take i).map qB ++ [qB l[i]] = (l.take (i + 1)).map qB := by
        rw [List.take_succ_eq_append_getElem h, List.map_append]
        rfl
      rw [word_Join.l0, if_pos (by omega), if_pos (by omega), if_pos (by omega), rd_at l i h, wQuote_f _ (by omega), Option.bind_some, if_pos (by omega), wn1 i (by omega), e]
      exact ih (i + 1) k (by omega) (by omega) (by omega)
    · exact fin k i (by omega)
theorem wJoin_f (l : List ByteArray) (hl : l.length ≤ 1048576) (hm : ∀ x ∈ l, x.size ≤ 1048576) (hJ : (joinL l).length ≤ 1099511627776) (k : Nat) (hk : l.length < k) : word_Join.f k l = some ⟨(joinL l).toArray⟩ := by
  unfold word_Join.f
  exact wjoin_l0 l hl hm hJ l.length 0 k (by omega) (by omega) hk
end Go.Proofs.YtfaelejeihmgcaaDoor.Wd
end

section
namespace Go.Proofs.YtfaelejeihmgcaaDoor.Wd
open Go.RowKit Go.Proofs.YtfaelejeihmgcaaDoorW.PrintWords Go.Proofs.YtfaelejeihmgcaaDoorW.PrintLast Go.Proofs.YtfaelejeihmgcaaDoorW.PrintMore
theorem mayB_not (s : ByteArray) (i : Nat) (hi : i < s.size) (h : mayB s i = true) (c : UInt8) (h1 : c.toNat < 128) (h2 : mayR c.toNat 1 = false) : ¬ byteAt s i = c := by
  intro h3
  have e : byteAt s i = s[i] := get_lt s i hi
  rw [h3] at e
  have hd := decode_ascii s i hi (by rw [← e]; exact h1)
  unfold mayB at h
  rw [hd, ← e] at h
  rw [h] at h2
  cases h2
end Go.Proofs.YtfaelejeihmgcaaDoor.Wd
end

section
namespace Go.Proofs.YtfaelejeihmgcaaDoor.Wd
open Go.RowKit Go.Proofs.YtfaelejeihmgcaaDoorW.PrintWords Go.Proofs.YtfaelejeihmgcaaDoorW.PrintLast Go.Proofs.YtfaelejeihmgcaaDoorW.PrintMore
theorem at_of (s : ByteArray) (i : Nat) (c : UInt8) (h : s.data.toList[i]? = some c) : i < s.size ∧ byteAt s i = c := by
  obtain ⟨hlt, e⟩ := List.getElem?_eq_some_iff.1 h
  have h1 : i < s.size := by rw [Lib.size_eq]; exact hlt
  refine ⟨h1, ?_⟩
  unfold byteAt
  rw [get_lt s i h1]
  exact e
theorem bytesAt_get (x : ByteArray) (i n j : Nat) (hn : i + n ≤ x.size) (hj : j < n) : (bytesAt x i n)[j]? = some (byteAt x (i + j)) := by
  unfold bytesAt byteAt
  rw [List.getElem?_take_of_lt hj, List.getElem?_drop, get_lt x (i + j) (by omega), List.getElem?_eq_getElem (by rw [← Lib.size_eq]; omega)]
  rfl
theorem bytesAt_length (x : ByteArray) (i n : Nat) (hn : i + n ≤ x.size) : (bytesAt x i n).length = n := by
  unfold bytesAt
  rw [List.length_take, List.length_drop, ← Lib.size_eq]
  omega
/-- what stands at place p of s is the list l, and then the list r -/
def Lies (s : ByteArray) (p : Nat) (l r : List UInt8) : Prop := s.data.toList.drop p = l ++ r
theorem Lies.next {s : ByteArray} {p : Nat} {a b r : List UInt8} (h : Lies s p (a ++ b) r) : Lies s (p + a.length) b r := by
  unfold Lies at h ⊢
  rw [← List.drop_drop, h, List.append_assoc, List.drop_left]
theorem Lies.get {s : ByteArray} {p : Nat} {l r : List UInt8} (h : Lies s p l r) (j : Nat) (c : UInt8) (hj : l[j]? = some c) : p + j < s.size ∧ byteAt s (p + j) = c := by
  apply at_of
  unfold Lies at h
  rw [← List.getElem?_drop, h, List.getElem?_append_left (List.getElem?_eq_some_iff.1 hj).1]
  exact hj
theorem Lies.last {s : ByteArray} {p : Nat} {l r : List UInt8} (h : Lies s p l r) (hp : p ≤ s.size) : p + l.length + r.length = s.size := by
  unfold Lies at h
  have := congrArg List.length h
  rw [List.length_drop, List.length_append, ← Lib.size_eq] at this
  omega
theorem Lies.move {s : ByteArray} {p : Nat} {a b r : List UInt8} : Lies s p (a ++ b) r ↔ Lies s p a (b ++ r) := by unfold Lies; rw [List.append_assoc]
theorem Lies.bytes {s : ByteArray} {p : Nat} {l r : List UInt8} (h : Lies s p l r) : bytesAt s p l.length = l := by
  unfold bytesAt
  unfold Lies at h
  rw [h, List.take_left]
theorem decodeN_local (n n' b0 b1 b2 b3 c0 c1 c2 c3 : Nat) (hne : ¬ Lib.decodeN n b0 b1 b2 b3 = (65533, 1)) (hn : (Lib.decodeN n b0 b1 b2 b3).2 ≤ n') (h0 : c0 = b0)
    (h1 : 1 < (Lib.decodeN n b0 b1 b2 b3).2 → c1 = b1) (h2 : 2 < (Lib.decodeN n b0 b1 b2 b3).2 → c2 = b2) (h3 : 3 < (Lib.decodeN n b0 b1 b2 b3).2 → c3 = b3) :
    Lib.decodeN n' c0 c1 c2 c3 = Lib.decodeN n b0 b1 b2 b3 := by
  subst h0
  have key : ∀ R, Lib.decodeN n c0 b1 b2 b3 = R → ¬ R = (65533, 1) → R.2 ≤ n' → (1 < R.2 → c1 = b1) → (2 < R.2 → c2 = b2) → (3 < R.2 → c3 = b3) → Lib.decodeN n' c0 c1 c2 c3 = R := by
    intro R hR hne hn h1 h2 h3
    unfold Lib.decodeN at hR
    split at hR
    · subst hR
      unfold Lib.decodeN
      rw [if_pos (by assumption)]
    · split at hR
      · split at hR
        · subst hR
          have e1 := h1 (show 1 < 2 by decide)
          subst e1
          simp only at hn
          unfold Lib.decodeN
          rw [if_neg (by omega), if_pos (by omega), if_pos (by assumption)]
        · exact absurd hR.symm hne
      · split at hR
        · split at hR
          · subst hR
            have e1 := h1 (show 1 < 3 by decide)
            have e2 := h2 (show 2 < 3 by decide)
            subst e1; subst e2
            simp only at hn
            unfold Lib.decodeN
            rw [if_neg (by omega), if_neg (by omega), if_pos (by omega), if_pos (by assumption)]
          · exact absurd hR.symm hne
        · split at hR
          · split at hR
            · subst hR
              have e1 := h1 (show 1 < 4 by decide)
              have e2 := h2 (show 2 < 4 by decide)
              have e3 := h3 (show 3 < 4 by decide)
              subst e1; subst e2; subst e3
              simp only at hn
              unfold Lib.decodeN
              rw [if_neg (by omega), if_neg (by omega), if_neg (by omega), if_pos (by omega), if_pos (by assumption)]
            · exact absurd hR.symm hne
          · exact absurd hR.symm hne
  exact key _ rfl hne hn h1 h2 h3
theorem decode_local (x s : ByteArray) (i p : Nat) (hm : mayB x i = true) (hp : p + width x i ≤ s.size) (hb : ∀ j, j < width x i → byteAt s (p + j) = byteAt x (i + j)) : Utf8.decode s p = Utf8.decode x i := by
  have hne : ¬ Utf8.decode x i = (65533, 1) := by
    intro e
    unfold mayB at hm
    rw [e] at hm
    exact absurd hm (by decide)
  have hw := width_pos x i
  unfold width at hp hb hw
  rw [Lib.decode_at] at hp hb hw hne
  rw [Lib.decode_at, Lib.decode_at]
  refine decodeN_local _ _ _ _ _ _ _ _ _ _ hne (by omega) ?_ ?_ ?_ ?_
  · exact congrArg UInt8.toNat (hb 0 (by omega))
  · exact fun h => congrArg UInt8.toNat (hb 1 h)
  · exact fun h => congrArg UInt8.toNat (hb 2 h)
  · exact fun h => congrArg UInt8.toNat (hb 3 h)
theorem rune_same (x s : ByteArray) (i p : Nat) (r : List UInt8) (hi : i < x.size) (hm : mayB x i = true) (h : Lies s p (bytesAt x i (width x i)) r) : mayB s p = true ∧ width s p = width x i := by
  have hwl := width_le x i hi
  have hw := width_pos x i
  have e : Utf8.decode s p = Utf8.decode x i := by
    refine decode_local x s i p hm ?_ ?_
    · have := (h.get (width x i - 1) _ (bytesAt_get x i _ _ hwl (by omega))).1
      omega
    · intro j hj
      exact (h.get j _ (bytesAt_get x i _ _ hwl hj)).2
  unfold mayB width
  unfold mayB at hm
  rw [e]
  exact ⟨hm, rfl⟩
theorem mayB_ascii (s : ByteArray) (p : Nat) (hp : p < s.size) (c : UInt8) (h : byteAt s p = c) (h1 : c.toNat < 128) (h2 : mayR c.toNat 1 = false) : mayB s p = false := by
  cases hm : mayB s p with
  | false => rfl
  | true => exact absurd h (mayB_not s p hp hm c h1 h2)
theorem qstep (s : ByteArray) (p : Nat) (acc : List UInt8) (hp : p < s.size) : quotedFrom s s.size p acc =
    if mayB s p || byteAt s p == 32 then quotedFrom s s.size (p + width s p) (acc ++ bytesAt s p (width s p))
    else if byteAt s p = 34 then some (acc, p + 1)
    else if byteAt s p = 92 then
      match escB s (p + 1) with
      | some (c, n) => quotedFrom s s.size (p + 1 + n) (acc ++ [c])
      | none => none
    else none := by
  have hw := width_pos s p
  obtain ⟨m, hm⟩ : ∃ m, s.size = m + 1 := ⟨s.size - 1, by omega⟩
  have e : quotedFrom s s.size p acc = quotedFrom s (m + 1) p acc := by rw [hm]
  rw [e, quotedFrom, if_pos hp]
  rw [quotedFrom_fuel s m s.size (p + width s p) _ (by omega) (by omega)]
  cases hE : escB s (p + 1) with
  | none => rfl
  | some cn =>
    obtain ⟨c, n⟩ := cn
    simp only []
    rw [quotedFrom_fuel s m s.size (p + 1 + n) _ (by omega) (by omega)]
theorem hexV_hexD (n : Nat) (h : n < 16) : hexV (hexD n) = some n := by
  have : ∀ k : Fin 16, hexV (hexD k.val) = some k.val := by decide
  exact this ⟨n, h⟩
theorem hexD_notq (n : Nat) (h : n < 16) : ¬ hexD n = 34 ∧ ¬ hexD n = 92 := by
  have : ∀ k : Fin 16, ¬ hexD k.val = 34 ∧ ¬ hexD k.val = 92 := by decide
  exact this ⟨n, h⟩
theorem back_hex (s : ByteArray) : ∀ (bs : List UInt8) (p : Nat) (acc r : List UInt8), Lies s p (bs.flatMap hexQ) r → quotedFrom s s.size p acc = quotedFrom s s.size (p + (bs.flatMap hexQ).length) (acc ++ bs) := by
  intro bs
  induction bs with
  | nil => intro p acc r h; simp
  | cons c bs ih =>
    intro p acc r h
    have hc := c.toNat_lt
    rw [List.flatMap_cons] at h
    have h0 := h.get 0 92 rfl
    have h1 := h.get 1 (hexD (c.toNat / 16)) rfl
    have h2 := h.get 2 (hexD (c.toNat % 16)) rfl
    rw [Nat.add_zero] at h0
    have hE : escB s (p + 1) = some (c, 2) := by
      have hq := hexD_notq (c.toNat / 16) (by omega)
      rw [escB, if_neg (by rw [h1.2]; exact fun hh => hh.2.elim hq.1 hq.2), if_pos h2.1, h1.2, show p + 1 + 1 = p + 2 from rfl, h2.2, hexV_hexD _ (by omega), hexV_hexD _ (by omega), esc2]
      congr 2
      apply UInt8.toNat_inj.1
      simp
      omega
    have hm := mayB_ascii s p h0.1 92 h0.2 (by decide) (by decide)
    have h3 : Lies s (p + 3) (bs.flatMap hexQ) r := h.next
    rw [qstep s p acc h0.1, hm, if_neg (by rw [h0.2]; decide), if_neg (by rw [h0.2]; decide), if_pos h0.2, hE]
    simp only []
    rw [show p + 1 + 2 = p + 3 from rfl, ih (p + 3) (acc ++ [c]) r h3, List.flatMap_cons, List.length_append]
    congr 1
    · show p + 3 + _ = p + (3 + _)
      omega
    · simp
theorem back_quoted (x s : ByteArray) : ∀ (f i p : Nat) (acc r : List UInt8), x.size ≤ i + f → Lies s p (quoteFrom x f i ++ [34]) r →
    quotedFrom s s.size p acc = some (acc ++ x.data.toList.drop i, p + (quoteFrom x f i).length + 1) := by
  have fin : ∀ (f i p : Nat) (acc r : List UInt8), ¬ i < x.size → Lies s p (quoteFrom x f i ++ [34]) r → quotedFrom s s.size p acc = some (acc ++ x.data.toList.drop i, p + (quoteFrom x f i).length + 1) := by
    intro f i p acc r hi h
    rw [quoteFrom_endI x f i hi] at h ⊢
    have h0 := h.get 0 34 rfl
    rw [Nat.add_zero] at h0
    have hm := mayB_ascii s p h0.1 34 h0.2 (by decide) (by decide)
    rw [qstep s p acc h0.1, hm, if_neg (by rw [h0.2]; decide), if_pos h0.2, List.drop_eq_nil_of_le (by rw [← Lib.size_eq]; omega)]
    simp
  intro f
  induction f with
  | zero => intro i p acc r hf h; exact fin 0 i p acc r (by omega) h
  | succ f ih =>
    intro i p acc r hf h
    by_cases hi : i < x.size
    · have hw := width_pos x i
      have hwl := width_le x i hi
      have hd : x.data.toList.drop i = bytesAt x i (width x i) ++ x.data.toList.drop (i + width x i) := by
        unfold bytesAt
        rw [← List.drop_drop, List.take_append_drop]
      rw [quoteFrom, if_pos hi, List.append_assoc] at h
      have h2 := h.next
      have hgo : ∀ acc', quotedFrom s s.size (p + (quote1 x i).length) acc' = some (acc' ++ x.data.toList.drop (i + width x i), p + (quote1 x i).length + (quoteFrom x f (i + width x i)).length + 1) := fun acc' => ih (i + width x i) _ acc' r (by omega) h2
      rw [quoteFrom, if_pos hi, List.length_append, hd, ← Nat.add_assoc, ← List.append_assoc]
      rw [Lies.move] at h
      clear h2
      -- what the escape says is the rune's bytes
      suffices hs : quotedFrom s s.size p acc = quotedFrom s s.size (p + (quote1 x i).length) (acc ++ bytesAt x i (width x i)) by
        rw [hs, hgo]
      by_cases hmb : mayB x i = true
      · have hq : quote1 x i = bytesAt x i (width x i) := by rw [quote1, hmb]; rfl
        rw [hq] at h ⊢
        obtain ⟨g1, g2⟩ := rune_same x s i p _ hi hmb h
        have hbs := h.bytes
        have hl := bytesAt_length x i (width x i) hwl
        rw [hl] at hbs ⊢
        have h0 := (h.get 0 _ (bytesAt_get x i _ 0 hwl (by omega))).1
        rw [qstep s p acc (by omega), g1, if_pos (by rw [Bool.true_or]), g2, hbs]
      · have hmf : mayB x i = false := by simpa using hmb
        by_cases h32 : byteAt x i = 32
        · have hw1 := width_ascii x i hi 32 h32 (by decide)
          have hq : quote1 x i = [32] := by rw [quote1, hmf, h32, if_pos (by decide), hw1, byte_ex x i hi, h32]
          rw [hq] at h ⊢
          have h0 := h.get 0 32 rfl
          rw [Nat.add_zero] at h0
          have hws := width_ascii s p h0.1 32 h0.2 (by decide)
          rw [qstep s p acc h0.1, if_pos (by rw [h0.2]; simp), hws, byte_ex s p h0.1, h0.2, hw1, byte_ex x i hi, h32]
          rfl
        · by_cases hqq : byteAt x i = 34 ∨ byteAt x i = 92
          · have hw1 : width x i = 1 := by
              rcases hqq with e | e
              · exact width_ascii x i hi 34 e (by decide)
              · exact width_ascii x i hi 92 e (by decide)
            have hq : quote1 x i = [92, byteAt x i] := by
              rcases hqq with e | e <;> (rw [quote1, hmf, e]; rfl)
            rw [hq] at h ⊢
            have h0 := h.get 0 92 rfl
            have h1 := h.get 1 (byteAt x i) rfl
            rw [Nat.add_zero] at h0
            have hm := mayB_ascii s p h0.1 92 h0.2 (by decide) (by decide)
            have hE : escB s (p + 1) = some (byteAt x i, 1) := by rw [escB, if_pos ⟨h1.1, by rw [h1.2]; exact hqq⟩, h1.2]
            rw [qstep s p acc h0.1, hm, if_neg (by rw [h0.2]; decide), if_neg (by rw [h0.2]; decide), if_pos h0.2, hE, hw1, byte_ex x i hi]
            rfl
          · have n34 : ¬ byteAt x i = 34 := fun e => hqq (.inl e)
            have n92 : ¬ byteAt x i = 92 := fun e => hqq (.inr e)
            have hq : quote1 x i = (bytesAt x i (width x i)).flatMap hexQ := by
              rw [quote1, hmf, if_neg (by simpa using h32), if_neg (by simp [n34, n92])]
            rw [hq] at h ⊢
            exact back_hex s _ p acc _ h
    · exact fin (f + 1) i p acc r hi h
theorem back_plain (x s : ByteArray) (p : Nat) (r : List UInt8) (hr : r = [] ∨ ∃ r', r = 32 :: r') (hp : p ≤ s.size) (h : Lies s p x.data.toList r) : ∀ (f i g : Nat), i ≤ x.size → x.size ≤ i + f → s.size ≤ p + i + g → plainFrom x f i = true → runPlain s g (p + i) = p + x.size := by
  have hlast := h.last hp
  rw [← Lib.size_eq] at hlast
  have stop : ∀ g, runPlain s g (p + x.size) = p + x.size := by
    intro g
    cases g with
    | zero => rfl
    | succ g =>
      rw [runPlain]
      rcases hr with rfl | ⟨r', rfl⟩
      · rw [if_neg (by simp at hlast; omega)]
      · have h1 : Lies s p (x.data.toList ++ [32]) r' := by rw [Lies.move]; exact h
        have h0 := h1.next.get 0 32 rfl
        rw [Nat.add_zero, ← Lib.size_eq] at h0
        rw [if_pos h0.1, mayB_ascii s _ h0.1 32 h0.2 (by decide) (by decide), if_neg (by decide)]
  intro f
  induction f with
  | zero =>
    intro i g hi hf hg _
    obtain rfl : i = x.size := by omega
    exact stop g
  | succ f ih =>
    intro i g hi hf hg hpl
    by_cases hlt : i < x.size
    · have hw := width_pos x i
      have hwl := width_le x i hlt
      rw [plainFrom, if_pos hlt, Bool.and_eq_true] at hpl
      have hd : x.data.toList = x.data.toList.take i ++ (bytesAt x i (width x i) ++ x.data.toList.drop (i + width x i)) := by
        unfold bytesAt
        rw [← List.drop_drop, List.take_append_drop, List.take_append_drop]
      have h1 := h
      rw [hd] at h1
      have h2 := h1.next
      have hti : (x.data.toList.take i).length = i := by rw [List.length_take, ← Lib.size_eq]; omega
      rw [hti, Lies.move] at h2
      obtain ⟨g1, g2⟩ := rune_same x s i (p + i) _ hlt hpl.1 h2
      have h0 := (h2.get 0 _ (bytesAt_get x i _ 0 hwl (by omega))).1
      obtain ⟨g, rfl⟩ : ∃ m, g = m + 1 := ⟨g - 1, by omega⟩
      rw [runPlain, if_pos (by omega), g1, if_pos rfl, g2, Nat.add_assoc]
      exact ih (i + width x i) g hwl (by omega) (by omega) hpl.2
    · obtain rfl : i = x.size := by omega
      exact stop g
theorem back_first (x s : ByteArray) (p : Nat) (r : List UInt8) (hr : r = [] ∨ ∃ r', r = 32 :: r') (hp : p ≤ s.size) (h : Lies s p (quoteB x) r) : firstAt s p = some (x, p + (quoteB x).length) := by
  unfold quoteB at h ⊢
  cases hpl : plainB x with
  | false =>
    rw [hpl, if_neg (by decide)] at h
    rw [if_neg (by decide)]
    have h0 := h.get 0 34 rfl
    rw [Nat.add_zero] at h0
    have h1 : Lies s (p + 1) (quoteFrom x x.size 0 ++ [34]) r := by
      have := Lies.next (a := [34]) (b := quoteFrom x x.size 0 ++ [34]) h
      exact this
    have hb := back_quoted x s x.size 0 (p + 1) [] r (by omega) h1
    rw [firstAt, if_pos h0, hb]
    simp only [List.nil_append, List.drop_zero, List.length_cons, List.length_append, List.length_nil]
    have e : (⟨x.data.toList.toArray⟩ : ByteArray) = x := ba_ext rfl
    rw [e]
    congr 2
    omega
  | true =>
    rw [hpl, if_pos rfl] at h
    rw [if_pos rfl]
    have hpl2 := hpl
    unfold plainB at hpl2
    rw [Bool.and_eq_true, decide_eq_true_eq] at hpl2
    have hrun := back_plain x s p r hr hp h x.size 0 s.size (by omega) (by omega) (by omega) hpl2.1
    rw [Nat.add_zero] at hrun
    have hlen : x.data.toList.length = x.size := (Lib.size_eq x).symm
    have hx0 : 0 < x.size := by omega
    have hpf := hpl2.1
    obtain ⟨m, hm⟩ : ∃ m, x.size = m + 1 := ⟨x.size - 1, by omega⟩
    rw [hm, plainFrom, if_pos hx0, Bool.and_eq_true] at hpf
    have hb0 : byteAt s p = byteAt x 0 := by
      have h3 := (h.get 0 (byteAt x 0) (by
        have e : byteAt x 0 = x[0] := get_lt x 0 hx0
        rw [e]
        exact List.getElem?_eq_getElem (by rw [hlen]; exact hx0))).2
      exact h3
    have n34 := (mayB_bytes x 0 hx0 hpf.1).1
    have hbs := h.bytes
    rw [firstAt, if_neg (by rw [hb0]; exact fun hh => n34 hh.2), hrun, if_neg (by omega), hlen]
    congr 2
    apply ba_ext
    rw [extract_bytes, ← hlen]
    exact hbs
theorem back_split (s : ByteArray) : ∀ (l : List ByteArray) (x : ByteArray) (f p : Nat) (acc : List ByteArray), p ≤ s.size → s.size < p + f → Lies s p (joinL (x :: l)) [] → splitFrom s f p acc = some (acc ++ (x :: l)) := by
  intro l
  induction l with
  | nil =>
    intro x f p acc hp hf h
    obtain ⟨f, rfl⟩ : ∃ m, f = m + 1 := ⟨f - 1, by omega⟩
    rw [joinL_cons, tailB_nil, List.append_nil] at h
    have hlast := h.last hp
    rw [splitFrom, back_first x s p [] (.inl rfl) hp h]
    simp only []
    rw [if_pos (by simpa using hlast)]
  | cons y l ih =>
    intro x f p acc hp hf h
    obtain ⟨f, rfl⟩ : ∃ m, f = m + 1 := ⟨f - 1, by omega⟩
    rw [joinL_cons, tailB_cons, ← joinL_cons, ← List.append_nil (quoteB x ++ 32 :: joinL (y :: l))] at h
    have h1 : Lies s p (quoteB x) (32 :: joinL (y :: l)) := by
      rw [List.append_nil, Lies.move, List.append_nil] at h
      exact h
    have h2 : Lies s (p + (quoteB x).length) (32 :: joinL (y :: l)) [] := by
      rw [List.append_nil] at h
      exact h.next
    have h3 : Lies s (p + (quoteB x).length + 1) (joinL (y :: l)) [] := Lies.next (a := [32]) (b := joinL (y :: l)) h2
    have h0 := h2.get 0 32 rfl
    rw [Nat.add_zero] at h0
    rw [splitFrom, back_first x s p _ (.inr ⟨_, rfl⟩) hp h1]
    simp only []
    rw [if_neg (by omega), if_pos h0.2, ih y f _ _ (by omega) (by omega) h3]
    simp
theorem joinL_pos (x : ByteArray) (l : List ByteArray) : 0 < (joinL (x :: l)).length := by
  rw [joinL_cons, List.length_append]
  have : 0 < (quoteB x).length := by
    unfold quoteB
    cases hpl : plainB x with
    | false => simp
    | true =>
      unfold plainB at hpl
      rw [Bool.and_eq_true, decide_eq_true_eq] at hpl
      rw [if_pos rfl, ← Lib.size_eq]
      omega
  omega
/-- what a joined line splits into -/
theorem split_join (l : List ByteArray) (hJ : (joinL l).length ≤ 1099511627776) (k : Nat) (hk : 2 * (joinL l).length + 1 < k) : word_Split.f k ⟨(joinL l).toArray⟩ = some (l, 0) := by
  have hz : (⟨(joinL l).toArray⟩ : ByteArray).size = (joinL l).length := by rw [Lib.size_eq]
  rw [word_Split_f _ (by omega) k (by omega)]
  cases l with
  | nil => rw [if_pos (by rw [hz, joinL_nil]; rfl)]
  | cons x l =>
    have hp := joinL_pos x l
    rw [if_neg (by omega), back_split _ l x _ 0 [] (by omega) (by omega) (by unfold Lies; simp)]
    rfl
end Go.Proofs.YtfaelejeihmgcaaDoor.Wd
end

section
namespace Go.Proofs.YtfaelejeihmgcaaDoor.Stp
open Go.RowKit Go.Proofs.YtfaelejeihmgcaaDoorW.PrintWords
theorem name_out (k : Int) (h : ¬ (0 ≤ k ∧ k ≤ 15)) : step_name.f k = some (⟨#[]⟩, ⟨#[]⟩) := by
  unfold step_name.f
  rw [if_neg (by omega), if_neg (by omega), if_neg (by omega), if_neg (by omega), if_neg (by omega), if_neg (by omega), if_neg (by omega), if_neg (by omega), if_neg (by omega), if_neg (by omega), if_neg (by omega), if_neg (by omega), if_neg (by omega), if_neg (by omega)]
theorem name_any (k : Int) : step_name.f k = some (nameT k) := by
  by_cases h : 0 ≤ k ∧ k ≤ 15
  · obtain ⟨n, rfl⟩ : ∃ n : Nat, k = n := ⟨k.toNat, by omega⟩
    exact name_f n (by omega)
  · unfold nameT
    rw [name_out k h]
    rfl
def getNum (o : OpV) (c : Int) : Int := if c = 115 then o.s else if c = 110 then o.n else if c = 112 then o.page else if c = 97 then o.at_ else o.x
def maskW : List Int → List ByteArray → Option (List ByteArray)
  | [], acc => some acc
  | v :: vs, acc => if fitsB 77 v = true then maskW vs (acc ++ [itoaB v]) else none
def printF : List UInt8 → OpV → List ByteArray → Option (List ByteArray)
  | [], _, acc => some acc
  | c :: cs, o, acc => if (c.toNat : Int) = 107 then printF cs o (acc ++ [o.key]) else if (c.toNat : Int) = 118 then printF cs o (acc ++ [o.val]) else if (c.toNat : Int) = 75 then printF cs o (acc ++ o.keys)
    else if (c.toNat : Int) = 77 then (maskW o.mask acc).bind (printF cs o)
    else if fitsB (c.toNat : Int) (getNum o (c.toNat : Int)) = true then printF cs o (acc ++ [itoaB (getNum o (c.toNat : Int))]) else none
def printW (o : OpV) : Option (List ByteArray) := if (nameT o.kind).1.toList = [] then none else printF (nameT o.kind).2.data.toList o [(nameT o.kind).1]
def lineOf (l : List ByteArray) : ByteArray := ⟨(Wd.joinL l).toArray⟩
def printR : Option (List ByteArray) → ByteArray × Int
  | some l => (lineOf l, 0)
  | none => (⟨#[]⟩, 2)
def printT (o : OpV) : ByteArray × Int := printR (printW o)
theorem fits_range (c v : Int) (h : fitsB c v = true) : -1000000 ≤ v ∧ v ≤ 1000000 := by
  unfold fitsB at h
  split at h <;> simp at h <;> omega
theorem itoa_ok (c v : Int) (h : fitsB c v = true) : strconv_Itoa.f v = some (itoaB v) := by
  have := fits_range c v h
  unfold strconv_Itoa.f
  rw [if_pos (by omega)]
/-- lists that both Join take -/
structure Joins (l : List ByteArray) : Prop where
  n : l.length ≤ 1048576
  s : ∀ x ∈ l, x.size ≤ 1048576
  j : (Wd.joinL l).length ≤ 1099511627776
theorem name_len (k : Int) : (nameT k).2.size ≤ 100 := by
  by_cases h : 0 ≤ k ∧ k ≤ 15
  · obtain ⟨n, rfl⟩ : ∃ n : Nat, k = n := ⟨k.toNat, by omega⟩
    exact name_size n (by omega)
  · unfold nameT
    rw [name_out k h]
    decide
end Go.Proofs.YtfaelejeihmgcaaDoor.Stp
end

section
namespace Go.Proofs.YtfaelejeihmgcaaDoor.Stp
open Go.RowKit Go.Proofs.YtfaelejeihmgcaaDoorW.PrintWords Go.Proofs.YtfaelejeihmgcaaDoorW.PrintLast
/-- what stands behind a printing -/
def Printed (w : World) (r : ByteArray × Int) (e : Ending) (w' : World) : Prop := e = .returned (.tuple #[.string r.1, .int .i64 r.2]) ∧ Below w.heap.size w w'
theorem num_cell {W : World} {g : Nat} {o : OpV} {vk vm : Value} (h : W.heap[g]? = some (.cells #[.int .i64 o.kind, .int .i64 o.s, .string o.key, .string o.val, vk, .int .i64 o.n, vm, .int .i64 o.page, .int .i64 o.at_, .int .i64 o.x] 61)) (c : Int) : W.cell? ⟨g, offN c, none⟩ = some (.int .i64 (getNum o c)) := by
  obtain ⟨_, r1, _, _, _, r5, _, r7, r8, r9⟩ := cells10 h
  unfold offN getNum
  repeat' split
  all_goals assumption
set_option maxHeartbeats 16000000 in
set_option maxRecDepth 100000 in
theorem step_Print_walk (o : OpV) (Ak : Option Addr) (ck : Nat) (Am : Option Addr) (cm : Nat) (w : World) (hl : OpL w o Ak ck Am cm) (hT : Tabs w) (hk : o.keys.length ≤ 1000) (hm : o.mask.length ≤ 1000) (hj : ∀ l, printW o = some l → Joins l) :
    Calls Tryd.prog 47 #[.agg #[.int .i64 o.kind, .int .i64 o.s, .string o.key, .string o.val, .slice Ak o.keys.length ck, .int .i64 o.n, .slice Am o.mask.length cm, .int .i64 o.page, .int .i64 o.at_, .int .i64 o.x]] w (Printed w (printT o)) := by
  obtain ⟨P, hP⟩ : ∃ P, P = printW o := ⟨_, rfl⟩
  have hR : printT o = printR P := by rw [hP]; rfl
  rw [hR]
  rw [← hP] at hj
  have HP := Lib.hid hP
  have HJ := Lib.hid hj
  have hO1 := OpAt.alloc hl
  have hb1 := below_alloc (Below.refl _ w) (opO o Ak ck Am cm)
  have hcu := hl.k
  have hCm := hl.m
  have Hl := Lib.hid hl
  have hlt1 : w.heap.size < (w.alloc (opO o Ak ck Am cm)).heap.size := by simp
  have hz1 := hO1.1
  clear hP hR hj hO1 hl hcu hCm
  go_enter Tryd.func47, Tryd.ntmps47
  go_wp2_with fail
  change Calls Tryd.prog 81 _ (w.alloc (opO o Ak ck Am cm)) _
  generalize w.alloc (opO o Ak ck Am cm) = w1 at hz1 hb1 hlt1 ⊢
  obtain ⟨⟨nw, nf⟩, hn⟩ : ∃ r, nameT o.kind = r := ⟨_, rfl⟩
  have hnm := fun W => step_name.calls o.kind nw nf W (by rw [name_any, hn])
  have hP := HP.out
  have hns := name_len o.kind
  rw [printW, hn] at hP
  rw [hn] at hns
  simp only at hP hns
  replace HP := Lib.hid hP
  clear hP hn
  refine (hnm _).mono ?_
  rintro en w2 ⟨rfl, hd⟩
  have hb2 := below_then hb1 hb1.size hd.below
  have hz2 := (hd.below.block w.heap.size hlt1).trans hz1
  clear hnm hd hz1 hb1
  by_cases hne : nw.toList = []
  · have hP : P = none := by rw [HP.out, if_pos hne]
    subst hP
    have t1 : nw.toList.isEmpty = true := by rw [hne]; rfl
    clear HP HJ
    go_wp2
    go_ret2
    exact ⟨rfl, hb2⟩
  · have hP := HP.out
    rw [if_neg hne] at hP
    replace HP := Lib.hid hP
    have t1 : nw.toList.isEmpty = false := by
      cases h : nw.toList with
      | nil => exact absurd h hne
      | cons a b => rfl
    clear hP hne
    go_wp2_with ((with_reducible refine gate_dst (N := 21) rfl ?_); refine Kd.R_lit Kd.string w.heap.size 9 (w0 := w) ?hg (N := 21) ?hd (xs := [nw]) (inner := [.string nw]) (ok := fun _ => True) (okp := fun _ => True) ?hr ?hp (fun _ hk => hk) trivial hb2 hb2.size (by simp) ?_; (case hd => rfl); (case hg => rfl); (case hr => first | (go_simp; done) | (go_simp; rfl)); (case hp => exact (Reps.one (show Kd.M Kd.string _ _ _ nw [.string nw] from rfl) (Reps.none _ _))))
    intro v0 w3 hR0 hb3 hg3 bb hbb hble
    have hz3 := (hg3.block w.heap.size (blk_lt hz2) (by simp)).trans hz2
    clear hg3 hbb hble hb2 hz2
    go_wp2_with fail
    go_loopw [6, 24] (fun v i wr => ∃ (j : Nat) (acc : List ByteArray), j ≤ nf.size ∧ i = .int .i64 j ∧ Kd.R Kd.string 9 wr w.heap.size (fun _ => True) v acc ∧ Below w.heap.size w wr ∧ wr.heap[w.heap.size]? = some (.cells #[.int .i64 o.kind, .int .i64 o.s, .string o.key, .string o.val, .slice Ak o.keys.length ck, .int .i64 o.n, .slice Am o.mask.length cm, .int .i64 o.page, .int .i64 o.at_, .int .i64 o.x] 61) ∧ acc.length ≤ 2000 * (j + 1) ∧ Aside0 (P = printF (nf.data.toList.drop j) o acc)) (fun _ i _ => nf.size - (intOf i).toNat)
    case atStart => exact ⟨0, [nw], Nat.zero_le _, rfl, hR0, hb3, hz3, by simp, ⟨by rw [List.drop_zero]; exact HP.out⟩⟩
    case round =>
      clear HP hR0 hb3 hz3
      obtain ⟨j, acc, hjl, rfl, hRa, hbr, hzr, hlen, hq⟩ := hrel
      obtain ⟨Aa, ca, ea⟩ := Kd.R_slice hRa
      subst ea
      by_cases hlt : j < nf.size
      · have hdj : nf.data.toList.drop j = nf[j] :: nf.data.toList.drop (j + 1) := List.drop_eq_getElem_cons (by rw [← Lib.size_eq]; exact hlt)
        have hqs := hq.out
        rw [hdj, printF] at hqs
        obtain ⟨fc, hfc⟩ : ∃ fc : Int, (nf[j].toNat : Int) = fc := ⟨_, rfl⟩
        have hix : ∀ W, (Instr.index 9 (.string nf) (.int .i64 (j : Int))).run Tryd.prog W = .ok (.int .u8 fc) W := fun W => by rw [← hfc]; go_simp
        rw [hfc] at hqs
        have Hqs := Lib.hid hqs
        have hne : some w.heap.size ≠ (Value.slice Aa acc.length ca).ownBlock := Kd.R_ne hRa hzr (by decide)
        have hlen1 : (acc.length + 1) * 16 ≤ 140737488355328 := by omega
        clear hdj hqs hq hfc
        by_cases h107 : fc = 107
        · subst h107
          have hqs := Hqs.out
          rw [if_pos rfl] at hqs
          have Hq2 := Lib.hid hqs
          have r2 : wr.cell? ⟨w.heap.size, 2, none⟩ = some (.string o.key) := Lib.cell_of_heap hzr 2
          clear hqs Hqs
          go_wp2_with (at_builtin; refine Kd.R_append Kd.string (w0 := w) w.heap.size rfl (.tmp 46) (.tmp 49) 22 9 (.string ⟨#[]⟩) 16 rfl Tryd.underlying22 info9 rfl (by decide) (by decide) (.slice Aa acc.length ca) acc o.key [.string o.key] (fun _ => True) (fun _ => False) rfl (by first | (go_simp; done) | (go_simp; rfl)) rfl (fun _ hk => hk.elim) (fun _ _ => trivial) hRa hbr hbr.size hlen1 ?_)
          intro v1 w4 hR4 hb4 hg4 _
          have hz4 := (hg4.block w.heap.size (blk_lt hzr) hne).trans hzr
          clear r2 hg4 hne hzr hRa hbr
          go_wp2
          go_roundw
          case rel => exact ⟨j + 1, acc ++ [o.key], hlt, by simp, hR4, hb4, hz4, by rw [List.length_append]; simp; omega, ⟨Hq2.out⟩⟩
          case measure => simp [intOf]; omega
        have hqs := Hqs.out
        rw [if_neg h107] at hqs
        replace Hqs := Lib.hid hqs
        have t107 : (fc == 107) = false := beq_eq_false_iff_ne.2 h107
        clear hqs
        by_cases h118 : fc = 118
        · subst h118
          have hqs := Hqs.out
          rw [if_pos rfl] at hqs
          have Hq2 := Lib.hid hqs
          have r3 : wr.cell? ⟨w.heap.size, 3, none⟩ = some (.string o.val) := Lib.cell_of_heap hzr 3
          clear hqs Hqs
          go_wp2_with (at_builtin; refine Kd.R_append Kd.string (w0 := w) w.heap.size rfl (.tmp 53) (.tmp 56) 22 9 (.string ⟨#[]⟩) 16 rfl Tryd.underlying22 info9 rfl (by decide) (by decide) (.slice Aa acc.length ca) acc o.val [.string o.val] (fun _ => True) (fun _ => False) rfl (by first | (go_simp; done) | (go_simp; rfl)) rfl (fun _ hk => hk.elim) (fun _ _ => trivial) hRa hbr hbr.size hlen1 ?_)
          intro v1 w4 hR4 hb4 hg4 _
          have hz4 := (hg4.block w.heap.size (blk_lt hzr) hne).trans hzr
          clear r3 hg4 hne hzr hRa hbr
          go_wp2
          go_roundw
          case rel => exact ⟨j + 1, acc ++ [o.val], hlt, by simp, hR4, hb4, hz4, by rw [List.length_append]; simp; omega, ⟨Hq2.out⟩⟩
          case measure => simp [intOf]; omega
        have hqs := Hqs.out
        rw [if_neg h118] at hqs
        replace Hqs := Lib.hid hqs
        have t118 : (fc == 118) = false := beq_eq_false_iff_ne.2 h118
        clear hqs
        by_cases h75 : fc = 75
        · subst h75
          have hqs := Hqs.out
          rw [if_pos rfl] at hqs
          have Hq2 := Lib.hid hqs
          have r4 : wr.cell? ⟨w.heap.size, 4, none⟩ = some (.slice Ak o.keys.length ck) := Lib.cell_of_heap hzr 4
          have hC := Kd.C_below Hl.out.k hbr
          have hKM : ∀ (x : ByteArray) (cs : List Value), Kd.string.K wr x cs → Kd.string.M wr w.heap.size (fun _ => False) x cs := fun x cs h => h
          have hlen2 : (acc.length + o.keys.length) * 16 ≤ 140737488355328 := by omega
          clear hqs Hqs hlen1
          go_wp2_with (at_builtin; refine Kd.R_append_rows Kd.string (Rr := Kd.string.K wr) (w0 := w) w.heap.size rfl (.tmp 60) (.tmp 62) 22 9 (.string ⟨#[]⟩) 16 rfl Tryd.underlying22 info9 rfl (by decide) (by decide) (.slice Aa acc.length ca) acc o.keys Ak o.keys.length ck (fun _ => True) (fun _ => False) rfl rfl hRa hC hKM (fun _ h => h.elim) (fun _ _ => trivial) hbr hbr.size hlen2 ?_)
          intro v1 w4 hR4 hb4 hg4 _
          have hz4 := (hg4.block w.heap.size (blk_lt hzr) hne).trans hzr
          clear r4 hg4 hne hzr hRa hbr hC hKM hlen2
          go_wp2
          go_roundw
          case rel => exact ⟨j + 1, acc ++ o.keys, hlt, by simp, hR4, hb4, hz4, by rw [List.length_append]; omega, ⟨Hq2.out⟩⟩
          case measure => simp [intOf]; omega
        have hqs := Hqs.out
        rw [if_neg h75] at hqs
        replace Hqs := Lib.hid hqs
        have t75 : (fc == 75) = false := beq_eq_false_iff_ne.2 h75
        clear hqs
        by_cases h77 : fc = 77
        · subst h77
          have hqs := Hqs.out
          rw [if_pos rfl] at hqs
          have Hq2 := Lib.hid hqs
          have r6 : wr.cell? ⟨w.heap.size, 6, none⟩ = some (.slice Am o.mask.length cm) := Lib.cell_of_heap hzr 6
          clear hqs Hqs hne hlen1
          go_wp2_with fail
          go_loopw [6, 69] (fun v i wi => ∃ (q : Nat) (a2 : List ByteArray), q ≤ o.mask.length ∧ i = .int .i64 q ∧ Kd.R Kd.string 9 wi w.heap.size (fun _ => True) v a2 ∧ Below w.heap.size w wi ∧ wi.heap[w.heap.size]? = some (.cells #[.int .i64 o.kind, .int .i64 o.s, .string o.key, .string o.val, .slice Ak o.keys.length ck, .int .i64 o.n, .slice Am o.mask.length cm, .int .i64 o.page, .int .i64 o.at_, .int .i64 o.x] 61) ∧ a2.length ≤ acc.length + q ∧ Aside0 (maskW o.mask acc = maskW (o.mask.drop q) a2)) (fun _ i _ => o.mask.length - (intOf i).toNat)
          case atStart => exact ⟨0, acc, Nat.zero_le _, rfl, hRa, hbr, hzr, Nat.le_refl _, ⟨by rw [List.drop_zero]⟩⟩
          case round =>
            clear r6 hRa hbr hzr
            obtain ⟨q, a2, hql, rfl, hRi, hbi, hzi, hl2, hm2⟩ := hrel
            obtain ⟨Ai, ci, ei⟩ := Kd.R_slice hRi
            subst ei
            by_cases hlq : q < o.mask.length
            · obtain ⟨adw, ew, c0⟩ := Kd.at_int (Kd.C_below Hl.out.m hbi) q (by omega) (by omega)
              obtain ⟨v, hv⟩ : ∃ v, o.mask[q] = v := ⟨_, rfl⟩
              have hrd : rd o.mask (q : Int) = v := by rw [← hv]; simp [rd, List.getD_eq_getElem?_getD, List.getElem?_eq_getElem hlq]
              rw [hrd] at c0
              simp only [Int.toNat_natCast] at c0
              have hsn := hm2.out
              rw [List.drop_eq_getElem_cons hlq, maskW, hv] at hsn
              obtain ⟨fb, hfb⟩ : ∃ fb, fitsB 77 v = fb := ⟨_, rfl⟩
              rw [hfb] at hsn
              have hit := fun W (hf : fb = true) (h : Tabs W) => strconv_Itoa.calls v (itoaB v) W (itoa_ok 77 v (hfb.trans hf)) h
              have hft := fun W => step_fits.calls 77 v fb W (by rw [fits_f, hfb])
              have Hsn := Lib.hid hsn
              clear hsn hm2 hv hrd hfb
              subst ew
              go_wp2_with fail
              refine (hft _).mono ?_
              rintro e w4 ⟨rfl, hd⟩
              have hR4 := Kd.R_below hRi hd.below
              have hz4 := (hd.below.block w.heap.size (blk_lt hzi)).trans hzi
              have hb4 := below_then hbi hbi.size hd.below
              clear hft hd c0 hzi hbi hRi
              cases fb
              · have hqs := Hq2.out
                rw [Hsn.out, if_neg (by decide)] at hqs
                have hqs2 : P = none := hqs
                subst hqs2
                clear Hq2 hit hqs Hsn
                go_wp2
                go_ret2
                exact ⟨rfl, hb4⟩
              · have hsn := Hsn.out
                rw [if_pos rfl] at hsn
                have Hs2 := Lib.hid hsn
                have hit2 := hit w4 rfl (hT.below hb4)
                clear hsn Hsn hit
                go_wp2_with fail
                refine hit2.mono ?_
                rintro e w5 ⟨rfl, hb⟩
                have hR5 := Kd.R_below hR4 hb
                have hz5 := (hb.block w.heap.size (blk_lt hz4)).trans hz4
                have hb5 := below_then hb4 hb4.size hb
                have hne : some w.heap.size ≠ (Value.slice Ai a2.length ci).ownBlock := Kd.R_ne hR5 hz5 (by decide)
                have hlen1 : (a2.length + 1) * 16 ≤ 140737488355328 := by omega
                clear hit2 hb hR4 hz4 hb4
                go_wp2_with (at_builtin; refine Kd.R_append Kd.string (w0 := w) w.heap.size rfl (.tmp 77) (.tmp 80) 22 9 (.string ⟨#[]⟩) 16 rfl Tryd.underlying22 info9 rfl (by decide) (by decide) (.slice Ai a2.length ci) a2 (itoaB v) [.string (itoaB v)] (fun _ => True) (fun _ => False) rfl (by first | (go_simp; done) | (go_simp; rfl)) rfl (fun _ hk => hk.elim) (fun _ _ => trivial) hR5 hb5 hb5.size hlen1 ?_)
                intro v1 w6 hR6 hb6 hg6 _
                have hz6 := (hg6.block w.heap.size (blk_lt hz5) hne).trans hz5
                clear hg6 hne hz5 hR5 hb5 hlen1
                go_wp2
                go_roundw
                case rel => exact ⟨q + 1, a2 ++ [itoaB v], hlq, by simp, hR6, hb6, hz6, by rw [List.length_append]; simp; omega, ⟨Hs2.out⟩⟩
                case measure => simp [intOf]; omega
            · have hqe : q = o.mask.length := by omega
              subst hqe
              have hsn := hm2.out
              rw [List.drop_eq_nil_of_le (Nat.le_refl _), maskW] at hsn
              have hqs := Hq2.out
              rw [hsn] at hqs
              have Hq3 := Lib.hid hqs
              clear hqs hsn Hq2 hm2
              go_wp2
              go_roundw
              case rel => exact ⟨j + 1, a2, hlt, by simp, hRi, hbi, hzi, by omega, ⟨Hq3.out⟩⟩
              case measure => simp [intOf]; omega
        have hqs := Hqs.out
        rw [if_neg h77] at hqs
        have t77 : (fc == 77) = false := beq_eq_false_iff_ne.2 h77
        obtain ⟨v, hv⟩ : ∃ v, getNum o fc = v := ⟨_, rfl⟩
        have rv := num_cell hzr fc
        rw [hv] at rv hqs
        obtain ⟨fb, hfb⟩ : ∃ fb, fitsB fc v = fb := ⟨_, rfl⟩
        rw [hfb] at hqs
        have hit := fun W (hf : fb = true) (h : Tabs W) => strconv_Itoa.calls v (itoaB v) W (itoa_ok fc v (hfb.trans hf)) h
        have hft := fun W => step_fits.calls fc v fb W (by rw [fits_f, hfb])
        replace Hqs := Lib.hid hqs
        clear hqs hv hfb h107 h118 h75 h77
        go_wp2_with fail
        refine (step_number_calls w.heap.size fc wr).mono ?_
        rintro e w' ⟨rfl, rfl⟩
        go_wp2_with fail
        refine (hft _).mono ?_
        rintro e w4 ⟨rfl, hd⟩
        have hR4 := Kd.R_below hRa hd.below
        have hz4 := (hd.below.block w.heap.size (blk_lt hzr)).trans hzr
        have hb4 := below_then hbr hbr.size hd.below
        clear hft hd rv hzr hbr hRa
        cases fb
        · have hqs := Hqs.out
          rw [if_neg (by decide)] at hqs
          subst hqs
          clear Hqs hit
          go_wp2
          go_ret2
          exact ⟨rfl, hb4⟩
        · have hqs := Hqs.out
          rw [if_pos rfl] at hqs
          have Hq2 := Lib.hid hqs
          have hit2 := hit w4 rfl (hT.below hb4)
          clear hqs Hqs hit
          go_wp2_with fail
          refine hit2.mono ?_
          rintro e w5 ⟨rfl, hb⟩
          have hR5 := Kd.R_below hR4 hb
          have hz5 := (hb.block w.heap.size (blk_lt hz4)).trans hz4
          have hb5 := below_then hb4 hb4.size hb
          have hne : some w.heap.size ≠ (Value.slice Aa acc.length ca).ownBlock := Kd.R_ne hR5 hz5 (by decide)
          clear hit2 hb hR4 hz4 hb4
          go_wp2_with (at_builtin; refine Kd.R_append Kd.string (w0 := w) w.heap.size rfl (.tmp 39) (.tmp 42) 22 9 (.string ⟨#[]⟩) 16 rfl Tryd.underlying22 info9 rfl (by decide) (by decide) (.slice Aa acc.length ca) acc (itoaB v) [.string (itoaB v)] (fun _ => True) (fun _ => False) rfl (by first | (go_simp; done) | (go_simp; rfl)) rfl (fun _ hk => hk.elim) (fun _ _ => trivial) hR5 hb5 hb5.size hlen1 ?_)
          intro v1 w6 hR6 hb6 hg6 _
          have hz6 := (hg6.block w.heap.size (blk_lt hz5) hne).trans hz5
          clear hg6 hne hz5 hR5 hb5
          go_wp2
          go_roundw
          case rel => exact ⟨j + 1, acc ++ [itoaB v], hlt, by simp, hR6, hb6, hz6, by rw [List.length_append]; simp; omega, ⟨Hq2.out⟩⟩
          case measure => simp [intOf]; omega
      · have hje : j = nf.size := by omega
        subst hje
        have hqs := hq.out
        rw [List.drop_eq_nil_of_le (by rw [← Lib.size_eq]; exact Nat.le_refl _), printF] at hqs
        subst hqs
        have hJ := HJ.out acc rfl
        have hRc := Kd.R_reads' hRa
        have hjoin := fun W (hC : Kd.C Kd.string W Aa acc.length acc) (h : Tabs W) => Wd.word_Join.calls 2000000 Aa ca acc (lineOf acc) W hC hRc.2.1 (Wd.wJoin_f acc hJ.n hJ.s hJ.j 2000000 (by have := hJ.n; omega)) h.u
        have hjw := hjoin wr hRc.2.2 (hT.below hbr)
        clear hjoin hRc hJ HJ hq hRa hzr hlen
        go_wp2_with fail
        refine hjw.mono ?_
        rintro en w4 ⟨rfl, hb4⟩
        have hb5 := below_then hbr hbr.size hb4
        clear hb4 hbr hjw
        go_wp2
        go_ret2
        exact ⟨rfl, hb5⟩
end Go.Proofs.YtfaelejeihmgcaaDoor.Stp
end

section
namespace Go.Proofs.YtfaelejeihmgcaaDoor.Stp
open Go.RowKit Go.Proofs.YtfaelejeihmgcaaDoorW.PrintWords Go.Proofs.YtfaelejeihmgcaaDoorW.PrintLast
def numsOf (o : OpV) : List Int := if o.kind = 2 ∨ o.kind = 3 ∨ o.kind = 4 ∨ o.kind = 5 ∨ o.kind = 6 then [o.s] else if o.kind = 11 then [o.n] else if o.kind = 12 then o.mask else if o.kind = 13 then [o.page, o.at_, o.x] else []
def restOf (o : OpV) : List ByteArray := if o.kind = 2 then [o.key, o.val] else if o.kind = 3 then [o.key] else if o.kind = 4 then o.keys else if o.kind = 8 ∨ o.kind = 9 then [o.key] else []
def refW (o : OpV) : Option (List ByteArray) := if o.kind < 1 ∨ 14 < o.kind then none else if o.kind = 13 ∧ (o.x < 0 ∨ 255 < o.x) then none else (maskW (numsOf o) [wordAt o.kind.toNat]).map (· ++ restOf o)
theorem nums2_len (o : OpV) (h : o.mask.length ≤ 1000) : (numsOf o).length ≤ 1000 := by
  unfold numsOf
  repeat' split
  all_goals first | exact h | (simp; done)
theorem rest2_len (o : OpV) (h : o.keys.length ≤ 1000) : (restOf o).length ≤ 1000 := by
  unfold restOf
  repeat' split
  all_goals first | exact h | (simp; done)
def AtB (wc : World) (g : Nat) (v : Value) : Prop := v.ownBlock = some g ∨ ∃ b, v.ownBlock = some b ∧ wc.heap.size ≤ b
theorem AtB.step {wc wr : World} {g : Nat} {v v1 : Value} (h : AtB wc g v) (hs : wc.heap.size ≤ wr.heap.size) (k : v1.ownBlock = v.ownBlock ∨ ∃ b, v1.ownBlock = some b ∧ wr.heap.size ≤ b) : AtB wc g v1 := by
  rcases k with k | ⟨b, k, hb⟩
  · unfold AtB; rw [k]; exact h
  · exact .inr ⟨b, k, by omega⟩
/-- the numbers and the texts of a line, in memory -/
structure Two (W : World) (g : Nat) (o : OpV) (An : Option Addr) (cn : Nat) (Ar : Option Addr) (cr : Nat) : Prop where
  n : Kd.C (Kd.int .i64) W An (numsOf o).length (numsOf o)
  nc : (numsOf o).length ≤ cn
  r : Kd.C Kd.string W Ar (restOf o).length (restOf o)
  rc : (restOf o).length ≤ cr
  fn : ∀ ad, An = some ad → 0 < (numsOf o).length → ad.block ≠ g
  fr : ∀ ad, Ar = some ad → 0 < (restOf o).length → ad.block ≠ g
end Go.Proofs.YtfaelejeihmgcaaDoor.Stp
end

section
namespace Go.Proofs.YtfaelejeihmgcaaDoor.Stp
open Go.RowKit Go.Proofs.YtfaelejeihmgcaaDoorW.PrintWords Go.Proofs.YtfaelejeihmgcaaDoorW.PrintLast Go.Proofs.YtfaelejeihmgcaaDoorW.PrintMore
attribute [local go_sem] max2_int min2_int max_two min_two max_three min_three max_four min_four
theorem short_same (s : ByteArray) (n : Nat) (hn : n ≤ 1000) (w : World) : Calls Tryd.prog 27 #[.string s, .int .i64 n] w fun e w' => e = .returned (.string (Wd.cut s n)) ∧ w' = w := by
  by_cases h : n < s.size
  · have hcut : Wd.cut s n = s.extract 0 n := by unfold Wd.cut; rw [Nat.min_eq_right (by omega)]
    rw [hcut]
    clear hcut
    go_enter Tryd.func27, Tryd.ntmps27
    go_wp2
    go_ret
    exact ⟨rfl, rfl⟩
  · have hcut : Wd.cut s n = s := by unfold Wd.cut; rw [Nat.min_eq_left (by omega)]; exact Wd.ex_all s
    rw [hcut]
    clear hcut
    go_enter Tryd.func27, Tryd.ntmps27
    go_wp2
    go_ret
    exact ⟨rfl, rfl⟩
theorem slice_head56 (A : Option Addr) (n c j : Nat) (hj : j ≤ c) (W : World) : (Instr.slice 56 (.slice A n c) none (some (.int .i64 (j : Int))) none).run Tryd.prog W = .ok (.slice A j c) W := by
  rw [run_slice_h W 56 A n c (by kernel_rfl) .i64 (j : Int) (by omega) (by omega)]
  go_simp
set_option maxHeartbeats 1000000 in
set_option maxRecDepth 100000 in
theorem Ints_walk (A : Option Addr) (c : Nat) (l : List Int) (w : World) (hC : Kd.C (Kd.int .i64) w A l.length l) (hc : l.length ≤ c) :
    Calls Tryd.prog 85 #[.slice A l.length c, .int .i64 6] w fun e w' => ∃ v, e = .returned v ∧ Kd.R (Kd.int .i64) 3 w' w.heap.size (fun _ => True) v (l.take 6) ∧ Below w.heap.size w w' := by
  have hmax := Kd.C_max hC
  have hKM : ∀ (x : Int) (cs : List Value), (Kd.int .i64).K w x cs → (Kd.int .i64).M w w.heap.size (fun _ => False) x cs := fun x cs h => h
  obtain ⟨m, hm⟩ : ∃ m, l.length = m := ⟨_, rfl⟩
  by_cases h : 6 < m
  · have hCt := Kd.C_take (m := 6) hC (by omega)
    rw [show (l.take 6).length = 6 by rw [List.length_take]; omega] at hCt
    have hlen : (([] : List Int).length + 6) * 8 ≤ 140737488355328 := by decide
    have hsl := fun W => slice_head56 A m c 6 (by omega) W
    rw [hm] at hC hc hmax ⊢
    have d1 : decide (6 < m) = true := decide_eq_true h
    have HC := Lib.hid hCt
    clear hm hC hCt
    go_enter Tryd.func85, Tryd.ntmps85
    go_wp2_with (at_builtin; refine Kd.R_append_rows (Kd.int .i64) (Rr := (Kd.int .i64).K w) (w0 := w) w.heap.size rfl (.const (.slice none 0 0)) (.tmp 10) 56 3 (.int .i64 0) 8 rfl Tryd.underlying56 info3 rfl (by decide) (by decide) nilV [] (l.take 6) A 6 c (fun _ => True) (fun _ => False) rfl rfl (Kd.R_nil _ _ _ _ _) HC.out hKM (fun _ h => h.elim) (fun _ _ => trivial) (Below.refl _ _) (Nat.le_refl _) hlen ?_)
    intro v1 w1 hR1 hb1 _ _
    go_wp2
    go_ret
    exact ⟨v1, rfl, hR1, hb1⟩
  · have ht : l.take 6 = l := List.take_of_length_le (by omega)
    rw [ht]
    have hlen : (([] : List Int).length + l.length) * 8 ≤ 140737488355328 := by simp only [List.length_nil]; omega
    have hsl := fun W => slice_head56 A m c m (by omega) W
    rw [hm] at hC hc hmax hlen ⊢
    have d1 : decide (6 < m) = false := decide_eq_false h
    have HC := Lib.hid hC
    clear hm hC ht
    go_enter Tryd.func85, Tryd.ntmps85
    go_wp2_with (at_builtin; refine Kd.R_append_rows (Kd.int .i64) (Rr := (Kd.int .i64).K w) (w0 := w) w.heap.size rfl (.const (.slice none 0 0)) (.tmp 10) 56 3 (.int .i64 0) 8 rfl Tryd.underlying56 info3 rfl (by decide) (by decide) nilV [] l A m c (fun _ => True) (fun _ => False) rfl rfl (Kd.R_nil _ _ _ _ _) HC.out hKM (fun _ h => h.elim) (fun _ _ => trivial) (Below.refl _ _) (Nat.le_refl _) hlen ?_)
    intro v1 w1 hR1 hb1 _ _
    go_wp2
    go_ret
    exact ⟨v1, rfl, hR1, hb1⟩
def pickI (a m : Int) : Int := if Int.tmod a m < 0 then Int.tmod a m + m else Int.tmod a m
theorem pickI_in (a m : Int) (hm : 0 < m) : 0 ≤ pickI a m ∧ pickI a m < m := by
  have hb : Int.tmod a m < m ∧ -m < Int.tmod a m := ⟨Int.tmod_lt_of_pos a hm, Int.lt_tmod_of_pos a hm⟩
  unfold pickI
  split <;> omega
theorem pick16 (a : Int) (w : World) : Calls Tryd.prog 25 #[.int .i64 a, .int .i64 16] w fun e w' => e = .returned (.int .i64 (pickI a 16)) ∧ w' = w := by
  have hb : Int.tmod a 16 < 16 ∧ -16 < Int.tmod a 16 := ⟨Int.tmod_lt_of_pos a (by decide), Int.lt_tmod_of_pos a (by decide)⟩
  unfold pickI
  obtain ⟨t, ht⟩ : ∃ t, Int.tmod a 16 = t := ⟨_, rfl⟩
  rw [ht] at hb ⊢
  obtain ⟨h1, h2⟩ := hb
  by_cases h : t < 0
  · have d1 : decide (t < 0) = true := decide_eq_true h
    rw [if_pos h]
    go_enter Tryd.func25, Tryd.ntmps25
    go_wp2
    go_ret
    exact ⟨rfl, rfl⟩
  · have d1 : decide (t < 0) = false := decide_eq_false h
    rw [if_neg h]
    go_enter Tryd.func25, Tryd.ntmps25
    go_wp2
    go_ret
    exact ⟨rfl, rfl⟩
theorem pick258 (a : Int) (w : World) : Calls Tryd.prog 25 #[.int .i64 a, .int .i64 258] w fun e w' => e = .returned (.int .i64 (pickI a 258)) ∧ w' = w := by
  have hb : Int.tmod a 258 < 258 ∧ -258 < Int.tmod a 258 := ⟨Int.tmod_lt_of_pos a (by decide), Int.lt_tmod_of_pos a (by decide)⟩
  unfold pickI
  obtain ⟨t, ht⟩ : ∃ t, Int.tmod a 258 = t := ⟨_, rfl⟩
  rw [ht] at hb ⊢
  obtain ⟨h1, h2⟩ := hb
  by_cases h : t < 0
  · have d1 : decide (t < 0) = true := decide_eq_true h
    rw [if_pos h]
    go_enter Tryd.func25, Tryd.ntmps25
    go_wp2
    go_ret
    exact ⟨rfl, rfl⟩
  · have d1 : decide (t < 0) = false := decide_eq_false h
    rw [if_neg h]
    go_enter Tryd.func25, Tryd.ntmps25
    go_wp2
    go_ret
    exact ⟨rfl, rfl⟩
end Go.Proofs.YtfaelejeihmgcaaDoor.Stp
end

section
set_option linter.unusedSimpArgs false
namespace Go.Proofs.YtfaelejeihmgcaaDoor.Stp
open Go.RowKit Go.Proofs.YtfaelejeihmgcaaDoorW.PrintWords Go.Proofs.YtfaelejeihmgcaaDoorW.PrintLast
theorem texts_l0_eq : ∀ (k : Nat) (x0 : List ByteArray) (x1 x2 : Int) (x7 : List ByteArray) (x8 : Int), cachepotbook_Texts.l0 k x0 x1 x2 x7 x8 = Wd.cachepotbook_Texts.l0 k x0 x1 x2 x7 x8
  | 0, _, _, _, _, _ => rfl
  | k + 1, x0, x1, x2, x7, x8 => by
    rw [cachepotbook_Texts.l0, Wd.cachepotbook_Texts.l0]
    simp only [texts_l0_eq k]
    rfl
theorem texts_val (l : List ByteArray) : cachepotbook_Texts.f 100 l 6 20 = some (Wd.textsL l 6 20) := (texts_l0_eq 100 l 6 20 [] 0).trans (Wd.texts_f l 6 20 100 (by decide) (by decide))
theorem rel_two {o : OpV} {w w2 w6 : World} {Ak Am : Option Addr} {ck cm tn mn : Nat} {A5 A6 : Option Addr} {c5 c6 : Nat} {tl : List ByteArray} {ml : List Int} (hl2 : w.heap.size + 1 < w2.heap.size) (_ : w.heap.size ≤ w2.heap.size)
    (hz2 : w2.heap[w.heap.size]? = some (.cells #[.int .i64 o.kind, .int .i64 o.s, .string (Wd.cut o.key 40), .string (Wd.cut o.val 60), .slice Ak o.keys.length ck, .int .i64 o.n, .slice Am o.mask.length cm, .int .i64 o.page, .int .i64 o.at_, .int .i64 o.x] 61))
    (hy2 : w2.heap[w.heap.size + 1]? = some (.cells #[.int .i64 0, .int .i64 0, .string ⟨#[]⟩, .string ⟨#[]⟩, .slice none 0 0, .int .i64 0, .slice none 0 0, .int .i64 0, .int .i64 0, .int .i64 0] 61)) (hb2 : Below w.heap.size w w2) (hR5 : Kd.R Kd.string 9 w6 w2.heap.size (fun _ => True) (.slice A5 tn c5) tl) (hR6 : Kd.R (Kd.int .i64) 3 w6 w2.heap.size (fun _ => True) (.slice A6 mn c6) ml) (hb6 : Below w2.heap.size w2 w6) :
    ∃ A c B d, ((w6.setCell ⟨w.heap.size, 4, none⟩ (.slice A5 tn c5)).setCell ⟨w.heap.size, 6, none⟩ (.slice A6 mn c6)).heap[w.heap.size]? = some (.cells #[.int .i64 o.kind, .int .i64 o.s, .string (Wd.cut o.key 40), .string (Wd.cut o.val 60), .slice A tn c, .int .i64 o.n, .slice B mn d, .int .i64 o.page, .int .i64 o.at_, .int .i64 o.x] 61) ∧ ((w6.setCell ⟨w.heap.size, 4, none⟩ (.slice A5 tn c5)).setCell ⟨w.heap.size, 6, none⟩ (.slice A6 mn c6)).heap[w.heap.size + 1]? = some (.cells #[.int .i64 0, .int .i64 0, .string ⟨#[]⟩, .string ⟨#[]⟩, .slice none 0 0, .int .i64 0, .slice none 0 0, .int .i64 0, .int .i64 0, .int .i64 0] 61) ∧
      Kd.R Kd.string 9 ((w6.setCell ⟨w.heap.size, 4, none⟩ (.slice A5 tn c5)).setCell ⟨w.heap.size, 6, none⟩ (.slice A6 mn c6)) (w.heap.size + 2) (fun _ => True) (.slice A tn c) tl ∧ Kd.R (Kd.int .i64) 3 ((w6.setCell ⟨w.heap.size, 4, none⟩ (.slice A5 tn c5)).setCell ⟨w.heap.size, 6, none⟩ (.slice A6 mn c6)) (w.heap.size + 2) (fun _ => True) (.slice B mn d) ml ∧ Below w.heap.size w ((w6.setCell ⟨w.heap.size, 4, none⟩ (.slice A5 tn c5)).setCell ⟨w.heap.size, 6, none⟩ (.slice A6 mn c6)) := by
  have hz6 := (hb6.block w.heap.size (by omega)).trans hz2
  have hy6 := (hb6.block (w.heap.size + 1) (by omega)).trans hy2
  have hb := below_then hb2 hb2.size hb6
  refine ⟨A5, c5, A6, c6, set_heap (set_heap hz6 4 _) 6 _, (Below.heap_setCell _ ⟨w.heap.size, 6, none⟩ _ _ (by simp)).trans ((Below.heap_setCell _ ⟨w.heap.size, 4, none⟩ _ _ (by simp)).trans hy6), ?_, ?_, (hb.setCell (p := ⟨w.heap.size, 4, none⟩) (Nat.le_refl _) _).setCell (p := ⟨w.heap.size, 6, none⟩) (Nat.le_refl _) _⟩
  · refine Kd.R_lower (Kd.R_mono (Kd.R_far (p := ⟨w.heap.size, 6, none⟩) (ok := fun k => k ≠ w.heap.size) (Kd.R_far (p := ⟨w.heap.size, 4, none⟩) (Kd.R_mono (ok' := fun k => k ≠ w.heap.size) (Kd.R_bound hR5) (fun k hk => by have := hk.2.1; omega)) (fun k hk => hk) _) (fun k hk => hk) _) (fun _ _ => trivial)) (by omega)
  · refine Kd.R_lower (Kd.R_mono (Kd.R_far (p := ⟨w.heap.size, 6, none⟩) (ok := fun k => k ≠ w.heap.size) (Kd.R_far (p := ⟨w.heap.size, 4, none⟩) (Kd.R_mono (ok' := fun k => k ≠ w.heap.size) (Kd.R_bound hR6) (fun k hk => by have := hk.2.1; omega)) (fun k hk => hk) _) (fun k hk => hk) _) (fun _ _ => trivial)) (by omega)
def shortT (o : OpV) (near : Bool) : OpV :=
  if near = true then ⟨pickI o.kind 16, Int.tmod o.s 1000003, Wd.cut o.key 40, Wd.cut o.val 60, Wd.textsL o.keys 6 20, Int.tmod o.n 1000003, (o.mask.take 6).map (fun v => Int.tmod v 1000002), Int.tmod o.page 1000003, Int.tmod o.at_ 2000, pickI o.x 258 - 1⟩
  else { o with key := Wd.cut o.key 40, val := Wd.cut o.val 60, keys := Wd.textsL o.keys 6 20, mask := o.mask.take 6 }
/-- what stands behind a shortening: the step's lists are new memory -/
def Shorted (w : World) (o : OpV) (e : Ending) (w' : World) : Prop :=
  ∃ A c B d, e = .returned (.agg #[.int .i64 o.kind, .int .i64 o.s, .string o.key, .string o.val, .slice A o.keys.length c, .int .i64 o.n, .slice B o.mask.length d, .int .i64 o.page, .int .i64 o.at_, .int .i64 o.x]) ∧ Kd.R Kd.string 9 w' w.heap.size (fun _ => True) (.slice A o.keys.length c) o.keys ∧ Kd.R (Kd.int .i64) 3 w' w.heap.size (fun _ => True) (.slice B o.mask.length d) o.mask ∧ Below w.heap.size w w'
theorem shorted_mk {w w9 : World} {o' : OpV} {tl : List ByteArray} {ml : List Int} {tn mn : Nat} {A B : Option Addr} {c d : Nat} {kind s n page at_ x : Int} {key val : ByteArray} (hk : o'.keys = tl) (hn : o'.keys.length = tn) (hm : o'.mask = ml) (hmn : o'.mask.length = mn)
    (h1 : Kd.R Kd.string 9 w9 w.heap.size (fun _ => True) (.slice A tn c) tl) (h2 : Kd.R (Kd.int .i64) 3 w9 w.heap.size (fun _ => True) (.slice B mn d) ml) (hb : Below w.heap.size w w9)
    (e0 : o'.kind = kind := by rfl) (e1 : o'.s = s := by rfl) (e2 : o'.key = key := by rfl) (e3 : o'.val = val := by rfl) (e5 : o'.n = n := by rfl) (e7 : o'.page = page := by rfl) (e8 : o'.at_ = at_ := by rfl) (e9 : o'.x = x := by rfl) :
    Shorted w o' (.returned (.agg #[.int .i64 kind, .int .i64 s, .string key, .string val, .slice A tn c, .int .i64 n, .slice B mn d, .int .i64 page, .int .i64 at_, .int .i64 x])) w9 := by
  subst e0 e1 e2 e3 e5 e7 e8 e9 hk hm hn hmn
  exact ⟨A, c, B, d, rfl, h1, h2, hb⟩
theorem R_up {α : Type} {k : Kd α} {e g : Nat} {W W1 : World} {v : Value} {xs : List α} (h : Kd.R k e W (g + 2) (fun _ => True) v xs) (hg : W.grownBy W1 (some g)) : Kd.R k e W1 (g + 2) (fun _ => True) v xs :=
  Kd.R_mono (Kd.R_grown (Kd.R_mono (ok' := fun q => g + 2 ≤ q) (Kd.R_bound h) (fun q hq => hq.2.1)) hg (fun q hq e => by have := Option.some.inj e; omega)) (fun _ _ => trivial)
theorem set_step (ml : List Int) (q : Nat) (h : q < ml.length) : ((ml.take q).map (fun v => Int.tmod v 1000002) ++ ml.drop q).set q (Int.tmod ml[q] 1000002) = (ml.take (q + 1)).map (fun v => Int.tmod v 1000002) ++ ml.drop (q + 1) := by
  have hl : ((ml.take q).map (fun v => Int.tmod v 1000002)).length = q := by rw [List.length_map, List.length_take]; omega
  rw [List.set_append_right _ _ (by omega), hl, Nat.sub_self, List.drop_eq_getElem_cons h, List.set_cons_zero, List.take_succ_eq_append_getElem h, List.map_append, List.append_assoc]
  rfl
theorem short40 (s : ByteArray) (w : World) : Calls Tryd.prog 27 #[.string s, .int .i64 40] w fun e w' => e = .returned (.string (Wd.cut s 40)) ∧ w' = w := short_same s 40 (by decide) w
theorem short60 (s : ByteArray) (w : World) : Calls Tryd.prog 27 #[.string s, .int .i64 60] w fun e w' => e = .returned (.string (Wd.cut s 60)) ∧ w' = w := short_same s 60 (by decide) w
set_option maxHeartbeats 16000000 in
set_option maxRecDepth 100000 in
theorem short_walk (o : OpV) (Ak : Option Addr) (ck : Nat) (Am : Option Addr) (cm : Nat) (near : Bool) (w : World) (hl : OpL w o Ak ck Am cm) :
    Calls Tryd.prog 46 #[.agg #[.int .i64 o.kind, .int .i64 o.s, .string o.key, .string o.val, .slice Ak o.keys.length ck, .int .i64 o.n, .slice Am o.mask.length cm, .int .i64 o.page, .int .i64 o.at_, .int .i64 o.x], .bool near] w (Shorted w (shortT o near)) := by
  have Hl := Lib.hid hl
  obtain ⟨O1, hO1⟩ : ∃ O1, opO o Ak ck Am cm = O1 := ⟨_, rfl⟩
  obtain ⟨O2, hO2⟩ : ∃ O2, opO (zeroOp 0) none 0 none 0 = O2 := ⟨_, rfl⟩
  have hlt1 : w.heap.size + 1 < ((w.alloc O1).alloc O2).heap.size := by simp
  have hz1 : ((w.alloc O1).alloc O2).heap[w.heap.size]? = some (.cells #[.int .i64 o.kind, .int .i64 o.s, .string o.key, .string o.val, .slice Ak o.keys.length ck, .int .i64 o.n, .slice Am o.mask.length cm, .int .i64 o.page, .int .i64 o.at_, .int .i64 o.x] 61) :=
    (Lib.alloc_old _ O2 _ (by simp)).trans ((heap_alloc_new w O1).trans (by rw [← hO1]; rfl))
  have hy1 : ((w.alloc O1).alloc O2).heap[w.heap.size + 1]? = some (.cells #[.int .i64 0, .int .i64 0, .string ⟨#[]⟩, .string ⟨#[]⟩, .slice none 0 0, .int .i64 0, .slice none 0 0, .int .i64 0, .int .i64 0, .int .i64 0] 61) := by
    have h := heap_alloc_new (w.alloc O1) O2
    rw [show (w.alloc O1).heap.size = w.heap.size + 1 by simp] at h
    rw [h, ← hO2]
    rfl
  have hb1 := below_alloc (below_alloc (Below.refl _ w) O1) O2
  clear hl
  go_enter Tryd.func46, Tryd.ntmps46
  go_upto_region 1 with (fail)
  change Code.wp _ _ _ _ ((w.alloc (opO o Ak ck Am cm)).alloc (opO (zeroOp 0) none 0 none 0))
  rw [hO1, hO2]
  clear hO1 hO2
  generalize (w.alloc O1).alloc O2 = w1 at hz1 hy1 hb1 hlt1 ⊢
  go_cut [] (fun wc => wc.heap[w.heap.size]? = some (.cells #[.int .i64 o.kind, .int .i64 o.s, .string (Wd.cut o.key 40), .string (Wd.cut o.val 60), .slice Ak o.keys.length ck, .int .i64 o.n, .slice Am o.mask.length cm, .int .i64 o.page, .int .i64 o.at_, .int .i64 o.x] 61) ∧ wc.heap[w.heap.size + 1]? = some (.cells #[.int .i64 0, .int .i64 0, .string ⟨#[]⟩, .string ⟨#[]⟩, .slice none 0 0, .int .i64 0, .slice none 0 0, .int .i64 0, .int .i64 0, .int .i64 0] 61) ∧ Below w.heap.size w wc)
  case first =>
    have r2 : w1.cell? ⟨w.heap.size, 2, none⟩ = some (.string o.key) := Lib.cell_of_heap hz1 2
    have r3 : w1.cell? ⟨w.heap.size, 3, none⟩ = some (.string o.val) := Lib.cell_of_heap hz1 3
    have f2 : w1.frozen? ⟨w.heap.size, 2, none⟩ = false := Lib.frozen_of_heap hz1 2
    have f3 : w1.frozen? ⟨w.heap.size, 3, none⟩ = false := Lib.frozen_of_heap hz1 3
    go_wp2_with fail
    go_region_with ((first | ((with_reducible refine (short40 _ _).mono ?_); rintro e w' ⟨rfl, rfl⟩) | ((with_reducible refine (short60 _ _).mono ?_); rintro e w' ⟨rfl, rfl⟩)))
    all_goals (
      go_wp2_with fail
      go_meet
      case rel => exact ⟨set_heap (set_heap hz1 2 _) 3 _, (Below.heap_setCell _ ⟨w.heap.size, 3, none⟩ _ _ (by simp)).trans ((Below.heap_setCell _ ⟨w.heap.size, 2, none⟩ _ _ (by simp)).trans hy1), below_drew ((hb1.setCell (p := ⟨w.heap.size, 2, none⟩) (Nat.le_refl _) (.string (Wd.cut o.key 40))).setCell (p := ⟨w.heap.size, 3, none⟩) (Nat.le_refl _) (.string (Wd.cut o.val 60)))⟩)
  case rest =>
    obtain ⟨hz2, hy2, hb2⟩ := hcut
    clear hz1 hy1 hb1 hlt1
    generalize wc = w2 at hz2 hy2 hb2 ⊢
    go_upto_region 2 with (fail)
    have zz : ∀ W, Below w2.heap.size w2 W → W.cell? ⟨w.heap.size, 4, none⟩ = some (.slice Ak o.keys.length ck) ∧ W.cell? ⟨w.heap.size, 6, none⟩ = some (.slice Am o.mask.length cm) ∧ W.frozen? ⟨w.heap.size, 4, none⟩ = false ∧ W.frozen? ⟨w.heap.size, 6, none⟩ = false := fun W hW => by
      have h := (hW.block w.heap.size (blk_lt hz2)).trans hz2
      exact ⟨Lib.cell_of_heap h 4, Lib.cell_of_heap h 6, Lib.frozen_of_heap h 4, Lib.frozen_of_heap h 6⟩
    have tx : ∀ W, Below w2.heap.size w2 W → Calls Tryd.prog 24 #[.slice Ak o.keys.length ck, .int .i64 6, .int .i64 20] W fun e w' => ∃ A c, e = .returned (.slice A (Wd.textsL o.keys 6 20).length c) ∧ Kd.R Kd.string 9 w' w2.heap.size (fun _ => True) (.slice A (Wd.textsL o.keys 6 20).length c) (Wd.textsL o.keys 6 20) ∧ Below w2.heap.size w2 w' ∧ Below W.heap.size W w' := fun W hW =>
      (cachepotbook_Texts.calls 100 Ak ck o.keys 6 20 (Wd.textsL o.keys 6 20) W (Kd.C_below (Kd.C_below Hl.out.k hb2) hW) Hl.out.kc (texts_val _)).mono fun e w' ⟨v, he, hR, hb⟩ => by
        obtain ⟨A, c, ev⟩ := Kd.R_slice hR
        subst ev
        exact ⟨A, c, he, Kd.R_lower hR hW.size, below_then hW hW.size hb, hb⟩
    have it : ∀ W, Below w2.heap.size w2 W → Calls Tryd.prog 85 #[.slice Am o.mask.length cm, .int .i64 6] W fun e w' => ∃ A c, e = .returned (.slice A (o.mask.take 6).length c) ∧ Kd.R (Kd.int .i64) 3 w' w2.heap.size (fun _ => True) (.slice A (o.mask.take 6).length c) (o.mask.take 6) ∧ Below w2.heap.size w2 w' ∧ Below W.heap.size W w' := fun W hW =>
      (Ints_walk Am cm o.mask W (Kd.C_below (Kd.C_below Hl.out.m hb2) hW) Hl.out.mc).mono fun e w' ⟨v, he, hR, hb⟩ => by
        obtain ⟨A, c, ev⟩ := Kd.R_slice hR
        subst ev
        exact ⟨A, c, he, Kd.R_lower hR hW.size, below_then hW hW.size hb, hb⟩
    obtain ⟨tl, htl⟩ : ∃ tl, Wd.textsL o.keys 6 20 = tl := ⟨_, rfl⟩
    obtain ⟨ml, hml⟩ : ∃ ml, o.mask.take 6 = ml := ⟨_, rfl⟩
    obtain ⟨tn, htn⟩ : ∃ tn, tl.length = tn := ⟨_, rfl⟩
    obtain ⟨mn, hmn⟩ : ∃ mn, ml.length = mn := ⟨_, rfl⟩
    rw [htl, htn] at tx
    rw [hml, hmn] at it
    have Htl := Lib.hid htl
    have Hml := Lib.hid hml
    have Htn := Lib.hid htn
    have Hmn := Lib.hid hmn
    clear htl hml htn hmn
    go_wp2_with fail
    have hl2 : w.heap.size + 1 < w2.heap.size := blk_lt hy2
    go_cut [] (fun wd => ∃ A c B d, wd.heap[w.heap.size]? = some (.cells #[.int .i64 o.kind, .int .i64 o.s, .string (Wd.cut o.key 40), .string (Wd.cut o.val 60), .slice A tn c, .int .i64 o.n, .slice B mn d, .int .i64 o.page, .int .i64 o.at_, .int .i64 o.x] 61) ∧ wd.heap[w.heap.size + 1]? = some (.cells #[.int .i64 0, .int .i64 0, .string ⟨#[]⟩, .string ⟨#[]⟩, .slice none 0 0, .int .i64 0, .slice none 0 0, .int .i64 0, .int .i64 0, .int .i64 0] 61) ∧ Kd.R Kd.string 9 wd (w.heap.size + 2) (fun _ => True) (.slice A tn c) tl ∧ Kd.R (Kd.int .i64) 3 wd (w.heap.size + 2) (fun _ => True) (.slice B mn d) ml ∧ Below w.heap.size w wd)
    case first =>
      obtain ⟨z4, z6, y4, y6⟩ := zz w2 (Below.refl _ _)
      go_wp2_with fail
      go_region_with ((first | ((with_reducible refine (tx _ (by repeat (first | assumption | exact Below.refl _ _ | apply below_drew | apply below_alloc))).mono ?_); rintro e w5 ⟨A5, c5, rfl, hR5, hb5, hc5⟩; obtain ⟨z45, z65, y45, y65⟩ := zz w5 hb5) | ((with_reducible refine (it _ (by repeat (first | assumption | exact Below.refl _ _ | apply below_drew | apply below_alloc))).mono ?_); rintro e w6 ⟨A6, c6, rfl, hR6, hb6, hc6⟩; obtain ⟨z46, z66, y46, y66⟩ := zz w6 hb6)))
      all_goals (
        go_wp2_with fail
        go_meet
        case rel => exact rel_two hl2 (hb2.size) hz2 hy2 hb2 (Kd.R_below hR5 hc6) hR6 hb6)
    case rest =>
      obtain ⟨A, c, Bm, d, hz3, hy3, hRk, hRm, hb3⟩ := hcut
      generalize wc = w3 at hz3 hy3 hRk hRm hb3 ⊢
      clear hz2 hy2 hb2 zz tx it hl2
      cases near
      · obtain ⟨r0, r1, r2, r3, r4, r5, r6, r7, r8, r9⟩ := cells10 hz3
        obtain ⟨s0, s1, s2, s3, s4, s5, s6, s7, s8, s9⟩ := cells10 hy3
        obtain ⟨sf0, sf1, sf2, sf3, sf4, sf5, sf6, sf7, sf8, sf9⟩ := frozen10 hy3
        go_wp2
        clear r0 r1 r2 r3 r4 r5 r6 r7 r8 r9 s0 s1 s2 s3 s4 s5 s6 s7 s8 s9 sf0 sf1 sf2 sf3 sf4 sf5 sf6 sf7 sf8 sf9
        have hz9 := put10 hy3 (.int .i64 o.kind) (.int .i64 o.s) (.string (Wd.cut o.key 40)) (.string (Wd.cut o.val 60)) (.slice A tn c) (.int .i64 o.n) (.slice Bm mn d) (.int .i64 o.page) (.int .i64 o.at_) (.int .i64 o.x)
        have hg9 := grown10 w3 (w.heap.size + 1) (.int .i64 o.kind) (.int .i64 o.s) (.string (Wd.cut o.key 40)) (.string (Wd.cut o.val 60)) (.slice A tn c) (.int .i64 o.n) (.slice Bm mn d) (.int .i64 o.page) (.int .i64 o.at_) (.int .i64 o.x)
        have hk9 := Kd.R_grown (Kd.R_mono (ok' := fun k => w.heap.size + 2 ≤ k) (Kd.R_bound hRk) (fun k hk => hk.2.1)) hg9 (fun k hk e => by have := Option.some.inj e; omega)
        have hm9 := Kd.R_grown (Kd.R_mono (ok' := fun k => w.heap.size + 2 ≤ k) (Kd.R_bound hRm) (fun k hk => hk.2.1)) hg9 (fun k hk e => by have := Option.some.inj e; omega)
        have hb9 := pw_below_grown hb3 _ hb3.size hg9 (fun k e => by cases e; omega)
        generalize ((((((((((w3.setCell ⟨w.heap.size + 1, 0, none⟩ (.int .i64 o.kind)).setCell ⟨w.heap.size + 1, 1, none⟩ (.int .i64 o.s)).setCell ⟨w.heap.size + 1, 2, none⟩ (.string (Wd.cut o.key 40))).setCell ⟨w.heap.size + 1, 3, none⟩ (.string (Wd.cut o.val 60))).setCell ⟨w.heap.size + 1, 4, none⟩ (.slice A tn c)).setCell ⟨w.heap.size + 1, 5, none⟩ (.int .i64 o.n)).setCell ⟨w.heap.size + 1, 6, none⟩ (.slice Bm mn d)).setCell ⟨w.heap.size + 1, 7, none⟩ (.int .i64 o.page)).setCell ⟨w.heap.size + 1, 8, none⟩ (.int .i64 o.at_)).setCell ⟨w.heap.size + 1, 9, none⟩ (.int .i64 o.x)) = w9 at hz9 hg9 hk9 hm9 hb9 ⊢
        obtain ⟨t0, t1, t2, t3, t4, t5, t6, t7, t8, t9⟩ := cells10 hz9
        refine bodyPost_ret (v := .agg #[.int .i64 o.kind, .int .i64 o.s, .string (Wd.cut o.key 40), .string (Wd.cut o.val 60), .slice A tn c, .int .i64 o.n, .slice Bm mn d, .int .i64 o.page, .int .i64 o.at_, .int .i64 o.x]) (by simp [results, Tryd.results46, go_sem, t0, t1, t2, t3, t4, t5, t6, t7, t8, t9]) rfl ?_
        exact shorted_mk (o' := shortT o false) Htl.out (by rw [← Htn.out, ← Htl.out]; rfl) Hml.out (by rw [← Hmn.out, ← Hml.out]; rfl) (Kd.R_lower (Kd.R_mono hk9 (fun _ _ => trivial)) (by omega)) (Kd.R_lower (Kd.R_mono hm9 (fun _ _ => trivial)) (by omega)) hb9
      · have r0 : w3.cell? ⟨w.heap.size, 0, none⟩ = some (.int .i64 o.kind) := Lib.cell_of_heap hz3 0
        have f0 : w3.frozen? ⟨w.heap.size, 0, none⟩ = false := Lib.frozen_of_heap hz3 0
        go_wp2_with fail
        refine (pick16 o.kind w3).mono ?_
        rintro e w4 ⟨rfl, hw⟩
        obtain rfl := hw.symm
        clear hw
        go_upto_region 6 with (fail)
        have hz4 : (w3.setCell ⟨w.heap.size, 0, none⟩ (.int .i64 (pickI o.kind 16))).heap[w.heap.size]? = some (.cells #[.int .i64 (pickI o.kind 16), .int .i64 o.s, .string (Wd.cut o.key 40), .string (Wd.cut o.val 60), .slice A tn c, .int .i64 o.n, .slice Bm mn d, .int .i64 o.page, .int .i64 o.at_, .int .i64 o.x] 61) := set_heap hz3 0 _
        have hg4 := set_grown w3 w.heap.size 0 (.int .i64 (pickI o.kind 16))
        have hy4 := (Below.heap_setCell w3 ⟨w.heap.size, 0, none⟩ (.int .i64 (pickI o.kind 16)) (w.heap.size + 1) (by simp)).trans hy3
        have hk4 := R_up hRk hg4
        have hm4 := R_up hRm hg4
        have hb4 := hb3.setCell (p := ⟨w.heap.size, 0, none⟩) (Nat.le_refl _) (.int .i64 (pickI o.kind 16))
        generalize w3.setCell ⟨w.heap.size, 0, none⟩ (.int .i64 (pickI o.kind 16)) = w4 at hz4 hg4 hy4 hk4 hm4 hb4 ⊢
        clear hz3 hy3 hRk hRm hb3 hg4 r0 f0
        go_cut [] (fun wd => wd.heap[w.heap.size]? = some (.cells #[.int .i64 (pickI o.kind 16), .int .i64 (Int.tmod o.s 1000003), .string (Wd.cut o.key 40), .string (Wd.cut o.val 60), .slice A tn c, .int .i64 (Int.tmod o.n 1000003), .slice Bm mn d, .int .i64 (Int.tmod o.page 1000003), .int .i64 (Int.tmod o.at_ 2000), .int .i64 (pickI o.x 258 - 1)] 61) ∧ wd.heap[w.heap.size + 1]? = some (.cells #[.int .i64 0, .int .i64 0, .string ⟨#[]⟩, .string ⟨#[]⟩, .slice none 0 0, .int .i64 0, .slice none 0 0, .int .i64 0, .int .i64 0, .int .i64 0] 61) ∧ Kd.R Kd.string 9 wd (w.heap.size + 2) (fun _ => True) (.slice A tn c) tl ∧ Kd.R (Kd.int .i64) 3 wd (w.heap.size + 2) (fun _ => True) (.slice Bm mn d) ml ∧ Below w.heap.size w wd)
        case first =>
          obtain ⟨_, r1, _, _, _, r5, _, r7, r8, r9⟩ := cells10 hz4
          obtain ⟨_, f1, _, _, _, f5, _, f7, f8, f9⟩ := frozen10 hz4
          have hpx := pickI_in o.x 258 (by decide)
          obtain ⟨x258, hx258⟩ : ∃ x, pickI o.x 258 = x := ⟨_, rfl⟩
          have hp := fun W => pick258 o.x W
          rw [hx258] at hpx hp
          obtain ⟨hp0, hp1⟩ := hpx
          have Hx := Lib.hid hx258
          clear hx258
          go_wp2_with fail
          refine start_ (n := 26) (S := fun w' => w'.cell? ⟨w.heap.size, 1, none⟩ = some (.int .i64 o.s) ∧ w'.cell? ⟨w.heap.size, 5, none⟩ = some (.int .i64 o.n) ∧ w'.cell? ⟨w.heap.size, 7, none⟩ = some (.int .i64 o.page) ∧ w'.cell? ⟨w.heap.size, 8, none⟩ = some (.int .i64 o.at_) ∧ w'.cell? ⟨w.heap.size, 9, none⟩ = some (.int .i64 o.x)) (ds := [17, 19, 21, 23, 25]) #[false, false, false, false, false, false, false, false, false, false, false, false, false, false, false, false, false, false, false, false, false, false, false, false, false, false] (by kernel_rfl) rfl rfl ⟨r1, r5, r7, r8, r9⟩ (fun hHeld => ?_)
          refine pure_ (i := 0) (N := some 29) (v := ?_) (a' := ?_) #[true, false, false, false, false, false, false, false, false, false, false, false, false, false, false, false, false, false, false, false, false, false, false, false, false, false] rfl rfl (by kernel_rfl) (fun _ _ _ h => h) (Or.inl ⟨by rfl, ?_⟩) ?_ ?_
          rotate_left
          · intro w'
            go_simp
            with_reducible rfl
          rotate_left
          · simp only [Act.put, List.setIfInBounds_toArray, List.set_cons_zero, List.set_cons_succ, i64_w, i32_w]
            rfl
          refine take_ (i := 1) (N := some 30) (v := ?_) (a' := ?_) #[true, true, false, false, false, false, false, false, false, false, false, false, false, false, false, false, false, false, false, false, false, false, false, false, false, false] rfl rfl (by kernel_rfl) (fun _ _ _ h => h) (Or.inl ⟨by rfl, ?_⟩) hHeld ?_ ?_
          rotate_left
          · rintro w' ⟨s1, s5, s7, s8, s9⟩
            go_simp
            with_reducible rfl
          rotate_left
          · simp only [Act.put, List.setIfInBounds_toArray, List.set_cons_zero, List.set_cons_succ, i64_w, i32_w]
            rfl
          refine pure_ (i := 2) (N := some 31) (v := ?_) (a' := ?_) #[true, true, true, false, false, false, false, false, false, false, false, false, false, false, false, false, false, false, false, false, false, false, false, false, false, false] rfl rfl (by kernel_rfl) (fun _ _ _ h => h) (Or.inl ⟨by rfl, ?_⟩) ?_ ?_
          rotate_left
          · intro w'
            go_simp
            with_reducible rfl
          rotate_left
          · simp only [Act.put, List.setIfInBounds_toArray, List.set_cons_zero, List.set_cons_succ, i64_w, i32_w]
            rfl
          refine pure_ (i := 3) (N := some 32) (v := ?_) (a' := ?_) #[true, true, true, true, false, false, false, false, false, false, false, false, false, false, false, false, false, false, false, false, false, false, false, false, false, false] rfl rfl (by kernel_rfl) (fun _ _ _ h => h) (Or.inl ⟨by rfl, ?_⟩) ?_ ?_
          rotate_left
          · intro w'
            go_simp
            with_reducible rfl
          rotate_left
          · simp only [Act.put, List.setIfInBounds_toArray, List.set_cons_zero, List.set_cons_succ, i64_w, i32_w]
            rfl
          refine take_ (i := 4) (N := some 33) (v := ?_) (a' := ?_) #[true, true, true, true, true, false, false, false, false, false, false, false, false, false, false, false, false, false, false, false, false, false, false, false, false, false] rfl rfl (by kernel_rfl) (fun _ _ _ h => h) (Or.inl ⟨by rfl, ?_⟩) hHeld ?_ ?_
          rotate_left
          · rintro w' ⟨s1, s5, s7, s8, s9⟩
            go_simp
            with_reducible rfl
          rotate_left
          · simp only [Act.put, List.setIfInBounds_toArray, List.set_cons_zero, List.set_cons_succ, i64_w, i32_w]
            rfl
          refine pure_ (i := 5) (N := some 34) (v := ?_) (a' := ?_) #[true, true, true, true, true, true, false, false, false, false, false, false, false, false, false, false, false, false, false, false, false, false, false, false, false, false] rfl rfl (by kernel_rfl) (fun _ _ _ h => h) (Or.inl ⟨by rfl, ?_⟩) ?_ ?_
          rotate_left
          · intro w'
            go_simp
            with_reducible rfl
          rotate_left
          · simp only [Act.put, List.setIfInBounds_toArray, List.set_cons_zero, List.set_cons_succ, i64_w, i32_w]
            rfl
          refine pure_ (i := 6) (N := some 35) (v := ?_) (a' := ?_) #[true, true, true, true, true, true, true, false, false, false, false, false, false, false, false, false, false, false, false, false, false, false, false, false, false, false] rfl rfl (by kernel_rfl) (fun _ _ _ h => h) (Or.inl ⟨by rfl, ?_⟩) ?_ ?_
          rotate_left
          · intro w'
            go_simp
            with_reducible rfl
          rotate_left
          · simp only [Act.put, List.setIfInBounds_toArray, List.set_cons_zero, List.set_cons_succ, i64_w, i32_w]
            rfl
          refine take_ (i := 7) (N := some 36) (v := ?_) (a' := ?_) #[true, true, true, true, true, true, true, true, false, false, false, false, false, false, false, false, false, false, false, false, false, false, false, false, false, false] rfl rfl (by kernel_rfl) (fun _ _ _ h => h) (Or.inl ⟨by rfl, ?_⟩) hHeld ?_ ?_
          rotate_left
          · rintro w' ⟨s1, s5, s7, s8, s9⟩
            go_simp
            with_reducible rfl
          rotate_left
          · simp only [Act.put, List.setIfInBounds_toArray, List.set_cons_zero, List.set_cons_succ, i64_w, i32_w]
            rfl
          refine pure_ (i := 8) (N := some 37) (v := ?_) (a' := ?_) #[true, true, true, true, true, true, true, true, true, false, false, false, false, false, false, false, false, false, false, false, false, false, false, false, false, false] rfl rfl (by kernel_rfl) (fun _ _ _ h => h) (Or.inl ⟨by rfl, ?_⟩) ?_ ?_
          rotate_left
          · intro w'
            go_simp
            with_reducible rfl
          rotate_left
          · simp only [Act.put, List.setIfInBounds_toArray, List.set_cons_zero, List.set_cons_succ, i64_w, i32_w]
            rfl
          refine pure_ (i := 9) (N := some 38) (v := ?_) (a' := ?_) #[true, true, true, true, true, true, true, true, true, true, false, false, false, false, false, false, false, false, false, false, false, false, false, false, false, false] rfl rfl (by kernel_rfl) (fun _ _ _ h => h) (Or.inl ⟨by rfl, ?_⟩) ?_ ?_
          rotate_left
          · intro w'
            go_simp
            with_reducible rfl
          rotate_left
          · simp only [Act.put, List.setIfInBounds_toArray, List.set_cons_zero, List.set_cons_succ, i64_w, i32_w]
            rfl
          refine take_ (i := 10) (N := some 39) (v := ?_) (a' := ?_) #[true, true, true, true, true, true, true, true, true, true, true, false, false, false, false, false, false, false, false, false, false, false, false, false, false, false] rfl rfl (by kernel_rfl) (fun _ _ _ h => h) (Or.inl ⟨by rfl, ?_⟩) hHeld ?_ ?_
          rotate_left
          · rintro w' ⟨s1, s5, s7, s8, s9⟩
            go_simp
            with_reducible rfl
          rotate_left
          · simp only [Act.put, List.setIfInBounds_toArray, List.set_cons_zero, List.set_cons_succ, i64_w, i32_w]
            rfl
          refine pure_ (i := 11) (N := some 40) (v := ?_) (a' := ?_) #[true, true, true, true, true, true, true, true, true, true, true, true, false, false, false, false, false, false, false, false, false, false, false, false, false, false] rfl rfl (by kernel_rfl) (fun _ _ _ h => h) (Or.inl ⟨by rfl, ?_⟩) ?_ ?_
          rotate_left
          · intro w'
            go_simp
            with_reducible rfl
          rotate_left
          · simp only [Act.put, List.setIfInBounds_toArray, List.set_cons_zero, List.set_cons_succ, i64_w, i32_w]
            rfl
          refine pure_ (i := 12) (N := some 41) (v := ?_) (a' := ?_) #[true, true, true, true, true, true, true, true, true, true, true, true, true, false, false, false, false, false, false, false, false, false, false, false, false, false] rfl rfl (by kernel_rfl) (fun _ _ _ h => h) (Or.inl ⟨by rfl, ?_⟩) ?_ ?_
          rotate_left
          · intro w'
            go_simp
            with_reducible rfl
          rotate_left
          · simp only [Act.put, List.setIfInBounds_toArray, List.set_cons_zero, List.set_cons_succ, i64_w, i32_w]
            rfl
          refine take_ (i := 13) (N := some 42) (v := ?_) (a' := ?_) #[true, true, true, true, true, true, true, true, true, true, true, true, true, true, false, false, false, false, false, false, false, false, false, false, false, false] rfl rfl (by kernel_rfl) (fun _ _ _ h => h) (Or.inl ⟨by rfl, ?_⟩) hHeld ?_ ?_
          rotate_left
          · rintro w' ⟨s1, s5, s7, s8, s9⟩
            go_simp
            with_reducible rfl
          rotate_left
          · simp only [Act.put, List.setIfInBounds_toArray, List.set_cons_zero, List.set_cons_succ, i64_w, i32_w]
            rfl
          refine pure_ (i := 16) (N := some 45) (v := ?_) (a' := ?_) #[true, true, true, true, true, true, true, true, true, true, true, true, true, true, false, false, true, false, false, false, false, false, false, false, false, false] rfl rfl (by kernel_rfl) (fun _ _ _ h => h) (Or.inl ⟨by rfl, ?_⟩) ?_ ?_
          rotate_left
          · intro w'
            go_simp
            with_reducible rfl
          rotate_left
          · simp only [Act.put, List.setIfInBounds_toArray, List.set_cons_zero, List.set_cons_succ, i64_w, i32_w]
            rfl
          refine one_ (i := 14) (N := some 43) #[true, true, true, true, true, true, true, true, true, true, true, true, true, true, true, false, true, false, false, false, false, false, false, false, false, false] rfl rfl (by kernel_rfl) (by decide) (fun K hK => ?_)
          refine goes_ Tryd.func25 (by kernel_rfl) rfl #[.int .i64 o.x, .int .i64 258] (by rfl) rfl rfl (by (try simp only [List.map_toArray, List.map_cons, List.map_nil]); first | done | rfl) ?_
          with_reducible refine (hp _).mono ?_
          rintro e w' ⟨rfl, hw⟩
          obtain rfl := hw.symm
          clear hw
          refine ⟨_, rfl, ?_⟩
          refine hK.out _ _ hHeld (fun hHeld => ?_)
          clear hK K
          refine norm_ (a' := ?_) ?_ ?_
          rotate_left
          · simp only [Act.put, List.setIfInBounds_toArray, List.set_cons_zero, List.set_cons_succ, i64_w, i32_w]
            rfl
          refine pure_ (i := 15) (N := some 44) (v := ?_) (a' := ?_) #[true, true, true, true, true, true, true, true, true, true, true, true, true, true, true, true, true, false, false, false, false, false, false, false, false, false] rfl rfl (by kernel_rfl) (fun _ _ _ h => h) (Or.inl ⟨by rfl, ?_⟩) ?_ ?_
          rotate_left
          · intro w'
            go_simp
            with_reducible rfl
          rotate_left
          · simp only [Act.put, List.setIfInBounds_toArray, List.set_cons_zero, List.set_cons_succ, i64_w, i32_w]
            rfl
          refine last_ (i := 17) (N := none) #[true, true, true, true, true, true, true, true, true, true, true, true, true, true, true, true, true, true, false, false, false, false, false, false, false, false] rfl rfl (by kernel_rfl) (by decide) (fun K hK => ?_)
          refine skip_ (w1 := ?_) (by rfl) rfl ?_ ?_
          rotate_left
          · go_simp
            rfl
          refine hK.out _ _ ?_
          clear hK K
          refine pure_ (i := 18) (N := some 46) (v := ?_) (a' := ?_) #[true, true, true, true, true, true, true, true, true, true, true, true, true, true, true, true, true, true, true, false, false, false, false, false, false, false] rfl rfl (by kernel_rfl) (fun _ _ _ h => h) (Or.inl ⟨by rfl, ?_⟩) ?_ ?_
          rotate_left
          · intro w'
            go_simp
            with_reducible rfl
          rotate_left
          · simp only [Act.put, List.setIfInBounds_toArray, List.set_cons_zero, List.set_cons_succ, i64_w, i32_w]
            rfl
          refine last_ (i := 19) (N := none) #[true, true, true, true, true, true, true, true, true, true, true, true, true, true, true, true, true, true, true, true, false, false, false, false, false, false] rfl rfl (by kernel_rfl) (by decide) (fun K hK => ?_)
          refine skip_ (w1 := ?_) (by rfl) rfl ?_ ?_
          rotate_left
          · go_simp
            rfl
          refine hK.out _ _ ?_
          clear hK K
          refine pure_ (i := 20) (N := some 47) (v := ?_) (a' := ?_) #[true, true, true, true, true, true, true, true, true, true, true, true, true, true, true, true, true, true, true, true, true, false, false, false, false, false] rfl rfl (by kernel_rfl) (fun _ _ _ h => h) (Or.inl ⟨by rfl, ?_⟩) ?_ ?_
          rotate_left
          · intro w'
            go_simp
            with_reducible rfl
          rotate_left
          · simp only [Act.put, List.setIfInBounds_toArray, List.set_cons_zero, List.set_cons_succ, i64_w, i32_w]
            rfl
          refine last_ (i := 21) (N := none) #[true, true, true, true, true, true, true, true, true, true, true, true, true, true, true, true, true, true, true, true, true, true, false, false, false, false] rfl rfl (by kernel_rfl) (by decide) (fun K hK => ?_)
          refine skip_ (w1 := ?_) (by rfl) rfl ?_ ?_
          rotate_left
          · go_simp
            rfl
          refine hK.out _ _ ?_
          clear hK K
          refine pure_ (i := 22) (N := some 48) (v := ?_) (a' := ?_) #[true, true, true, true, true, true, true, true, true, true, true, true, true, true, true, true, true, true, true, true, true, true, true, false, false, false] rfl rfl (by kernel_rfl) (fun _ _ _ h => h) (Or.inl ⟨by rfl, ?_⟩) ?_ ?_
          rotate_left
          · intro w'
            go_simp
            with_reducible rfl
          rotate_left
          · simp only [Act.put, List.setIfInBounds_toArray, List.set_cons_zero, List.set_cons_succ, i64_w, i32_w]
            rfl
          refine last_ (i := 23) (N := none) #[true, true, true, true, true, true, true, true, true, true, true, true, true, true, true, true, true, true, true, true, true, true, true, true, false, false] rfl rfl (by kernel_rfl) (by decide) (fun K hK => ?_)
          refine skip_ (w1 := ?_) (by rfl) rfl ?_ ?_
          rotate_left
          · go_simp
            rfl
          refine hK.out _ _ ?_
          clear hK K
          refine pure_ (i := 24) (N := some 49) (v := ?_) (a' := ?_) #[true, true, true, true, true, true, true, true, true, true, true, true, true, true, true, true, true, true, true, true, true, true, true, true, true, false] rfl rfl (by kernel_rfl) (fun _ _ _ h => h) (Or.inl ⟨by rfl, ?_⟩) ?_ ?_
          rotate_left
          · intro w'
            go_simp
            with_reducible rfl
          rotate_left
          · simp only [Act.put, List.setIfInBounds_toArray, List.set_cons_zero, List.set_cons_succ, i64_w, i32_w]
            rfl
          refine last_ (i := 25) (N := none) #[true, true, true, true, true, true, true, true, true, true, true, true, true, true, true, true, true, true, true, true, true, true, true, true, true, true] rfl rfl (by kernel_rfl) (by decide) (fun K hK => ?_)
          refine skip_ (w1 := ?_) (by rfl) rfl ?_ ?_
          rotate_left
          · go_simp
            rfl
          refine hK.out _ _ ?_
          clear hK K
          refine done_ (by kernel_rfl) ?_
          go_wp2_with fail
          go_meet
          case rel =>
            have ew : wrap64 (x258 - 1) = pickI o.x 258 - 1 := by rw [Hx.out]; exact dw64 _ (by omega) (by omega)
            rw [ew]
            exact ⟨set_heap (set_heap (set_heap (set_heap (set_heap hz4 1 _) 5 _) 7 _) 8 _) 9 _, (Below.heap_setCell _ ⟨w.heap.size, 9, none⟩ _ _ (by simp)).trans ((Below.heap_setCell _ ⟨w.heap.size, 8, none⟩ _ _ (by simp)).trans ((Below.heap_setCell _ ⟨w.heap.size, 7, none⟩ _ _ (by simp)).trans ((Below.heap_setCell _ ⟨w.heap.size, 5, none⟩ _ _ (by simp)).trans ((Below.heap_setCell _ ⟨w.heap.size, 1, none⟩ _ _ (by simp)).trans hy4)))),
              Kd.R_drew (R_up (R_up (R_up (R_up (R_up hk4 (set_grown _ _ 1 _)) (set_grown _ _ 5 _)) (set_grown _ _ 7 _)) (set_grown _ _ 8 _)) (set_grown _ _ 9 _)), Kd.R_drew (R_up (R_up (R_up (R_up (R_up hm4 (set_grown _ _ 1 _)) (set_grown _ _ 5 _)) (set_grown _ _ 7 _)) (set_grown _ _ 8 _)) (set_grown _ _ 9 _)),
              below_drew (((((hb4.setCell (p := ⟨w.heap.size, 1, none⟩) (Nat.le_refl _) _).setCell (p := ⟨w.heap.size, 5, none⟩) (Nat.le_refl _) _).setCell (p := ⟨w.heap.size, 7, none⟩) (Nat.le_refl _) _).setCell (p := ⟨w.heap.size, 8, none⟩) (Nat.le_refl _) _).setCell (p := ⟨w.heap.size, 9, none⟩) (Nat.le_refl _) _)⟩
        case rest =>
          obtain ⟨hz5, hy5, hk5, hm5, hb5⟩ := hcut
          have hmn6 : mn ≤ 6 := by rw [← Hmn.out, ← Hml.out, List.length_take]; omega
          clear hz4 hy4 hk4 hm4 hb4
          go_wp2_with fail
          go_loopw [5] (fun i wr => ∃ q : Nat, q ≤ mn ∧ i = .int .i64 q ∧ wr.heap[w.heap.size]? = some (.cells #[.int .i64 (pickI o.kind 16), .int .i64 (Int.tmod o.s 1000003), .string (Wd.cut o.key 40), .string (Wd.cut o.val 60), .slice A tn c, .int .i64 (Int.tmod o.n 1000003), .slice Bm mn d, .int .i64 (Int.tmod o.page 1000003), .int .i64 (Int.tmod o.at_ 2000), .int .i64 (pickI o.x 258 - 1)] 61) ∧ wr.heap[w.heap.size + 1]? = some (.cells #[.int .i64 0, .int .i64 0, .string ⟨#[]⟩, .string ⟨#[]⟩, .slice none 0 0, .int .i64 0, .slice none 0 0, .int .i64 0, .int .i64 0, .int .i64 0] 61) ∧ Kd.R Kd.string 9 wr (w.heap.size + 2) (fun _ => True) (.slice A tn c) tl ∧ Kd.R (Kd.int .i64) 3 wr (w.heap.size + 2) (fun _ => True) (.slice Bm mn d) ((ml.take q).map (fun v => Int.tmod v 1000002) ++ ml.drop q) ∧ Below w.heap.size w wr) (fun i _ => mn - (intOf i).toNat)
          case atStart => exact ⟨0, Nat.zero_le _, rfl, hz5, hy5, hk5, hm5, hb5⟩
          case round =>
            clear hz5 hy5 hk5 hm5 hb5
            obtain ⟨q, hqm, rfl, hzr, hyr, hkr, hmr, hbr⟩ := hrel
            have hlen : ((ml.take q).map (fun v => Int.tmod v 1000002) ++ ml.drop q).length = mn := by simp [Hmn.out]; omega
            by_cases hlq : q < mn
            · obtain ⟨bb, cap, eb, hbb, hbl, cells, hcells⟩ := Kd.R_form hmr (by omega)
              rw [hlen] at eb
              simp only [Value.slice.injEq] at eb
              obtain ⟨e1, _, e3⟩ := eb
              subst e1 e3
              have hlq2 : q < ml.length := by rw [Hmn.out]; exact hlq
              obtain ⟨c0, f0⟩ := Kd.R_celln 0 hmr (q : Int) (by omega) (by omega)
              have hrd : rdOf 0 ((ml.take q).map (fun v => Int.tmod v 1000002) ++ ml.drop q) (q : Int) = ml[q] := by simp [rdOf, List.getD_eq_getElem?_getD, List.getElem?_append, Nat.min_eq_left (Nat.le_of_lt hlq2), hlq2]
              rw [hrd] at c0
              simp only [Int.toNat_natCast] at c0 f0
              obtain ⟨v, hv⟩ : ∃ v, ml[q] = v := ⟨_, rfl⟩
              rw [hv] at c0
              have hput := Kd.R_putn hmr (q : Int) (Int.tmod v 1000002)
              rw [show ((ml.take q).map (fun v => Int.tmod v 1000002) ++ ml.drop q).set (q : Int).toNat (Int.tmod v 1000002) = (ml.take (q + 1)).map (fun v => Int.tmod v 1000002) ++ ml.drop (q + 1) by rw [← hv]; exact set_step ml q hlq2] at hput
              simp only [Int.toNat_natCast] at hput
              have hk6 := Kd.R_set hkr hcells (by decide) q (.int .i64 (Int.tmod v 1000002))
              have hz6 := (Below.heap_setCell wr ⟨bb, q, none⟩ (.int .i64 (Int.tmod v 1000002)) w.heap.size (by show w.heap.size ≠ bb; omega)).trans hzr
              have hy6 := (Below.heap_setCell wr ⟨bb, q, none⟩ (.int .i64 (Int.tmod v 1000002)) (w.heap.size + 1) (by show w.heap.size + 1 ≠ bb; omega)).trans hyr
              have hb6 := hbr.setCell (p := ⟨bb, q, none⟩) (by show w.heap.size ≤ bb; omega) (.int .i64 (Int.tmod v 1000002))
              have r6 : wr.cell? ⟨w.heap.size, 6, none⟩ = some (.slice (some ⟨bb, 0, none⟩) mn d) := Lib.cell_of_heap hzr 6
              have HP := Lib.hid hput
              have HZ := Lib.hid hz6
              have HY := Lib.hid hy6
              have HK := Lib.hid hk6
              have HBB := Lib.hid hb6
              clear hput hz6 hy6 hk6 hb6 hzr hyr hkr hmr hbr hcells hv hrd hlen
              go_wp2
              go_roundw
              case rel => exact ⟨q + 1, hlq, by simp, HZ.out, HY.out, HK.out, HP.out, HBB.out⟩
              case measure => simp [intOf]; omega
            · have hqe : q = mn := by omega
              subst hqe
              have hall : (ml.take q).map (fun v => Int.tmod v 1000002) ++ ml.drop q = ml.map (fun v => Int.tmod v 1000002) := by rw [List.take_of_length_le (by rw [Hmn.out]; exact Nat.le_refl _), List.drop_eq_nil_of_le (by rw [Hmn.out]; exact Nat.le_refl _), List.append_nil]
              rw [hall] at hmr
              clear hall hlen
              obtain ⟨r0, r1, r2, r3, r4, r5, r6, r7, r8, r9⟩ := cells10 hzr
              obtain ⟨s0, s1, s2, s3, s4, s5, s6, s7, s8, s9⟩ := cells10 hyr
              obtain ⟨sf0, sf1, sf2, sf3, sf4, sf5, sf6, sf7, sf8, sf9⟩ := frozen10 hyr
              go_wp2
              clear r0 r1 r2 r3 r4 r5 r6 r7 r8 r9 s0 s1 s2 s3 s4 s5 s6 s7 s8 s9 sf0 sf1 sf2 sf3 sf4 sf5 sf6 sf7 sf8 sf9
              have hz9 := put10 hyr (.int .i64 (pickI o.kind 16)) (.int .i64 (Int.tmod o.s 1000003)) (.string (Wd.cut o.key 40)) (.string (Wd.cut o.val 60)) (.slice A tn c) (.int .i64 (Int.tmod o.n 1000003)) (.slice Bm q d) (.int .i64 (Int.tmod o.page 1000003)) (.int .i64 (Int.tmod o.at_ 2000)) (.int .i64 (pickI o.x 258 - 1))
              have hg9 := grown10 wr (w.heap.size + 1) (.int .i64 (pickI o.kind 16)) (.int .i64 (Int.tmod o.s 1000003)) (.string (Wd.cut o.key 40)) (.string (Wd.cut o.val 60)) (.slice A tn c) (.int .i64 (Int.tmod o.n 1000003)) (.slice Bm q d) (.int .i64 (Int.tmod o.page 1000003)) (.int .i64 (Int.tmod o.at_ 2000)) (.int .i64 (pickI o.x 258 - 1))
              have hk9 := Kd.R_grown (Kd.R_mono (ok' := fun k => w.heap.size + 2 ≤ k) (Kd.R_bound hkr) (fun k hk => hk.2.1)) hg9 (fun k hk e => by have := Option.some.inj e; omega)
              have hm9 := Kd.R_grown (Kd.R_mono (ok' := fun k => w.heap.size + 2 ≤ k) (Kd.R_bound hmr) (fun k hk => hk.2.1)) hg9 (fun k hk e => by have := Option.some.inj e; omega)
              have hb9 := pw_below_grown hbr _ hbr.size hg9 (fun k e => by cases e; omega)
              generalize ((((((((((wr.setCell ⟨w.heap.size + 1, 0, none⟩ (.int .i64 (pickI o.kind 16))).setCell ⟨w.heap.size + 1, 1, none⟩ (.int .i64 (Int.tmod o.s 1000003))).setCell ⟨w.heap.size + 1, 2, none⟩ (.string (Wd.cut o.key 40))).setCell ⟨w.heap.size + 1, 3, none⟩ (.string (Wd.cut o.val 60))).setCell ⟨w.heap.size + 1, 4, none⟩ (.slice A tn c)).setCell ⟨w.heap.size + 1, 5, none⟩ (.int .i64 (Int.tmod o.n 1000003))).setCell ⟨w.heap.size + 1, 6, none⟩ (.slice Bm q d)).setCell ⟨w.heap.size + 1, 7, none⟩ (.int .i64 (Int.tmod o.page 1000003))).setCell ⟨w.heap.size + 1, 8, none⟩ (.int .i64 (Int.tmod o.at_ 2000))).setCell ⟨w.heap.size + 1, 9, none⟩ (.int .i64 (pickI o.x 258 - 1))) = w9 at hz9 hg9 hk9 hm9 hb9 ⊢
              obtain ⟨t0, t1, t2, t3, t4, t5, t6, t7, t8, t9⟩ := cells10 hz9
              refine bodyPost_ret (v := .agg #[.int .i64 (pickI o.kind 16), .int .i64 (Int.tmod o.s 1000003), .string (Wd.cut o.key 40), .string (Wd.cut o.val 60), .slice A tn c, .int .i64 (Int.tmod o.n 1000003), .slice Bm q d, .int .i64 (Int.tmod o.page 1000003), .int .i64 (Int.tmod o.at_ 2000), .int .i64 (pickI o.x 258 - 1)]) (by simp [results, Tryd.results46, go_sem, t0, t1, t2, t3, t4, t5, t6, t7, t8, t9]) rfl ?_
              exact shorted_mk (o' := shortT o true) Htl.out (by rw [← Htn.out, ← Htl.out]; rfl) (by rw [← Hml.out]; rfl) (by rw [← Hmn.out, ← Hml.out]; simp [shortT]) (Kd.R_lower (Kd.R_mono hk9 (fun _ _ => trivial)) (by omega)) (Kd.R_lower (Kd.R_mono hm9 (fun _ _ => trivial)) (by omega)) hb9
end Go.Proofs.YtfaelejeihmgcaaDoor.Stp
end

section
namespace Go.Proofs.YtfaelejeihmgcaaDoor.Stp
open Go.RowKit Go.Proofs.YtfaelejeihmgcaaDoorW.PrintWords
theorem printW_at (o : OpV) (k : Int) (w f : ByteArray) (hk : o.kind = k) (hn : nameT k = (w, f)) (hw : ¬ w.toList = []) : printW o = printF f.data.toList o [w] := by
  unfold printW
  rw [hk, hn]
  exact if_neg hw
theorem refW_at (o : OpV) (k : Nat) (hk : o.kind = k) (h1 : 1 ≤ k) (h2 : k ≤ 14) (h3 : k ≠ 13) : refW o = (maskW (numsOf o) [wordAt k]).map (· ++ restOf o) := by
  unfold refW
  rw [if_neg (by omega), if_neg (by omega), show o.kind.toNat = k by omega]
theorem fits_120 (v : Int) : fitsB 120 v = true ↔ 0 ≤ v ∧ v ≤ 255 := by
  unfold fitsB
  rw [if_pos rfl, Bool.and_eq_true, decide_eq_true_eq, decide_eq_true_eq]
theorem fits_77t (v : Int) : fitsB 77 v = true ↔ -1000000 ≤ v ∧ v ≤ 1000000 := by
  unfold fitsB
  rw [if_neg (by decide), Bool.and_eq_true, decide_eq_true_eq, decide_eq_true_eq]
theorem printF_s (fs : List UInt8) (o : OpV) (acc : List ByteArray) : printF (115 :: fs) o acc = if fitsB 77 o.s = true then printF fs o (acc ++ [itoaB o.s]) else none := by
  rw [printF, if_neg (by decide), if_neg (by decide), if_neg (by decide), if_neg (by decide)]
  rfl
theorem printF_n (fs : List UInt8) (o : OpV) (acc : List ByteArray) : printF (110 :: fs) o acc = if fitsB 77 o.n = true then printF fs o (acc ++ [itoaB o.n]) else none := by
  rw [printF, if_neg (by decide), if_neg (by decide), if_neg (by decide), if_neg (by decide)]
  rfl
theorem printF_p (fs : List UInt8) (o : OpV) (acc : List ByteArray) : printF (112 :: fs) o acc = if fitsB 77 o.page = true then printF fs o (acc ++ [itoaB o.page]) else none := by
  rw [printF, if_neg (by decide), if_neg (by decide), if_neg (by decide), if_neg (by decide)]
  rfl
theorem printF_a (fs : List UInt8) (o : OpV) (acc : List ByteArray) : printF (97 :: fs) o acc = if fitsB 77 o.at_ = true then printF fs o (acc ++ [itoaB o.at_]) else none := by
  rw [printF, if_neg (by decide), if_neg (by decide), if_neg (by decide), if_neg (by decide)]
  rfl
theorem printF_x (fs : List UInt8) (o : OpV) (acc : List ByteArray) : printF (120 :: fs) o acc = if fitsB 120 o.x = true then printF fs o (acc ++ [itoaB o.x]) else none := by
  rw [printF, if_neg (by decide), if_neg (by decide), if_neg (by decide), if_neg (by decide)]
  rfl
theorem printF_k (fs : List UInt8) (o : OpV) (acc : List ByteArray) : printF (107 :: fs) o acc = printF fs o (acc ++ [o.key]) := by
  rw [printF, if_pos (by decide)]
theorem printF_v (fs : List UInt8) (o : OpV) (acc : List ByteArray) : printF (118 :: fs) o acc = printF fs o (acc ++ [o.val]) := by
  rw [printF, if_neg (by decide), if_pos (by decide)]
theorem printF_K (fs : List UInt8) (o : OpV) (acc : List ByteArray) : printF (75 :: fs) o acc = printF fs o (acc ++ o.keys) := by
  rw [printF, if_neg (by decide), if_neg (by decide), if_pos (by decide)]
theorem printF_M (fs : List UInt8) (o : OpV) (acc : List ByteArray) : printF (77 :: fs) o acc = (maskW o.mask acc).bind (printF fs o) := by
  rw [printF, if_neg (by decide), if_neg (by decide), if_neg (by decide), if_pos (by decide)]
theorem printF_0 (o : OpV) (acc : List ByteArray) : printF [] o acc = some acc := by rw [printF]
theorem word_k : ∀ i : Fin 15, 1 ≤ i.val → (nameT (i.val : Int)).1 = wordAt i.val := by decide +kernel
theorem nums_of {o : OpV} {k : Nat} (hk : o.kind = k) : numsOf o = if k = 2 ∨ k = 3 ∨ k = 4 ∨ k = 5 ∨ k = 6 then [o.s] else if k = 11 then [o.n] else if k = 12 then o.mask else if k = 13 then [o.page, o.at_, o.x] else [] := by
  unfold numsOf
  rw [hk]
  repeat' split
  all_goals first | rfl | omega
theorem rest_of {o : OpV} {k : Nat} (hk : o.kind = k) : restOf o = if k = 2 then [o.key, o.val] else if k = 3 then [o.key] else if k = 4 then o.keys else if k = 8 ∨ k = 9 then [o.key] else [] := by
  unfold restOf
  rw [hk]
  repeat' split
  all_goals first | rfl | omega
theorem maskW_one (v : Int) (acc : List ByteArray) : maskW [v] acc = if fitsB 77 v = true then some (acc ++ [itoaB v]) else none := by rw [maskW, maskW]
theorem map_ite {c : Prop} [Decidable c] (a : Option (List ByteArray)) (f : List ByteArray → List ByteArray) : Option.map f (if c then a else none) = if c then Option.map f a else none := by split <;> rfl
set_option maxRecDepth 100000 in
theorem print_same (o : OpV) : printW o = refW o := by
  by_cases hr : 1 ≤ o.kind ∧ o.kind ≤ 14
  · obtain ⟨k, hk⟩ : ∃ k : Nat, o.kind = k := ⟨o.kind.toNat, by omega⟩
    have kc : k = 1 ∨ k = 2 ∨ k = 3 ∨ k = 4 ∨ k = 5 ∨ k = 6 ∨ k = 7 ∨ k = 8 ∨ k = 9 ∨ k = 10 ∨ k = 11 ∨ k = 12 ∨ k = 13 ∨ k = 14 := by omega
    have hN := nums_of hk
    have hR := rest_of hk
    have hw := word_k ⟨k, by omega⟩ (by show 1 ≤ k; omega)
    have hp : printW o = printF (nameT (k : Int)).2.data.toList o [wordAt k] := by
      rw [← show (nameT (k : Int)).1 = wordAt k from hw]
      refine printW_at o k _ _ hk rfl ?_
      rw [show (nameT (k : Int)).1 = wordAt k from hw]
      have : ∀ i : Fin 15, 1 ≤ i.val → ¬ (wordAt i.val).toList = [] := by decide +kernel
      exact this ⟨k, by omega⟩ (by show 1 ≤ k; omega)
    rcases kc with rfl | rfl | rfl | rfl | rfl | rfl | rfl | rfl | rfl | rfl | rfl | rfl | rfl | rfl
    · rw [hp, refW_at o _ hk (by decide) (by decide) (by decide), hN, hR]
      rfl
    · rw [hp, refW_at o _ hk (by decide) (by decide) (by decide), hN, hR]
      show printF [115, 107, 118] o _ = Option.map (· ++ [o.key, o.val]) (maskW [o.s] _)
      rw [printF_s, maskW_one, map_ite, printF_k, printF_v, printF_0]
      simp
    · rw [hp, refW_at o _ hk (by decide) (by decide) (by decide), hN, hR]
      show printF [115, 107] o _ = Option.map (· ++ [o.key]) (maskW [o.s] _)
      rw [printF_s, maskW_one, map_ite, printF_k, printF_0]
      simp
    · rw [hp, refW_at o _ hk (by decide) (by decide) (by decide), hN, hR]
      show printF [115, 75] o _ = Option.map (· ++ o.keys) (maskW [o.s] _)
      rw [printF_s, maskW_one, map_ite, printF_K, printF_0]
      simp
    · rw [hp, refW_at o _ hk (by decide) (by decide) (by decide), hN, hR]
      show printF [115] o _ = Option.map (· ++ []) (maskW [o.s] _)
      rw [printF_s, maskW_one, map_ite, printF_0]
      simp
    · rw [hp, refW_at o _ hk (by decide) (by decide) (by decide), hN, hR]
      show printF [115] o _ = Option.map (· ++ []) (maskW [o.s] _)
      rw [printF_s, maskW_one, map_ite, printF_0]
      simp
    · rw [hp, refW_at o _ hk (by decide) (by decide) (by decide), hN, hR]
      rfl
    · rw [hp, refW_at o _ hk (by decide) (by decide) (by decide), hN, hR]
      show printF [107] o _ = Option.map (· ++ [o.key]) (maskW [] _)
      rw [printF_k, printF_0]
      rfl
    · rw [hp, refW_at o _ hk (by decide) (by decide) (by decide), hN, hR]
      show printF [107] o _ = Option.map (· ++ [o.key]) (maskW [] _)
      rw [printF_k, printF_0]
      rfl
    · rw [hp, refW_at o _ hk (by decide) (by decide) (by decide), hN, hR]
      rfl
    · rw [hp, refW_at o _ hk (by decide) (by decide) (by decide), hN, hR]
      show printF [110] o _ = Option.map (· ++ []) (maskW [o.n] _)
      rw [printF_n, maskW_one, map_ite, printF_0]
      simp
    · rw [hp, refW_at o _ hk (by decide) (by decide) (by decide), hN, hR]
      show printF [77] o _ = Option.map (· ++ []) (maskW o.mask _)
      rw [printF_M]
      cases maskW o.mask [wordAt 12] with
      | none => rfl
      | some l => show printF [] o l = some (l ++ []); rw [printF_0, List.append_nil]
    · rw [hp]
      show printF [112, 97, 120] o _ = _
      rw [printF_p, printF_a, printF_x, printF_0]
      unfold refW
      rw [if_neg (show ¬ (o.kind < 1 ∨ 14 < o.kind) by omega), show o.kind.toNat = 13 by omega, hN, hR]
      by_cases hx : fitsB 120 o.x = true
      · have hx2 := (fits_120 _).1 hx
        have hx3 : fitsB 77 o.x = true := (fits_77t _).2 (by omega)
        rw [if_pos hx, if_neg (show ¬ (o.kind = 13 ∧ (o.x < 0 ∨ 255 < o.x)) by omega)]
        show _ = Option.map (· ++ []) (maskW [o.page, o.at_, o.x] _)
        rw [maskW, maskW, maskW, maskW, if_pos hx3, map_ite, map_ite]
        simp
      · have hx2 : ¬ (0 ≤ o.x ∧ o.x ≤ 255) := fun h => hx ((fits_120 _).2 h)
        rw [if_neg hx, if_pos (show o.kind = 13 ∧ (o.x < 0 ∨ 255 < o.x) by omega)]
        split
        · split <;> rfl
        · rfl
    · rw [hp, refW_at o _ hk (by decide) (by decide) (by decide), hN, hR]
      rfl
  · unfold printW refW
    have hn : (nameT o.kind).1.toList = [] := by
      by_cases h0 : o.kind = 0
      · rw [h0]; decide +kernel
      · by_cases h15 : o.kind = 15
        · rw [h15]; decide +kernel
        · unfold nameT
          rw [name_out o.kind (by omega)]
          decide +kernel
    rw [if_pos hn, if_pos (by omega)]
/-- a step of short things -/
structure Small (o : OpV) : Prop where
  key : o.key.size ≤ 1000
  val : o.val.size ≤ 1000
  kn : o.keys.length ≤ 1000
  ks : ∀ x ∈ o.keys, x.size ≤ 1000
  mn : o.mask.length ≤ 1000
theorem maskW_eq : ∀ (N : List Int) (acc : List ByteArray), maskW N acc = if N.all (fun v => fitsB 77 v) = true then some (acc ++ N.map itoaB) else none
  | [], acc => by rw [maskW]; simp
  | v :: N, acc => by
    rw [maskW]
    by_cases h : fitsB 77 v = true
    · rw [if_pos h, maskW_eq N (acc ++ [itoaB v])]
      simp [h]
    · rw [if_neg h]
      simp [h]
theorem refW_eq (o : OpV) (l : List ByteArray) (h : refW o = some l) : 1 ≤ o.kind ∧ o.kind ≤ 14 ∧ (numsOf o).all (fun v => fitsB 77 v) = true ∧ l = wordAt o.kind.toNat :: ((numsOf o).map itoaB ++ restOf o) ∧ ¬ (o.kind = 13 ∧ (o.x < 0 ∨ 255 < o.x)) := by
  unfold refW at h
  by_cases h1 : o.kind < 1 ∨ 14 < o.kind
  · rw [if_pos h1] at h; cases h
  · rw [if_neg h1] at h
    by_cases h2 : o.kind = 13 ∧ (o.x < 0 ∨ 255 < o.x)
    · rw [if_pos h2] at h; cases h
    · rw [if_neg h2, maskW_eq] at h
      by_cases h3 : (numsOf o).all (fun v => fitsB 77 v) = true
      · rw [if_pos h3] at h
        refine ⟨by omega, by omega, h3, ?_, h2⟩
        have := Option.some.inj h
        rw [← this]
        simp
      · rw [if_neg h3] at h; cases h
theorem word_small (k : Nat) (h : k < 15) : (wordAt k).size ≤ 10 := by
  have : ∀ i : Fin 15, (wordAt i.val).size ≤ 10 := by decide +kernel
  exact this ⟨k, h⟩
theorem rest_small (o : OpV) (h : Small o) : ∀ x ∈ restOf o, x.size ≤ 1000 := by
  unfold restOf
  have h1 := h.key
  have h2 := h.val
  have h3 := h.ks
  repeat' split
  all_goals intro x hx
  all_goals try simp only [List.mem_cons, List.not_mem_nil, or_false] at hx
  all_goals first | exact h3 x hx | (rcases hx with rfl | rfl <;> assumption) | (subst hx; assumption) | cases hx
theorem refW_joins (o : OpV) (h : Small o) (l : List ByteArray) (hl : refW o = some l) : Joins l ∧ l.length ≤ 2001 ∧ ∀ x ∈ l, x.size ≤ 1000 := by
  obtain ⟨h1, h2, h3, rfl, _⟩ := refW_eq o l hl
  have hn := nums2_len o h.mn
  have hr := rest2_len o h.kn
  have hs : ∀ x ∈ wordAt o.kind.toNat :: ((numsOf o).map itoaB ++ restOf o), x.size ≤ 1000 := by
    intro x hx
    rcases List.mem_cons.1 hx with rfl | hx
    · have := word_small o.kind.toNat (by omega); omega
    · rcases List.mem_append.1 hx with hx | hx
      · obtain ⟨v, hv, rfl⟩ := List.mem_map.1 hx
        have := (fits_77t v).1 (List.all_eq_true.1 h3 v hv)
        have := itoa_size v this.1 this.2
        omega
      · exact rest_small o h x hx
  have hlen : (wordAt o.kind.toNat :: ((numsOf o).map itoaB ++ restOf o)).length ≤ 2001 := by
    rw [List.length_cons, List.length_append, List.length_map]; omega
  have hj := Wd.joinL_len 1000 _ hs
  have hj2 := Nat.le_trans hj (Nat.mul_le_mul_left _ hlen)
  exact ⟨⟨by omega, fun x hx => by have := hs x hx; omega, by omega⟩, hlen, hs⟩
theorem cut_small (s : ByteArray) (n : Nat) : (Wd.cut s n).size ≤ n := by rw [Wd.cut_size]; omega
end Go.Proofs.YtfaelejeihmgcaaDoor.Stp
end

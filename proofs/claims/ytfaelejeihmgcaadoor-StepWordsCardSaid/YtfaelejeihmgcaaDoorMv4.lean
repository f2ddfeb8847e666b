/-
  Texts of mine, and texts that print.sh and pp.py wrote, merged and cut to what is used: HandF, HandI, Wd7, HandE, Wd9, PureD, PureE, PureF, PurePr, HandPa, HandPb, HandPc, PurePs, St4, PureBk, PureWo, PureBd, HandWo
-/
import Derived.Test.YtfaelejeihmgcaaDoorProg
import Derived.Below
import Derived.Shelf.Unicode.DecodeSlow
import Derived.Lib.ItoaMem
import Derived.Lib.LaidTab
import Derived.Test.YtfaelejeihmgcaaDoorCards
import Derived.Test.YtfaelejeihmgcaaDoorTie
import Derived.Lib.LaidU8T
import Derived.PinnedBridge
import Derived.LaidMore
import Derived.Lay
import Derived.ProofKit
import Derived.OpenShut
import Derived.SevenTiedAt
import Derived.Stop.Joined
import Derived.Deep.DeepHandedRow
import Derived.Deep.Draws
import Derived.Deep.AppendLies
import Derived.Maps.AppendAt
import Derived.OwnWalk
import Derived.Laws.BytesArg
import Derived.Laws.MakeOwn
import Derived.Laws.OwnMore
import Derived.Deep.OwnRows
import Derived.Tactics
import Derived.Lib.ConvBytes
import Derived.Laws.Slices
import Derived.WalkKit
import Derived.KernelRfl
import Derived.RowKit3
import Derived.Deep.LoopGhost
import Derived.Deep.QuietTactic
import Derived.BigQuiet
import Derived.WideLaws
import Derived.Deep.DeepCutAuto
import Derived.Deep.CutBlock
import Derived.Deep.RegionHeld3
import Derived.Laws.Rows
import Derived.Lib.AppendStr
import Derived.ArgAppend
import Derived.Laws.IdiomCopy
import Derived.RowKit
import Derived.Test.YtfaelejeihmgcaaDoorRows
import Derived.ChangeArms
import Derived.DataReads
import Derived.DataElems
import Derived.Shelf.Strings.Builder1
import Derived.Shelf.Strings.Builder2
import Derived.Shelf.Strings.OnBuilder
import Derived.Shelf.Strings.BuilderF
import Derived.Shelf.Strings.BuilderK
import Derived.Shelf.Strings.Builder2Cap
import Derived.Shelf.Strconv.Atoi
import Derived.Shelf.Strconv.Itoa0
import Derived.Shelf.Strconv.Itoa1
import Derived.Shelf.LaysM
import Derived.Shelf.Strconv.Itoa2
import Derived.Shelf.Strconv.Itoa3
import Derived.Shelf.Strconv.AtoiErrFast
import Derived.Shelf.Strconv.ParseIntEmpty
import Derived.Shelf.Strconv.AtoiFail
import Derived.Shelf.Strconv.Clone
import Derived.Shelf.Strconv.SyntaxError
import Derived.Shelf.LaysC
import Derived.Shelf.Strconv.ToError
import Derived.Shelf.Strconv.Lower
import Derived.Shelf.Strconv.ParseUint10
import Derived.Shelf.Strconv.ParseUint10Empty
import Derived.Shelf.Strconv.ParseUint10Any
import Derived.Shelf.Strconv.ParseInt10
import Derived.Shelf.Strconv.AtoiLong
import Derived.Shelf.Strconv.AtoiInnerAll
import Derived.Shelf.Strconv.RangeError
import Derived.Shelf.Strconv.ToErrorRange
import Derived.Shelf.Strconv.AtoiAll
import Derived.Shelf.Strconv.ErrVarAll
import Derived.Shelf.Strconv.ParseUintEmpty
import Derived.Shelf.Strconv.ParseUint10b64
import Derived.Shelf.Strconv.ParseUint10b32
import Derived.Shelf.Strconv.ParseUint10b16
import Derived.Shelf.Strconv.ParseUint10b8
import Derived.Shelf.Strings.Prefix
import Derived.Shelf.Unicode.Decode
import Derived.Shelf.Unicode.DecodeAny
import Derived.Lib.AppendIntMem
import Derived.FnData
import Derived.Outline
import Derived.Tactics2
import Derived.OrdersHeld
import Derived.Laws.BitsLemmas
import Derived.Laws.StructEq
import Derived.Lib.AtoiTie
import Derived.Lib.Strings
import Derived.Lib.Slices
import Derived.Lib.Walk
import Derived.Lib.Builder
import Derived.Lib.UnsafeStr
import Derived.Laws.Externs
import Derived.Lib.DecodeNEq
import Derived.Lib.OthersKept
import Derived.Lib.Hide
import Derived.BigCall
import Derived.StillTailTactics
import Derived.BigRegion
import Derived.RegionTactic
import Derived.IntWalk
import Derived.WalkSpells
import Derived.Laws.Pointers
import Derived.Deep.RegionWith
import Derived.Test.YtfaelejeihmgcaaDoorMv0
import Derived.Test.YtfaelejeihmgcaaDoorMv1
import Derived.Test.YtfaelejeihmgcaaDoorMv2
import Derived.Test.YtfaelejeihmgcaaDoorMv3

section
namespace Go.Proofs.YtfaelejeihmgcaaDoor.Wd
open Go.RowKit Go.Proofs.YtfaelejeihmgcaaDoorW.PrintWords Go.Proofs.YtfaelejeihmgcaaDoorW.PrintLast
def hex1 (c : UInt8) : List UInt8 := [hexD (c.toNat / 16), hexD (c.toNat % 16)]
def hexB (s : ByteArray) : List UInt8 := if s.size = 0 then [45] else s.data.toList.flatMap hex1
def cachepotref3_Hex.f (a0 : ByteArray) : Option ByteArray := if a0.size ≤ 1099511627776 then some ⟨(hexB a0).toArray⟩ else none
theorem ret_strF {a b : ByteArray} (h : a = b) : Ending.returned (.string a) = .returned (.string b) := by rw [h]
abbrev DIGF : ByteArray := ⟨#[48, 49, 50, 51, 52, 53, 54, 55, 56, 57, 97, 98, 99, 100, 101, 102]⟩
theorem digF_at : ∀ h : Fin 16, DIGF[h.val]? = some (hexD h.val) := by decide
theorem index_dig (n : Nat) (hn : n < 16) (x : Int) (hx : x = n) (W : World) : (Instr.index 9 (.string DIGF) (.int .u8 x)).run Tryd.prog W = .ok (.int .u8 ((hexD n).toNat : Int)) W := by
  subst hx
  have h1 : (0 : Int) ≤ (n : Int) ∧ (n : Int) < (DIGF.size : Int) := ⟨by omega, by show (n : Int) < (16 : Nat); omega⟩
  have e := digF_at ⟨n, hn⟩
  have h2 : n < DIGF.size := hn
  rw [getElem?_pos DIGF n h2] at e
  have e3 : DIGF[n] = hexD n := Option.some.inj e
  rw [run_index_string W 9 DIGF .u8 (n : Int) Tryd.underlying9, dif_pos h1]
  have e2 : ((n : Nat) : Int).toNat = n := by omega
  simp only [e2, e3]
set_option maxHeartbeats 4000000 in
set_option maxRecDepth 100000 in
theorem cachepotref3_Hex.calls (a0 : ByteArray) (r : ByteArray) (w : World) (h : cachepotref3_Hex.f a0 = some r) :
    Calls Tryd.prog 61 #[.string a0] w fun e w' => e = .returned (.string r) ∧ Below w.heap.size w w' := by
  have hs : a0.size ≤ 1099511627776 := by
    unfold cachepotref3_Hex.f at h
    split at h
    · assumption
    · cases h
  have hr : Aside0 (⟨(hexB a0).toArray⟩ = r) := ⟨by unfold cachepotref3_Hex.f at h; rw [if_pos hs] at h; exact Option.some.inj h⟩
  clear h
  obtain ⟨i0, hi, hz0, hz1, hz2⟩ := info_parts info5
  by_cases h0 : a0.size = 0
  · have e0 : (a0.toList == ([] : List UInt8)) = true := by
      rw [Lib.toList_data, beq_iff_eq, ← List.length_eq_zero_iff, ← Lib.size_eq]; exact h0
    have e1 : a0.toList.isEmpty = true := by
      rw [Lib.toList_data, List.isEmpty_iff, ← List.length_eq_zero_iff, ← Lib.size_eq]; exact h0
    have H0 := Lib.hid h0
    clear h0
    go_enter Tryd.func61, Tryd.ntmps61
    go_wp2
    go_ret
    exact ⟨ret_strF (by rw [← hr.out, hexB, if_pos H0.out]), Below.refl _ _⟩
  · have e1 : a0.toList.isEmpty = false := by
      rw [Lib.toList_data]
      rw [Lib.size_eq] at h0
      cases hl : a0.data.toList with
      | nil => rw [hl] at h0; simp at h0
      | cons => rfl
    go_enter Tryd.func61, Tryd.ntmps61
    go_wp2
    go_loopw [3, 4] (fun v i wr => ∃ k : Nat, k ≤ a0.size ∧ i = .int .i64 k ∧ wr.ownsRow w.heap.size 5 1 v (2 * k) (Lib.byteCells ((a0.data.toList.take k).flatMap hex1)) ∧ Below w.heap.size w wr) (fun _ i _ => a0.size - (intOf i).toNat)
    case atStart => exact ⟨0, Nat.zero_le _, rfl, ⟨by simp [Lib.byteCells], .inl ⟨rfl, rfl⟩⟩, Below.refl _ _⟩
    case round =>
      obtain ⟨k, hk, rfl, hown, hbw⟩ := hrel
      by_cases hlt : k < a0.size
      · have hc255 := a0[k].toNat_lt
        have ix1 : ∀ W : World, (Instr.index 9 (.string DIGF) (.int .u8 (((a0[k].toNat : Nat) : Int) / 16))).run Tryd.prog W = .ok (.int .u8 ((hexD (a0[k].toNat / 16)).toNat : Int)) W := fun W => index_dig _ (by omega) _ (by omega) W
        have ix2 : ∀ W : World, (Instr.index 9 (.string DIGF) (.int .u8 (((a0[k].toNat : Nat) : Int) % 16))).run Tryd.prog W = .ok (.int .u8 ((hexD (a0[k].toNat % 16)).toNat : Int)) W := fun W => index_dig _ (by omega) _ (by omega) W
        have eq1 : IntKind.u8.wrap (((a0[k].toNat : Nat) : Int).tdiv 16) = ((a0[k].toNat : Nat) : Int) / 16 := IntWalk.u8_quo _ _ (by omega)
        have eq3 : IntKind.u8.wrap (((a0[k].toNat : Nat) : Int) / 16) = ((a0[k].toNat : Nat) : Int) / 16 := IntWalk.u8_in _ (by omega)
        have eq2 : ((a0[k].toNat : Nat) : Int).tmod 16 = ((a0[k].toNat : Nat) : Int) % 16 := IntWalk.rem_in _ _ (by omega)
        have hbe := hbw.size
        have hstep : Lib.byteCells ((a0.data.toList.take k).flatMap hex1) ++ [.int .u8 ((hexD (a0[k].toNat / 16)).toNat : Int), .int .u8 ((hexD (a0[k].toNat % 16)).toNat : Int)] = Lib.byteCells ((a0.data.toList.take (k + 1)).flatMap hex1) := by
          rw [List.take_succ_eq_append_getElem (by rw [← Lib.size_eq]; exact hlt), List.flatMap_append, Lib.byteCells_append]
          congr 1
        have Hstep := Lib.hid hstep
        clear hstep
        go_wp2_with fail
        go_region_held3 (fun w' => True) (exact trivial)
          ((refine step_append_lies _ (by rfl) _ _ _ (by rfl) w.heap.size 5 i0 _ 1 1 Tryd.underlying32 hi hz0 hz1 hz2 rfl (by omega) u3 (2 * k) _ (by rfl) ((hown.alloc _).drew)
              ⟨wr.heap.size, 0, none⟩ 2 2 [.int .u8 ((hexD (a0[k].toNat / 16)).toNat : Int), .int .u8 ((hexD (a0[k].toNat % 16)).toNat : Int)] (by rfl) (by rfl) (World.news_of_block (cs := #[.int .u8 ((hexD (a0[k].toNat / 16)).toNat : Int), .int .u8 ((hexD (a0[k].toNat % 16)).toNat : Int)]) (t := 5) (fr := (0, 0)) (heap_alloc_new wr _)) (by simp [Value.oneCell'])
              (by omega) (by unfold maxLen; omega) (by omega) (by simp; omega) (wr.heap.size + 1) (by simp) ?_; intro gg cap w1 hown1 hgrow hat hlt1))
        all_goals (
          rw [Hstep.out] at hown1
          have hb1 : Below w.heap.size w w1 := (((hbw.alloc hbe _).drew).grown hgrow (by simp; omega) (fun k hk => (hown.lt k hk).1))
          go_wp2
          go_roundw
          case rel => exact ⟨k + 1, hlt, by simp, hown1, hb1⟩
          case measure => simp [intOf]; omega)
      · have hke : k = a0.size := by omega
        subst hke
        have hnum : Lib.byteCells ((a0.data.toList.take a0.size).flatMap hex1) = nums .u8 (((a0.data.toList.take a0.size).flatMap hex1).map fun b => (b.toNat : Int)) := by
          simp [Lib.byteCells, nums]
        have hstr : strOfNums (((a0.data.toList.take a0.size).flatMap hex1).map fun b => (b.toNat : Int)) = ⟨(hexB a0).toArray⟩ := by
          unfold strOfNums hexB
          rw [if_neg h0, List.take_of_length_le (by rw [← Lib.size_eq]; exact Nat.le_refl _), List.map_map]
          congr 2
          rw [List.map_congr_left (g := id) (fun b _ => by simp), List.map_id]
        have hcv : (convert 32 9 u3).run Tryd.prog wr = .ok (.string ⟨(hexB a0).toArray⟩) wr := by
          rw [hnum] at hown
          rw [own_string Tryd.underlying32 Tryd.underlying5 Tryd.underlying9 hown, hstr]
        clear hnum hstr hown
        go_wp2
        go_ret
        exact ⟨ret_strF hr.out, hbw⟩
end Go.Proofs.YtfaelejeihmgcaaDoor.Wd
end

section
namespace Go.Proofs.YtfaelejeihmgcaaDoor.Wd
open Go.RowKit Go.Proofs.YtfaelejeihmgcaaDoorW.PrintWords Go.Proofs.YtfaelejeihmgcaaDoorW.PrintLast
def cachepotref3_Quote.f (a0 : ByteArray) : Option ByteArray := if a0.size ≤ 1099511627776 then some ⟨(quoteB a0).toArray⟩ else none
theorem mayB_bytes (s : ByteArray) (i : Nat) (hi : i < s.size) (h : mayB s i = true) : ¬ byteAt s i = 34 ∧ ¬ byteAt s i = 92 ∧ ¬ byteAt s i = 32 := by
  have key : ∀ c : UInt8, c.toNat < 128 → mayR c.toNat 1 = false → ¬ byteAt s i = c := by
    intro c h1 h2 h3
    have e : byteAt s i = s[i] := get_lt s i hi
    rw [h3] at e
    have hd := decode_ascii s i hi (by rw [← e]; exact h1)
    unfold mayB at h
    rw [hd, ← e] at h
    rw [h] at h2
    cases h2
  exact ⟨key 34 (by decide) (by decide), key 92 (by decide) (by decide), key 32 (by decide) (by decide)⟩
theorem width_ascii (s : ByteArray) (i : Nat) (hi : i < s.size) (c : UInt8) (h : byteAt s i = c) (hc : c.toNat < 128) : width s i = 1 := by
  have e : byteAt s i = s[i] := get_lt s i hi
  unfold width
  rw [decode_ascii s i hi (by rw [← e, h]; exact hc)]
theorem app_data (a b : ByteArray) : (a ++ b).data.toList = a.data.toList ++ b.data.toList := by rw [ByteArray.data_append, Array.toList_append]
theorem app_size (a b : ByteArray) : (a ++ b).size = a.size + b.size := by rw [Lib.size_eq, Lib.size_eq, Lib.size_eq, app_data, List.length_append]
theorem byte_ex (s : ByteArray) (i : Nat) (hi : i < s.size) : bytesAt s i 1 = [byteAt s i] := by
  unfold bytesAt byteAt
  rw [List.drop_eq_getElem_cons (by rw [← Lib.size_eq]; exact hi), get_lt s i hi]
  rfl
theorem u8_toNat (c : UInt8) (n : Nat) (hn : n < 256) : ((c.toNat : Int) == (n : Int)) = decide (c = UInt8.ofNat n) := by
  rw [Bool.eq_iff_iff, beq_iff_eq, decide_eq_true_eq]
  constructor
  · intro h
    apply UInt8.toNat_inj.1
    simp; omega
  · intro h
    rw [h]; simp; omega
theorem bytesAt_take (s : ByteArray) (pos n k : Nat) (hk : pos ≤ k) (hj : k < pos + n) (hn : pos + n ≤ s.size) : (bytesAt s pos n).take (k + 1 - pos) = (bytesAt s pos n).take (k - pos) ++ [byteAt s k] := by
  have e : k + 1 - pos = (k - pos) + 1 := by omega
  have hl : k - pos < (bytesAt s pos n).length := by
    unfold bytesAt
    rw [List.length_take, List.length_drop, ← Lib.size_eq]; omega
  rw [e, List.take_succ_eq_append_getElem hl]
  have h1 : (bytesAt s pos n)[k - pos]? = some (byteAt s k) := by
    have e2 : pos + (k - pos) = k := by omega
    unfold bytesAt byteAt
    rw [List.getElem?_take_of_lt (by omega), List.getElem?_drop, e2, get_lt s k (by omega), List.getElem?_eq_getElem (by rw [← Lib.size_eq]; omega)]
    rfl
  rw [List.getElem?_eq_getElem hl] at h1
  rw [Option.some.inj h1]
theorem bytesAt_all (s : ByteArray) (pos n : Nat) : (bytesAt s pos n).take n = bytesAt s pos n := List.take_of_length_le (List.length_take_le _ _)
theorem hexQs_len (l : List UInt8) : (l.flatMap hexQ).length = 3 * l.length := by
  induction l with
  | nil => rfl
  | cons c l ih => rw [List.flatMap_cons, List.length_append, ih]; simp [hexQ]; omega
theorem quoteFrom_endI (s : ByteArray) (fuel pos : Nat) (h : ¬ pos < s.size) : quoteFrom s fuel pos = [] := by
  cases fuel with
  | zero => rfl
  | succ f => rw [quoteFrom, if_neg h]
theorem plainFrom_endI (s : ByteArray) (fuel pos : Nat) (h : ¬ pos < s.size) : plainFrom s fuel pos = true := by
  cases fuel with
  | zero => rfl
  | succ f => rw [plainFrom, if_neg h]
theorem ba_extI {a b : ByteArray} (h : a.data.toList = b.data.toList) : a = b := by
  obtain ⟨a⟩ := a
  obtain ⟨b⟩ := b
  exact congrArg ByteArray.mk (Array.toList_inj.1 h)
/-- the bytes of a rune that is escaped, one place -/
theorem hex_of (s : ByteArray) (k : Nat) (hk : k < s.size) : hexB (s.extract k (k + 1)) = hex1 (byteAt s k) := by
  have h1 := extract_bytes s k 1
  have hz : ¬ (s.extract k (k + 1)).size = 0 := by rw [Lib.size_eq, h1, byte_ex s k hk]; simp
  rw [hexB, if_neg hz, h1, byte_ex s k hk]
  simp
theorem hex_at (c : UInt8) (o : ByteArray) : (o ++ ((⟨#[92]⟩ : ByteArray) ++ (⟨(hex1 c).toArray⟩ : ByteArray))).data.toList = o.data.toList ++ hexQ c := by
  rw [app_data, app_data]
  rfl
set_option maxHeartbeats 4000000 in
set_option maxRecDepth 100000 in
theorem cachepotref3_Quote.calls (a0 : ByteArray) (r : ByteArray) (w : World) (h : cachepotref3_Quote.f a0 = some r) :
    Calls Tryd.prog 28 #[.string a0] w fun e w' => e = .returned (.string r) ∧ Below w.heap.size w w' := by
  have hs : a0.size ≤ 1099511627776 := by
    unfold cachepotref3_Quote.f at h
    split at h
    · assumption
    · cases h
  have hr : Aside0 (⟨(quoteB a0).toArray⟩ = r) := ⟨by unfold cachepotref3_Quote.f at h; rw [if_pos hs] at h; exact Option.some.inj h⟩
  clear h
  go_enter Tryd.func28, Tryd.ntmps28
  go_wp2_with fail
  go_loopw [3, 4, 5] (fun v3 v4 v5 wr => ∃ (av : Bool) (o : ByteArray) (pos fuel : Nat), v3 = .bool av ∧ v4 = .string o ∧ v5 = .int .i64 (pos : Int) ∧ Below w.heap.size w wr ∧ Aside0 (o.data.toList ++ quoteFrom a0 fuel pos = 34 :: quoteFrom a0 a0.size 0) ∧ Aside0 ((av && plainFrom a0 fuel pos) = plainB a0) ∧ a0.size ≤ pos + fuel ∧ o.size ≤ 1 + 3 * pos ∧ pos ≤ a0.size) (fun _ _ v5 _ => a0.size - (intOf v5).toNat)
  case atStart => 
    refine ⟨!a0.toList.isEmpty, ⟨#[34]⟩, 0, a0.size, rfl, rfl, rfl, Below.refl _ _, ⟨rfl⟩, ⟨?_⟩, by omega, by decide, by omega⟩
    rw [plainB, Bool.and_comm]
    congr 1
    rw [Lib.toList_data, Bool.eq_iff_iff, decide_eq_true_eq, Lib.size_eq]
    cases a0.data.toList <;> simp
  case round =>
    obtain ⟨av, o, pos, fuel, rfl, rfl, rfl, hbw, hq, hpl, hfu, hol, hpz⟩ := hrel
    by_cases hp : pos < a0.size
    · have hpf := plain_f 0 a0 pos hp hs
      have hwd := width_pos a0 pos
      have hwl := width_le a0 pos hp
      obtain ⟨f, rfl⟩ : ∃ f, fuel = f + 1 := ⟨fuel - 1, by omega⟩
      have q1 := hq.out
      have p1 := hpl.out
      rw [quoteFrom, if_pos hp, ← List.append_assoc] at q1
      rw [plainFrom, if_pos hp] at p1
      clear hq hpl
      have hba : byteAt a0 pos = a0[pos] := get_lt a0 pos hp
      cases hm : mayB a0 pos
      · rw [hm, if_neg (by decide)] at hpf
        have hpA := Aside0.mk hpf
        clear hpf
        have p2 : Aside0 ((false && plainFrom a0 f (pos + width a0 pos)) = plainB a0) := ⟨by rw [hm] at p1; cases av <;> exact p1⟩
        clear p1
        have hbe := extract_bytes a0 pos 1
        have hbz : (a0.extract pos (pos + 1)).size = 1 := by simp; omega
        have hsl : ∀ W : World, (Instr.slice 9 (.string a0) (some (.int .i64 (pos : Int))) (some (.int .i64 ((pos : Int) + 1))) none).run Tryd.prog W = .ok (.string (a0.extract pos (pos + 1))) W := slice_at a0 pos 1 (by omega)
        have hcat : ¬ 9223372036854775807 < o.size + (1 + (a0.extract pos (pos + 1)).size) := by omega
        have hcat1 : ¬ 9223372036854775807 < 1 + (a0.extract pos (pos + 1)).size := by omega
        have hcat2 : ¬ 9223372036854775807 < o.size + 1 := by omega
        by_cases h2 : byteAt a0 pos = 34 ∨ byteAt a0 pos = 92
        · have hw1 : width a0 pos = 1 := by
            rcases h2 with h | h
            · exact width_ascii a0 pos hp 34 h (by decide)
            · exact width_ascii a0 pos hp 92 h (by decide)
          have hq1 : quote1 a0 pos = [92, byteAt a0 pos] := by
            rcases h2 with h | h <;> (rw [quote1, hm, h]; rfl)
          rw [hw1] at q1 p2
          have q2 : Aside0 ((o ++ ((⟨#[92]⟩ : ByteArray) ++ a0.extract pos (pos + 1))).data.toList ++ quoteFrom a0 f (pos + 1) = 34 :: quoteFrom a0 a0.size 0) := ⟨by
            rw [app_data, app_data, hbe, byte_ex a0 pos hp, ← q1, hq1]; rfl⟩
          have hoz : (o ++ ((⟨#[92]⟩ : ByteArray) ++ a0.extract pos (pos + 1))).size ≤ 1 + 3 * (pos + 1) := by
            have e : (⟨#[92]⟩ : ByteArray).size = 1 := rfl
            rw [app_size, app_size, e]; omega
          clear q1 hq1 hw1 hbe hbz hm
          rcases h2 with h | h
          · have t34 : ((a0[pos].toNat : Int) == 34) = true := by rw [← hba]; exact (u8_toNat _ 34 (by decide)).trans (decide_eq_true h)
            clear h hba
            go_wp2_with fail
            refine (cachepotref3_plain.calls 3 a0 (pos : Int) 0 _ hpA.out).mono ?_
            rintro e w1 ⟨rfl, ⟨nd, rfl⟩⟩
            cases av
            all_goals (
              go_wp2
              go_roundw
              case rel => exact ⟨_, _, pos + 1, f, rfl, rfl, by simp, pw_below_drewN hbw nd, q2, p2, by omega, hoz, by omega⟩
              case measure => simp [intOf]; omega)
          · have t34 : ((a0[pos].toNat : Int) == 34) = false := by rw [← hba, h]; rfl
            have t92 : ((a0[pos].toNat : Int) == 92) = true := by rw [← hba]; exact (u8_toNat _ 92 (by decide)).trans (decide_eq_true h)
            clear h hba
            go_wp2_with fail
            refine (cachepotref3_plain.calls 3 a0 (pos : Int) 0 _ hpA.out).mono ?_
            rintro e w1 ⟨rfl, ⟨nd, rfl⟩⟩
            cases av
            all_goals (
              go_wp2
              go_roundw
              case rel => exact ⟨_, _, pos + 1, f, rfl, rfl, by simp, pw_below_drewN hbw nd, q2, p2, by omega, hoz, by omega⟩
              case measure => simp [intOf]; omega)
        · have n34 : ¬ byteAt a0 pos = 34 := fun h => h2 (.inl h)
          have n92 : ¬ byteAt a0 pos = 92 := fun h => h2 (.inr h)
          have t34 : ((a0[pos].toNat : Int) == 34) = false := by rw [← hba]; exact (u8_toNat _ 34 (by decide)).trans (decide_eq_false n34)
          have t92 : ((a0[pos].toNat : Int) == 92) = false := by rw [← hba]; exact (u8_toNat _ 92 (by decide)).trans (decide_eq_false n92)
          clear h2
          by_cases h32 : byteAt a0 pos = 32
          · have hw1 : width a0 pos = 1 := width_ascii a0 pos hp 32 h32 (by decide)
            have hq1 : quote1 a0 pos = [32] := by
              rw [quote1, hm, h32, if_pos (by decide), hw1, byte_ex a0 pos hp, h32]
            rw [hw1] at q1 p2
            have q2 : Aside0 ((o ++ (⟨#[32]⟩ : ByteArray)).data.toList ++ quoteFrom a0 f (pos + 1) = 34 :: quoteFrom a0 a0.size 0) := ⟨by
              rw [app_data, ← q1, hq1]⟩
            have hoz : (o ++ (⟨#[32]⟩ : ByteArray)).size ≤ 1 + 3 * (pos + 1) := by
              have e : (⟨#[32]⟩ : ByteArray).size = 1 := rfl
              rw [app_size, e]; omega
            have t32 : ((a0[pos].toNat : Int) == 32) = true := by rw [← hba]; exact (u8_toNat _ 32 (by decide)).trans (decide_eq_true h32)
            clear q1 hq1 hw1 hbe hbz hm h32 hba n34 n92 hsl
            go_wp2_with fail
            refine (cachepotref3_plain.calls 3 a0 (pos : Int) 0 _ hpA.out).mono ?_
            rintro e w1 ⟨rfl, ⟨nd, rfl⟩⟩
            cases av
            all_goals (
              go_wp2
              go_roundw
              case rel => exact ⟨_, _, pos + 1, f, rfl, rfl, by simp, pw_below_drewN hbw nd, q2, p2, by omega, hoz, by omega⟩
              case measure => simp [intOf]; omega)
          · have t32 : ((a0[pos].toNat : Int) == 32) = false := by rw [← hba]; exact (u8_toNat _ 32 (by decide)).trans (decide_eq_false h32)
            have hq1 : quote1 a0 pos = (bytesAt a0 pos (width a0 pos)).flatMap hexQ := by
              rw [quote1, hm, if_neg (by simpa using h32), if_neg (by simp [n34, n92])]
            rw [hq1] at q1
            have q2 := Aside0.mk q1
            have hR := Aside0.mk (Rune_f 0 a0 pos hp hs)
            generalize hrr : ((Utf8.decode a0 pos).1 : Int) = rr at hR
            have hwe : ((Utf8.decode a0 pos).2 : Int) = (width a0 pos : Int) := rfl
            rw [hwe] at hR
            clear hwe hrr q1 hq1 hm hba n34 n92 h32 hsl hcat hcat1 hcat2 hbe hbz
            generalize hwn : width a0 pos = n at *
            clear hwn
            go_wp2_with fail
            refine (cachepotref3_plain.calls 3 a0 (pos : Int) 0 _ hpA.out).mono ?_
            rintro e w1 ⟨rfl, ⟨nd, rfl⟩⟩
            have hb1 := pw_below_drewN hbw nd
            cases av
            all_goals (
              go_wp2_with fail
              refine (cachepotref1_Rune.calls 3 a0 (pos : Int) rr (n : Int) _ hR.out).mono ?_
              rintro e w2 ⟨rfl, ⟨nd2, rfl⟩⟩
              have hb2 : Below w.heap.size w (wr.drewN (nd + nd2)) := pw_below_drewN hbw (nd + nd2)
              go_wp2_with fail
              go_loopw [4, 9] (fun v4 v9 wi => ∃ (o2 : ByteArray) (k : Nat), v4 = .string o2 ∧ v9 = .int .i64 (k : Int) ∧ pos ≤ k ∧ k ≤ pos + n ∧ Below w.heap.size w wi ∧ Aside0 (o2.data.toList = o.data.toList ++ ((bytesAt a0 pos n).take (k - pos)).flatMap hexQ)) (fun _ v9 _ => pos + n - (intOf v9).toNat)
              case atStart => exact ⟨o, pos, rfl, rfl, by omega, by omega, hb2, ⟨by simp⟩⟩
              case round =>
                obtain ⟨o2, k, rfl, rfl, hk1, hk2, hbi, hacc⟩ := hrel
                have ho2 : o2.size ≤ 1 + 3 * k := by
                  rw [Lib.size_eq, hacc.out, List.length_append, hexQs_len, ← Lib.size_eq]
                  have : ((bytesAt a0 pos n).take (k - pos)).length ≤ k - pos := List.length_take_le _ _
                  omega
                by_cases hlt : k < pos + n
                · have hka : k < a0.size := by omega
                  have hsl : ∀ W : World, (Instr.slice 9 (.string a0) (some (.int .i64 (k : Int))) (some (.int .i64 ((k : Int) + 1))) none).run Tryd.prog W = .ok (.string (a0.extract k (k + 1))) W := slice_at a0 k 1 (by omega)
                  have hHx : Aside0 (cachepotref3_Hex.f (a0.extract k (k + 1)) = some ⟨(hex1 (byteAt a0 k)).toArray⟩) := ⟨by
                    rw [cachepotref3_Hex.f, if_pos (by simp; omega), hex_of a0 k hka]⟩
                  have hzx : (⟨(hex1 (byteAt a0 k)).toArray⟩ : ByteArray).size = 2 := rfl
                  have hx3 : Aside0 ((o2 ++ ((⟨#[92]⟩ : ByteArray) ++ (⟨(hex1 (byteAt a0 k)).toArray⟩ : ByteArray))).data.toList = o.data.toList ++ ((bytesAt a0 pos n).take (k + 1 - pos)).flatMap hexQ) := ⟨by
                    rw [hex_at, hacc.out, bytesAt_take a0 pos n k hk1 hlt hwl, List.flatMap_append, List.append_assoc]
                    simp⟩
                  generalize hxx : (⟨(hex1 (byteAt a0 k)).toArray⟩ : ByteArray) = hx at hHx hx3 hzx
                  clear hxx hacc
                  have hc1 : ¬ 9223372036854775807 < o2.size + (1 + hx.size) := by omega
                  have hc2 : ¬ 9223372036854775807 < 1 + hx.size := by omega
                  clear hzx ho2
                  go_wp2_with fail
                  refine (cachepotref3_Hex.calls (a0.extract k (k + 1)) hx _ hHx.out).mono ?_
                  rintro e w3 ⟨rfl, hb3⟩
                  have hb4 : Below w.heap.size w w3 := hbi.trans (hb3.mono hbi.size)
                  go_wp2
                  go_roundw
                  case rel => exact ⟨_, k + 1, rfl, by simp, by omega, by omega, hb4, hx3⟩
                  case measure => simp [intOf]; omega
                · have hkk : k = pos + n := by omega
                  have q3 : Aside0 (o2.data.toList ++ quoteFrom a0 f (pos + n) = 34 :: quoteFrom a0 a0.size 0) := ⟨by
                    rw [hacc.out, hkk, show pos + n - pos = n by omega, bytesAt_all]; exact q2.out⟩
                  have ho3 : o2.size ≤ 1 + 3 * (pos + n) := by omega
                  clear hacc q2
                  go_wp2
                  go_roundw
                  case rel => exact ⟨_, o2, pos + n, f, rfl, rfl, by simp, hbi, q3, p2, by omega, ho3, by omega⟩
                  case measure => simp [intOf]; omega)
      · rw [hm, if_pos rfl] at hpf
        have hpA := Aside0.mk hpf
        clear hpf
        obtain ⟨n34, n92, n32⟩ := mayB_bytes a0 pos hp hm
        have t34 : ((a0[pos].toNat : Int) == 34) = false := by rw [← hba]; exact (u8_toNat _ 34 (by decide)).trans (decide_eq_false n34)
        have t92 : ((a0[pos].toNat : Int) == 92) = false := by rw [← hba]; exact (u8_toNat _ 92 (by decide)).trans (decide_eq_false n92)
        have t32 : ((a0[pos].toNat : Int) == 32) = false := by rw [← hba]; exact (u8_toNat _ 32 (by decide)).trans (decide_eq_false n32)
        have hq1 : quote1 a0 pos = bytesAt a0 pos (width a0 pos) := by rw [quote1, hm]; rfl
        have hsl := slice_at a0 pos (width a0 pos) hwl
        have hbe := extract_bytes a0 pos (width a0 pos)
        have hbz : (a0.extract pos (pos + width a0 pos)).size = width a0 pos := by simp; omega
        rw [hq1, ← hbe, ← app_data] at q1
        have q2 := Aside0.mk q1
        rw [hm, Bool.true_and] at p1
        have p2 := Aside0.mk p1
        have hcat : ¬ 9223372036854775807 < o.size + (a0.extract pos (pos + width a0 pos)).size := by omega
        have hoz : (o ++ a0.extract pos (pos + width a0 pos)).size ≤ 1 + 3 * (pos + width a0 pos) := by rw [app_size]; omega
        clear q1 p1 hba n34 n92 n32 hq1 hm hbe hbz
        generalize width a0 pos = n at *
        go_wp2_with fail
        refine (cachepotref3_plain.calls 3 a0 (pos : Int) (n : Int) _ hpA.out).mono ?_
        rintro e w1 ⟨rfl, ⟨nd, rfl⟩⟩
        cases av
        all_goals (
          go_wp2
          go_roundw
          case rel => exact ⟨_, _, pos + n, f, rfl, rfl, by simp, pw_below_drewN hbw nd, q2, by first | exact p2 | (rw [decide_eq_true (show 0 < n by omega)]; exact p2), by omega, hoz, hwl⟩
          case measure => simp [intOf]; omega)
    · have q1 := hq.out
      have p1 := hpl.out
      rw [quoteFrom_endI _ _ _ hp, List.append_nil] at q1
      rw [plainFrom_endI _ _ _ hp, Bool.and_true] at p1
      clear hq hpl
      have hcc : ¬ 9223372036854775807 < o.size + 1 := by omega
      cases av
      · have q2 : Aside0 (o ++ (⟨#[34]⟩ : ByteArray) = r) := ⟨by
          rw [← hr.out, quoteB, ← p1, if_neg (by decide)]
          apply ba_extI
          rw [app_data, q1]
          rfl⟩
        clear q1 p1
        go_wp2
        go_ret
        exact ⟨ret_strF q2.out, hbw⟩
      · have q2 : Aside0 (a0 = r) := ⟨by
          rw [← hr.out, quoteB, ← p1, if_pos rfl]⟩
        clear q1 p1
        go_wp2
        go_ret
        exact ⟨ret_strF q2.out, hbw⟩
end Go.Proofs.YtfaelejeihmgcaaDoor.Wd
end

section
namespace Go.Proofs.YtfaelejeihmgcaaDoor.Wd
open Go.RowKit Go.Proofs.YtfaelejeihmgcaaDoorW.PrintWords Go.Proofs.YtfaelejeihmgcaaDoorW.PrintLast Go.Proofs.YtfaelejeihmgcaaDoorW.PrintMore
attribute [local go_sem] max2_int min2_int max_two min_two max_three min_three max_four min_four   -- for this text's walks alone
set_option linter.unusedVariables false
set_option linter.unusedSimpArgs false
def cachepotref3_Join.l0 : Nat → List ByteArray → ByteArray → Int → Option (ByteArray)
  | 0, _, _, _ => none
  | k + 1, x0, x3, x4 => if x4 < (x0.length : Int) then (if x4 > 0 then (if x3.size + 1 ≤ 9223372036854775807 then (if 0 ≤ x4 then ((cachepotref3_Quote.f (rdOf ByteArray.empty x0 x4)).bind fun t177 => (if (x3 ++ (⟨#[32]⟩ : ByteArray)).size + t177.size ≤ 9223372036854775807 then (cachepotref3_Join.l0 k x0 ((x3 ++ (⟨#[32]⟩ : ByteArray)) ++ t177) (wrap64 (x4 + 1))) else (none))) else (none)) else (none)) else (if 0 ≤ x4 then ((cachepotref3_Quote.f (rdOf ByteArray.empty x0 x4)).bind fun t179 => (if x3.size + t179.size ≤ 9223372036854775807 then (cachepotref3_Join.l0 k x0 (x3 ++ t179) (wrap64 (x4 + 1))) else (none))) else (none))) else (some x3)
def cachepotref3_Join.f (k : Nat) (l0 : List ByteArray) : Option (ByteArray) := cachepotref3_Join.l0 k l0 (⟨#[]⟩ : ByteArray) 0
def cachepotbook_Short.f (a0 : ByteArray) (a1 : Int) : Option (ByteArray) := if 0 ≤ (mn (a0.size : Int) a1) then (if (mn (a0.size : Int) a1) ≤ (a0.size : Int) then (some (a0.extract 0 ((mn (a0.size : Int) a1) : Int).toNat)) else (none)) else (none)
def cachepotbook_Texts.l0 : Nat → List ByteArray → Int → Int → List ByteArray → Int → Option (List ByteArray)
  | 0, _, _, _, _, _ => none
  | k + 1, x0, x1, x2, x7, x8 => if x8 < (x0.length : Int) then (if x8 < x1 then (if 0 ≤ x8 then ((cachepotbook_Short.f (rdOf ByteArray.empty x0 x8) x2).bind fun t181 => (if x7.length < 8796093022208 then (cachepotbook_Texts.l0 k x0 x1 x2 (x7 ++ [t181]) (wrap64 (x8 + 1))) else (none))) else (none)) else (some x7)) else (some x7)
def cachepotbook_Texts.f (k : Nat) (l0 : List ByteArray) (a1 : Int) (a2 : Int) : Option (List ByteArray) := cachepotbook_Texts.l0 k l0 a1 a2 ([] : List ByteArray) 0
def cachepotbook_Pick.f (a0 : Int) (a1 : Int) : Option (Int) := if a1 = 0 then (none) else (if (Int.tmod a0 a1) < 0 then (some (wrap64 ((Int.tmod a0 a1) + a1))) else (some (Int.tmod a0 a1)))
end Go.Proofs.YtfaelejeihmgcaaDoor.Wd
end

section
namespace Go.Proofs.YtfaelejeihmgcaaDoor.Wd
open Go.RowKit Go.Proofs.YtfaelejeihmgcaaDoorW.PrintWords Go.Proofs.YtfaelejeihmgcaaDoorW.PrintLast
def joinB (l : List ByteArray) (sep : ByteArray) : List UInt8 := Lib.join (l.map (·.data.toList)) sep.data.toList
def strings_Join.f (l0 : List ByteArray) (a1 : ByteArray) : Option ByteArray :=
  if l0.length ≤ 1099511627776 ∧ (joinB l0 a1).length ≤ 1099511627776 then some ⟨(joinB l0 a1).toArray⟩ else none
theorem add_zero' (ad : Addr) : ad.add 0 = ad := by simp [Addr.add]
theorem strings_Join.calls (A0 : Option Addr) (c0 : Nat) (l0 : List ByteArray) (a1 : ByteArray) (r : ByteArray) (w : World) (hr0 : Kd.C Kd.string w A0 l0.length l0) (hc0 : l0.length ≤ c0) (h : strings_Join.f l0 a1 = some r) :
    Calls Tryd.prog 62 #[.slice A0 l0.length c0, .string a1] w fun e w' => e = .returned (.string r) ∧ Below w.heap.size w w' := by
  unfold strings_Join.f at h
  split at h
  · rename_i hb
    obtain rfl := Option.some.inj h
    have hr := Kd.reads_of_C (d := ByteArray.empty) hr0
    cases l0 with
    | nil =>
      refine (Tryd.strings_Join_none A0 c0 a1 w).mono ?_
      rintro e w' ⟨rfl, rfl⟩
      exact ⟨rfl, Below.refl _ _⟩
    | cons x l =>
      obtain ⟨ad, rfl, hc⟩ := hr.2.2 (by simp)
      obtain ⟨bk, o, rfl⟩ : ∃ bk o, ad = ⟨bk, o, none⟩ := by
        have h0 := hc 0 (by simp)
        rw [add_zero'] at h0
        obtain ⟨bk, o, p⟩ := ad
        cases p with
        | none => exact ⟨bk, o, rfl⟩
        | some p =>
          simp [World.cell?] at h0
          split at h0 <;> cases h0
      have hcells : ∀ (j : Nat) y, (x :: l)[j]? = some y → w.cell? ⟨bk, o + j, none⟩ = some (.string y) := by
        intro j y hj
        have hlt : j < (x :: l).length := by
          rcases Nat.lt_or_ge j (x :: l).length with h | h
          · exact h
          · rw [List.getElem?_eq_none h] at hj; cases hj
        have h1 := hc j hlt
        have e : (⟨bk, o, none⟩ : Addr).add j = ⟨bk, o + j, none⟩ := by
          unfold Addr.add
          split
          · rename_i hj0; simp_all
          · rfl
        rw [e] at h1
        rw [h1, List.getD_eq_getElem?_getD, hj]
        rfl
      refine (Tryd.strings_Join bk o c0 (x :: l) a1 w hcells ?_ (by omega) hc0 (by have := hb.2; unfold joinB at this; omega)).mono ?_
      · have := hcells 0 x rfl
        exact World.block_lt_of_cell? w _ this
      · rintro e w' ⟨rfl, h2⟩
        exact ⟨rfl, h2⟩
  · cases h
end Go.Proofs.YtfaelejeihmgcaaDoor.Wd
end

section
namespace Go.Proofs.YtfaelejeihmgcaaDoor.Wd
open Go.RowKit Go.Proofs.YtfaelejeihmgcaaDoorW.PrintWords Go.Proofs.YtfaelejeihmgcaaDoorW.PrintLast Go.Proofs.YtfaelejeihmgcaaDoorW.PrintMore
attribute [local go_sem] max2_int min2_int max_two min_two max_three min_three max_four min_four   -- for this text's walks alone
set_option linter.unusedVariables false
set_option linter.unusedSimpArgs false
def cachepotlaw25_WordLines.l0 : Nat → ByteArray → ByteArray → ByteArray → Int → Option (Bool)
  | 0, _, _, _, _ => none
  | k + 1, x0, x1, x5, x6 => if x6 < (x5.size : Int) then (if 0 ≤ x6 then (if (bt x5 x6) = 10 then (some false) else (cachepotlaw25_WordLines.l0 k x0 x1 x5 (wrap64 (x6 + 1)))) else (none)) else ((cachepotbook_Short.f x0 40).bind fun t209 => (if t209.size + 1 ≤ 9223372036854775807 then ((cachepotbook_Short.f x1 40).bind fun t210 => (if (t209 ++ (⟨#[10]⟩ : ByteArray)).size + t210.size ≤ 9223372036854775807 then ((word_Split.f k ((t209 ++ (⟨#[10]⟩ : ByteArray)) ++ t210)).bind fun bt211 => ((cachepotlaw25_alive.f k).bind fun t215 => (if t215 = true then (some (bt211.2 == 2)) else (some false)))) else (none))) else (none)))
def cachepotlaw25_WordLines.f (k : Nat) (a0 : ByteArray) (a1 : ByteArray) : Option (Bool) := (word_Quote.f a0).bind fun t208 => (cachepotlaw25_WordLines.l0 k a0 a1 t208 0)
def word_Join.l0 : Nat → List ByteArray → List ByteArray → Int → Int → Option (ByteArray)
  | 0, _, _, _, _ => none
  | k + 1, x3, x6, x7, x8 => if x8 < x7 then (if 0 ≤ x8 then (if x8 < (x6.length : Int) then ((word_Quote.f (rdOf ByteArray.empty x6 x8)).bind fun t217 => (if x3.length < 8796093022208 then (word_Join.l0 k (x3 ++ [t217]) x6 x7 (wrap64 (x8 + 1))) else (none))) else (none)) else (none)) else ((strings_Join.f x3 (⟨#[32]⟩ : ByteArray)).bind fun t221 => (some t221))
def word_Join.f (k : Nat) (l0 : List ByteArray) : Option (ByteArray) := word_Join.l0 k ([] : List ByteArray) l0 (l0.length : Int) 0
set_option maxHeartbeats 8000000 in
set_option maxRecDepth 100000 in
theorem word_Join.calls (k : Nat) (A0 : Option Addr) (c0 : Nat) (l0 : List ByteArray) (r : ByteArray) (w : World) (hr0 : Kd.C Kd.string w A0 l0.length l0) (hc0 : l0.length ≤ c0) (h : word_Join.f k l0 = some r) (hT : Tabs w) :
    Calls Tryd.prog 29 #[.slice A0 l0.length c0] w fun e w' => e = .returned (.string r) ∧ Below w.heap.size w w' := by
  have HR0 := Aside0.mk hr0
  have HC0 := Aside0.mk hc0
  clear hr0 hc0
  have HB := Aside0.mk (Below.refl w.heap.size w)
  have H : (word_Join.l0 k ([] : List ByteArray) l0 (l0.length : Int) 0) = some r := h
  clear h
  have H' := Aside0.mk H
  clear H
  go_enter Tryd.func29, Tryd.ntmps29
  go_wp2
  go_loopg [3, 8] k (fun kq v3 v8 w' => ∃ (x3_1 : List ByteArray) (x8_1 : Int), v8 = .int .i64 x8_1 ∧ Aside0 (word_Join.l0 kq x3_1 l0 (l0.length : Int) x8_1 = some r) ∧ Aside0 (kq ≤ k) ∧ Aside0 (Kd.R Kd.string 9 w' w.heap.size (fun _ => True) v3 x3_1) ∧ Aside0 (Below w.heap.size w w'))
  case atStart => exact ⟨(([] : List ByteArray)), (0), (by first | rfl | (simp; done) | (simp [*]; done)), H', ⟨Nat.le_refl _⟩, ⟨by first | exact Kd.R_nil _ _ _ _ _ | exact Kd.N_nil _ _ _ _ _ | exact Kd.V_nil _ _ _ _ _ | exact Kd.Q_nil _ _ _ _ _ | exact Kd.S_nil _ _ _ _ _⟩, ⟨by repeat (first | (with_reducible first | exact HB.out | apply below_alloc | apply pw_below_drewN | apply below_drew1) | exact HB.out)⟩⟩
  case round =>
    clear H'
    obtain ⟨x3_1, x8_1, rfl, HA, HK1, HO_3, HB⟩ := hrel
    cases gk with
    | zero => exact absurd HA.out (by simp [word_Join.l0])
    | succ k1 =>
      have H := HA.out
      clear HA
      simp only [word_Join.l0] at H
      by_cases c2 : x8_1 < (l0.length : Int)
      · rw [if_pos c2] at H
        have c2b0 : decide (x8_1 < (l0.length : Int)) = true := decide_eq_true c2
        clear c2
        by_cases c3 : 0 ≤ x8_1
        · rw [if_pos c3] at H
          have c3b0 : decide (0 ≤ x8_1) = true := decide_eq_true c3
          clear c3
          by_cases c4 : x8_1 < (l0.length : Int)
          · rw [if_pos c4] at H
            have c4b0 : decide (x8_1 < (l0.length : Int)) = true := decide_eq_true c4
            clear c4
            replace H := Option.bind_eq_some_iff.mp H
            obtain ⟨t217, A50, H⟩ := H
            replace H : (if x3_1.length < 8796093022208 then (word_Join.l0 k1 (x3_1 ++ [t217]) l0 (l0.length : Int) (wrap64 (x8_1 + 1))) else (none)) = some r := H
            have A5 := Aside0.mk A50
            clear A50
            by_cases c6 : x3_1.length < 8796093022208
            · rw [if_pos c6] at H
              have LMc6 := Aside0.mk c6
              clear c6
              obtain ⟨y218, hy218⟩ : ∃ y_ : List ByteArray, y_ = (x3_1 ++ [t217]) := ⟨_, rfl⟩
              replace H : (word_Join.l0 k1 y218 l0 (l0.length : Int) (wrap64 (x8_1 + 1))) = some r := by first | (rw [hy218]; with_reducible exact H) | (have H2_ := (Option.bind_some _ _).symm.trans H; rw [hy218]; with_reducible exact H2_) | (have H2_ := (Option.bind_some _ _).symm.trans H; with_reducible exact H2_) | with_reducible exact H | (rw [hy218]; exact H) | exact H
              have Ny218 := Aside0.mk hy218
              clear hy218
              have H' := Aside0.mk H
              clear H
              have p216 : 0 ≤ (x8_1 : Int) := of_decide_eq_true (by first | (with_reducible assumption) | assumption)
              have q216 : x8_1 < (l0.length : Int) := of_decide_eq_true (by first | (with_reducible assumption) | assumption)
              obtain ⟨ad216, e216, hx216_0⟩ := Kd.at_string HR0.out x8_1 p216 q216
              cases e216
              replace hx216_0 := (HB.out.cell (World.block_lt_of_cell? w _ hx216_0)).trans hx216_0
              replace p216 := eq_true p216
              replace q216 := eq_true q216
              go_wp2_with (first | ((with_reducible refine gate_callee (f := 26) rfl ?_); refine goesL_ (some 14) rfl rfl Tryd.func26 (by kernel_rfl) rfl #[.string (rdOf ByteArray.empty l0 x8_1)] rfl (by (try simp only [List.map_toArray, List.map_cons, List.map_nil]); first | done | rfl | (simp only [List.length_drop, List.length_take]; rfl)) ?_; (with_reducible refine (word_Quote.calls (rdOf ByteArray.empty l0 x8_1) t217 _ A5.out (by first | exact hT | (refine Tabs.below hT ?_; (repeat (first | (with_reducible first | exact HB.out | exact Below.refl _ _ | apply below_alloc | apply pw_below_drewN | apply below_drew1) | exact HB.out))))).mono ?_); rintro e w7 ⟨rfl, hb⟩; refine ⟨_, rfl, ?_⟩; have n0_ := Aside0.mk (Kd.R_below (by (with_reducible repeat (first | apply Kd.R_alloc | apply Kd.R_drewN | apply Kd.R_drew)); exact HO_3.out) hb); have n1_ := Aside0.mk (below_step (by repeat (first | (with_reducible first | exact HB.out | apply below_alloc | apply pw_below_drewN | apply below_drew1) | exact HB.out)) hb); clear HO_3; clear HB; have HO_3 := n0_; have HB := n1_; clear n0_ n1_; (try clear hb); (try clear hb2); (try clear hk); (try clear hi)) | ((with_reducible refine gate_builtin (b := .append) (xs := #[.tmp 12, .tmp 15]) rfl ?_); at_builtin; refine Kd.R_append Kd.string (w0 := w) w.heap.size rfl (.tmp 12) (.tmp 15) 22 9 (.string ⟨#[]⟩) 16 rfl Tryd.underlying22 info9 rfl (by decide) (by omega) u3 x3_1 t217 [.string t217] (fun _ => True) (fun _ => False) rfl rfl ?aP (fun _ hk => hk.elim) ?aF ?aO ?aB ?aS ?aL ?_; (case aP => exact rfl); (case aB => exact (by repeat (first | (with_reducible first | exact HB.out | apply below_alloc | apply pw_below_drewN | apply below_drew1) | exact HB.out))); (case aF => exact (fun _ _ => trivial)); (case aO => exact (by (with_reducible repeat (first | apply Kd.R_alloc | apply Kd.R_drewN | apply Kd.R_drew)); exact HO_3.out)); (case aS => exact (below_size (by repeat (first | (with_reducible first | exact HB.out | apply below_alloc | apply pw_below_drewN | apply below_drew1) | exact HB.out)))); (case aL => have := LMc6.out; omega); intro v219 w8 ho hb hg hat; rw [← Ny218.out] at ho; have n0_ := Aside0.mk (hb); have n1_ := Aside0.mk (ho); clear HB; clear HO_3; have HB := n0_; have HO220 := n1_; clear n0_ n1_; clear ho hb hg hat))
              go_roundg k1
              case measure => have := HK1.out; omega
              case rel => exact ⟨(y218), (wrap64 (x8_1 + 1)), (by first | rfl | (simp; done) | (simp [*]; done)), H', ⟨by have := HK1.out; omega⟩, ⟨by (with_reducible repeat (first | apply Kd.R_alloc | apply Kd.R_drewN | apply Kd.R_drew)); exact HO220.out⟩, ⟨by repeat (first | (with_reducible first | exact HB.out | apply below_alloc | apply pw_below_drewN | apply below_drew1) | exact HB.out)⟩⟩
            · rw [if_neg c6] at H
              exact absurd H (by simp)
          · rw [if_neg c4] at H
            exact absurd H (by simp)
        · rw [if_neg c3] at H
          exact absurd H (by simp)
      · rw [if_neg c2] at H
        have c2b0 : decide (x8_1 < (l0.length : Int)) = false := decide_eq_false c2
        clear c2
        replace H := Option.bind_eq_some_iff.mp H
        obtain ⟨t221, A90, H⟩ := H
        replace H : (some t221) = some r := H
        have A9 := Aside0.mk A90
        clear A90
        obtain rfl := Option.some.inj H
        obtain ⟨Ao10, co10, eo10⟩ := Kd.R_slice HO_3.out
        subst eo10
        go_wp2_with (first | ((with_reducible refine gate_callee (f := 62) rfl ?_); refine goesL_ (some 19) rfl rfl Tryd.func62 (by kernel_rfl) rfl #[.slice Ao10 x3_1.length co10, .string (⟨#[32]⟩ : ByteArray)] rfl (by (try simp only [List.map_toArray, List.map_cons, List.map_nil]); first | done | rfl | (simp only [List.length_drop, List.length_take]; rfl)) ?_; (with_reducible refine (strings_Join.calls _ _ x3_1 (⟨#[32]⟩ : ByteArray) t221 _ ?side1 ?side2 A9.out).mono ?_); (case side1 => repeat (first | exact (Kd.R_reads' HO_3.out).2.2 | (with_reducible refine Kd.C_alloc ?_ _) | (with_reducible refine Kd.C_drewN ?_ _) | (with_reducible refine Kd.C_drew ?_))); (case side2 => exact (Kd.R_reads' HO_3.out).2.1); rintro e w11 ⟨rfl, hb⟩; refine ⟨_, rfl, ?_⟩; have n0_ := Aside0.mk (Kd.R_below (by (with_reducible repeat (first | apply Kd.R_alloc | apply Kd.R_drewN | apply Kd.R_drew)); exact HO_3.out) hb); have n1_ := Aside0.mk (below_step (by repeat (first | (with_reducible first | exact HB.out | apply below_alloc | apply pw_below_drewN | apply below_drew1) | exact HB.out)) hb); clear HO_3; clear HB; have HO_3 := n0_; have HB := n1_; clear n0_ n1_; (try clear hb); (try clear hb2); (try clear hk); (try clear hi)))
        go_ret
        exact ⟨by first | rfl | (simp [errW_none, errW_some] <;> rfl) | (simp [*, errW_none, errW_some] <;> rfl), by repeat (first | (with_reducible first | exact HB.out | apply below_alloc | apply pw_below_drewN | apply below_drew1) | exact HB.out)⟩
def cachepotlaw25_WordQuotes.f (k : Nat) (a0 : ByteArray) (l1 : List ByteArray) : Option (Bool) := (cachepotbook_Texts.f k l1 20 60).bind fun t222 => ((cachepotlaw25_alive.f k).bind fun t225 => (if t225 = true then ((word_Quote.f a0).bind fun t226 => ((cachepotref3_Quote.f a0).bind fun t227 => (if t226.toList = t227.toList then ((word_Join.f k t222).bind fun t228 => ((cachepotref3_Join.f k t222).bind fun t229 => (some (t228.toList == t229.toList)))) else (some false)))) else (some false)))
def cachepotlaw25_WordBack.f (k : Nat) (l0 : List ByteArray) : Option (Bool) := (cachepotbook_Texts.f k l0 20 60).bind fun t230 => ((word_Join.f k t230).bind fun t233 => ((word_Split.f k t233).bind fun bt234 => ((cachepotlaw25_alive.f k).bind fun t238 => (if t238 = true then (if bt234.2 = 0 then ((cachepotbook_SameTexts.f k bt234.1 t230).bind fun t239 => (some t239)) else (some false)) else (some false)))))
end Go.Proofs.YtfaelejeihmgcaaDoor.Wd
end

section
namespace Go.Proofs.YtfaelejeihmgcaaDoor.Wd
open Go.RowKit Go.Proofs.YtfaelejeihmgcaaDoorW.PrintWords Go.Proofs.YtfaelejeihmgcaaDoorW.PrintLast Go.Proofs.YtfaelejeihmgcaaDoorW.PrintMore
/-- the first bytes of a text, at most m of them -/
def cut (s : ByteArray) (m : Nat) : ByteArray := s.extract 0 (min s.size m)
theorem cut_size (s : ByteArray) (m : Nat) : (cut s m).size = min s.size m := by unfold cut; simp
theorem bytesAt_len (s : ByteArray) (i n : Nat) : (bytesAt s i n).length ≤ n := List.length_take_le _ _
theorem quote1_len (s : ByteArray) (i : Nat) : (quote1 s i).length ≤ 3 * width s i := by
  have hw := width_pos s i
  have hb := bytesAt_len s i (width s i)
  unfold quote1
  split
  · omega
  · split
    · simp; omega
    · rw [hexQs_len]; omega
theorem quoteFrom_len (s : ByteArray) : ∀ f i, (quoteFrom s f i).length ≤ 3 * (s.size - i) := by
  intro f
  induction f with
  | zero => intro i; simp [quoteFrom]
  | succ f ih =>
    intro i
    rw [quoteFrom]
    by_cases h : i < s.size
    · have hw := width_pos s i
      have hwl := width_le s i h
      have h1 := quote1_len s i
      have h2 := ih (i + width s i)
      rw [if_pos h, List.length_append]
      omega
    · rw [if_neg h]; simp
theorem quoteB_len (s : ByteArray) : (quoteB s).length ≤ 3 * s.size + 2 := by
  unfold quoteB
  split
  · rw [← Lib.size_eq]; omega
  · have := quoteFrom_len s s.size 0
    simp; omega
def qB (s : ByteArray) : ByteArray := ⟨(quoteB s).toArray⟩
theorem qB_data (s : ByteArray) : (qB s).data.toList = quoteB s := rfl
theorem qB_size (s : ByteArray) : (qB s).size = (quoteB s).length := by rw [Lib.size_eq, qB_data]
def tailB (l : List ByteArray) : List UInt8 := Lib.joinTail [32] (l.map quoteB)
def joinL (l : List ByteArray) : List UInt8 := Lib.join (l.map quoteB) [32]
theorem tailB_nil : tailB [] = [] := rfl
theorem tailB_cons (x : ByteArray) (l : List ByteArray) : tailB (x :: l) = 32 :: (quoteB x ++ tailB l) := by simp [tailB, Lib.joinTail]
theorem joinL_nil : joinL [] = [] := rfl
theorem joinL_cons (x : ByteArray) (l : List ByteArray) : joinL (x :: l) = quoteB x ++ tailB l := by
  unfold joinL tailB
  rw [List.map_cons, Lib.join_cons]
theorem tailB_len (m : Nat) (l : List ByteArray) (h : ∀ x ∈ l, x.size ≤ m) : (tailB l).length ≤ (3 * m + 3) * l.length := by
  induction l with
  | nil => simp [tailB_nil]
  | cons x l ih =>
    have h1 := ih fun y hy => h y (List.mem_cons_of_mem _ hy)
    have h2 := quoteB_len x
    have h3 := h x (List.mem_cons_self ..)
    rw [tailB_cons, List.length_cons, List.length_append, List.length_cons, Nat.mul_succ]
    omega
theorem joinL_len (m : Nat) (l : List ByteArray) (h : ∀ x ∈ l, x.size ≤ m) : (joinL l).length ≤ (3 * m + 3) * l.length := by
  cases l with
  | nil => simp [joinL_nil]
  | cons x l =>
    have h1 := tailB_len m l fun y hy => h y (List.mem_cons_of_mem _ hy)
    have h2 := quoteB_len x
    have h3 := h x (List.mem_cons_self ..)
    rw [joinL_cons, List.length_append, List.length_cons, Nat.mul_succ]
    omega
theorem rQuote_f (s : ByteArray) (h : s.size ≤ 1099511627776) : cachepotref3_Quote.f s = some (qB s) := if_pos h
theorem wQuote_f (s : ByteArray) (h : s.size ≤ 1099511627776) : word_Quote.f s = some (qB s) := if_pos h
theorem rd_at (l : List ByteArray) (i : Nat) (h : i < l.length) : rdOf ByteArray.empty l (i : Int) = l[i] := by
  unfold rdOf
  rw [show ((i : Nat) : Int).toNat = i by omega, List.getD_eq_getElem?_getD, List.getElem?_eq_getElem h]
  rfl
theorem wjoin_l0 (l : List ByteArray) (hl : l.length ≤ 1048576) (hm : ∀ x ∈ l, x.size ≤ 1048576) (hJ : (joinL l).length ≤ 1099511627776) : ∀ (d i k : Nat), l.length - i ≤ d → i ≤ l.length → d < k →
    word_Join.l0 k ((l.take i).map qB) l (l.length : Int) (i : Int) = some ⟨(joinL l).toArray⟩ := by
  have hjb : joinB (l.map qB) (⟨#[32]⟩ : ByteArray) = joinL l := by
    unfold joinB joinL
    rw [List.map_map]
    rfl
  have fin : ∀ (k i : Nat), i = l.length → word_Join.l0 (k + 1) ((l.take i).map qB) l (l.length : Int) (i : Int) = some ⟨(joinL l).toArray⟩ := by
    intro k i h
    rw [word_Join.l0, if_neg (by omega), h, List.take_length, strings_Join.f, if_pos (by rw [hjb, List.length_map]; exact ⟨by omega, hJ⟩), Option.bind_some, hjb]
  intro d
  induction d with
  | zero =>
    intro i k hd hi hk
    obtain ⟨k, rfl⟩ : ∃ j, k = j + 1 := ⟨k - 1, by omega⟩
    exact fin k i (by omega)
  | succ d ih =>
    intro i k hd hi hk
    obtain ⟨k, rfl⟩ : ∃ j, k = j + 1 := ⟨k - 1, by omega⟩
    by_cases h : i < l.length
    · have hx := hm _ (List.getElem_mem h)
      have hlen : ((l.take i).map qB).length ≤ i := by rw [List.length_map]; exact List.length_take_le _ _
      have e : (l.take i).map qB ++ [qB l[i]] = (l.take (i + 1)).map qB := by
        rw [List.take_succ_eq_append_getElem h, List.map_append]
        rfl
      rw [word_Join.l0, if_pos (by omega), if_pos (by omega), if_pos (by omega), rd_at l i h, wQuote_f _ (by omega), Option.bind_some, if_pos (by omega), wn1 i (by omega), e]
      exact ih (i + 1) k (by omega) (by omega) (by omega)
    · exact fin k i (by omega)
theorem wJoin_f (l : List ByteArray) (hl : l.length ≤ 1048576) (hm : ∀ x ∈ l, x.size ≤ 1048576) (hJ : (joinL l).length ≤ 1099511627776) (k : Nat) (hk : l.length < k) : word_Join.f k l = some ⟨(joinL l).toArray⟩ := by
  unfold word_Join.f
  exact wjoin_l0 l hl hm hJ l.length 0 k (by omega) (by omega) hk
end Go.Proofs.YtfaelejeihmgcaaDoor.Wd
end

section
namespace Go.Proofs.YtfaelejeihmgcaaDoor.Wd
open Go.RowKit Go.Proofs.YtfaelejeihmgcaaDoorW.PrintWords Go.Proofs.YtfaelejeihmgcaaDoorW.PrintLast Go.Proofs.YtfaelejeihmgcaaDoorW.PrintMore
theorem mayB_not (s : ByteArray) (i : Nat) (hi : i < s.size) (h : mayB s i = true) (c : UInt8) (h1 : c.toNat < 128) (h2 : mayR c.toNat 1 = false) : ¬ byteAt s i = c := by
  intro h3
  have e : byteAt s i = s[i] := get_lt s i hi
  rw [h3] at e
  have hd := decode_ascii s i hi (by rw [← e]; exact h1)
  unfold mayB at h
  rw [hd, ← e] at h
  rw [h] at h2
  cases h2
end Go.Proofs.YtfaelejeihmgcaaDoor.Wd
end

section
namespace Go.Proofs.YtfaelejeihmgcaaDoor.Wd
open Go.RowKit Go.Proofs.YtfaelejeihmgcaaDoorW.PrintWords Go.Proofs.YtfaelejeihmgcaaDoorW.PrintLast Go.Proofs.YtfaelejeihmgcaaDoorW.PrintMore
theorem at_of (s : ByteArray) (i : Nat) (c : UInt8) (h : s.data.toList[i]? = some c) : i < s.size ∧ byteAt s i = c := by
  obtain ⟨hlt, e⟩ := List.getElem?_eq_some_iff.1 h
  have h1 : i < s.size := by rw [Lib.size_eq]; exact hlt
  refine ⟨h1, ?_⟩
  unfold byteAt
  rw [get_lt s i h1]
  exact e
theorem bytesAt_get (x : ByteArray) (i n j : Nat) (hn : i + n ≤ x.size) (hj : j < n) : (bytesAt x i n)[j]? = some (byteAt x (i + j)) := by
  unfold bytesAt byteAt
  rw [List.getElem?_take_of_lt hj, List.getElem?_drop, get_lt x (i + j) (by omega), List.getElem?_eq_getElem (by rw [← Lib.size_eq]; omega)]
  rfl
theorem bytesAt_length (x : ByteArray) (i n : Nat) (hn : i + n ≤ x.size) : (bytesAt x i n).length = n := by
  unfold bytesAt
  rw [List.length_take, List.length_drop, ← Lib.size_eq]
  omega
/-- what stands at place p of s is the list l, and then the list r -/
def Lies (s : ByteArray) (p : Nat) (l r : List UInt8) : Prop := s.data.toList.drop p = l ++ r
theorem Lies.next {s : ByteArray} {p : Nat} {a b r : List UInt8} (h : Lies s p (a ++ b) r) : Lies s (p + a.length) b r := by
  unfold Lies at h ⊢
  rw [← List.drop_drop, h, List.append_assoc, List.drop_left]
theorem Lies.get {s : ByteArray} {p : Nat} {l r : List UInt8} (h : Lies s p l r) (j : Nat) (c : UInt8) (hj : l[j]? = some c) : p + j < s.size ∧ byteAt s (p + j) = c := by
  apply at_of
  unfold Lies at h
  rw [← List.getElem?_drop, h, List.getElem?_append_left (List.getElem?_eq_some_iff.1 hj).1]
  exact hj
theorem Lies.last {s : ByteArray} {p : Nat} {l r : List UInt8} (h : Lies s p l r) (hp : p ≤ s.size) : p + l.length + r.length = s.size := by
  unfold Lies at h
  have := congrArg List.length h
  rw [List.length_drop, List.length_append, ← Lib.size_eq] at this
  omega
theorem Lies.move {s : ByteArray} {p : Nat} {a b r : List UInt8} : Lies s p (a ++ b) r ↔ Lies s p a (b ++ r) := by unfold Lies; rw [List.append_assoc]
theorem Lies.bytes {s : ByteArray} {p : Nat} {l r : List UInt8} (h : Lies s p l r) : bytesAt s p l.length = l := by
  unfold bytesAt
  unfold Lies at h
  rw [h, List.take_left]
theorem decodeN_local (n n' b0 b1 b2 b3 c0 c1 c2 c3 : Nat) (hne : ¬ Lib.decodeN n b0 b1 b2 b3 = (65533, 1)) (hn : (Lib.decodeN n b0 b1 b2 b3).2 ≤ n') (h0 : c0 = b0)
    (h1 : 1 < (Lib.decodeN n b0 b1 b2 b3).2 → c1 = b1) (h2 : 2 < (Lib.decodeN n b0 b1 b2 b3).2 → c2 = b2) (h3 : 3 < (Lib.decodeN n b0 b1 b2 b3).2 → c3 = b3) :
    Lib.decodeN n' c0 c1 c2 c3 = Lib.decodeN n b0 b1 b2 b3 := by
  subst h0
  have key : ∀ R, Lib.decodeN n c0 b1 b2 b3 = R → ¬ R = (65533, 1) → R.2 ≤ n' → (1 < R.2 → c1 = b1) → (2 < R.2 → c2 = b2) → (3 < R.2 → c3 = b3) → Lib.decodeN n' c0 c1 c2 c3 = R := by
    intro R hR hne hn h1 h2 h3
    unfold Lib.decodeN at hR
    split at hR
    · subst hR
      unfold Lib.decodeN
      rw [if_pos (by assumption)]
    · split at hR
      · split at hR
        · subst hR
          have e1 := h1 (show 1 < 2 by decide)
          subst e1
          simp only at hn
          unfold Lib.decodeN
          rw [if_neg (by omega), if_pos (by omega), if_pos (by assumption)]
        · exact absurd hR.symm hne
      · split at hR
        · split at hR
          · subst hR
            have e1 := h1 (show 1 < 3 by decide)
            have e2 := h2 (show 2 < 3 by decide)
            subst e1; subst e2
            simp only at hn
            unfold Lib.decodeN
            rw [if_neg (by omega), if_neg (by omega), if_pos (by omega), if_pos (by assumption)]
          · exact absurd hR.symm hne
        · split at hR
          · split at hR
            · subst hR
              have e1 := h1 (show 1 < 4 by decide)
              have e2 := h2 (show 2 < 4 by decide)
              have e3 := h3 (show 3 < 4 by decide)
              subst e1; subst e2; subst e3
              simp only at hn
              unfold Lib.decodeN
              rw [if_neg (by omega), if_neg (by omega), if_neg (by omega), if_pos (by omega), if_pos (by assumption)]
            · exact absurd hR.symm hne
          · exact absurd hR.symm hne
  exact key _ rfl hne hn h1 h2 h3
theorem decode_local (x s : ByteArray) (i p : Nat) (hm : mayB x i = true) (hp : p + width x i ≤ s.size) (hb : ∀ j, j < width x i → byteAt s (p + j) = byteAt x (i + j)) : Utf8.decode s p = Utf8.decode x i := by
  have hne : ¬ Utf8.decode x i = (65533, 1) := by
    intro e
    unfold mayB at hm
    rw [e] at hm
    exact absurd hm (by decide)
  have hw := width_pos x i
  unfold width at hp hb hw
  rw [Lib.decode_at] at hp hb hw hne
  rw [Lib.decode_at, Lib.decode_at]
  refine decodeN_local _ _ _ _ _ _ _ _ _ _ hne (by omega) ?_ ?_ ?_ ?_
  · exact congrArg UInt8.toNat (hb 0 (by omega))
  · exact fun h => congrArg UInt8.toNat (hb 1 h)
  · exact fun h => congrArg UInt8.toNat (hb 2 h)
  · exact fun h => congrArg UInt8.toNat (hb 3 h)
theorem rune_same (x s : ByteArray) (i p : Nat) (r : List UInt8) (hi : i < x.size) (hm : mayB x i = true) (h : Lies s p (bytesAt x i (width x i)) r) : mayB s p = true ∧ width s p = width x i := by
  have hwl := width_le x i hi
  have hw := width_pos x i
  have e : Utf8.decode s p = Utf8.decode x i := by
    refine decode_local x s i p hm ?_ ?_
    · have := (h.get (width x i - 1) _ (bytesAt_get x i _ _ hwl (by omega))).1
      omega
    · intro j hj
      exact (h.get j _ (bytesAt_get x i _ _ hwl hj)).2
  unfold mayB width
  unfold mayB at hm
  rw [e]
  exact ⟨hm, rfl⟩
theorem mayB_ascii (s : ByteArray) (p : Nat) (hp : p < s.size) (c : UInt8) (h : byteAt s p = c) (h1 : c.toNat < 128) (h2 : mayR c.toNat 1 = false) : mayB s p = false := by
  cases hm : mayB s p with
  | false => rfl
  | true => exact absurd h (mayB_not s p hp hm c h1 h2)
theorem qstep (s : ByteArray) (p : Nat) (acc : List UInt8) (hp : p < s.size) : quotedFrom s s.size p acc =
    if mayB s p || byteAt s p == 32 then quotedFrom s s.size (p + width s p) (acc ++ bytesAt s p (width s p))
    else if byteAt s p = 34 then some (acc, p + 1)
    else if byteAt s p = 92 then
      match escB s (p + 1) with
      | some (c, n) => quotedFrom s s.size (p + 1 + n) (acc ++ [c])
      | none => none
    else none := by
  have hw := width_pos s p
  obtain ⟨m, hm⟩ : ∃ m, s.size = m + 1 := ⟨s.size - 1, by omega⟩
  have e : quotedFrom s s.size p acc = quotedFrom s (m + 1) p acc := by rw [hm]
  rw [e, quotedFrom, if_pos hp]
  rw [quotedFrom_fuel s m s.size (p + width s p) _ (by omega) (by omega)]
  cases hE : escB s (p + 1) with
  | none => rfl
  | some cn =>
    obtain ⟨c, n⟩ := cn
    simp only []
    rw [quotedFrom_fuel s m s.size (p + 1 + n) _ (by omega) (by omega)]
theorem hexV_hexD (n : Nat) (h : n < 16) : hexV (hexD n) = some n := by
  have : ∀ k : Fin 16, hexV (hexD k.val) = some k.val := by decide
  exact this ⟨n, h⟩
theorem hexD_notq (n : Nat) (h : n < 16) : ¬ hexD n = 34 ∧ ¬ hexD n = 92 := by
  have : ∀ k : Fin 16, ¬ hexD k.val = 34 ∧ ¬ hexD k.val = 92 := by decide
  exact this ⟨n, h⟩
theorem back_hex (s : ByteArray) : ∀ (bs : List UInt8) (p : Nat) (acc r : List UInt8), Lies s p (bs.flatMap hexQ) r → quotedFrom s s.size p acc = quotedFrom s s.size (p + (bs.flatMap hexQ).length) (acc ++ bs) := by
  intro bs
  induction bs with
  | nil => intro p acc r h; simp
  | cons c bs ih =>
    intro p acc r h
    have hc := c.toNat_lt
    rw [List.flatMap_cons] at h
    have h0 := h.get 0 92 rfl
    have h1 := h.get 1 (hexD (c.toNat / 16)) rfl
    have h2 := h.get 2 (hexD (c.toNat % 16)) rfl
    rw [Nat.add_zero] at h0
    have hE : escB s (p + 1) = some (c, 2) := by
      have hq := hexD_notq (c.toNat / 16) (by omega)
      rw [escB, if_neg (by rw [h1.2]; exact fun hh => hh.2.elim hq.1 hq.2), if_pos h2.1, h1.2, show p + 1 + 1 = p + 2 from rfl, h2.2, hexV_hexD _ (by omega), hexV_hexD _ (by omega), esc2]
      congr 2
      apply UInt8.toNat_inj.1
      simp
      omega
    have hm := mayB_ascii s p h0.1 92 h0.2 (by decide) (by decide)
    have h3 : Lies s (p + 3) (bs.flatMap hexQ) r := h.next
    rw [qstep s p acc h0.1, hm, if_neg (by rw [h0.2]; decide), if_neg (by rw [h0.2]; decide), if_pos h0.2, hE]
    simp only []
    rw [show p + 1 + 2 = p + 3 from rfl, ih (p + 3) (acc ++ [c]) r h3, List.flatMap_cons, List.length_append]
    congr 1
    · show p + 3 + _ = p + (3 + _)
      omega
    · simp
theorem back_quoted (x s : ByteArray) : ∀ (f i p : Nat) (acc r : List UInt8), x.size ≤ i + f → Lies s p (quoteFrom x f i ++ [34]) r →
    quotedFrom s s.size p acc = some (acc ++ x.data.toList.drop i, p + (quoteFrom x f i).length + 1) := by
  have fin : ∀ (f i p : Nat) (acc r : List UInt8), ¬ i < x.size → Lies s p (quoteFrom x f i ++ [34]) r → quotedFrom s s.size p acc = some (acc ++ x.data.toList.drop i, p + (quoteFrom x f i).length + 1) := by
    intro f i p acc r hi h
    rw [quoteFrom_endI x f i hi] at h ⊢
    have h0 := h.get 0 34 rfl
    rw [Nat.add_zero] at h0
    have hm := mayB_ascii s p h0.1 34 h0.2 (by decide) (by decide)
    rw [qstep s p acc h0.1, hm, if_neg (by rw [h0.2]; decide), if_pos h0.2, List.drop_eq_nil_of_le (by rw [← Lib.size_eq]; omega)]
    simp
  intro f
  induction f with
  | zero => intro i p acc r hf h; exact fin 0 i p acc r (by omega) h
  | succ f ih =>
    intro i p acc r hf h
    by_cases hi : i < x.size
    · have hw := width_pos x i
      have hwl := width_le x i hi
      have hd : x.data.toList.drop i = bytesAt x i (width x i) ++ x.data.toList.drop (i + width x i) := by
        unfold bytesAt
        rw [← List.drop_drop, List.take_append_drop]
      rw [quoteFrom, if_pos hi, List.append_assoc] at h
      have h2 := h.next
      have hgo : ∀ acc', quotedFrom s s.size (p + (quote1 x i).length) acc' = some (acc' ++ x.data.toList.drop (i + width x i), p + (quote1 x i).length + (quoteFrom x f (i + width x i)).length + 1) := fun acc' => ih (i + width x i) _ acc' r (by omega) h2
      rw [quoteFrom, if_pos hi, List.length_append, hd, ← Nat.add_assoc, ← List.append_assoc]
      rw [Lies.move] at h
      clear h2
      -- what the escape says is the rune's bytes
      suffices hs : quotedFrom s s.size p acc = quotedFrom s s.size (p + (quote1 x i).length) (acc ++ bytesAt x i (width x i)) by
        rw [hs, hgo]
      by_cases hmb : mayB x i = true
      · have hq : quote1 x i = bytesAt x i (width x i) := by rw [quote1, hmb]; rfl
        rw [hq] at h ⊢
        obtain ⟨g1, g2⟩ := rune_same x s i p _ hi hmb h
        have hbs := h.bytes
        have hl := bytesAt_length x i (width x i) hwl
        rw [hl] at hbs ⊢
        have h0 := (h.get 0 _ (bytesAt_get x i _ 0 hwl (by omega))).1
        rw [qstep s p acc (by omega), g1, if_pos (by rw [Bool.true_or]), g2, hbs]
      · have hmf : mayB x i = false := by simpa using hmb
        by_cases h32 : byteAt x i = 32
        · have hw1 := width_ascii x i hi 32 h32 (by decide)
          have hq : quote1 x i = [32] := by rw [quote1, hmf, h32, if_pos (by decide), hw1, byte_ex x i hi, h32]
          rw [hq] at h ⊢
          have h0 := h.get 0 32 rfl
          rw [Nat.add_zero] at h0
          have hws := width_ascii s p h0.1 32 h0.2 (by decide)
          rw [qstep s p acc h0.1, if_pos (by rw [h0.2]; simp), hws, byte_ex s p h0.1, h0.2, hw1, byte_ex x i hi, h32]
          rfl
        · by_cases hqq : byteAt x i = 34 ∨ byteAt x i = 92
          · have hw1 : width x i = 1 := by
              rcases hqq with e | e
              · exact width_ascii x i hi 34 e (by decide)
              · exact width_ascii x i hi 92 e (by decide)
            have hq : quote1 x i = [92, byteAt x i] := by
              rcases hqq with e | e <;> (rw [quote1, hmf, e]; rfl)
            rw [hq] at h ⊢
            have h0 := h.get 0 92 rfl
            have h1 := h.get 1 (byteAt x i) rfl
            rw [Nat.add_zero] at h0
            have hm := mayB_ascii s p h0.1 92 h0.2 (by decide) (by decide)
            have hE : escB s (p + 1) = some (byteAt x i, 1) := by rw [escB, if_pos ⟨h1.1, by rw [h1.2]; exact hqq⟩, h1.2]
            rw [qstep s p acc h0.1, hm, if_neg (by rw [h0.2]; decide), if_neg (by rw [h0.2]; decide), if_pos h0.2, hE, hw1, byte_ex x i hi]
            rfl
          · have n34 : ¬ byteAt x i = 34 := fun e => hqq (.inl e)
            have n92 : ¬ byteAt x i = 92 := fun e => hqq (.inr e)
            have hq : quote1 x i = (bytesAt x i (width x i)).flatMap hexQ := by
              rw [quote1, hmf, if_neg (by simpa using h32), if_neg (by simp [n34, n92])]
            rw [hq] at h ⊢
            exact back_hex s _ p acc _ h
    · exact fin (f + 1) i p acc r hi h
theorem back_plain (x s : ByteArray) (p : Nat) (r : List UInt8) (hr : r = [] ∨ ∃ r', r = 32 :: r') (hp : p ≤ s.size) (h : Lies s p x.data.toList r) : ∀ (f i g : Nat), i ≤ x.size → x.size ≤ i + f → s.size ≤ p + i + g → plainFrom x f i = true → runPlain s g (p + i) = p + x.size := by
  have hlast := h.last hp
  rw [← Lib.size_eq] at hlast
  have stop : ∀ g, runPlain s g (p + x.size) = p + x.size := by
    intro g
    cases g with
    | zero => rfl
    | succ g =>
      rw [runPlain]
      rcases hr with rfl | ⟨r', rfl⟩
      · rw [if_neg (by simp at hlast; omega)]
      · have h1 : Lies s p (x.data.toList ++ [32]) r' := by rw [Lies.move]; exact h
        have h0 := h1.next.get 0 32 rfl
        rw [Nat.add_zero, ← Lib.size_eq] at h0
        rw [if_pos h0.1, mayB_ascii s _ h0.1 32 h0.2 (by decide) (by decide), if_neg (by decide)]
  intro f
  induction f with
  | zero =>
    intro i g hi hf hg _
    obtain rfl : i = x.size := by omega
    exact stop g
  | succ f ih =>
    intro i g hi hf hg hpl
    by_cases hlt : i < x.size
    · have hw := width_pos x i
      have hwl := width_le x i hlt
      rw [plainFrom, if_pos hlt, Bool.and_eq_true] at hpl
      have hd : x.data.toList = x.data.toList.take i ++ (bytesAt x i (width x i) ++ x.data.toList.drop (i + width x i)) := by
        unfold bytesAt
        rw [← List.drop_drop, List.take_append_drop, List.take_append_drop]
      have h1 := h
      rw [hd] at h1
      have h2 := h1.next
      have hti : (x.data.toList.take i).length = i := by rw [List.length_take, ← Lib.size_eq]; omega
      rw [hti, Lies.move] at h2
      obtain ⟨g1, g2⟩ := rune_same x s i (p + i) _ hlt hpl.1 h2
      have h0 := (h2.get 0 _ (bytesAt_get x i _ 0 hwl (by omega))).1
      obtain ⟨g, rfl⟩ : ∃ m, g = m + 1 := ⟨g - 1, by omega⟩
      rw [runPlain, if_pos (by omega), g1, if_pos rfl, g2, Nat.add_assoc]
      exact ih (i + width x i) g hwl (by omega) (by omega) hpl.2
    · obtain rfl : i = x.size := by omega
      exact stop g
theorem back_first (x s : ByteArray) (p : Nat) (r : List UInt8) (hr : r = [] ∨ ∃ r', r = 32 :: r') (hp : p ≤ s.size) (h : Lies s p (quoteB x) r) : firstAt s p = some (x, p + (quoteB x).length) := by
  unfold quoteB at h ⊢
  cases hpl : plainB x with
  | false =>
    rw [hpl, if_neg (by decide)] at h
    rw [if_neg (by decide)]
    have h0 := h.get 0 34 rfl
    rw [Nat.add_zero] at h0
    have h1 : Lies s (p + 1) (quoteFrom x x.size 0 ++ [34]) r := by
      have := Lies.next (a := [34]) (b := quoteFrom x x.size 0 ++ [34]) h
      exact this
    have hb := back_quoted x s x.size 0 (p + 1) [] r (by omega) h1
    rw [firstAt, if_pos h0, hb]
    simp only [List.nil_append, List.drop_zero, List.length_cons, List.length_append, List.length_nil]
    have e : (⟨x.data.toList.toArray⟩ : ByteArray) = x := ba_ext rfl
    rw [e]
    congr 2
    omega
  | true =>
    rw [hpl, if_pos rfl] at h
    rw [if_pos rfl]
    have hpl2 := hpl
    unfold plainB at hpl2
    rw [Bool.and_eq_true, decide_eq_true_eq] at hpl2
    have hrun := back_plain x s p r hr hp h x.size 0 s.size (by omega) (by omega) (by omega) hpl2.1
    rw [Nat.add_zero] at hrun
    have hlen : x.data.toList.length = x.size := (Lib.size_eq x).symm
    have hx0 : 0 < x.size := by omega
    have hpf := hpl2.1
    obtain ⟨m, hm⟩ : ∃ m, x.size = m + 1 := ⟨x.size - 1, by omega⟩
    rw [hm, plainFrom, if_pos hx0, Bool.and_eq_true] at hpf
    have hb0 : byteAt s p = byteAt x 0 := by
      have h3 := (h.get 0 (byteAt x 0) (by
        have e : byteAt x 0 = x[0] := get_lt x 0 hx0
        rw [e]
        exact List.getElem?_eq_getElem (by rw [hlen]; exact hx0))).2
      exact h3
    have n34 := (mayB_bytes x 0 hx0 hpf.1).1
    have hbs := h.bytes
    rw [firstAt, if_neg (by rw [hb0]; exact fun hh => n34 hh.2), hrun, if_neg (by omega), hlen]
    congr 2
    apply ba_ext
    rw [extract_bytes, ← hlen]
    exact hbs
theorem back_split (s : ByteArray) : ∀ (l : List ByteArray) (x : ByteArray) (f p : Nat) (acc : List ByteArray), p ≤ s.size → s.size < p + f → Lies s p (joinL (x :: l)) [] → splitFrom s f p acc = some (acc ++ (x :: l)) := by
  intro l
  induction l with
  | nil =>
    intro x f p acc hp hf h
    obtain ⟨f, rfl⟩ : ∃ m, f = m + 1 := ⟨f - 1, by omega⟩
    rw [joinL_cons, tailB_nil, List.append_nil] at h
    have hlast := h.last hp
    rw [splitFrom, back_first x s p [] (.inl rfl) hp h]
    simp only []
    rw [if_pos (by simpa using hlast)]
  | cons y l ih =>
    intro x f p acc hp hf h
    obtain ⟨f, rfl⟩ : ∃ m, f = m + 1 := ⟨f - 1, by omega⟩
    rw [joinL_cons, tailB_cons, ← joinL_cons, ← List.append_nil (quoteB x ++ 32 :: joinL (y :: l))] at h
    have h1 : Lies s p (quoteB x) (32 :: joinL (y :: l)) := by
      rw [List.append_nil, Lies.move, List.append_nil] at h
      exact h
    have h2 : Lies s (p + (quoteB x).length) (32 :: joinL (y :: l)) [] := by
      rw [List.append_nil] at h
      exact h.next
    have h3 : Lies s (p + (quoteB x).length + 1) (joinL (y :: l)) [] := Lies.next (a := [32]) (b := joinL (y :: l)) h2
    have h0 := h2.get 0 32 rfl
    rw [Nat.add_zero] at h0
    rw [splitFrom, back_first x s p _ (.inr ⟨_, rfl⟩) hp h1]
    simp only []
    rw [if_neg (by omega), if_pos h0.2, ih y f _ _ (by omega) (by omega) h3]
    simp
theorem joinL_pos (x : ByteArray) (l : List ByteArray) : 0 < (joinL (x :: l)).length := by
  rw [joinL_cons, List.length_append]
  have : 0 < (quoteB x).length := by
    unfold quoteB
    cases hpl : plainB x with
    | false => simp
    | true =>
      unfold plainB at hpl
      rw [Bool.and_eq_true, decide_eq_true_eq] at hpl
      rw [if_pos rfl, ← Lib.size_eq]
      omega
  omega
/-- what a joined line splits into -/
theorem split_join (l : List ByteArray) (hJ : (joinL l).length ≤ 1099511627776) (k : Nat) (hk : 2 * (joinL l).length + 1 < k) : word_Split.f k ⟨(joinL l).toArray⟩ = some (l, 0) := by
  have hz : (⟨(joinL l).toArray⟩ : ByteArray).size = (joinL l).length := by rw [Lib.size_eq]
  rw [word_Split_f _ (by omega) k (by omega)]
  cases l with
  | nil => rw [if_pos (by rw [hz, joinL_nil]; rfl)]
  | cons x l =>
    have hp := joinL_pos x l
    rw [if_neg (by omega), back_split _ l x _ 0 [] (by omega) (by omega) (by unfold Lies; simp)]
    rfl
end Go.Proofs.YtfaelejeihmgcaaDoor.Wd
end

section
namespace Go.Proofs.YtfaelejeihmgcaaDoor.Stp
open Go.RowKit Go.Proofs.YtfaelejeihmgcaaDoorW.PrintWords
theorem name_out (k : Int) (h : ¬ (0 ≤ k ∧ k ≤ 15)) : step_name.f k = some (⟨#[]⟩, ⟨#[]⟩) := by
  unfold step_name.f
  rw [if_neg (by omega), if_neg (by omega), if_neg (by omega), if_neg (by omega), if_neg (by omega), if_neg (by omega), if_neg (by omega), if_neg (by omega), if_neg (by omega), if_neg (by omega), if_neg (by omega), if_neg (by omega), if_neg (by omega), if_neg (by omega)]
theorem name_any (k : Int) : step_name.f k = some (nameT k) := by
  by_cases h : 0 ≤ k ∧ k ≤ 15
  · obtain ⟨n, rfl⟩ : ∃ n : Nat, k = n := ⟨k.toNat, by omega⟩
    exact name_f n (by omega)
  · unfold nameT
    rw [name_out k h]
    rfl
def getNum (o : OpV) (c : Int) : Int := if c = 115 then o.s else if c = 110 then o.n else if c = 112 then o.page else if c = 97 then o.at_ else o.x
def maskW : List Int → List ByteArray → Option (List ByteArray)
  | [], acc => some acc
  | v :: vs, acc => if fitsB 77 v = true then maskW vs (acc ++ [itoaB v]) else none
def printF : List UInt8 → OpV → List ByteArray → Option (List ByteArray)
  | [], _, acc => some acc
  | c :: cs, o, acc => if (c.toNat : Int) = 107 then printF cs o (acc ++ [o.key]) else if (c.toNat : Int) = 118 then printF cs o (acc ++ [o.val]) else if (c.toNat : Int) = 75 then printF cs o (acc ++ o.keys)
    else if (c.toNat : Int) = 77 then (maskW o.mask acc).bind (printF cs o)
    else if fitsB (c.toNat : Int) (getNum o (c.toNat : Int)) = true then printF cs o (acc ++ [itoaB (getNum o (c.toNat : Int))]) else none
def printW (o : OpV) : Option (List ByteArray) := if (nameT o.kind).1.toList = [] then none else printF (nameT o.kind).2.data.toList o [(nameT o.kind).1]
def lineOf (l : List ByteArray) : ByteArray := ⟨(Wd.joinL l).toArray⟩
def printR : Option (List ByteArray) → ByteArray × Int
  | some l => (lineOf l, 0)
  | none => (⟨#[]⟩, 2)
def printT (o : OpV) : ByteArray × Int := printR (printW o)
theorem fits_range (c v : Int) (h : fitsB c v = true) : -1000000 ≤ v ∧ v ≤ 1000000 := by
  unfold fitsB at h
  split at h <;> simp at h <;> omega
theorem itoa_ok (c v : Int) (h : fitsB c v = true) : strconv_Itoa.f v = some (itoaB v) := by
  have := fits_range c v h
  unfold strconv_Itoa.f
  rw [if_pos (by omega)]
/-- lists that both Join take -/
structure Joins (l : List ByteArray) : Prop where
  n : l.length ≤ 1048576
  s : ∀ x ∈ l, x.size ≤ 1048576
  j : (Wd.joinL l).length ≤ 1099511627776
theorem name_len (k : Int) : (nameT k).2.size ≤ 100 := by
  by_cases h : 0 ≤ k ∧ k ≤ 15
  · obtain ⟨n, rfl⟩ : ∃ n : Nat, k = n := ⟨k.toNat, by omega⟩
    exact name_size n (by omega)
  · unfold nameT
    rw [name_out k h]
    decide
end Go.Proofs.YtfaelejeihmgcaaDoor.Stp
end

section
namespace Go.Proofs.YtfaelejeihmgcaaDoor.Stp
open Go.RowKit Go.Proofs.YtfaelejeihmgcaaDoorW.PrintWords Go.Proofs.YtfaelejeihmgcaaDoorW.PrintLast
/-- what stands behind a printing -/
def Printed (w : World) (r : ByteArray × Int) (e : Ending) (w' : World) : Prop := e = .returned (.tuple #[.string r.1, .int .i64 r.2]) ∧ Below w.heap.size w w'
theorem num_cell {W : World} {g : Nat} {o : OpV} {vk vm : Value} (h : W.heap[g]? = some (.cells #[.int .i64 o.kind, .int .i64 o.s, .string o.key, .string o.val, vk, .int .i64 o.n, vm, .int .i64 o.page, .int .i64 o.at_, .int .i64 o.x] 61)) (c : Int) : W.cell? ⟨g, offN c, none⟩ = some (.int .i64 (getNum o c)) := by
  obtain ⟨_, r1, _, _, _, r5, _, r7, r8, r9⟩ := cells10 h
  unfold offN getNum
  repeat' split
  all_goals assumption
set_option maxHeartbeats 16000000 in
set_option maxRecDepth 100000 in
theorem step_Print_walk (o : OpV) (Ak : Option Addr) (ck : Nat) (Am : Option Addr) (cm : Nat) (w : World) (hl : OpL w o Ak ck Am cm) (hT : Tabs w) (hk : o.keys.length ≤ 1000) (hm : o.mask.length ≤ 1000) (hj : ∀ l, printW o = some l → Joins l) :
    Calls Tryd.prog 47 #[.agg #[.int .i64 o.kind, .int .i64 o.s, .string o.key, .string o.val, .slice Ak o.keys.length ck, .int .i64 o.n, .slice Am o.mask.length cm, .int .i64 o.page, .int .i64 o.at_, .int .i64 o.x]] w (Printed w (printT o)) := by
  obtain ⟨P, hP⟩ : ∃ P, P = printW o := ⟨_, rfl⟩
  have hR : printT o = printR P := by rw [hP]; rfl
  rw [hR]
  rw [← hP] at hj
  have HP := Lib.hid hP
  have HJ := Lib.hid hj
  have hO1 := OpAt.alloc hl
  have hb1 := below_alloc (Below.refl _ w) (opO o Ak ck Am cm)
  have hcu := hl.k
  have hCm := hl.m
  have Hl := Lib.hid hl
  have hlt1 : w.heap.size < (w.alloc (opO o Ak ck Am cm)).heap.size := by simp
  have hz1 := hO1.1
  clear hP hR hj hO1 hl hcu hCm
  go_enter Tryd.func47, Tryd.ntmps47
  go_wp2_with fail
  change Calls Tryd.prog 81 _ (w.alloc (opO o Ak ck Am cm)) _
  generalize w.alloc (opO o Ak ck Am cm) = w1 at hz1 hb1 hlt1 ⊢
  obtain ⟨⟨nw, nf⟩, hn⟩ : ∃ r, nameT o.kind = r := ⟨_, rfl⟩
  have hnm := fun W => step_name.calls o.kind nw nf W (by rw [name_any, hn])
  have hP := HP.out
  have hns := name_len o.kind
  rw [printW, hn] at hP
  rw [hn] at hns
  simp only at hP hns
  replace HP := Lib.hid hP
  clear hP hn
  refine (hnm _).mono ?_
  rintro en w2 ⟨rfl, hd⟩
  have hb2 := below_then hb1 hb1.size hd.below
  have hz2 := (hd.below.block w.heap.size hlt1).trans hz1
  clear hnm hd hz1 hb1
  by_cases hne : nw.toList = []
  · have hP : P = none := by rw [HP.out, if_pos hne]
    subst hP
    have t1 : nw.toList.isEmpty = true := by rw [hne]; rfl
    clear HP HJ
    go_wp2
    go_ret2
    exact ⟨rfl, hb2⟩
  · have hP := HP.out
    rw [if_neg hne] at hP
    replace HP := Lib.hid hP
    have t1 : nw.toList.isEmpty = false := by
      cases h : nw.toList with
      | nil => exact absurd h hne
      | cons a b => rfl
    clear hP hne
    go_wp2_with ((with_reducible refine gate_dst (N := 21) rfl ?_); refine Kd.R_lit Kd.string w.heap.size 9 (w0 := w) ?hg (N := 21) ?hd (xs := [nw]) (inner := [.string nw]) (ok := fun _ => True) (okp := fun _ => True) ?hr ?hp (fun _ hk => hk) trivial hb2 hb2.size (by simp) ?_; (case hd => rfl); (case hg => rfl); (case hr => first | (go_simp; done) | (go_simp; rfl)); (case hp => exact (Reps.one (show Kd.M Kd.string _ _ _ nw [.string nw] from rfl) (Reps.none _ _))))
    intro v0 w3 hR0 hb3 hg3 bb hbb hble
    have hz3 := (hg3.block w.heap.size (blk_lt hz2) (by simp)).trans hz2
    clear hg3 hbb hble hb2 hz2
    go_wp2_with fail
    go_loopw [6, 24] (fun v i wr => ∃ (j : Nat) (acc : List ByteArray), j ≤ nf.size ∧ i = .int .i64 j ∧ Kd.R Kd.string 9 wr w.heap.size (fun _ => True) v acc ∧ Below w.heap.size w wr ∧ wr.heap[w.heap.size]? = some (.cells #[.int .i64 o.kind, .int .i64 o.s, .string o.key, .string o.val, .slice Ak o.keys.length ck, .int .i64 o.n, .slice Am o.mask.length cm, .int .i64 o.page, .int .i64 o.at_, .int .i64 o.x] 61) ∧ acc.length ≤ 2000 * (j + 1) ∧ Aside0 (P = printF (nf.data.toList.drop j) o acc)) (fun _ i _ => nf.size - (intOf i).toNat)
    case atStart => exact ⟨0, [nw], Nat.zero_le _, rfl, hR0, hb3, hz3, by simp, ⟨by rw [List.drop_zero]; exact HP.out⟩⟩
    case round =>
      clear HP hR0 hb3 hz3
      obtain ⟨j, acc, hjl, rfl, hRa, hbr, hzr, hlen, hq⟩ := hrel
      obtain ⟨Aa, ca, ea⟩ := Kd.R_slice hRa
      subst ea
      by_cases hlt : j < nf.size
      · have hdj : nf.data.toList.drop j = nf[j] :: nf.data.toList.drop (j + 1) := List.drop_eq_getElem_cons (by rw [← Lib.size_eq]; exact hlt)
        have hqs := hq.out
        rw [hdj, printF] at hqs
        obtain ⟨fc, hfc⟩ : ∃ fc : Int, (nf[j].toNat : Int) = fc := ⟨_, rfl⟩
        have hix : ∀ W, (Instr.index 9 (.string nf) (.int .i64 (j : Int))).run Tryd.prog W = .ok (.int .u8 fc) W := fun W => by rw [← hfc]; go_simp
        rw [hfc] at hqs
        have Hqs := Lib.hid hqs
        have hne : some w.heap.size ≠ (Value.slice Aa acc.length ca).ownBlock := Kd.R_ne hRa hzr (by decide)
        have hlen1 : (acc.length + 1) * 16 ≤ 140737488355328 := by omega
        clear hdj hqs hq hfc
        by_cases h107 : fc = 107
        · subst h107
          have hqs := Hqs.out
          rw [if_pos rfl] at hqs
          have Hq2 := Lib.hid hqs
          have r2 : wr.cell? ⟨w.heap.size, 2, none⟩ = some (.string o.key) := Lib.cell_of_heap hzr 2
          clear hqs Hqs
          go_wp2_with (at_builtin; refine Kd.R_append Kd.string (w0 := w) w.heap.size rfl (.tmp 46) (.tmp 49) 22 9 (.string ⟨#[]⟩) 16 rfl Tryd.underlying22 info9 rfl (by decide) (by decide) (.slice Aa acc.length ca) acc o.key [.string o.key] (fun _ => True) (fun _ => False) rfl (by first | (go_simp; done) | (go_simp; rfl)) rfl (fun _ hk => hk.elim) (fun _ _ => trivial) hRa hbr hbr.size hlen1 ?_)
          intro v1 w4 hR4 hb4 hg4 _
          have hz4 := (hg4.block w.heap.size (blk_lt hzr) hne).trans hzr
          clear r2 hg4 hne hzr hRa hbr
          go_wp2
          go_roundw
          case rel => exact ⟨j + 1, acc ++ [o.key], hlt, by simp, hR4, hb4, hz4, by rw [List.length_append]; simp; omega, ⟨Hq2.out⟩⟩
          case measure => simp [intOf]; omega
        have hqs := Hqs.out
        rw [if_neg h107] at hqs
        replace Hqs := Lib.hid hqs
        have t107 : (fc == 107) = false := beq_eq_false_iff_ne.2 h107
        clear hqs
        by_cases h118 : fc = 118
        · subst h118
          have hqs := Hqs.out
          rw [if_pos rfl] at hqs
          have Hq2 := Lib.hid hqs
          have r3 : wr.cell? ⟨w.heap.size, 3, none⟩ = some (.string o.val) := Lib.cell_of_heap hzr 3
          clear hqs Hqs
          go_wp2_with (at_builtin; refine Kd.R_append Kd.string (w0 := w) w.heap.size rfl (.tmp 53) (.tmp 56) 22 9 (.string ⟨#[]⟩) 16 rfl Tryd.underlying22 info9 rfl (by decide) (by decide) (.slice Aa acc.length ca) acc o.val [.string o.val] (fun _ => True) (fun _ => False) rfl (by first | (go_simp; done) | (go_simp; rfl)) rfl (fun _ hk => hk.elim) (fun _ _ => trivial) hRa hbr hbr.size hlen1 ?_)
          intro v1 w4 hR4 hb4 hg4 _
          have hz4 := (hg4.block w.heap.size (blk_lt hzr) hne).trans hzr
          clear r3 hg4 hne hzr hRa hbr
          go_wp2
          go_roundw
          case rel => exact ⟨j + 1, acc ++ [o.val], hlt, by simp, hR4, hb4, hz4, by rw [List.length_append]; simp; omega, ⟨Hq2.out⟩⟩
          case measure => simp [intOf]; omega
        have hqs := Hqs.out
        rw [if_neg h118] at hqs
        replace Hqs := Lib.hid hqs
        have t118 : (fc == 118) = false := beq_eq_false_iff_ne.2 h118
        clear hqs
        by_cases h75 : fc = 75
        · subst h75
          have hqs := Hqs.out
          rw [if_pos rfl] at hqs
          have Hq2 := Lib.hid hqs
          have r4 : wr.cell? ⟨w.heap.size, 4, none⟩ = some (.slice Ak o.keys.length ck) := Lib.cell_of_heap hzr 4
          have hC := Kd.C_below Hl.out.k hbr
          have hKM : ∀ (x : ByteArray) (cs : List Value), Kd.string.K wr x cs → Kd.string.M wr w.heap.size (fun _ => False) x cs := fun x cs h => h
          have hlen2 : (acc.length + o.keys.length) * 16 ≤ 140737488355328 := by omega
          clear hqs Hqs hlen1
          go_wp2_with (at_builtin; refine Kd.R_append_rows Kd.string (Rr := Kd.string.K wr) (w0 := w) w.heap.size rfl (.tmp 60) (.tmp 62) 22 9 (.string ⟨#[]⟩) 16 rfl Tryd.underlying22 info9 rfl (by decide) (by decide) (.slice Aa acc.length ca) acc o.keys Ak o.keys.length ck (fun _ => True) (fun _ => False) rfl rfl hRa hC hKM (fun _ h => h.elim) (fun _ _ => trivial) hbr hbr.size hlen2 ?_)
          intro v1 w4 hR4 hb4 hg4 _
          have hz4 := (hg4.block w.heap.size (blk_lt hzr) hne).trans hzr
          clear r4 hg4 hne hzr hRa hbr hC hKM hlen2
          go_wp2
          go_roundw
          case rel => exact ⟨j + 1, acc ++ o.keys, hlt, by simp, hR4, hb4, hz4, by rw [List.length_append]; omega, ⟨Hq2.out⟩⟩
          case measure => simp [intOf]; omega
        have hqs := Hqs.out
        rw [if_neg h75] at hqs
        replace Hqs := Lib.hid hqs
        have t75 : (fc == 75) = false := beq_eq_false_iff_ne.2 h75
        clear hqs
        by_cases h77 : fc = 77
        · subst h77
          have hqs := Hqs.out
          rw [if_pos rfl] at hqs
          have Hq2 := Lib.hid hqs
          have r6 : wr.cell? ⟨w.heap.size, 6, none⟩ = some (.slice Am o.mask.length cm) := Lib.cell_of_heap hzr 6
          clear hqs Hqs hne hlen1
          go_wp2_with fail
          go_loopw [6, 69] (fun v i wi => ∃ (q : Nat) (a2 : List ByteArray), q ≤ o.mask.length ∧ i = .int .i64 q ∧ Kd.R Kd.string 9 wi w.heap.size (fun _ => True) v a2 ∧ Below w.heap.size w wi ∧ wi.heap[w.heap.size]? = some (.cells #[.int .i64 o.kind, .int .i64 o.s, .string o.key, .string o.val, .slice Ak o.keys.length ck, .int .i64 o.n, .slice Am o.mask.length cm, .int .i64 o.page, .int .i64 o.at_, .int .i64 o.x] 61) ∧ a2.length ≤ acc.length + q ∧ Aside0 (maskW o.mask acc = maskW (o.mask.drop q) a2)) (fun _ i _ => o.mask.length - (intOf i).toNat)
          case atStart => exact ⟨0, acc, Nat.zero_le _, rfl, hRa, hbr, hzr, Nat.le_refl _, ⟨by rw [List.drop_zero]⟩⟩
          case round =>
            clear r6 hRa hbr hzr
            obtain ⟨q, a2, hql, rfl, hRi, hbi, hzi, hl2, hm2⟩ := hrel
            obtain ⟨Ai, ci, ei⟩ := Kd.R_slice hRi
            subst ei
            by_cases hlq : q < o.mask.length
            · obtain ⟨adw, ew, c0⟩ := Kd.at_int (Kd.C_below Hl.out.m hbi) q (by omega) (by omega)
              obtain ⟨v, hv⟩ : ∃ v, o.mask[q] = v := ⟨_, rfl⟩
              have hrd : rd o.mask (q : Int) = v := by rw [← hv]; simp [rd, List.getD_eq_getElem?_getD, List.getElem?_eq_getElem hlq]
              rw [hrd] at c0
              simp only [Int.toNat_natCast] at c0
              have hsn := hm2.out
              rw [List.drop_eq_getElem_cons hlq, maskW, hv] at hsn
              obtain ⟨fb, hfb⟩ : ∃ fb, fitsB 77 v = fb := ⟨_, rfl⟩
              rw [hfb] at hsn
              have hit := fun W (hf : fb = true) (h : Tabs W) => strconv_Itoa.calls v (itoaB v) W (itoa_ok 77 v (hfb.trans hf)) h
              have hft := fun W => step_fits.calls 77 v fb W (by rw [fits_f, hfb])
              have Hsn := Lib.hid hsn
              clear hsn hm2 hv hrd hfb
              subst ew
              go_wp2_with fail
              refine (hft _).mono ?_
              rintro e w4 ⟨rfl, hd⟩
              have hR4 := Kd.R_below hRi hd.below
              have hz4 := (hd.below.block w.heap.size (blk_lt hzi)).trans hzi
              have hb4 := below_then hbi hbi.size hd.below
              clear hft hd c0 hzi hbi hRi
              cases fb
              · have hqs := Hq2.out
                rw [Hsn.out, if_neg (by decide)] at hqs
                have hqs2 : P = none := hqs
                subst hqs2
                clear Hq2 hit hqs Hsn
                go_wp2
                go_ret2
                exact ⟨rfl, hb4⟩
              · have hsn := Hsn.out
                rw [if_pos rfl] at hsn
                have Hs2 := Lib.hid hsn
                have hit2 := hit w4 rfl (hT.below hb4)
                clear hsn Hsn hit
                go_wp2_with fail
                refine hit2.mono ?_
                rintro e w5 ⟨rfl, hb⟩
                have hR5 := Kd.R_below hR4 hb
                have hz5 := (hb.block w.heap.size (blk_lt hz4)).trans hz4
                have hb5 := below_then hb4 hb4.size hb
                have hne : some w.heap.size ≠ (Value.slice Ai a2.length ci).ownBlock := Kd.R_ne hR5 hz5 (by decide)
                have hlen1 : (a2.length + 1) * 16 ≤ 140737488355328 := by omega
                clear hit2 hb hR4 hz4 hb4
                go_wp2_with (at_builtin; refine Kd.R_append Kd.string (w0 := w) w.heap.size rfl (.tmp 77) (.tmp 80) 22 9 (.string ⟨#[]⟩) 16 rfl Tryd.underlying22 info9 rfl (by decide) (by decide) (.slice Ai a2.length ci) a2 (itoaB v) [.string (itoaB v)] (fun _ => True) (fun _ => False) rfl (by first | (go_simp; done) | (go_simp; rfl)) rfl (fun _ hk => hk.elim) (fun _ _ => trivial) hR5 hb5 hb5.size hlen1 ?_)
                intro v1 w6 hR6 hb6 hg6 _
                have hz6 := (hg6.block w.heap.size (blk_lt hz5) hne).trans hz5
                clear hg6 hne hz5 hR5 hb5 hlen1
                go_wp2
                go_roundw
                case rel => exact ⟨q + 1, a2 ++ [itoaB v], hlq, by simp, hR6, hb6, hz6, by rw [List.length_append]; simp; omega, ⟨Hs2.out⟩⟩
                case measure => simp [intOf]; omega
            · have hqe : q = o.mask.length := by omega
              subst hqe
              have hsn := hm2.out
              rw [List.drop_eq_nil_of_le (Nat.le_refl _), maskW] at hsn
              have hqs := Hq2.out
              rw [hsn] at hqs
              have Hq3 := Lib.hid hqs
              clear hqs hsn Hq2 hm2
              go_wp2
              go_roundw
              case rel => exact ⟨j + 1, a2, hlt, by simp, hRi, hbi, hzi, by omega, ⟨Hq3.out⟩⟩
              case measure => simp [intOf]; omega
        have hqs := Hqs.out
        rw [if_neg h77] at hqs
        have t77 : (fc == 77) = false := beq_eq_false_iff_ne.2 h77
        obtain ⟨v, hv⟩ : ∃ v, getNum o fc = v := ⟨_, rfl⟩
        have rv := num_cell hzr fc
        rw [hv] at rv hqs
        obtain ⟨fb, hfb⟩ : ∃ fb, fitsB fc v = fb := ⟨_, rfl⟩
        rw [hfb] at hqs
        have hit := fun W (hf : fb = true) (h : Tabs W) => strconv_Itoa.calls v (itoaB v) W (itoa_ok fc v (hfb.trans hf)) h
        have hft := fun W => step_fits.calls fc v fb W (by rw [fits_f, hfb])
        replace Hqs := Lib.hid hqs
        clear hqs hv hfb h107 h118 h75 h77
        go_wp2_with fail
        refine (step_number_calls w.heap.size fc wr).mono ?_
        rintro e w' ⟨rfl, rfl⟩
        go_wp2_with fail
        refine (hft _).mono ?_
        rintro e w4 ⟨rfl, hd⟩
        have hR4 := Kd.R_below hRa hd.below
        have hz4 := (hd.below.block w.heap.size (blk_lt hzr)).trans hzr
        have hb4 := below_then hbr hbr.size hd.below
        clear hft hd rv hzr hbr hRa
        cases fb
        · have hqs := Hqs.out
          rw [if_neg (by decide)] at hqs
          subst hqs
          clear Hqs hit
          go_wp2
          go_ret2
          exact ⟨rfl, hb4⟩
        · have hqs := Hqs.out
          rw [if_pos rfl] at hqs
          have Hq2 := Lib.hid hqs
          have hit2 := hit w4 rfl (hT.below hb4)
          clear hqs Hqs hit
          go_wp2_with fail
          refine hit2.mono ?_
          rintro e w5 ⟨rfl, hb⟩
          have hR5 := Kd.R_below hR4 hb
          have hz5 := (hb.block w.heap.size (blk_lt hz4)).trans hz4
          have hb5 := below_then hb4 hb4.size hb
          have hne : some w.heap.size ≠ (Value.slice Aa acc.length ca).ownBlock := Kd.R_ne hR5 hz5 (by decide)
          clear hit2 hb hR4 hz4 hb4
          go_wp2_with (at_builtin; refine Kd.R_append Kd.string (w0 := w) w.heap.size rfl (.tmp 39) (.tmp 42) 22 9 (.string ⟨#[]⟩) 16 rfl Tryd.underlying22 info9 rfl (by decide) (by decide) (.slice Aa acc.length ca) acc (itoaB v) [.string (itoaB v)] (fun _ => True) (fun _ => False) rfl (by first | (go_simp; done) | (go_simp; rfl)) rfl (fun _ hk => hk.elim) (fun _ _ => trivial) hR5 hb5 hb5.size hlen1 ?_)
          intro v1 w6 hR6 hb6 hg6 _
          have hz6 := (hg6.block w.heap.size (blk_lt hz5) hne).trans hz5
          clear hg6 hne hz5 hR5 hb5
          go_wp2
          go_roundw
          case rel => exact ⟨j + 1, acc ++ [itoaB v], hlt, by simp, hR6, hb6, hz6, by rw [List.length_append]; simp; omega, ⟨Hq2.out⟩⟩
          case measure => simp [intOf]; omega
      · have hje : j = nf.size := by omega
        subst hje
        have hqs := hq.out
        rw [List.drop_eq_nil_of_le (by rw [← Lib.size_eq]; exact Nat.le_refl _), printF] at hqs
        subst hqs
        have hJ := HJ.out acc rfl
        have hRc := Kd.R_reads' hRa
        have hjoin := fun W (hC : Kd.C Kd.string W Aa acc.length acc) (h : Tabs W) => Wd.word_Join.calls 2000000 Aa ca acc (lineOf acc) W hC hRc.2.1 (Wd.wJoin_f acc hJ.n hJ.s hJ.j 2000000 (by have := hJ.n; omega)) h.u
        have hjw := hjoin wr hRc.2.2 (hT.below hbr)
        clear hjoin hRc hJ HJ hq hRa hzr hlen
        go_wp2_with fail
        refine hjw.mono ?_
        rintro en w4 ⟨rfl, hb4⟩
        have hb5 := below_then hbr hbr.size hb4
        clear hb4 hbr hjw
        go_wp2
        go_ret2
        exact ⟨rfl, hb5⟩
end Go.Proofs.YtfaelejeihmgcaaDoor.Stp
end

section
namespace Go.Proofs.YtfaelejeihmgcaaDoor.Stp
open Go.RowKit Go.Proofs.YtfaelejeihmgcaaDoorW.PrintWords Go.Proofs.YtfaelejeihmgcaaDoorW.PrintLast
def numsOf (o : OpV) : List Int := if o.kind = 2 ∨ o.kind = 3 ∨ o.kind = 4 ∨ o.kind = 5 ∨ o.kind = 6 then [o.s] else if o.kind = 11 then [o.n] else if o.kind = 12 then o.mask else if o.kind = 13 then [o.page, o.at_, o.x] else []
def restOf (o : OpV) : List ByteArray := if o.kind = 2 then [o.key, o.val] else if o.kind = 3 then [o.key] else if o.kind = 4 then o.keys else if o.kind = 8 ∨ o.kind = 9 then [o.key] else []
def refW (o : OpV) : Option (List ByteArray) := if o.kind < 1 ∨ 14 < o.kind then none else if o.kind = 13 ∧ (o.x < 0 ∨ 255 < o.x) then none else (maskW (numsOf o) [wordAt o.kind.toNat]).map (· ++ restOf o)
theorem nums2_len (o : OpV) (h : o.mask.length ≤ 1000) : (numsOf o).length ≤ 1000 := by
  unfold numsOf
  repeat' split
  all_goals first | exact h | (simp; done)
theorem rest2_len (o : OpV) (h : o.keys.length ≤ 1000) : (restOf o).length ≤ 1000 := by
  unfold restOf
  repeat' split
  all_goals first | exact h | (simp; done)
def AtB (wc : World) (g : Nat) (v : Value) : Prop := v.ownBlock = some g ∨ ∃ b, v.ownBlock = some b ∧ wc.heap.size ≤ b
theorem AtB.step {wc wr : World} {g : Nat} {v v1 : Value} (h : AtB wc g v) (hs : wc.heap.size ≤ wr.heap.size) (k : v1.ownBlock = v.ownBlock ∨ ∃ b, v1.ownBlock = some b ∧ wr.heap.size ≤ b) : AtB wc g v1 := by
  rcases k with k | ⟨b, k, hb⟩
  · unfold AtB; rw [k]; exact h
  · exact .inr ⟨b, k, by omega⟩
/-- the numbers and the texts of a line, in memory -/
structure Two (W : World) (g : Nat) (o : OpV) (An : Option Addr) (cn : Nat) (Ar : Option Addr) (cr : Nat) : Prop where
  n : Kd.C (Kd.int .i64) W An (numsOf o).length (numsOf o)
  nc : (numsOf o).length ≤ cn
  r : Kd.C Kd.string W Ar (restOf o).length (restOf o)
  rc : (restOf o).length ≤ cr
  fn : ∀ ad, An = some ad → 0 < (numsOf o).length → ad.block ≠ g
  fr : ∀ ad, Ar = some ad → 0 < (restOf o).length → ad.block ≠ g
end Go.Proofs.YtfaelejeihmgcaaDoor.Stp
end

section
namespace Go.Proofs.YtfaelejeihmgcaaDoor.Stp
open Go.RowKit Go.Proofs.YtfaelejeihmgcaaDoorW.PrintWords Go.Proofs.YtfaelejeihmgcaaDoorW.PrintLast Go.Proofs.YtfaelejeihmgcaaDoorW.PrintMore
attribute [local go_sem] max2_int min2_int max_two min_two max_three min_three max_four min_four
theorem short_same (s : ByteArray) (n : Nat) (hn : n ≤ 1000) (w : World) : Calls Tryd.prog 27 #[.string s, .int .i64 n] w fun e w' => e = .returned (.string (Wd.cut s n)) ∧ w' = w := by
  by_cases h : n < s.size
  · have hcut : Wd.cut s n = s.extract 0 n := by unfold Wd.cut; rw [Nat.min_eq_right (by omega)]
    rw [hcut]
    clear hcut
    go_enter Tryd.func27, Tryd.ntmps27
    go_wp2
    go_ret
    exact ⟨rfl, rfl⟩
  · have hcut : Wd.cut s n = s := by unfold Wd.cut; rw [Nat.min_eq_left (by omega)]; exact Wd.ex_all s
    rw [hcut]
    clear hcut
    go_enter Tryd.func27, Tryd.ntmps27
    go_wp2
    go_ret
    exact ⟨rfl, rfl⟩
def pickI (a m : Int) : Int := if Int.tmod a m < 0 then Int.tmod a m + m else Int.tmod a m
theorem pickI_in (a m : Int) (hm : 0 < m) : 0 ≤ pickI a m ∧ pickI a m < m := by
  have hb : Int.tmod a m < m ∧ -m < Int.tmod a m := ⟨Int.tmod_lt_of_pos a hm, Int.lt_tmod_of_pos a hm⟩
  unfold pickI
  split <;> omega
end Go.Proofs.YtfaelejeihmgcaaDoor.Stp
end

section
namespace Go.Proofs.YtfaelejeihmgcaaDoor.Stp
open Go.RowKit Go.Proofs.YtfaelejeihmgcaaDoorW.PrintWords
theorem printW_at (o : OpV) (k : Int) (w f : ByteArray) (hk : o.kind = k) (hn : nameT k = (w, f)) (hw : ¬ w.toList = []) : printW o = printF f.data.toList o [w] := by
  unfold printW
  rw [hk, hn]
  exact if_neg hw
theorem refW_at (o : OpV) (k : Nat) (hk : o.kind = k) (h1 : 1 ≤ k) (h2 : k ≤ 14) (h3 : k ≠ 13) : refW o = (maskW (numsOf o) [wordAt k]).map (· ++ restOf o) := by
  unfold refW
  rw [if_neg (by omega), if_neg (by omega), show o.kind.toNat = k by omega]
theorem fits_120 (v : Int) : fitsB 120 v = true ↔ 0 ≤ v ∧ v ≤ 255 := by
  unfold fitsB
  rw [if_pos rfl, Bool.and_eq_true, decide_eq_true_eq, decide_eq_true_eq]
theorem fits_77t (v : Int) : fitsB 77 v = true ↔ -1000000 ≤ v ∧ v ≤ 1000000 := by
  unfold fitsB
  rw [if_neg (by decide), Bool.and_eq_true, decide_eq_true_eq, decide_eq_true_eq]
theorem printF_s (fs : List UInt8) (o : OpV) (acc : List ByteArray) : printF (115 :: fs) o acc = if fitsB 77 o.s = true then printF fs o (acc ++ [itoaB o.s]) else none := by
  rw [printF, if_neg (by decide), if_neg (by decide), if_neg (by decide), if_neg (by decide)]
  rfl
theorem printF_n (fs : List UInt8) (o : OpV) (acc : List ByteArray) : printF (110 :: fs) o acc = if fitsB 77 o.n = true then printF fs o (acc ++ [itoaB o.n]) else none := by
  rw [printF, if_neg (by decide), if_neg (by decide), if_neg (by decide), if_neg (by decide)]
  rfl
theorem printF_p (fs : List UInt8) (o : OpV) (acc : List ByteArray) : printF (112 :: fs) o acc = if fitsB 77 o.page = true then printF fs o (acc ++ [itoaB o.page]) else none := by
  rw [printF, if_neg (by decide), if_neg (by decide), if_neg (by decide), if_neg (by decide)]
  rfl
theorem printF_a (fs : List UInt8) (o : OpV) (acc : List ByteArray) : printF (97 :: fs) o acc = if fitsB 77 o.at_ = true then printF fs o (acc ++ [itoaB o.at_]) else none := by
  rw [printF, if_neg (by decide), if_neg (by decide), if_neg (by decide), if_neg (by decide)]
  rfl
theorem printF_x (fs : List UInt8) (o : OpV) (acc : List ByteArray) : printF (120 :: fs) o acc = if fitsB 120 o.x = true then printF fs o (acc ++ [itoaB o.x]) else none := by
  rw [printF, if_neg (by decide), if_neg (by decide), if_neg (by decide), if_neg (by decide)]
  rfl
theorem printF_k (fs : List UInt8) (o : OpV) (acc : List ByteArray) : printF (107 :: fs) o acc = printF fs o (acc ++ [o.key]) := by
  rw [printF, if_pos (by decide)]
theorem printF_v (fs : List UInt8) (o : OpV) (acc : List ByteArray) : printF (118 :: fs) o acc = printF fs o (acc ++ [o.val]) := by
  rw [printF, if_neg (by decide), if_pos (by decide)]
theorem printF_K (fs : List UInt8) (o : OpV) (acc : List ByteArray) : printF (75 :: fs) o acc = printF fs o (acc ++ o.keys) := by
  rw [printF, if_neg (by decide), if_neg (by decide), if_pos (by decide)]
theorem printF_M (fs : List UInt8) (o : OpV) (acc : List ByteArray) : printF (77 :: fs) o acc = (maskW o.mask acc).bind (printF fs o) := by
  rw [printF, if_neg (by decide), if_neg (by decide), if_neg (by decide), if_pos (by decide)]
theorem printF_0 (o : OpV) (acc : List ByteArray) : printF [] o acc = some acc := by rw [printF]
theorem word_k : ∀ i : Fin 15, 1 ≤ i.val → (nameT (i.val : Int)).1 = wordAt i.val := by decide +kernel
theorem nums_of {o : OpV} {k : Nat} (hk : o.kind = k) : numsOf o = if k = 2 ∨ k = 3 ∨ k = 4 ∨ k = 5 ∨ k = 6 then [o.s] else if k = 11 then [o.n] else if k = 12 then o.mask else if k = 13 then [o.page, o.at_, o.x] else [] := by
  unfold numsOf
  rw [hk]
  repeat' split
  all_goals first | rfl | omega
theorem rest_of {o : OpV} {k : Nat} (hk : o.kind = k) : restOf o = if k = 2 then [o.key, o.val] else if k = 3 then [o.key] else if k = 4 then o.keys else if k = 8 ∨ k = 9 then [o.key] else [] := by
  unfold restOf
  rw [hk]
  repeat' split
  all_goals first | rfl | omega
theorem maskW_one (v : Int) (acc : List ByteArray) : maskW [v] acc = if fitsB 77 v = true then some (acc ++ [itoaB v]) else none := by rw [maskW, maskW]
theorem map_ite {c : Prop} [Decidable c] (a : Option (List ByteArray)) (f : List ByteArray → List ByteArray) : Option.map f (if c then a else none) = if c then Option.map f a else none := by split <;> rfl
set_option maxRecDepth 100000 in
theorem print_same (o : OpV) : printW o = refW o := by
  by_cases hr : 1 ≤ o.kind ∧ o.kind ≤ 14
  · obtain ⟨k, hk⟩ : ∃ k : Nat, o.kind = k := ⟨o.kind.toNat, by omega⟩
    have kc : k = 1 ∨ k = 2 ∨ k = 3 ∨ k = 4 ∨ k = 5 ∨ k = 6 ∨ k = 7 ∨ k = 8 ∨ k = 9 ∨ k = 10 ∨ k = 11 ∨ k = 12 ∨ k = 13 ∨ k = 14 := by omega
    have hN := nums_of hk
    have hR := rest_of hk
    have hw := word_k ⟨k, by omega⟩ (by show 1 ≤ k; omega)
    have hp : printW o = printF (nameT (k : Int)).2.data.toList o [wordAt k] := by
      rw [← show (nameT (k : Int)).1 = wordAt k from hw]
      refine printW_at o k _ _ hk rfl ?_
      rw [show (nameT (k : Int)).1 = wordAt k from hw]
      have : ∀ i : Fin 15, 1 ≤ i.val → ¬ (wordAt i.val).toList = [] := by decide +kernel
      exact this ⟨k, by omega⟩ (by show 1 ≤ k; omega)
    rcases kc with rfl | rfl | rfl | rfl | rfl | rfl | rfl | rfl | rfl | rfl | rfl | rfl | rfl | rfl
    · rw [hp, refW_at o _ hk (by decide) (by decide) (by decide), hN, hR]
      rfl
    · rw [hp, refW_at o _ hk (by decide) (by decide) (by decide), hN, hR]
      show printF [115, 107, 118] o _ = Option.map (· ++ [o.key, o.val]) (maskW [o.s] _)
      rw [printF_s, maskW_one, map_ite, printF_k, printF_v, printF_0]
      simp
    · rw [hp, refW_at o _ hk (by decide) (by decide) (by decide), hN, hR]
      show printF [115, 107] o _ = Option.map (· ++ [o.key]) (maskW [o.s] _)
      rw [printF_s, maskW_one, map_ite, printF_k, printF_0]
      simp
    · rw [hp, refW_at o _ hk (by decide) (by decide) (by decide), hN, hR]
      show printF [115, 75] o _ = Option.map (· ++ o.keys) (maskW [o.s] _)
      rw [printF_s, maskW_one, map_ite, printF_K, printF_0]
      simp
    · rw [hp, refW_at o _ hk (by decide) (by decide) (by decide), hN, hR]
      show printF [115] o _ = Option.map (· ++ []) (maskW [o.s] _)
      rw [printF_s, maskW_one, map_ite, printF_0]
      simp
    · rw [hp, refW_at o _ hk (by decide) (by decide) (by decide), hN, hR]
      show printF [115] o _ = Option.map (· ++ []) (maskW [o.s] _)
      rw [printF_s, maskW_one, map_ite, printF_0]
      simp
    · rw [hp, refW_at o _ hk (by decide) (by decide) (by decide), hN, hR]
      rfl
    · rw [hp, refW_at o _ hk (by decide) (by decide) (by decide), hN, hR]
      show printF [107] o _ = Option.map (· ++ [o.key]) (maskW [] _)
      rw [printF_k, printF_0]
      rfl
    · rw [hp, refW_at o _ hk (by decide) (by decide) (by decide), hN, hR]
      show printF [107] o _ = Option.map (· ++ [o.key]) (maskW [] _)
      rw [printF_k, printF_0]
      rfl
    · rw [hp, refW_at o _ hk (by decide) (by decide) (by decide), hN, hR]
      rfl
    · rw [hp, refW_at o _ hk (by decide) (by decide) (by decide), hN, hR]
      show printF [110] o _ = Option.map (· ++ []) (maskW [o.n] _)
      rw [printF_n, maskW_one, map_ite, printF_0]
      simp
    · rw [hp, refW_at o _ hk (by decide) (by decide) (by decide), hN, hR]
      show printF [77] o _ = Option.map (· ++ []) (maskW o.mask _)
      rw [printF_M]
      cases maskW o.mask [wordAt 12] with
      | none => rfl
      | some l => show printF [] o l = some (l ++ []); rw [printF_0, List.append_nil]
    · rw [hp]
      show printF [112, 97, 120] o _ = _
      rw [printF_p, printF_a, printF_x, printF_0]
      unfold refW
      rw [if_neg (show ¬ (o.kind < 1 ∨ 14 < o.kind) by omega), show o.kind.toNat = 13 by omega, hN, hR]
      by_cases hx : fitsB 120 o.x = true
      · have hx2 := (fits_120 _).1 hx
        have hx3 : fitsB 77 o.x = true := (fits_77t _).2 (by omega)
        rw [if_pos hx, if_neg (show ¬ (o.kind = 13 ∧ (o.x < 0 ∨ 255 < o.x)) by omega)]
        show _ = Option.map (· ++ []) (maskW [o.page, o.at_, o.x] _)
        rw [maskW, maskW, maskW, maskW, if_pos hx3, map_ite, map_ite]
        simp
      · have hx2 : ¬ (0 ≤ o.x ∧ o.x ≤ 255) := fun h => hx ((fits_120 _).2 h)
        rw [if_neg hx, if_pos (show o.kind = 13 ∧ (o.x < 0 ∨ 255 < o.x) by omega)]
        split
        · split <;> rfl
        · rfl
    · rw [hp, refW_at o _ hk (by decide) (by decide) (by decide), hN, hR]
      rfl
  · unfold printW refW
    have hn : (nameT o.kind).1.toList = [] := by
      by_cases h0 : o.kind = 0
      · rw [h0]; decide +kernel
      · by_cases h15 : o.kind = 15
        · rw [h15]; decide +kernel
        · unfold nameT
          rw [name_out o.kind (by omega)]
          decide +kernel
    rw [if_pos hn, if_pos (by omega)]
/-- a step of short things -/
structure Small (o : OpV) : Prop where
  key : o.key.size ≤ 1000
  val : o.val.size ≤ 1000
  kn : o.keys.length ≤ 1000
  ks : ∀ x ∈ o.keys, x.size ≤ 1000
  mn : o.mask.length ≤ 1000
theorem maskW_eq : ∀ (N : List Int) (acc : List ByteArray), maskW N acc = if N.all (fun v => fitsB 77 v) = true then some (acc ++ N.map itoaB) else none
  | [], acc => by rw [maskW]; simp
  | v :: N, acc => by
    rw [maskW]
    by_cases h : fitsB 77 v = true
    · rw [if_pos h, maskW_eq N (acc ++ [itoaB v])]
      simp [h]
    · rw [if_neg h]
      simp [h]
theorem refW_eq (o : OpV) (l : List ByteArray) (h : refW o = some l) : 1 ≤ o.kind ∧ o.kind ≤ 14 ∧ (numsOf o).all (fun v => fitsB 77 v) = true ∧ l = wordAt o.kind.toNat :: ((numsOf o).map itoaB ++ restOf o) ∧ ¬ (o.kind = 13 ∧ (o.x < 0 ∨ 255 < o.x)) := by
  unfold refW at h
  by_cases h1 : o.kind < 1 ∨ 14 < o.kind
  · rw [if_pos h1] at h; cases h
  · rw [if_neg h1] at h
    by_cases h2 : o.kind = 13 ∧ (o.x < 0 ∨ 255 < o.x)
    · rw [if_pos h2] at h; cases h
    · rw [if_neg h2, maskW_eq] at h
      by_cases h3 : (numsOf o).all (fun v => fitsB 77 v) = true
      · rw [if_pos h3] at h
        refine ⟨by omega, by omega, h3, ?_, h2⟩
        have := Option.some.inj h
        rw [← this]
        simp
      · rw [if_neg h3] at h; cases h
theorem word_small (k : Nat) (h : k < 15) : (wordAt k).size ≤ 10 := by
  have : ∀ i : Fin 15, (wordAt i.val).size ≤ 10 := by decide +kernel
  exact this ⟨k, h⟩
theorem rest_small (o : OpV) (h : Small o) : ∀ x ∈ restOf o, x.size ≤ 1000 := by
  unfold restOf
  have h1 := h.key
  have h2 := h.val
  have h3 := h.ks
  repeat' split
  all_goals intro x hx
  all_goals try simp only [List.mem_cons, List.not_mem_nil, or_false] at hx
  all_goals first | exact h3 x hx | (rcases hx with rfl | rfl <;> assumption) | (subst hx; assumption) | cases hx
theorem refW_joins (o : OpV) (h : Small o) (l : List ByteArray) (hl : refW o = some l) : Joins l ∧ l.length ≤ 2001 ∧ ∀ x ∈ l, x.size ≤ 1000 := by
  obtain ⟨h1, h2, h3, rfl, _⟩ := refW_eq o l hl
  have hn := nums2_len o h.mn
  have hr := rest2_len o h.kn
  have hs : ∀ x ∈ wordAt o.kind.toNat :: ((numsOf o).map itoaB ++ restOf o), x.size ≤ 1000 := by
    intro x hx
    rcases List.mem_cons.1 hx with rfl | hx
    · have := word_small o.kind.toNat (by omega); omega
    · rcases List.mem_append.1 hx with hx | hx
      · obtain ⟨v, hv, rfl⟩ := List.mem_map.1 hx
        have := (fits_77t v).1 (List.all_eq_true.1 h3 v hv)
        have := itoa_size v this.1 this.2
        omega
      · exact rest_small o h x hx
  have hlen : (wordAt o.kind.toNat :: ((numsOf o).map itoaB ++ restOf o)).length ≤ 2001 := by
    rw [List.length_cons, List.length_append, List.length_map]; omega
  have hj := Wd.joinL_len 1000 _ hs
  have hj2 := Nat.le_trans hj (Nat.mul_le_mul_left _ hlen)
  exact ⟨⟨by omega, fun x hx => by have := hs x hx; omega, by omega⟩, hlen, hs⟩
theorem cut_small (s : ByteArray) (n : Nat) : (Wd.cut s n).size ≤ n := by rw [Wd.cut_size]; omega
end Go.Proofs.YtfaelejeihmgcaaDoor.Stp
end

section
namespace Go.Proofs.YtfaelejeihmgcaaDoor.Stp
open Go.RowKit Go.Proofs.YtfaelejeihmgcaaDoorW.PrintWords Go.Proofs.YtfaelejeihmgcaaDoorW.PrintLast Go.Proofs.YtfaelejeihmgcaaDoorW.PrintMore
attribute [local go_sem] max2_int min2_int max_two min_two max_three min_three max_four min_four   -- for this text's walks alone
set_option linter.unusedVariables false
set_option linter.unusedSimpArgs false
mutual
def cachepotlaw26_bare.j0 : Nat → Int → Bool → Int → Int → ByteArray → ByteArray → List ByteArray → Int → List Int → Int → Int → Int → Int → Int → ByteArray → ByteArray → Int → Int → Int → Int → Option (Int × Int × ByteArray × ByteArray × List ByteArray × Int × List Int × Int × Int × Int)
  | 0, _, _, _, _, _, _, _, _, _, _, _, _, _, _, _, _, _, _, _, _ => none
  | k + 1, x8, x36, x190000, x190001, x190002, x190003, x190004, x190005, x190006, x190007, x190008, x190009, x192000, x192001, x192002, x192003, x192005, x192007, x192008, x192009 => if x36 = true then (some (x192000, x190001, x192002, x192003, ([] : List ByteArray), x192005, ([] : List Int), x192007, x192008, x192009)) else (if x8 = 8 then (cachepotlaw26_bare.j1 k x8 (x8 == 8) x190000 x190001 x190002 x190003 x190004 x190005 x190006 x190007 x190008 x190009 x192000 x192001 x192002 x192003 x192005 x192007 x192008 x192009) else (cachepotlaw26_bare.j1 k x8 (x8 == 9) x190000 x190001 x190002 x190003 x190004 x190005 x190006 x190007 x190008 x190009 x192000 x192001 x192002 x192003 x192005 x192007 x192008 x192009))
def cachepotlaw26_bare.j1 : Nat → Int → Bool → Int → Int → ByteArray → ByteArray → List ByteArray → Int → List Int → Int → Int → Int → Int → Int → ByteArray → ByteArray → Int → Int → Int → Int → Option (Int × Int × ByteArray × ByteArray × List ByteArray × Int × List Int × Int × Int × Int)
  | 0, _, _, _, _, _, _, _, _, _, _, _, _, _, _, _, _, _, _, _, _ => none
  | k + 1, x8, x42, x190000, x190001, x190002, x190003, x190004, x190005, x190006, x190007, x190008, x190009, x192000, x192001, x192002, x192003, x192005, x192007, x192008, x192009 => if x42 = true then (some (x192000, x192001, x190002, x192003, ([] : List ByteArray), x192005, ([] : List Int), x192007, x192008, x192009)) else (if x8 = 11 then (some (x192000, x192001, x192002, x192003, ([] : List ByteArray), x190005, ([] : List Int), x192007, x192008, x192009)) else (if x8 = 12 then (some (x192000, x192001, x192002, x192003, ([] : List ByteArray), x192005, x190006, x192007, x192008, x192009)) else (if x8 = 13 then (some (x192000, x192001, x192002, x192003, ([] : List ByteArray), x192005, ([] : List Int), x190007, x190008, x190009)) else (some (x192000, x192001, x192002, x192003, ([] : List ByteArray), x192005, ([] : List Int), x192007, x192008, x192009)))))
end
def cachepotlaw26_bare.f (k : Nat) (a0_0 : Int) (a0_1 : Int) (a0_2 : ByteArray) (a0_3 : ByteArray) (l0_4 : List ByteArray) (a0_5 : Int) (l0_6 : List Int) (a0_7 : Int) (a0_8 : Int) (a0_9 : Int) : Option (Int × Int × ByteArray × ByteArray × List ByteArray × Int × List Int × Int × Int × Int) := if a0_0 = 2 then (some (a0_0, a0_1, a0_2, a0_3, ([] : List ByteArray), 0, ([] : List Int), 0, 0, 0)) else (if a0_0 = 3 then (some (a0_0, a0_1, a0_2, (⟨#[]⟩ : ByteArray), ([] : List ByteArray), 0, ([] : List Int), 0, 0, 0)) else (if a0_0 = 4 then (some (a0_0, a0_1, (⟨#[]⟩ : ByteArray), (⟨#[]⟩ : ByteArray), l0_4, 0, ([] : List Int), 0, 0, 0)) else (if a0_0 = 5 then (cachepotlaw26_bare.j0 k a0_0 (a0_0 == 5) a0_0 a0_1 a0_2 a0_3 l0_4 a0_5 l0_6 a0_7 a0_8 a0_9 a0_0 0 (⟨#[]⟩ : ByteArray) (⟨#[]⟩ : ByteArray) 0 0 0 0) else (cachepotlaw26_bare.j0 k a0_0 (a0_0 == 6) a0_0 a0_1 a0_2 a0_3 l0_4 a0_5 l0_6 a0_7 a0_8 a0_9 a0_0 0 (⟨#[]⟩ : ByteArray) (⟨#[]⟩ : ByteArray) 0 0 0 0))))
end Go.Proofs.YtfaelejeihmgcaaDoor.Stp
end

section
namespace Go.Proofs.YtfaelejeihmgcaaDoor.Stp
open Go.RowKit Go.Proofs.YtfaelejeihmgcaaDoorW.PrintWords
theorem dec_ne (u : Nat) : (Lib.decDigits u).length ≠ 0 := by
  have := Lib.decDigits_length u
  have := Lib.nDigits_pos u
  omega
theorem numT_itoa (v : Int) (h : fitsB 77 v = true) : numT (itoaB v) = (v, true) := by
  have hv := (fits_77t v).1 h
  have h10 : (1000000 : Nat) < 10 ^ 7 := by decide
  have hd : (itoaB v).data.toList = Lib.itoa v := rfl
  unfold numT
  rw [hd]
  unfold Lib.itoa
  by_cases hn : v < 0
  · rw [if_pos hn]
    have h0 := dec_ne v.natAbs
    have h7 := dec_short 6 v.natAbs (by omega)
    have hh := digits_head v.natAbs (by omega)
    rw [if_pos (show (45 :: Lib.decDigits v.natAbs).head? = some 45 from rfl), List.tail_cons, numNeg, if_neg (by rintro (h | h | h); exact h0 h; omega; exact hh h)]
    have := numG_dec true (Lib.decDigits v.natAbs) 0
    rw [dec_of_digits] at this
    rw [show (0 : Int) = ((0 : Nat) : Int) from rfl, this]
    have e : sg true v.natAbs = v := by unfold sg; rw [if_pos rfl]; omega
    simp only [e, h]
  · rw [if_neg hn]
    have h0 := dec_ne v.toNat
    have h7 := dec_short 6 v.toNat (by omega)
    have hne : (Lib.decDigits v.toNat).head? ≠ some 45 := by
      have h1 := dec_of_digits v.toNat
      cases hl : Lib.decDigits v.toNat with
      | nil => rw [hl] at h0; exact absurd rfl h0
      | cons c r =>
        rw [hl] at h1
        have := (no_sign h1).1
        intro hh
        exact this (Option.some.inj hh)
    rw [if_neg hne, numPos, if_neg (by
      rintro (h | h | ⟨h, h1⟩)
      · exact h0 h
      · omega
      · by_cases hz : 1 ≤ v.toNat
        · exact digits_head _ hz h
        · rw [show v.toNat = 0 by omega, Lib.decDigits_one (by decide)] at h1
          simp at h1)]
    have := numG_dec false (Lib.decDigits v.toNat) 0
    rw [dec_of_digits] at this
    rw [show (0 : Int) = ((0 : Nat) : Int) from rfl, this]
    have e : sg false v.toNat = v := by unfold sg; rw [if_neg (by decide)]; omega
    simp only [e, h]
theorem numsT_itoa : ∀ (N : List Int) (out : List Int), N.all (fun v => fitsB 77 v) = true → numsT (N.map itoaB) out = (out ++ N, true)
  | [], out, _ => by rw [List.map_nil, numsT, List.append_nil]
  | v :: N, out, h => by
    rw [List.all_cons, Bool.and_eq_true] at h
    rw [List.map_cons, numsT, numT_itoa v h.1, if_pos rfl, numsT_itoa N _ h.2]
    simp
theorem refK_word : ∀ i : Fin 15, 1 ≤ i.val → refK (wordAt i.val) 15 = i.val := by decide +kernel
theorem itoa_small (v : Int) (h : fitsB 77 v = true) : (itoaB v).size ≤ 1099511627776 := by
  have h1 := (fits_77t v).1 h
  have := itoa_size v h1.1 h1.2
  omega
theorem numberT_itoa (v : Int) (h : fitsB 77 v = true) : numberT (itoaB v) = (v, true) := by rw [numberT_eq _ (itoa_small v h), numT_itoa v h]
theorem numbersT_itoa (N : List Int) (hl : N.length ≤ 1048576) (h : N.all (fun v => fitsB 77 v) = true) : numbersT (N.map itoaB) = (N, true) := by
  rw [numbersT_eq _ (fun x hx => by obtain ⟨v, hv, rfl⟩ := List.mem_map.1 hx; exact itoa_small v (List.all_eq_true.1 h v hv)) (by rw [List.length_map]; exact hl), numsT_itoa N [] h]
  rfl
/-- a step's own fields -/
def bareT (o : OpV) : OpV :=
  if o.kind = 2 then { zeroOp o.kind with s := o.s, key := o.key, val := o.val } else if o.kind = 3 then { zeroOp o.kind with s := o.s, key := o.key } else if o.kind = 4 then { zeroOp o.kind with s := o.s, keys := o.keys }
  else if o.kind = 5 ∨ o.kind = 6 then { zeroOp o.kind with s := o.s } else if o.kind = 8 ∨ o.kind = 9 then { zeroOp o.kind with key := o.key } else if o.kind = 11 then { zeroOp o.kind with n := o.n }
  else if o.kind = 12 then { zeroOp o.kind with mask := o.mask } else if o.kind = 13 then { zeroOp o.kind with page := o.page, at_ := o.at_, x := o.x } else zeroOp o.kind
theorem body_back (o : OpV) (l : List ByteArray) (h : refW o = some l) (hm : o.mask.length ≤ 1000) : refStepF l = (bareT o, true) := by
  obtain ⟨h1, h2, h3, rfl, h13⟩ := refW_eq o l h
  obtain ⟨k, hk⟩ : ∃ k : Nat, o.kind = k := ⟨o.kind.toNat, by omega⟩
  have hkn : o.kind.toNat = k := by omega
  rw [hkn]
  have hN := nums_of hk
  have hR := rest_of hk
  rw [ref_body (wordAt k) _ k (refK_word ⟨k, by omega⟩ (by show 1 ≤ k; omega))]
  unfold bareT
  rw [hk]
  have kc : k = 1 ∨ k = 2 ∨ k = 3 ∨ k = 4 ∨ k = 5 ∨ k = 6 ∨ k = 7 ∨ k = 8 ∨ k = 9 ∨ k = 10 ∨ k = 11 ∨ k = 12 ∨ k = 13 ∨ k = 14 := by omega
  rcases kc with rfl | rfl | rfl | rfl | rfl | rfl | rfl | rfl | rfl | rfl | rfl | rfl | rfl | rfl
  · rw [hN, hR]; rfl
  · have hs : fitsB 77 o.s = true := by rw [hN] at h3; simpa using h3
    rw [hN, hR]
    show refBody 2 [itoaB o.s, o.key, o.val] = _
    simp [refBody, numberT_itoa o.s hs]
  · have hs : fitsB 77 o.s = true := by rw [hN] at h3; simpa using h3
    rw [hN, hR]
    show refBody 3 [itoaB o.s, o.key] = _
    simp [refBody, numberT_itoa o.s hs]
  · have hs : fitsB 77 o.s = true := by rw [hN] at h3; simpa using h3
    rw [hN, hR]
    show refBody 4 (itoaB o.s :: o.keys) = _
    simp [refBody, numberT_itoa o.s hs]
  · have hs : fitsB 77 o.s = true := by rw [hN] at h3; simpa using h3
    rw [hN, hR]
    show refBody 5 [itoaB o.s] = _
    simp [refBody, numberT_itoa o.s hs]
  · have hs : fitsB 77 o.s = true := by rw [hN] at h3; simpa using h3
    rw [hN, hR]
    show refBody 6 [itoaB o.s] = _
    simp [refBody, numberT_itoa o.s hs]
  · rw [hN, hR]; rfl
  · rw [hN, hR]; rfl
  · rw [hN, hR]; rfl
  · rw [hN, hR]; rfl
  · have hs := numbersT_itoa (numsOf o) (by have := nums2_len o hm; omega) h3
    rw [hN] at hs
    have hs' : numbersT [itoaB o.n] = ([o.n], true) := hs
    rw [hN, hR]
    show refBody 11 [itoaB o.n] = _
    simp [refBody, hs']
  · have hs := numbersT_itoa (numsOf o) (by have := nums2_len o hm; omega) h3
    rw [hN] at hs
    have hs' : numbersT (o.mask.map itoaB) = (o.mask, true) := hs
    rw [hN, hR]
    show refBody 12 (o.mask.map itoaB ++ []) = _
    rw [List.append_nil]
    simp [refBody, hs']
  · have hs := numbersT_itoa (numsOf o) (by have := nums2_len o hm; omega) h3
    rw [hN] at hs
    have hs' : numbersT [itoaB o.page, itoaB o.at_, itoaB o.x] = ([o.page, o.at_, o.x], true) := hs
    have hx : 0 ≤ o.x ∧ o.x ≤ 255 := by omega
    rw [hN, hR]
    show refBody 13 [itoaB o.page, itoaB o.at_, itoaB o.x] = _
    simp [refBody, hs', hx.1, hx.2]
  · rw [hN, hR]; rfl
/-- a step of few, short things -/
structure SmallB (m n : Nat) (o : OpV) : Prop where
  key : o.key.size ≤ m
  val : o.val.size ≤ m
  kn : o.keys.length ≤ n
  ks : ∀ x ∈ o.keys, x.size ≤ m
  mn : o.mask.length ≤ n
theorem SmallB.small {m n : Nat} {o : OpV} (h : SmallB m n o) (hm : m ≤ 1000) (hn : n ≤ 1000) : Small o :=
  ⟨by have := h.key; omega, by have := h.val; omega, by have := h.kn; omega, fun x hx => by have := h.ks x hx; omega, by have := h.mn; omega⟩
theorem restB_small {m n : Nat} (o : OpV) (h : SmallB m n o) : ∀ x ∈ restOf o, x.size ≤ m := by
  unfold restOf
  have h1 := h.key
  have h2 := h.val
  have h3 := h.ks
  repeat' split
  all_goals intro x hx
  all_goals try simp only [List.mem_cons, List.not_mem_nil, or_false] at hx
  all_goals first | exact h3 x hx | (rcases hx with rfl | rfl <;> assumption) | (subst hx; assumption) | cases hx
theorem numsB_len {m n : Nat} (o : OpV) (h : SmallB m n o) (hn : 3 ≤ n) : (numsOf o).length ≤ n := by
  have h1 := h.mn
  unfold numsOf
  repeat' split
  all_goals first | exact h1 | (simp only [List.length_cons, List.length_nil]; omega)
theorem restB_len {m n : Nat} (o : OpV) (h : SmallB m n o) (hn : 3 ≤ n) : (restOf o).length ≤ n := by
  have h1 := h.kn
  unfold restOf
  repeat' split
  all_goals first | exact h1 | (simp only [List.length_cons, List.length_nil]; omega)
theorem refW_size {m n : Nat} (hm : 10 ≤ m) (hn : 3 ≤ n) (o : OpV) (h : SmallB m n o) (l : List ByteArray) (hl : refW o = some l) : (Wd.joinL l).length ≤ (3 * m + 3) * (2 * n + 1) := by
  obtain ⟨h1, h2, h3, rfl, _⟩ := refW_eq o l hl
  have hn1 := numsB_len o h hn
  have hr := restB_len o h hn
  have hs : ∀ x ∈ wordAt o.kind.toNat :: ((numsOf o).map itoaB ++ restOf o), x.size ≤ m := by
    intro x hx
    rcases List.mem_cons.1 hx with rfl | hx
    · have := word_small o.kind.toNat (by omega); omega
    · rcases List.mem_append.1 hx with hx | hx
      · obtain ⟨v, hv, rfl⟩ := List.mem_map.1 hx
        have := (fits_77t v).1 (List.all_eq_true.1 h3 v hv)
        have := itoa_size v this.1 this.2
        omega
      · exact restB_small o h x hx
  have hlen : (wordAt o.kind.toNat :: ((numsOf o).map itoaB ++ restOf o)).length ≤ 2 * n + 1 := by
    rw [List.length_cons, List.length_append, List.length_map]; omega
  exact Nat.le_trans (Wd.joinL_len m _ hs) (Nat.mul_le_mul_left _ hlen)
theorem line_of (l : List ByteArray) (h : (Wd.joinL l).length ≤ 1048576) : (lineOf l).size ≤ 1048576 ∧ lineT (lineOf l) = (l, 0) := by
  have hs : (lineOf l).size = (Wd.joinL l).length := by show (Wd.joinL l).toArray.size = _; rw [List.size_toArray]
  refine ⟨by omega, ?_⟩
  have h1 := Wd.split_join l (by omega) 3000000 (by omega)
  have h2 := Wd.word_Split_f (lineOf l) (by omega) 3000000 (by omega)
  exact (Option.some.inj (h1.symm.trans h2)).symm
theorem parse_back (o : OpV) (l : List ByteArray) (h : refW o = some l) (hs : Small o) (hj : (Wd.joinL l).length ≤ 1048576) : parseL (lineOf l) = (bareT o, 0) := by
  obtain ⟨_, hl⟩ := line_of l hj
  obtain ⟨_, h2, h3⟩ := refW_joins o hs l h
  unfold parseL
  rw [hl]
  show parseO l 0 = _
  rw [parse_same l 0 (fun x hx => by have := h3 x hx; omega) (by omega), refParseO, if_pos rfl, body_back o l h hs.mn]
  rfl
end Go.Proofs.YtfaelejeihmgcaaDoor.Stp
end

section
namespace Go.Proofs.YtfaelejeihmgcaaDoor.Stp
open Go.RowKit Go.Proofs.YtfaelejeihmgcaaDoorW.PrintWords
theorem numsT_fits : ∀ (l : List ByteArray) (out N : List Int), numsT l out = (N, true) → out.all (fun v => fitsB 77 v) = true → N.all (fun v => fitsB 77 v) = true ∧ N.length = out.length + l.length
  | [], out, N, h, ho => by
    rw [numsT] at h
    obtain ⟨rfl, _⟩ := Prod.mk.inj h
    exact ⟨ho, rfl⟩
  | x :: l, out, N, h, ho => by
    rw [numsT] at h
    by_cases hq : (numT x).2 = true
    · rw [if_pos hq] at h
      have hf := (num_read x (numT x).1 (by rw [← hq])).2
      have := numsT_fits l (out ++ [(numT x).1]) N h (by rw [List.all_append, ho, Bool.true_and, List.all_cons, hf]; rfl)
      refine ⟨this.1, ?_⟩
      rw [this.2, List.length_append, List.length_cons, List.length_cons, List.length_nil]
      omega
    · rw [if_neg hq] at h
      cases (Prod.mk.inj h).2
/-- a step that is its own fields alone, and has a line -/
def Own (o : OpV) : Prop := (∃ l, refW o = some l) ∧ bareT o = o
theorem own_of (o : OpV) (k : Nat) (hk : o.kind = k) (h1 : 1 ≤ k) (h2 : k ≤ 14) (hN : (numsOf o).all (fun v => fitsB 77 v) = true) (h13 : ¬ (o.kind = 13 ∧ (o.x < 0 ∨ 255 < o.x))) (hb : bareT o = o) : Own o := by
  refine ⟨⟨wordAt o.kind.toNat :: ((numsOf o).map itoaB ++ restOf o), ?_⟩, hb⟩
  unfold refW
  rw [if_neg (by omega), if_neg h13, maskW_eq, if_pos hN]
  simp
def Fine (t : List ByteArray) (o : OpV) : Prop :=
  (o.key = ⟨#[]⟩ ∨ o.key ∈ t) ∧ (o.val = ⟨#[]⟩ ∨ o.val ∈ t) ∧ (∀ x ∈ o.keys, x ∈ t) ∧ o.keys.length ≤ t.length ∧ o.mask.length ≤ t.length
theorem body_own (k : Nat) (t : List ByteArray) (o : OpV) (h : refBody k t = (o, true)) (hNs : numbersT t = numsT t []) (hNum : ∀ x ∈ t, numberT x = numT x) : Own o ∧ Fine t o := by
  unfold refBody at h
  by_cases c1 : k = 1 ∨ k = 7 ∨ k = 10 ∨ k = 14
  · rw [if_pos c1] at h
    obtain ⟨rfl, _⟩ := Prod.mk.inj h
    refine ⟨own_of _ k rfl (by omega) (by omega) ?_ ?_ ?_, .inl rfl, .inl rfl, (fun x hx => by have h : x ∈ ([] : List ByteArray) := hx; simp at h), Nat.zero_le _, Nat.zero_le _⟩
    · rw [nums_of (show (zeroOp (k : Int)).kind = (k : Int) from rfl)]
      rcases c1 with rfl | rfl | rfl | rfl <;> rfl
    · show ¬ ((k : Int) = 13 ∧ _)
      omega
    · rcases c1 with rfl | rfl | rfl | rfl <;> rfl
  rw [if_neg c1] at h
  by_cases c2 : k = 8 ∨ k = 9
  · rw [if_pos c2] at h
    by_cases hl : t.length = 1
    · rw [if_pos hl] at h
      obtain ⟨rfl, _⟩ := Prod.mk.inj h
      obtain ⟨x, rfl⟩ : ∃ x, t = [x] := List.length_eq_one_iff.1 hl
      refine ⟨own_of _ k rfl (by omega) (by omega) ?_ ?_ ?_, .inr (by simp), .inl rfl, (fun x hx => by have h : x ∈ ([] : List ByteArray) := hx; simp at h), Nat.zero_le _, Nat.zero_le _⟩
      · rcases c2 with rfl | rfl <;> rfl
      · show ¬ ((k : Int) = 13 ∧ _)
        omega
      · rcases c2 with rfl | rfl <;> rfl
    · rw [if_neg hl] at h
      cases (Prod.mk.inj h).2
  rw [if_neg c2] at h
  by_cases c3 : k = 12
  · subst c3
    rw [if_pos rfl, hNs] at h
    obtain ⟨rfl, h2⟩ := Prod.mk.inj h
    have hf := numsT_fits t [] (numsT t []).1 (by rw [← h2]) rfl
    refine ⟨own_of _ 12 rfl (by omega) (by omega) hf.1 (by rintro ⟨h, _⟩; cases h) rfl, .inl rfl, .inl rfl, (fun x hx => by have h : x ∈ ([] : List ByteArray) := hx; simp at h), Nat.zero_le _, ?_⟩
    show (numsT t []).1.length ≤ t.length
    rw [hf.2]
    simp
  rw [if_neg c3] at h
  by_cases c4 : k = 13
  · subst c4
    rw [if_pos rfl, hNs] at h
    split at h
    · rename_i hc
      obtain ⟨rfl, _⟩ := Prod.mk.inj h
      obtain ⟨h2, h3, h4, h5⟩ := hc
      have hf := numsT_fits t [] (numsT t []).1 (by rw [← h2]) rfl
      obtain ⟨a, b, c, habc⟩ : ∃ a b c, (numsT t []).1 = [a, b, c] := by
        match (numsT t []).1, h3 with
        | [a, b, c], _ => exact ⟨a, b, c, rfl⟩
      rw [habc] at hf h4 h5 ⊢
      refine ⟨own_of _ 13 rfl (by omega) (by omega) hf.1 ?_ rfl, .inl rfl, .inl rfl, (fun x hx => by have h : x ∈ ([] : List ByteArray) := hx; simp at h), Nat.zero_le _, Nat.zero_le _⟩
      rintro ⟨_, hx⟩
      have h4' : 0 ≤ c := h4
      have h5' : c ≤ 255 := h5
      rcases hx with hx | hx
      · have hx' : c < 0 := hx
        omega
      · have hx' : 255 < c := hx
        omega
    · cases (Prod.mk.inj h).2
  rw [if_neg c4] at h
  by_cases c5 : k = 11
  · subst c5
    rw [if_pos rfl, hNs] at h
    split at h
    · rename_i hc
      obtain ⟨rfl, _⟩ := Prod.mk.inj h
      obtain ⟨h2, h3⟩ := hc
      have hf := numsT_fits t [] (numsT t []).1 (by rw [← h2]) rfl
      obtain ⟨a, ha⟩ : ∃ a, (numsT t []).1 = [a] := List.length_eq_one_iff.1 h3
      rw [ha] at hf ⊢
      exact ⟨own_of _ 11 rfl (by omega) (by omega) hf.1 (by rintro ⟨h, _⟩; cases h) rfl, .inl rfl, .inl rfl, (fun x hx => by have h : x ∈ ([] : List ByteArray) := hx; simp at h), Nat.zero_le _, Nat.zero_le _⟩
    · cases (Prod.mk.inj h).2
  rw [if_neg c5] at h
  by_cases c6 : k = 2 ∨ k = 3 ∨ k = 4 ∨ k = 5 ∨ k = 6
  · rw [if_pos c6] at h
    by_cases hl : t.length = 0
    · rw [if_pos hl] at h
      cases (Prod.mk.inj h).2
    · rw [if_neg hl] at h
      obtain ⟨x, u, rfl⟩ : ∃ x u, t = x :: u := by
        cases t with
        | nil => exact absurd rfl hl
        | cons x u => exact ⟨x, u, rfl⟩
      simp only [List.headD_cons, List.tail_cons] at h
      simp only [hNum x (by simp)] at h
      have hfit : (numT x).2 = true → fitsB 77 (numT x).1 = true := fun hq => (num_read x (numT x).1 (by rw [← hq])).2
      by_cases d2 : k = 2
      · subst d2
        rw [if_pos rfl] at h
        split at h
        · rename_i hc
          obtain ⟨rfl, _⟩ := Prod.mk.inj h
          obtain ⟨y, z, rfl⟩ : ∃ y z, u = [y, z] := by
            match u, hc.2 with
            | [y, z], _ => exact ⟨y, z, rfl⟩
          exact ⟨own_of _ 2 rfl (by omega) (by omega) (by show [(numT x).1].all _ = true; simp [hfit hc.1]) (by rintro ⟨h, _⟩; cases h) rfl, .inr (by simp), .inr (by simp), (fun x hx => by have h : x ∈ ([] : List ByteArray) := hx; simp at h), Nat.zero_le _, Nat.zero_le _⟩
        · cases (Prod.mk.inj h).2
      rw [if_neg d2] at h
      by_cases d3 : k = 3
      · subst d3
        rw [if_pos rfl] at h
        split at h
        · rename_i hc
          obtain ⟨rfl, _⟩ := Prod.mk.inj h
          obtain ⟨y, rfl⟩ : ∃ y, u = [y] := List.length_eq_one_iff.1 hc.2
          exact ⟨own_of _ 3 rfl (by omega) (by omega) (by show [(numT x).1].all _ = true; simp [hfit hc.1]) (by rintro ⟨h, _⟩; cases h) rfl, .inr (by simp), .inl rfl, (fun x hx => by have h : x ∈ ([] : List ByteArray) := hx; simp at h), Nat.zero_le _, Nat.zero_le _⟩
        · cases (Prod.mk.inj h).2
      rw [if_neg d3] at h
      by_cases d4 : k = 4
      · subst d4
        rw [if_pos rfl] at h
        obtain ⟨rfl, h2⟩ := Prod.mk.inj h
        exact ⟨own_of _ 4 rfl (by omega) (by omega) (by show [(numT x).1].all _ = true; simp [hfit h2]) (by rintro ⟨h, _⟩; cases h) rfl, .inl rfl, .inl rfl, (fun y hy => List.mem_cons_of_mem _ hy), (by show u.length ≤ _; simp), Nat.zero_le _⟩
      rw [if_neg d4] at h
      obtain ⟨rfl, h2⟩ := Prod.mk.inj h
      have h3 : (numT x).2 = true := (Bool.and_eq_true _ _ ▸ h2).1
      have k56 : k = 5 ∨ k = 6 := by omega
      refine ⟨own_of _ k rfl (by omega) (by omega) ?_ ?_ ?_, .inl rfl, .inl rfl, (fun x hx => by have h : x ∈ ([] : List ByteArray) := hx; simp at h), Nat.zero_le _, Nat.zero_le _⟩
      · rcases k56 with rfl | rfl
        · show [(numT x).1].all _ = true; simp [hfit h3]
        · show [(numT x).1].all _ = true; simp [hfit h3]
      · show ¬ ((k : Int) = 13 ∧ _)
        omega
      · rcases k56 with rfl | rfl <;> rfl
  rw [if_neg c6] at h
  cases (Prod.mk.inj h).2
/-- what a short line says: no step, or one that has a line that is read alike -/
theorem parse_own (s : ByteArray) (N : Nat) (hs : s.size ≤ N) (hN : N ≤ 1048576) (o : OpV) (e : Int) (h : parseL s = (o, e)) : e = 2 ∨ e = 0 ∧ Own o ∧ SmallB N N o := by
  have hl := line_lim s
  have hx : ∀ x ∈ (lineT s).1, x.size ≤ 1099511627776 := fun x hx => by have := hl.2.1 x hx; omega
  have hp : parseL s = refParseO (lineT s).1 (lineT s).2 := parse_same _ _ hx (by omega)
  rw [hp, refParseO] at h
  rcases hl.2.2 with h0 | h2
  · rw [if_pos h0, refResO] at h
    by_cases hq : (refStepF (lineT s).1).2 = true
    · rw [if_pos hq] at h
      obtain ⟨h1, rfl⟩ := Prod.mk.inj h
      right
      refine ⟨rfl, ?_⟩
      revert hq h1
      cases hL : (lineT s).1 with
      | nil => intro hq; cases hq
      | cons x t =>
        intro hq h1
        rw [ref_body x t _ rfl] at hq h1
        rw [hL] at hx
        have hxt : ∀ y ∈ t, y.size ≤ 1099511627776 := fun y hy => hx y (List.mem_cons_of_mem _ hy)
        have hlen : t.length + 1 ≤ s.size := by have := hl.1; rw [hL, List.length_cons] at this; exact this
        obtain ⟨a, b1, b2, b3, b4, b5⟩ := body_own (refK x 15) t o (by rw [← h1, ← hq]) (numbersT_eq t hxt (by omega)) (fun y hy => numberT_eq y (hxt y hy))
        have hsz : ∀ y ∈ t, y.size ≤ N := fun y hy => by have := hl.2.1 y (by rw [hL]; exact List.mem_cons_of_mem _ hy); omega
        refine ⟨a, ⟨?_, ?_, by omega, fun y hy => hsz y (b3 y hy), by omega⟩⟩
        · rcases b1 with e | e
          · rw [e]; exact Nat.zero_le _
          · exact hsz _ e
        · rcases b2 with e | e
          · rw [e]; exact Nat.zero_le _
          · exact hsz _ e
    · rw [if_neg hq] at h
      exact .inl (Prod.mk.inj h).2.symm
  · rw [if_neg (by rw [h2]; decide)] at h
    exact .inl ((Prod.mk.inj h).2.symm.trans h2)
end Go.Proofs.YtfaelejeihmgcaaDoor.Stp
end

section
namespace Go.Proofs.YtfaelejeihmgcaaDoor.Stp
open Go.RowKit Go.Proofs.YtfaelejeihmgcaaDoorW.PrintWords
theorem itoa_len (v : Int) (h0 : -9223372036854775808 ≤ v) (h1 : v ≤ 9223372036854775807) : (itoaB v).size ≤ 31 := by
  show (Lib.itoa v).toArray.size ≤ 31
  rw [List.size_toArray]
  unfold Lib.itoa
  have hp : (9223372036854775808 : Nat) < 10 ^ 30 := by decide
  split
  · have := dec_short 29 v.natAbs (by omega)
    rw [List.length_cons]
    omega
  · have := dec_short 29 v.toNat (by omega)
    omega
end Go.Proofs.YtfaelejeihmgcaaDoor.Stp
end

section
namespace Go.Proofs.YtfaelejeihmgcaaDoor.Stp
open Go.RowKit Go.Proofs.YtfaelejeihmgcaaDoorW.PrintWords Go.Proofs.YtfaelejeihmgcaaDoorW.PrintLast
theorem pick_any (a : Int) (m : Int) (hm : 0 < m) (hm2 : m ≤ 1000) (w : World) : Calls Tryd.prog 25 #[.int .i64 a, .int .i64 m] w fun e w' => e = .returned (.int .i64 (pickI a m)) ∧ w' = w := by
  have hb : Int.tmod a m < m ∧ -m < Int.tmod a m := ⟨Int.tmod_lt_of_pos a hm, Int.lt_tmod_of_pos a hm⟩
  unfold pickI
  obtain ⟨t, ht⟩ : ∃ t, Int.tmod a m = t := ⟨_, rfl⟩
  rw [ht] at hb ⊢
  obtain ⟨h1, h2⟩ := hb
  have hne : (m == 0) = false := beq_eq_false_iff_ne.2 (by omega)
  by_cases h : t < 0
  · have d1 : decide (t < 0) = true := decide_eq_true h
    rw [if_pos h]
    go_enter Tryd.func25, Tryd.ntmps25
    go_wp2
    go_ret
    exact ⟨rfl, rfl⟩
  · have d1 : decide (t < 0) = false := decide_eq_false h
    rw [if_neg h]
    go_enter Tryd.func25, Tryd.ntmps25
    go_wp2
    go_ret
    exact ⟨rfl, rfl⟩
def nameAt (i : Nat) : ByteArray := ⟨(namesL.getD i []).toArray⟩
theorem name_at_size (i : Nat) : (nameAt i).size ≤ 4 := by
  have h : ∀ j : Fin 12, (nameAt j.val).size ≤ 4 := by decide +kernel
  by_cases hi : i < 12
  · exact h ⟨i, hi⟩
  · unfold nameAt
    rw [List.getD_eq_getElem?_getD, List.getElem?_eq_none (by show 12 ≤ i; omega)]
    decide
set_option maxRecDepth 100000 in
theorem key_any (a : Int) (w : World) (hT : TabsN w) : Calls Tryd.prog 50 #[.int .i64 a] w fun e w' => ∃ r : ByteArray, e = .returned (.string r) ∧ r.size ≤ 62 ∧ Below w.heap.size w w' := by
  obtain ⟨h0, h1⟩ := pickI_in a 12 (by decide)
  obtain ⟨k, hk0⟩ : ∃ k : Nat, pickI a 12 = k := ⟨(pickI a 12).toNat, by omega⟩
  have hp := fun W => pick_any a 12 (by decide) (by decide) W
  rw [hk0] at hp
  have hk : k < 12 := by omega
  have hal : Tryd.prog.arrayLen 129 = 12 := by kernel_rfl
  have hc : w.cell? ⟨1, k, none⟩ = some (.string (nameAt k)) := by
    rw [World.var?_cell (g := 1) (by kernel_rfl) hT.n k]
    have hl : k < namesL.length := hk
    simp only [List.getElem?_toArray, List.getElem?_map, nameAt, List.getD_eq_getElem?_getD, List.getElem?_eq_getElem hl, Option.map_some, Option.getD_some]
  have hsz := name_at_size k
  generalize nameAt k = r at hc hsz
  clear hk0 h0 h1
  go_enter Tryd.func50, Tryd.ntmps50
  go_wp2_with fail
  refine (hp w).mono ?_
  rintro e w1 ⟨rfl, hw⟩
  obtain rfl := hw.symm
  clear hw
  go_wp2
  go_ret
  exact ⟨r, rfl, by omega, Below.refl _ _⟩
theorem quote_any (s : ByteArray) (hs : s.size ≤ 20) (w : World) : Calls Tryd.prog 28 #[.string s] w fun e w' => ∃ r : ByteArray, e = .returned (.string r) ∧ r.size ≤ 62 ∧ Below w.heap.size w w' :=
  (Wd.cachepotref3_Quote.calls s (Wd.qB s) w (Wd.rQuote_f s (by omega))).mono fun e w' ⟨he, hb⟩ => ⟨Wd.qB s, he, by rw [Wd.qB_size]; have := Wd.quoteB_len s; omega, hb⟩
theorem digits_any (v : Int) (h0 : -9223372036854775808 ≤ v) (h1 : v ≤ 9223372036854775807) (w : World) : Calls Tryd.prog 51 #[.int .i64 v] w fun e w' => ∃ r : ByteArray, e = .returned (.string r) ∧ r.size ≤ 62 ∧ Below w.heap.size w w' :=
  (cachepotref3_Digits.calls 30 v (itoaB v) w (Digits_f v h0 h1)).mono fun e w' ⟨he, hb⟩ => ⟨itoaB v, he, by have := itoa_len v h0 h1; omega, hb⟩
theorem short20 (s : ByteArray) (w : World) : Calls Tryd.prog 27 #[.string s, .int .i64 20] w fun e w' => e = .returned (.string (Wd.cut s 20)) ∧ w' = w := short_same s 20 (by decide) w
def names16 : List ByteArray := [⟨#[98, 101, 103, 105, 110]⟩, ⟨#[112, 117, 116]⟩, ⟨#[100, 101, 108]⟩, ⟨#[103, 101, 116]⟩, ⟨#[99, 111, 109, 109, 105, 116]⟩, ⟨#[97, 98, 111, 114, 116]⟩, ⟨#[101, 118, 105, 99, 116]⟩, ⟨#[102, 105, 110, 100]⟩, ⟨#[112, 117, 114, 103, 101]⟩, ⟨#[102, 108, 117, 115, 104]⟩, ⟨#[102, 117, 115, 101]⟩, ⟨#[99, 114, 97, 115, 104]⟩, ⟨#[114, 111, 116]⟩, ⟨#[111, 112, 101, 110]⟩, ⟨#[110, 111, 110, 101]⟩, ⟨#[]⟩]
theorem names16_size (k : Nat) (h : k < 16) : ∃ r : ByteArray, (names16.map Value.string).toArray[k]? = some (.string r) ∧ r.size ≤ 10 := by
  have hs : ∀ j : Fin 16, (names16.getD j.val ⟨#[]⟩).size ≤ 10 := by decide +kernel
  refine ⟨names16.getD k ⟨#[]⟩, ?_, hs ⟨k, h⟩⟩
  have hl : k < names16.length := h
  simp [List.getD_eq_getElem?_getD, List.getElem?_eq_getElem hl]
set_option maxHeartbeats 16000000 in
set_option maxRecDepth 100000 in
theorem StepWords_walk (w : World) (kind : Int) (l : List ByteArray) (A1 : Option Addr) (c1 : Nat) (hC1 : Kd.string.C w A1 l.length l) (hc1 : l.length ≤ c1) (n : List Int) (A2 : Option Addr) (c2 : Nat) (hC2 : (Kd.int .i64).C w A2 n.length n) (hc2 : n.length ≤ c2) (hn : ∀ v ∈ n, (Lit.int .i64 v).wf = true) (how : Int) (hT : TabsN w) :
    Calls Tryd.prog 17 #[.int .i64 kind, .slice A1 l.length c1, .slice A2 n.length c2, .int .i64 how] w fun e w' => e = .returned (.bool true) ∧ Below w.heap.size w w' := by
  obtain ⟨O, hO⟩ : ∃ O : Obj, O = .cells (names16.map Value.string).toArray 71 := ⟨_, rfl⟩
  have hz := heap_alloc_new w O
  have hb1 := below_alloc (Below.refl _ w) O
  have hal : Tryd.prog.arrayLen 71 = 16 := by kernel_rfl
  obtain ⟨k0, k1⟩ := pickI_in kind 16 (by decide)
  obtain ⟨k, hk⟩ : ∃ k : Nat, pickI kind 16 = k := ⟨(pickI kind 16).toNat, by omega⟩
  have hkl : k < 16 := by omega
  have hp := fun W => pick_any kind 16 (by decide) (by decide) W
  rw [hk] at hp
  obtain ⟨nm, hnm, hns⟩ := names16_size k hkl
  have hcell : (w.alloc O).cell? ⟨w.heap.size, k, none⟩ = some (.string nm) := by
    rw [hO] at hz ⊢
    exact (Lib.cell_of_heap hz k).trans hnm
  clear hk k0 k1 hnm hz
  have HL := Lib.hid (And.intro hC1 hc1)
  have HN := Lib.hid (And.intro hC2 hc2)
  have HV := Lib.hid hn
  clear hC1 hc1 hC2 hc2 hn
  go_enter Tryd.func17, Tryd.ntmps17
  go_upto_region 2 with (fail)
  change Code.wp _ _ _ _ (w.alloc (.cells (names16.map Value.string).toArray 71))
  rw [← hO]
  clear hO
  generalize w.alloc O = w1 at hb1 hcell ⊢
  go_wp2_with fail
  refine (hp w1).mono ?_
  rintro e w2 ⟨rfl, hw⟩
  obtain rfl := hw.symm
  clear hw hp
  go_wp2_with fail
  go_loopw [10, 11] (fun v i wr => ∃ (q : Nat) (s : ByteArray), q ≤ 5 ∧ i = .int .i64 q ∧ v = .string s ∧ s.size ≤ 10 + 70 * q ∧ Below w.heap.size w wr) (fun _ i _ => 5 - (intOf i).toNat)
  case atStart => exact ⟨0, nm, by omega, rfl, rfl, by omega, hb1⟩
  case round =>
    clear hb1 hcell hns hkl
    obtain ⟨q, s, hq5, rfl, rfl, hss, hbr⟩ := hrel
    obtain ⟨p50, p51⟩ := pickI_in how 5 (by decide)
    have hpk := pick_any how 5 (by decide) (by decide) wr
    obtain ⟨p5, hp5⟩ : ∃ p5, pickI how 5 = p5 := ⟨_, rfl⟩
    rw [hp5] at p50 p51 hpk
    clear hp5
    go_wp2_with fail
    refine hpk.mono ?_
    rintro e w3 ⟨rfl, hw⟩
    obtain rfl := hw.symm
    clear hw hpk
    by_cases hlt : (q : Int) < p5
    · have t1 : decide ((q : Int) < p5) = true := decide_eq_true hlt
      go_wp2_with fail
      refine (key_any _ wr (hT.below hbr)).mono ?_
      rintro e w4 ⟨kr, rfl, hks, hb4⟩
      have hb5 := below_then hbr hbr.size hb4
      clear hb4 hbr
      by_cases hln : q < n.length
      · have t2 : decide (q < n.length) = true := decide_eq_true hln
        go_wp2_with fail
        refine (pick_any _ 3 (by decide) (by decide) w4).mono ?_
        rintro e w5 ⟨rfl, hw⟩
        obtain rfl := hw.symm
        clear hw
        generalize pickI _ 3 = p3
        by_cases hp3 : p3 = (q : Int)
        · have t3 : (p3 != (q : Int)) = false := bne_eq_false_iff_eq.2 hp3
          clear hp3
          by_cases hll : q < l.length
          · obtain ⟨adl, el, cl⟩ := Kd.at_string (Kd.C_below HL.out.1 hb5) q (by omega) (by omega)
            obtain ⟨x, hx⟩ : ∃ x, rdOf ByteArray.empty l (q : Int) = x := ⟨_, rfl⟩
            rw [hx] at cl
            simp only [Int.toNat_natCast] at cl
            subst el
            have hcs := cut_small x 20
            clear hx
            go_wp2_with fail
            refine (short20 x w4).mono ?_
            rintro e w9 ⟨rfl, hw9⟩
            obtain rfl := hw9.symm
            clear hw9
            go_wp2_with fail
            refine (quote_any (Wd.cut x 20) hcs w4).mono ?_
            rintro e w10 ⟨wd, rfl, hwd, hb10⟩
            have hbw := below_then hb5 hb5.size hb10
            clear hb10 cl hcs
            have d1 : (9223372036854775807 < 1 + wd.size) = False := eq_false (by omega)
            have d2 : (9223372036854775807 < s.size + (1 + wd.size)) = False := eq_false (by omega)
            have d3 : (9223372036854775807 < s.size + 1 + wd.size) = False := eq_false (by omega)
            have hsz2 : (s ++ ((⟨#[32]⟩ : ByteArray) ++ wd)).size ≤ 10 + 70 * (q + 1) := by
              rw [ByteArray.size_append, ByteArray.size_append]
              show s.size + (1 + wd.size) ≤ _
              omega
            have HZ := Lib.hid hsz2
            have HB := Lib.hid hbw
            clear hsz2 hbw
            go_wp2
            go_roundw
            case rel => exact ⟨q + 1, s ++ ((⟨#[32]⟩ : ByteArray) ++ wd), by omega, by simp, rfl, HZ.out, HB.out⟩
            case measure => simp [intOf]; omega

          · obtain ⟨wd, hwd0⟩ : ∃ wd, kr = wd := ⟨_, rfl⟩
            subst hwd0
            have hbw := hb5
            have d1 : (9223372036854775807 < 1 + kr.size) = False := eq_false (by omega)
            have d2 : (9223372036854775807 < s.size + (1 + kr.size)) = False := eq_false (by omega)
            have d3 : (9223372036854775807 < s.size + 1 + kr.size) = False := eq_false (by omega)
            have hsz2 : (s ++ ((⟨#[32]⟩ : ByteArray) ++ kr)).size ≤ 10 + 70 * (q + 1) := by
              rw [ByteArray.size_append, ByteArray.size_append]
              show s.size + (1 + kr.size) ≤ _
              omega
            have HZ := Lib.hid hsz2
            have HB := Lib.hid hbw
            clear hsz2 hbw
            go_wp2
            go_roundw
            case rel => exact ⟨q + 1, s ++ ((⟨#[32]⟩ : ByteArray) ++ kr), by omega, by simp, rfl, HZ.out, HB.out⟩
            case measure => simp [intOf]; omega

        · have t3 : (p3 != (q : Int)) = true := bne_iff_ne.2 hp3
          clear hp3
          obtain ⟨adn, en, cn⟩ := Kd.at_int (Kd.C_below HN.out.1 hb5) q (by omega) (by omega)
          obtain ⟨v, hv⟩ : ∃ v, rd n (q : Int) = v := ⟨_, rfl⟩
          rw [hv] at cn
          simp only [Int.toNat_natCast] at cn
          subst en
          have hbd : Int.tmod v 2000000 < 2000000 ∧ -2000000 < Int.tmod v 2000000 := ⟨Int.tmod_lt_of_pos v (by decide), Int.lt_tmod_of_pos v (by decide)⟩
          have hdg := fun W => digits_any (Int.tmod v 2000000) (by omega) (by omega) W
          clear hv hbd
          go_wp2_with fail
          refine (hdg w4).mono ?_
          rintro e w10 ⟨wd, rfl, hwd, hb10⟩
          have hbw := below_then hb5 hb5.size hb10
          clear hb10 cn hdg hb5
          have d1 : (9223372036854775807 < 1 + wd.size) = False := eq_false (by omega)
          have d2 : (9223372036854775807 < s.size + (1 + wd.size)) = False := eq_false (by omega)
          have d3 : (9223372036854775807 < s.size + 1 + wd.size) = False := eq_false (by omega)
          have hsz2 : (s ++ ((⟨#[32]⟩ : ByteArray) ++ wd)).size ≤ 10 + 70 * (q + 1) := by
            rw [ByteArray.size_append, ByteArray.size_append]
            show s.size + (1 + wd.size) ≤ _
            omega
          have HZ := Lib.hid hsz2
          have HB := Lib.hid hbw
          clear hsz2 hbw
          go_wp2
          go_roundw
          case rel => exact ⟨q + 1, s ++ ((⟨#[32]⟩ : ByteArray) ++ wd), by omega, by simp, rfl, HZ.out, HB.out⟩
          case measure => simp [intOf]; omega

      · have t2 : decide (q < n.length) = false := decide_eq_false hln
        by_cases hll : q < l.length
        · obtain ⟨adl, el, cl⟩ := Kd.at_string (Kd.C_below HL.out.1 hb5) q (by omega) (by omega)
          obtain ⟨x, hx⟩ : ∃ x, rdOf ByteArray.empty l (q : Int) = x := ⟨_, rfl⟩
          rw [hx] at cl
          simp only [Int.toNat_natCast] at cl
          subst el
          have hcs := cut_small x 20
          clear hx
          go_wp2_with fail
          refine (short20 x w4).mono ?_
          rintro e w9 ⟨rfl, hw9⟩
          obtain rfl := hw9.symm
          clear hw9
          go_wp2_with fail
          refine (quote_any (Wd.cut x 20) hcs w4).mono ?_
          rintro e w10 ⟨wd, rfl, hwd, hb10⟩
          have hbw := below_then hb5 hb5.size hb10
          clear hb10 cl hcs
          have d1 : (9223372036854775807 < 1 + wd.size) = False := eq_false (by omega)
          have d2 : (9223372036854775807 < s.size + (1 + wd.size)) = False := eq_false (by omega)
          have d3 : (9223372036854775807 < s.size + 1 + wd.size) = False := eq_false (by omega)
          have hsz2 : (s ++ ((⟨#[32]⟩ : ByteArray) ++ wd)).size ≤ 10 + 70 * (q + 1) := by
            rw [ByteArray.size_append, ByteArray.size_append]
            show s.size + (1 + wd.size) ≤ _
            omega
          have HZ := Lib.hid hsz2
          have HB := Lib.hid hbw
          clear hsz2 hbw
          go_wp2
          go_roundw
          case rel => exact ⟨q + 1, s ++ ((⟨#[32]⟩ : ByteArray) ++ wd), by omega, by simp, rfl, HZ.out, HB.out⟩
          case measure => simp [intOf]; omega

        · obtain ⟨wd, hwd0⟩ : ∃ wd, kr = wd := ⟨_, rfl⟩
          subst hwd0
          have hbw := hb5
          have d1 : (9223372036854775807 < 1 + kr.size) = False := eq_false (by omega)
          have d2 : (9223372036854775807 < s.size + (1 + kr.size)) = False := eq_false (by omega)
          have d3 : (9223372036854775807 < s.size + 1 + kr.size) = False := eq_false (by omega)
          have hsz2 : (s ++ ((⟨#[32]⟩ : ByteArray) ++ kr)).size ≤ 10 + 70 * (q + 1) := by
            rw [ByteArray.size_append, ByteArray.size_append]
            show s.size + (1 + kr.size) ≤ _
            omega
          have HZ := Lib.hid hsz2
          have HB := Lib.hid hbw
          clear hsz2 hbw
          go_wp2
          go_roundw
          case rel => exact ⟨q + 1, s ++ ((⟨#[32]⟩ : ByteArray) ++ kr), by omega, by simp, rfl, HZ.out, HB.out⟩
          case measure => simp [intOf]; omega

    · have t1 : decide ((q : Int) < p5) = false := decide_eq_false hlt
      go_upto_region 12 with (fail)
      have hs4 : s.size ≤ 400 := by omega
      obtain ⟨⟨o, c⟩, hR⟩ : ∃ R, parseL s = R := ⟨_, rfl⟩
      have hown := parse_own s 400 hs4 (by decide) o c hR
      have hlen : o.keys.length ≤ 1048576 ∧ o.mask.length ≤ 1048576 := by
        have h := line_lim s
        have hx : ∀ x ∈ (lineT s).1, x.size ≤ 1099511627776 := fun x hx => by have := h.2.1 x hx; omega
        have h2 := parse_len (lineT s).1 (lineT s).2 hx (by omega)
        have e : parseL s = refParseO (lineT s).1 (lineT s).2 := parse_same _ _ hx (by omega)
        rw [← e, hR] at h2
        exact h2
      have hsame := op_same o hlen.1 hlen.2 2000000 (by omega)
      have hA := fun W (h : Tabs W) => step_Parse_got s (by omega) W h
      have hB := fun W (h : TabsR W) => ref_Parse_got s (by omega) W h
      rw [hR] at hA hB
      have HS := Lib.hid hsame
      have HO := Lib.hid hown
      clear hR hlen hsame hown hs4 hss p50 p51 hlt t1 hq5 HL HN HV hal
      generalize wr = w0 at hbr ⊢
      go_wp2_with fail
      refine (hA w0 (hT.below hbr).t.t).mono ?_
      rintro en w1 ⟨Ak, ck, Am, cm, rfl, hl1, hb1⟩
      have hb1' := below_then hbr hbr.size hb1
      clear hb1 hbr
      go_upto_region 13 with (fail)
      change Code.wp _ _ _ _ (w1.alloc (opO o Ak ck Am cm))
      have hO2 := OpAt.alloc hl1
      have hb2 := below_alloc hb1' (opO o Ak ck Am cm)
      clear hl1 hb1'
      generalize hg : w1.heap.size = g1 at hO2 ⊢
      generalize w1.alloc (opO o Ak ck Am cm) = w2 at hO2 hb2 ⊢
      clear hg
      go_wp2_with fail
      refine (hB w2 (hT.below hb2).t).mono ?_
      rintro en w3 ⟨Bk, dk, Bm, dm, rfl, hl3, hb3⟩
      have hO3 := hO2.below hb3
      have hb4 := below_then hb2 hb2.size hb3
      clear hO2 hb2 hb3 hB
      go_upto_region 14 with (fail)
      change Code.wp _ _ _ _ (w3.alloc (opO o Bk dk Bm dm))
      have hP4 := OpAt.alloc hl3
      have hO4 := hO3.below (below_alloc (Below.refl _ _) (opO o Bk dk Bm dm))
      have hb5 := below_alloc hb4 (opO o Bk dk Bm dm)
      clear hl3 hb4 hO3
      generalize hg : w3.heap.size = g3 at hP4 ⊢
      generalize w3.alloc (opO o Bk dk Bm dm) = w4 at hO4 hP4 hb5 ⊢
      clear hg
      go_wp2_with fail
      refine (alive_walk w4 (hT.below hb5).t.t).mono ?_
      rintro en w5 ⟨rfl, hb6⟩
      have hO6 := hO4.below hb6
      have hP6 := hP4.below hb6
      have hb7 := below_then hb5 hb5.size hb6
      clear hO4 hP4 hb5 hb6
      obtain ⟨r0, r1, r2, r3, r4, r5, r6, r7, r8, r9⟩ := cells10 hO6.1
      obtain ⟨s0, s1, s2, s3, s4, s5, s6, s7, s8, s9⟩ := cells10 hP6.1
      have H1 := Lib.hid hO6.2
      have H2 := Lib.hid hP6.2
      have H3 := Lib.hid hO6.1
      clear hO6 hP6
      go_wp2_with fail
      refine (cachepotbook_SameOp.calls 2000000 o.kind o.s o.key o.val Ak ck o.keys o.n Am cm o.mask o.page o.at_ o.x o.kind o.s o.key o.val Bk dk o.keys o.n Bm dm o.mask o.page o.at_ o.x true w5 H1.out.k H1.out.kc H1.out.m H1.out.mc H2.out.k H2.out.kc H2.out.m H2.out.mc HS.out).mono ?_
      rintro en w6 ⟨rfl, hb8⟩
      have hb9 := below_then hb7 hb7.size hb8
      have hl6 := H1.out.below hb8
      have hz6 := (hb8.block g1 (blk_lt H3.out)).trans H3.out
      clear hb7 hb8 H1 H2 H3 r0 r1 r2 r3 r4 r5 r6 r7 r8 r9 s0 s1 s2 s3 s4 s5 s6 s7 s8 s9
      rcases HO.out with rfl | ⟨rfl, ⟨⟨ll, hw⟩, hbare⟩, hsB⟩
      · clear hl6 hz6
        go_wp2
        go_ret
        exact ⟨rfl, hb9⟩
      · have hsm := hsB.small (by decide) (by decide)
        have hJ : ∀ l, refW o = some l → Joins l := fun l h => (refW_joins o hsm l h).1
        have hj := refW_size (by decide) (by decide) o hsB ll hw
        have hpb := parse_back o ll hw hsm (by omega)
        rw [hbare] at hpb
        have hls := (line_of ll (by omega)).1
        have hp1 := step_Print_walk o Ak ck Am cm w6 hl6 (hT.below hb9).t.t hsm.kn hsm.mn (by rw [print_same]; exact hJ)
        rw [show printT o = printR (refW o) by rw [← print_same]; rfl, hw, show printR (some ll) = (lineOf ll, (0 : Int)) from rfl] at hp1
        have hpg := fun W (h : Tabs W) => step_Parse_got (lineOf ll) hls W h
        rw [hpb] at hpg
        generalize lineOf ll = line at hp1 hpg
        clear hw hbare hsB hsm hJ hj hpb hls HO
        obtain ⟨r0, r1, r2, r3, r4, r5, r6, r7, r8, r9⟩ := cells10 hz6
        go_wp2_with fail
        refine hp1.mono ?_
        rintro en w7 ⟨rfl, hb10⟩
        have hz7 := (hb10.block g1 (blk_lt hz6)).trans hz6
        have hl7 := hl6.below hb10
        have hb11 := below_then hb9 hb9.size hb10
        clear r0 r1 r2 r3 r4 r5 r6 r7 r8 r9 hz6 hl6 hb9 hb10 hp1
        go_wp2_with fail
        refine (hpg w7 (hT.below hb11).t.t).mono ?_
        rintro en w8 ⟨Ck, ek, Cm, em, rfl, hl8, hb12⟩
        have hz8 := (hb12.block g1 (blk_lt hz7)).trans hz7
        have hm8 := hl7.below hb12
        have hb13 := below_then hb11 hb11.size hb12
        clear hz7 hl7 hb11 hb12 hpg
        go_upto_region 20 with (fail)
        change Code.wp _ _ _ _ (w8.alloc (opO o Ck ek Cm em))
        have hP9 := OpAt.alloc hl8
        have hz9 := (Lib.alloc_old w8 (opO o Ck ek Cm em) _ (blk_lt hz8)).trans hz8
        have hm9 := hm8.below (below_alloc (Below.refl _ _) (opO o Ck ek Cm em))
        have hb14 := below_alloc hb13 (opO o Ck ek Cm em)
        clear hl8 hb13 hz8 hm8
        generalize hg : w8.heap.size = g9 at hP9 ⊢
        generalize w8.alloc (opO o Ck ek Cm em) = w9 at hP9 hz9 hm9 hb14 ⊢
        clear hg
        obtain ⟨r0, r1, r2, r3, r4, r5, r6, r7, r8, r9⟩ := cells10 hz9
        obtain ⟨s0, s1, s2, s3, s4, s5, s6, s7, s8, s9⟩ := cells10 hP9.1
        have H1 := Lib.hid hm9
        have H2 := Lib.hid hP9.2
        clear hz9 hP9 hm9
        go_wp2_with fail
        refine (cachepotbook_SameOp.calls 2000000 o.kind o.s o.key o.val Ck ek o.keys o.n Cm em o.mask o.page o.at_ o.x o.kind o.s o.key o.val Ak ck o.keys o.n Am cm o.mask o.page o.at_ o.x true w9 H2.out.k H2.out.kc H2.out.m H2.out.mc H1.out.k H1.out.kc H1.out.m H1.out.mc HS.out).mono ?_
        rintro en w10 ⟨rfl, hb15⟩
        have HB := Lib.hid (below_then hb14 hb14.size hb15)
        clear hb14 hb15
        go_wp2
        go_ret
        exact ⟨rfl, HB.out⟩
end Go.Proofs.YtfaelejeihmgcaaDoor.Stp
end

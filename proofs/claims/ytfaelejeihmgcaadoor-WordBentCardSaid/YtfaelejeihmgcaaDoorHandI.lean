/-
  The reference's Quote by hand, in the form of the printed functions.
-/
import Derived.Test.YtfaelejeihmgcaaDoorHandH
import Derived.Test.YtfaelejeihmgcaaDoorHandF
import Derived.Test.YtfaelejeihmgcaaDoorHandC
import Derived.StillTailTactics
import Derived.Deep.LoopGhost
namespace Go.Proofs.YtfaelejeihmgcaaDoor.Wd
open Go.RowKit Go.Proofs.YtfaelejeihmgcaaDoorW.PrintWords Go.Proofs.YtfaelejeihmgcaaDoorW.PrintLast

def cachepotref3_Quote.f (a0 : ByteArray) : Option ByteArray := if a0.size ≤ 1099511627776 then some ⟨(quoteB a0).toArray⟩ else none



theorem mayB_bytes (s : ByteArray) (i : Nat) (hi : i < s.size) (h : mayB s i = true) : ¬ byteAt s i = 34 ∧ ¬ byteAt s i = 92 ∧ ¬ byteAt s i = 32 := by
  have key : ∀ c : UInt8, c.toNat < 128 → mayR c.toNat 1 = false → ¬ byteAt s i = c := by
    intro c h1 h2 h3
    have e : byteAt s i = s[i] := get_lt s i hi
    rw [h3] at e
    have hd := decode_ascii s i hi (by rw [← e]; exact h1)
    unfold mayB at h
    rw [hd, ← e] at h
    rw [h] at h2
    cases h2
  exact ⟨key 34 (by decide) (by decide), key 92 (by decide) (by decide), key 32 (by decide) (by decide)⟩
theorem width_ascii (s : ByteArray) (i : Nat) (hi : i < s.size) (c : UInt8) (h : byteAt s i = c) (hc : c.toNat < 128) : width s i = 1 := by
  have e : byteAt s i = s[i] := get_lt s i hi
  unfold width
  rw [decode_ascii s i hi (by rw [← e, h]; exact hc)]
theorem app_data (a b : ByteArray) : (a ++ b).data.toList = a.data.toList ++ b.data.toList := by rw [ByteArray.data_append, Array.toList_append]
theorem app_size (a b : ByteArray) : (a ++ b).size = a.size + b.size := by rw [Lib.size_eq, Lib.size_eq, Lib.size_eq, app_data, List.length_append]
theorem byte_ex (s : ByteArray) (i : Nat) (hi : i < s.size) : bytesAt s i 1 = [byteAt s i] := by
  unfold bytesAt byteAt
  rw [List.drop_eq_getElem_cons (by rw [← Lib.size_eq]; exact hi), get_lt s i hi]
  rfl
theorem u8_toNat (c : UInt8) (n : Nat) (hn : n < 256) : ((c.toNat : Int) == (n : Int)) = decide (c = UInt8.ofNat n) := by
  rw [Bool.eq_iff_iff, beq_iff_eq, decide_eq_true_eq]
  constructor
  · intro h
    apply UInt8.toNat_inj.1
    simp; omega
  · intro h
    rw [h]; simp; omega
theorem bytesAt_take (s : ByteArray) (pos n k : Nat) (hk : pos ≤ k) (hj : k < pos + n) (hn : pos + n ≤ s.size) : (bytesAt s pos n).take (k + 1 - pos) = (bytesAt s pos n).take (k - pos) ++ [byteAt s k] := by
  have e : k + 1 - pos = (k - pos) + 1 := by omega
  have hl : k - pos < (bytesAt s pos n).length := by
    unfold bytesAt
    rw [List.length_take, List.length_drop, ← Lib.size_eq]; omega
  rw [e, List.take_succ_eq_append_getElem hl]
  have h1 : (bytesAt s pos n)[k - pos]? = some (byteAt s k) := by
    have e2 : pos + (k - pos) = k := by omega
    unfold bytesAt byteAt
    rw [List.getElem?_take_of_lt (by omega), List.getElem?_drop, e2, get_lt s k (by omega), List.getElem?_eq_getElem (by rw [← Lib.size_eq]; omega)]
    rfl
  rw [List.getElem?_eq_getElem hl] at h1
  rw [Option.some.inj h1]
theorem bytesAt_all (s : ByteArray) (pos n : Nat) : (bytesAt s pos n).take n = bytesAt s pos n := List.take_of_length_le (List.length_take_le _ _)
theorem hexQs_len (l : List UInt8) : (l.flatMap hexQ).length = 3 * l.length := by
  induction l with
  | nil => rfl
  | cons c l ih => rw [List.flatMap_cons, List.length_append, ih]; simp [hexQ]; omega
theorem quoteFrom_endI (s : ByteArray) (fuel pos : Nat) (h : ¬ pos < s.size) : quoteFrom s fuel pos = [] := by
  cases fuel with
  | zero => rfl
  | succ f => rw [quoteFrom, if_neg h]
theorem plainFrom_endI (s : ByteArray) (fuel pos : Nat) (h : ¬ pos < s.size) : plainFrom s fuel pos = true := by
  cases fuel with
  | zero => rfl
  | succ f => rw [plainFrom, if_neg h]
theorem ba_extI {a b : ByteArray} (h : a.data.toList = b.data.toList) : a = b := by
  obtain ⟨a⟩ := a
  obtain ⟨b⟩ := b
  exact congrArg ByteArray.mk (Array.toList_inj.1 h)
/-- the bytes of a rune that is escaped, one place -/
theorem hex_of (s : ByteArray) (k : Nat) (hk : k < s.size) : hexB (s.extract k (k + 1)) = hex1 (byteAt s k) := by
  have h1 := extract_bytes s k 1
  have hz : ¬ (s.extract k (k + 1)).size = 0 := by rw [Lib.size_eq, h1, byte_ex s k hk]; simp
  rw [hexB, if_neg hz, h1, byte_ex s k hk]
  simp
theorem hex_at (c : UInt8) (o : ByteArray) : (o ++ ((⟨#[92]⟩ : ByteArray) ++ (⟨(hex1 c).toArray⟩ : ByteArray))).data.toList = o.data.toList ++ hexQ c := by
  rw [app_data, app_data]
  rfl

set_option maxHeartbeats 4000000 in
set_option maxRecDepth 100000 in
theorem cachepotref3_Quote.calls (a0 : ByteArray) (r : ByteArray) (w : World) (h : cachepotref3_Quote.f a0 = some r) :
    Calls Tryd.prog 28 #[.string a0] w fun e w' => e = .returned (.string r) ∧ Below w.heap.size w w' := by
  have hs : a0.size ≤ 1099511627776 := by
    unfold cachepotref3_Quote.f at h
    split at h
    · assumption
    · cases h
  have hr : Aside0 (⟨(quoteB a0).toArray⟩ = r) := ⟨by unfold cachepotref3_Quote.f at h; rw [if_pos hs] at h; exact Option.some.inj h⟩
  clear h
  go_enter Tryd.func28, Tryd.ntmps28
  go_wp2_with fail
  go_loopw [3, 4, 5] (fun v3 v4 v5 wr => ∃ (av : Bool) (o : ByteArray) (pos fuel : Nat), v3 = .bool av ∧ v4 = .string o ∧ v5 = .int .i64 (pos : Int) ∧ Below w.heap.size w wr ∧ Aside0 (o.data.toList ++ quoteFrom a0 fuel pos = 34 :: quoteFrom a0 a0.size 0) ∧ Aside0 ((av && plainFrom a0 fuel pos) = plainB a0) ∧ a0.size ≤ pos + fuel ∧ o.size ≤ 1 + 3 * pos ∧ pos ≤ a0.size) (fun _ _ v5 _ => a0.size - (intOf v5).toNat)
  case atStart => 
    refine ⟨!a0.toList.isEmpty, ⟨#[34]⟩, 0, a0.size, rfl, rfl, rfl, Below.refl _ _, ⟨rfl⟩, ⟨?_⟩, by omega, by decide, by omega⟩
    rw [plainB, Bool.and_comm]
    congr 1
    rw [Lib.toList_data, Bool.eq_iff_iff, decide_eq_true_eq, Lib.size_eq]
    cases a0.data.toList <;> simp
  case round =>
    obtain ⟨av, o, pos, fuel, rfl, rfl, rfl, hbw, hq, hpl, hfu, hol, hpz⟩ := hrel
    by_cases hp : pos < a0.size
    · have hpf := plain_f 0 a0 pos hp hs
      have hwd := width_pos a0 pos
      have hwl := width_le a0 pos hp
      obtain ⟨f, rfl⟩ : ∃ f, fuel = f + 1 := ⟨fuel - 1, by omega⟩
      have q1 := hq.out
      have p1 := hpl.out
      rw [quoteFrom, if_pos hp, ← List.append_assoc] at q1
      rw [plainFrom, if_pos hp] at p1
      clear hq hpl
      have hba : byteAt a0 pos = a0[pos] := get_lt a0 pos hp
      cases hm : mayB a0 pos
      · rw [hm, if_neg (by decide)] at hpf
        have hpA := Aside0.mk hpf
        clear hpf
        have p2 : Aside0 ((false && plainFrom a0 f (pos + width a0 pos)) = plainB a0) := ⟨by rw [hm] at p1; cases av <;> exact p1⟩
        clear p1
        have hbe := extract_bytes a0 pos 1
        have hbz : (a0.extract pos (pos + 1)).size = 1 := by simp; omega
        have hsl : ∀ W : World, (Instr.slice 9 (.string a0) (some (.int .i64 (pos : Int))) (some (.int .i64 ((pos : Int) + 1))) none).run Tryd.prog W = .ok (.string (a0.extract pos (pos + 1))) W := slice_at a0 pos 1 (by omega)
        have hcat : ¬ 9223372036854775807 < o.size + (1 + (a0.extract pos (pos + 1)).size) := by omega
        have hcat1 : ¬ 9223372036854775807 < 1 + (a0.extract pos (pos + 1)).size := by omega
        have hcat2 : ¬ 9223372036854775807 < o.size + 1 := by omega
        by_cases h2 : byteAt a0 pos = 34 ∨ byteAt a0 pos = 92
        · have hw1 : width a0 pos = 1 := by
            rcases h2 with h | h
            · exact width_ascii a0 pos hp 34 h (by decide)
            · exact width_ascii a0 pos hp 92 h (by decide)
          have hq1 : quote1 a0 pos = [92, byteAt a0 pos] := by
            rcases h2 with h | h <;> (rw [quote1, hm, h]; rfl)
          rw [hw1] at q1 p2
          have q2 : Aside0 ((o ++ ((⟨#[92]⟩ : ByteArray) ++ a0.extract pos (pos + 1))).data.toList ++ quoteFrom a0 f (pos + 1) = 34 :: quoteFrom a0 a0.size 0) := ⟨by
            rw [app_data, app_data, hbe, byte_ex a0 pos hp, ← q1, hq1]; rfl⟩
          have hoz : (o ++ ((⟨#[92]⟩ : ByteArray) ++ a0.extract pos (pos + 1))).size ≤ 1 + 3 * (pos + 1) := by
            have e : (⟨#[92]⟩ : ByteArray).size = 1 := rfl
            rw [app_size, app_size, e]; omega
          clear q1 hq1 hw1 hbe hbz hm
          rcases h2 with h | h
          · have t34 : ((a0[pos].toNat : Int) == 34) = true := by rw [← hba]; exact (u8_toNat _ 34 (by decide)).trans (decide_eq_true h)
            clear h hba
            go_wp2_with fail
            refine (cachepotref3_plain.calls 3 a0 (pos : Int) 0 _ hpA.out).mono ?_
            rintro e w1 ⟨rfl, ⟨nd, rfl⟩⟩
            cases av
            all_goals (
              go_wp2
              go_roundw
              case rel => exact ⟨_, _, pos + 1, f, rfl, rfl, by simp, pw_below_drewN hbw nd, q2, p2, by omega, hoz, by omega⟩
              case measure => simp [intOf]; omega)
          · have t34 : ((a0[pos].toNat : Int) == 34) = false := by rw [← hba, h]; rfl
            have t92 : ((a0[pos].toNat : Int) == 92) = true := by rw [← hba]; exact (u8_toNat _ 92 (by decide)).trans (decide_eq_true h)
            clear h hba
            go_wp2_with fail
            refine (cachepotref3_plain.calls 3 a0 (pos : Int) 0 _ hpA.out).mono ?_
            rintro e w1 ⟨rfl, ⟨nd, rfl⟩⟩
            cases av
            all_goals (
              go_wp2
              go_roundw
              case rel => exact ⟨_, _, pos + 1, f, rfl, rfl, by simp, pw_below_drewN hbw nd, q2, p2, by omega, hoz, by omega⟩
              case measure => simp [intOf]; omega)
        · have n34 : ¬ byteAt a0 pos = 34 := fun h => h2 (.inl h)
          have n92 : ¬ byteAt a0 pos = 92 := fun h => h2 (.inr h)
          have t34 : ((a0[pos].toNat : Int) == 34) = false := by rw [← hba]; exact (u8_toNat _ 34 (by decide)).trans (decide_eq_false n34)
          have t92 : ((a0[pos].toNat : Int) == 92) = false := by rw [← hba]; exact (u8_toNat _ 92 (by decide)).trans (decide_eq_false n92)
          clear h2
          by_cases h32 : byteAt a0 pos = 32
          · have hw1 : width a0 pos = 1 := width_ascii a0 pos hp 32 h32 (by decide)
            have hq1 : quote1 a0 pos = [32] := by
              rw [quote1, hm, h32, if_pos (by decide), hw1, byte_ex a0 pos hp, h32]
            rw [hw1] at q1 p2
            have q2 : Aside0 ((o ++ (⟨#[32]⟩ : ByteArray)).data.toList ++ quoteFrom a0 f (pos + 1) = 34 :: quoteFrom a0 a0.size 0) := ⟨by
              rw [app_data, ← q1, hq1]⟩
            have hoz : (o ++ (⟨#[32]⟩ : ByteArray)).size ≤ 1 + 3 * (pos + 1) := by
              have e : (⟨#[32]⟩ : ByteArray).size = 1 := rfl
              rw [app_size, e]; omega
            have t32 : ((a0[pos].toNat : Int) == 32) = true := by rw [← hba]; exact (u8_toNat _ 32 (by decide)).trans (decide_eq_true h32)
            clear q1 hq1 hw1 hbe hbz hm h32 hba n34 n92 hsl
            go_wp2_with fail
            refine (cachepotref3_plain.calls 3 a0 (pos : Int) 0 _ hpA.out).mono ?_
            rintro e w1 ⟨rfl, ⟨nd, rfl⟩⟩
            cases av
            all_goals (
              go_wp2
              go_roundw
              case rel => exact ⟨_, _, pos + 1, f, rfl, rfl, by simp, pw_below_drewN hbw nd, q2, p2, by omega, hoz, by omega⟩
              case measure => simp [intOf]; omega)
          · have t32 : ((a0[pos].toNat : Int) == 32) = false := by rw [← hba]; exact (u8_toNat _ 32 (by decide)).trans (decide_eq_false h32)
            have hq1 : quote1 a0 pos = (bytesAt a0 pos (width a0 pos)).flatMap hexQ := by
              rw [quote1, hm, if_neg (by simpa using h32), if_neg (by simp [n34, n92])]
            rw [hq1] at q1
            have q2 := Aside0.mk q1
            have hR := Aside0.mk (Rune_f 0 a0 pos hp hs)
            generalize hrr : ((Utf8.decode a0 pos).1 : Int) = rr at hR
            have hwe : ((Utf8.decode a0 pos).2 : Int) = (width a0 pos : Int) := rfl
            rw [hwe] at hR
            clear hwe hrr q1 hq1 hm hba n34 n92 h32 hsl hcat hcat1 hcat2 hbe hbz
            generalize hwn : width a0 pos = n at *
            clear hwn
            go_wp2_with fail
            refine (cachepotref3_plain.calls 3 a0 (pos : Int) 0 _ hpA.out).mono ?_
            rintro e w1 ⟨rfl, ⟨nd, rfl⟩⟩
            have hb1 := pw_below_drewN hbw nd
            cases av
            all_goals (
              go_wp2_with fail
              refine (cachepotref1_Rune.calls 3 a0 (pos : Int) rr (n : Int) _ hR.out).mono ?_
              rintro e w2 ⟨rfl, ⟨nd2, rfl⟩⟩
              have hb2 : Below w.heap.size w (wr.drewN (nd + nd2)) := pw_below_drewN hbw (nd + nd2)
              go_wp2_with fail
              go_loopw [4, 9] (fun v4 v9 wi => ∃ (o2 : ByteArray) (k : Nat), v4 = .string o2 ∧ v9 = .int .i64 (k : Int) ∧ pos ≤ k ∧ k ≤ pos + n ∧ Below w.heap.size w wi ∧ Aside0 (o2.data.toList = o.data.toList ++ ((bytesAt a0 pos n).take (k - pos)).flatMap hexQ)) (fun _ v9 _ => pos + n - (intOf v9).toNat)
              case atStart => exact ⟨o, pos, rfl, rfl, by omega, by omega, hb2, ⟨by simp⟩⟩
              case round =>
                obtain ⟨o2, k, rfl, rfl, hk1, hk2, hbi, hacc⟩ := hrel
                have ho2 : o2.size ≤ 1 + 3 * k := by
                  rw [Lib.size_eq, hacc.out, List.length_append, hexQs_len, ← Lib.size_eq]
                  have : ((bytesAt a0 pos n).take (k - pos)).length ≤ k - pos := List.length_take_le _ _
                  omega
                by_cases hlt : k < pos + n
                · have hka : k < a0.size := by omega
                  have hsl : ∀ W : World, (Instr.slice 9 (.string a0) (some (.int .i64 (k : Int))) (some (.int .i64 ((k : Int) + 1))) none).run Tryd.prog W = .ok (.string (a0.extract k (k + 1))) W := slice_at a0 k 1 (by omega)
                  have hHx : Aside0 (cachepotref3_Hex.f (a0.extract k (k + 1)) = some ⟨(hex1 (byteAt a0 k)).toArray⟩) := ⟨by
                    rw [cachepotref3_Hex.f, if_pos (by simp; omega), hex_of a0 k hka]⟩
                  have hzx : (⟨(hex1 (byteAt a0 k)).toArray⟩ : ByteArray).size = 2 := rfl
                  have hx3 : Aside0 ((o2 ++ ((⟨#[92]⟩ : ByteArray) ++ (⟨(hex1 (byteAt a0 k)).toArray⟩ : ByteArray))).data.toList = o.data.toList ++ ((bytesAt a0 pos n).take (k + 1 - pos)).flatMap hexQ) := ⟨by
                    rw [hex_at, hacc.out, bytesAt_take a0 pos n k hk1 hlt hwl, List.flatMap_append, List.append_assoc]
                    simp⟩
                  generalize hxx : (⟨(hex1 (byteAt a0 k)).toArray⟩ : ByteArray) = hx at hHx hx3 hzx
                  clear hxx hacc
                  have hc1 : ¬ 9223372036854775807 < o2.size + (1 + hx.size) := by omega
                  have hc2 : ¬ 9223372036854775807 < 1 + hx.size := by omega
                  clear hzx ho2
                  go_wp2_with fail
                  refine (cachepotref3_Hex.calls (a0.extract k (k + 1)) hx _ hHx.out).mono ?_
                  rintro e w3 ⟨rfl, hb3⟩
                  have hb4 : Below w.heap.size w w3 := hbi.trans (hb3.mono hbi.size)
                  go_wp2
                  go_roundw
                  case rel => exact ⟨_, k + 1, rfl, by simp, by omega, by omega, hb4, hx3⟩
                  case measure => simp [intOf]; omega
                · have hkk : k = pos + n := by omega
                  have q3 : Aside0 (o2.data.toList ++ quoteFrom a0 f (pos + n) = 34 :: quoteFrom a0 a0.size 0) := ⟨by
                    rw [hacc.out, hkk, show pos + n - pos = n by omega, bytesAt_all]; exact q2.out⟩
                  have ho3 : o2.size ≤ 1 + 3 * (pos + n) := by omega
                  clear hacc q2
                  go_wp2
                  go_roundw
                  case rel => exact ⟨_, o2, pos + n, f, rfl, rfl, by simp, hbi, q3, p2, by omega, ho3, by omega⟩
                  case measure => simp [intOf]; omega)
      · rw [hm, if_pos rfl] at hpf
        have hpA := Aside0.mk hpf
        clear hpf
        obtain ⟨n34, n92, n32⟩ := mayB_bytes a0 pos hp hm
        have t34 : ((a0[pos].toNat : Int) == 34) = false := by rw [← hba]; exact (u8_toNat _ 34 (by decide)).trans (decide_eq_false n34)
        have t92 : ((a0[pos].toNat : Int) == 92) = false := by rw [← hba]; exact (u8_toNat _ 92 (by decide)).trans (decide_eq_false n92)
        have t32 : ((a0[pos].toNat : Int) == 32) = false := by rw [← hba]; exact (u8_toNat _ 32 (by decide)).trans (decide_eq_false n32)
        have hq1 : quote1 a0 pos = bytesAt a0 pos (width a0 pos) := by rw [quote1, hm]; rfl
        have hsl := slice_at a0 pos (width a0 pos) hwl
        have hbe := extract_bytes a0 pos (width a0 pos)
        have hbz : (a0.extract pos (pos + width a0 pos)).size = width a0 pos := by simp; omega
        rw [hq1, ← hbe, ← app_data] at q1
        have q2 := Aside0.mk q1
        rw [hm, Bool.true_and] at p1
        have p2 := Aside0.mk p1
        have hcat : ¬ 9223372036854775807 < o.size + (a0.extract pos (pos + width a0 pos)).size := by omega
        have hoz : (o ++ a0.extract pos (pos + width a0 pos)).size ≤ 1 + 3 * (pos + width a0 pos) := by rw [app_size]; omega
        clear q1 p1 hba n34 n92 n32 hq1 hm hbe hbz
        generalize width a0 pos = n at *
        go_wp2_with fail
        refine (cachepotref3_plain.calls 3 a0 (pos : Int) (n : Int) _ hpA.out).mono ?_
        rintro e w1 ⟨rfl, ⟨nd, rfl⟩⟩
        cases av
        all_goals (
          go_wp2
          go_roundw
          case rel => exact ⟨_, _, pos + n, f, rfl, rfl, by simp, pw_below_drewN hbw nd, q2, by first | exact p2 | (rw [decide_eq_true (show 0 < n by omega)]; exact p2), by omega, hoz, hwl⟩
          case measure => simp [intOf]; omega)
    · have q1 := hq.out
      have p1 := hpl.out
      rw [quoteFrom_endI _ _ _ hp, List.append_nil] at q1
      rw [plainFrom_endI _ _ _ hp, Bool.and_true] at p1
      clear hq hpl
      have hcc : ¬ 9223372036854775807 < o.size + 1 := by omega
      cases av
      · have q2 : Aside0 (o ++ (⟨#[34]⟩ : ByteArray) = r) := ⟨by
          rw [← hr.out, quoteB, ← p1, if_neg (by decide)]
          apply ba_extI
          rw [app_data, q1]
          rfl⟩
        clear q1 p1
        go_wp2
        go_ret
        exact ⟨ret_strF q2.out, hbw⟩
      · have q2 : Aside0 (a0 = r) := ⟨by
          rw [← hr.out, quoteB, ← p1, if_pos rfl]⟩
        clear q1 p1
        go_wp2
        go_ret
        exact ⟨ret_strF q2.out, hbw⟩
end Go.Proofs.YtfaelejeihmgcaaDoor.Wd

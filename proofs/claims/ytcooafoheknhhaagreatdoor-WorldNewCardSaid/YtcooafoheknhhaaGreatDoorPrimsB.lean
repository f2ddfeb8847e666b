/- Functions on bytes that the plain evaluator does not walk into: what it reckons in their place. -/
import Derived.Test.YtcooafoheknhhaaGreatDoorPrims
import Derived.Test.YtcooafoheknhhaaGreatDoorEvX1
namespace Go.Proofs.YtcooafoheknhhaaGreatDoor.Prm
open Go Go.RowKit Go.Ev Go.Proofs.YtcooafoheknhhaaGreatDoorW.PrintWords
noncomputable section
def blankR (l : List UInt8) : Bool := List.rec (motive := fun _ => Bool) true (fun b _ ih => bif Nat.beq b.toNat 255 then ih else false) l
def blankP (args : List AV) (H : AH) : Res := match args with
  | [.str s] => bif Nat.blt (lenR s) 4294967296 then bindO (mkB (blankR s)) fun v => some (v, H) else none
  | _ => none
def fillP (args : List AV) (H : AH) : Res := match args with
  | [.int .u8 (.ofNat b), .int .i64 (.ofNat n)] => bif Nat.blt n 281474976710656 then wholeK (repE [UInt8.ofNat b] n) fun r => some (.str r, H) else none
  | _ => none
def stepR (n : Nat) : Nat → Nat := Nat.rec (motive := fun _ => Nat → Nat) (fun c => c) (fun _ ih c => natK (bif Nat.beq (c % 2) 1 then Nat.xor (c / 2) 3988292384 else c / 2) ih) n
def sumR (l : List UInt8) : Nat → Nat := List.rec (motive := fun _ => Nat → Nat) (fun c => c) (fun b _ ih c => natK (stepR 8 (Nat.xor c b.toNat)) ih) l
def sumStep (v : AV) (ih : Nat → Res) (c : Nat) : Res := match v with
  | .str s => bif Nat.blt (lenR s) 4294967296 then natK (sumR s c) ih else none
  | _ => none
def sumL (l : List AV) (k : Nat → Res) : Nat → Res := List.rec (motive := fun _ => Nat → Res) (fun c => k c) (fun v _ ih c => sumStep v ih c) l
def crcP (args : List AV) (H : AH) : Res := match args with
  | [.slice (some (b, o)) (n + 1) _] => match H.m.get b with
    | some (.cells cs _ _) => takeK (n + 1) (dropR o cs) fun l => bif Nat.beq (lenR l) (n + 1) && Nat.blt n 4294967296 then sumL l (fun c => natK (4294967295 - c) fun c => some (.int .u32 (.ofNat c), H)) 4294967295 else none
    | _ => none
  | _ => none
def rcrcP (args : List AV) (H : AH) : Res := match args with
  | [.str s] => bif Nat.blt (lenR s) 4294967296 then natK (4294967295 - sumR s 4294967295) fun c => some (.int .u32 (.ofNat c), H) else none
  | _ => none
end
theorem blankR_eq : ∀ l : List UInt8, blankR l = blankB l
  | [] => rfl
  | b :: l => by
    show (bif Nat.beq b.toNat 255 then blankR l else false) = if b.toNat = 255 then blankB l else false
    rw [blankR_eq l]
    by_cases h : b.toNat = 255
    · rw [if_pos h, h]; rfl
    · rw [if_neg h]
      cases hb : Nat.beq b.toNat 255
      · rfl
      · exact absurd (Nat.eq_of_beq_eq_true hb) h
theorem stepR_eq : ∀ (n c : Nat), stepR n c = crcN n c
  | 0, _ => rfl
  | n + 1, c => by
    show natK (bif Nat.beq (c % 2) 1 then Nat.xor (c / 2) 3988292384 else c / 2) (stepR n) = crcN n (crc1 c)
    rw [natK_eq, stepR_eq n]
    congr 1
    unfold crc1
    by_cases h : c % 2 = 1
    · rw [if_pos h, h]; rfl
    · rw [if_neg h]
      cases hb : Nat.beq (c % 2) 1
      · rfl
      · exact absurd (Nat.eq_of_beq_eq_true hb) h
theorem sumR_eq : ∀ (l : List UInt8) (c : Nat), sumR l c = crcS l c
  | [], _ => rfl
  | b :: l, c => by
    show natK (stepR 8 (Nat.xor c b.toNat)) (sumR l) = crcS l (crcB c b.toNat)
    rw [natK_eq, stepR_eq, sumR_eq l]; rfl
theorem sumL_iff : ∀ (l : List AV) (k : Nat → Res) (c : Nat) (r : AV × AH), sumL l k c = some r → ∃ ss : List (List UInt8), l = ss.map AV.str ∧ (∀ s ∈ ss, s.length < 4611686018427387904) ∧ k (crcL ss c) = some r
  | [], k, c, r, h => ⟨[], rfl, fun _ h => by simp at h, h⟩
  | v :: l, k, c, r, h => by
    have h' : sumStep v (sumL l k) c = some r := h
    unfold sumStep at h'
    split at h'
    · rename_i s
      cases hb : Nat.blt (lenR s) 4294967296
      · rw [hb] at h'; cases h'
      · rw [hb] at h'
        rw [Nat.blt_eq, lenR_eq] at hb
        simp only [cond_true, natK_eq] at h'
        obtain ⟨ss, h1, h2, h3⟩ := sumL_iff l k _ r h'
        refine ⟨s :: ss, by rw [h1]; rfl, ?_, by rw [sumR_eq] at h3; exact h3⟩
        intro t ht
        rcases List.mem_cons.1 ht with rfl | ht
        · omega
        · exact h2 t ht
    · cases h'

section
variable {P : Program} {B WB : Nat}
theorem mkB_eq (b : Bool) : mkB b = some (.bool b) := by cases b <;> rfl
theorem blankP_ok {f : FuncId} {fn : Func} (hfn : P.funcs[f]? = some fn) (hb : fn.body.isSome = true) (hname : (fn.name == "runtime.NumGoroutine") = false)
    (hc : ∀ (s : List UInt8) (w : World), s.length < 4294967296 → Calls P f #[.string ⟨⟨s⟩⟩] w fun e w' => e = .returned (.bool (blankB s)) ∧ Drawn0 w w') : Prim1 P B WB f blankP := by
  have key : ∀ args H r, blankP args H = some r → ∃ s, args = [.str s] ∧ s.length < 4294967296 ∧ r = (.bool (blankB s), H) := by
    intro args H r h
    unfold blankP at h
    split at h
    · rename_i s
      cases hl : Nat.blt (lenR s) 4294967296
      · rw [hl] at h; cases h
      · rw [hl] at h
        rw [Nat.blt_eq, lenR_eq] at hl
        simp only [cond_true, mkB_eq, bindO_some, blankR_eq, Option.some.injEq] at h
        exact ⟨s, rfl, hl, h.symm⟩
    · cases h
  refine ⟨fun args H r h => ?_, fun args H r h D ρ w args' hr ha _ => ?_⟩
  · obtain ⟨s, _, _, rfl⟩ := key args H r h
    exact Nat.le_refl _
  · obtain ⟨s, rfl, h1, rfl⟩ := key args H r h
    obtain ⟨l⟩ := args'
    cases ha with | cons _ _ _ _ h3 h4 =>
    cases h4
    cases h3
    exact prim_does hfn hb hname hr (fun sh => VR.bool _) ((hc s w h1).mono fun e w' ⟨h2, h3⟩ => ⟨h2, h3.below⟩)
theorem fillP_ok {f : FuncId} {fn : Func} (hfn : P.funcs[f]? = some fn) (hb : fn.body.isSome = true) (hname : (fn.name == "runtime.NumGoroutine") = false)
    (hc : ∀ (b n : Nat) (w : World), n < 281474976710656 → Calls P f #[.int .u8 b, .int .i64 n] w fun e w' => e = .returned (.string (strOfNums (List.replicate n (b : Int)))) ∧ Below w.heap.size w w') : Prim1 P B WB f fillP := by
  have hrep : ∀ (b n : Nat), strOfNums (List.replicate n (b : Int)) = ⟨⟨repE [UInt8.ofNat b] n⟩⟩ := by
    intro b n
    unfold strOfNums
    congr 2
    induction n with
    | zero => rfl
    | succ n ih =>
      rw [List.replicate_succ, List.map_cons, ih]
      rfl
  have key : ∀ args H r, fillP args H = some r → ∃ b n, args = [.int .u8 (.ofNat b), .int .i64 (.ofNat n)] ∧ n < 281474976710656 ∧ r = (.str (repE [UInt8.ofNat b] n), H) := by
    intro args H r h
    unfold fillP at h
    split at h
    · rename_i b n
      cases hl : Nat.blt n 281474976710656
      · rw [hl] at h; cases h
      · rw [hl] at h
        rw [Nat.blt_eq] at hl
        simp only [cond_true, wholeK_eq, Option.some.injEq] at h
        exact ⟨b, n, rfl, hl, h.symm⟩
    · cases h
  refine ⟨fun args H r h => ?_, fun args H r h D ρ w args' hr ha _ => ?_⟩
  · obtain ⟨b, n, _, _, rfl⟩ := key args H r h
    exact Nat.le_refl _
  · obtain ⟨b, n, rfl, h1, rfl⟩ := key args H r h
    obtain ⟨l⟩ := args'
    cases ha with | cons _ _ _ _ h3 h4 =>
    cases h4 with | cons _ _ _ _ h5 h6 =>
    cases h6
    cases h3
    cases h5
    refine prim_does hfn hb hname hr (fun sh => VR.str _) ((hc b n w h1).mono fun e w' ⟨h2, h3⟩ => ⟨?_, h3⟩)
    rw [h2, hrep]
theorem rcrcP_ok {f : FuncId} {fn : Func} (hfn : P.funcs[f]? = some fn) (hb : fn.body.isSome = true) (hname : (fn.name == "runtime.NumGoroutine") = false)
    (hc : ∀ (s : List UInt8) (w : World), s.length < 4294967296 → Calls P f #[.string ⟨⟨s⟩⟩] w fun e w' => e = .returned (.int .u32 ((4294967295 - crcS s 4294967295 : Nat) : Int)) ∧ Drawn0 w w') : Prim1 P B WB f rcrcP := by
  have key : ∀ args H r, rcrcP args H = some r → ∃ s, args = [.str s] ∧ s.length < 4294967296 ∧ r = (.int .u32 (.ofNat (4294967295 - crcS s 4294967295)), H) := by
    intro args H r h
    unfold rcrcP at h
    split at h
    · rename_i s
      cases hl : Nat.blt (lenR s) 4294967296
      · rw [hl] at h; cases h
      · rw [hl] at h
        rw [Nat.blt_eq, lenR_eq] at hl
        simp only [cond_true, natK_eq, sumR_eq, Option.some.injEq] at h
        exact ⟨s, rfl, hl, h.symm⟩
    · cases h
  refine ⟨fun args H r h => ?_, fun args H r h D ρ w args' hr ha _ => ?_⟩
  · obtain ⟨s, _, _, rfl⟩ := key args H r h
    exact Nat.le_refl _
  · obtain ⟨s, rfl, h1, rfl⟩ := key args H r h
    obtain ⟨l⟩ := args'
    cases ha with | cons _ _ _ _ h3 h4 =>
    cases h4
    cases h3
    exact prim_does hfn hb hname hr (fun sh => VR.int _ _) ((hc s w h1).mono fun e w' ⟨h2, h3⟩ => ⟨h2, h3.below⟩)
theorem strs_get {D : Nat → Prop} {ρ : Nat → Nat} {sh : Nat → Option (TypeId × Nat)} {v : Value} {s : List UInt8} (h : VR D ρ sh (.str s) v) : v = .string ⟨⟨s⟩⟩ := by cases h; rfl
theorem crcP_ok {f : FuncId} {fn : Func} (hfn : P.funcs[f]? = some fn) (hb : fn.body.isSome = true) (hname : (fn.name == "runtime.NumGoroutine") = false)
    (hc : ∀ (b o n cap : Nat) (ls : List (List UInt8)) (w : World), ls.length = n → n ≤ cap → n < 4611686018427387904 → (∀ s ∈ ls, s.length < 4611686018427387904) →
      (∀ (j : Nat) (s : List UInt8), ls[j]? = some s → w.cell? ⟨b, o + j, none⟩ = some (.string ⟨⟨s⟩⟩)) →
      Calls P f #[.slice (some ⟨b, o, none⟩) n cap] w fun e w' => e = .returned (.int .u32 ((4294967295 - crcL ls 4294967295 : Nat) : Int)) ∧ Drawn0 w w') : Prim1 P B WB f crcP := by
  have key : ∀ args H r, crcP args H = some r → ∃ b o n cap cs e fz, ∃ ls : List (List UInt8), args = [.slice (some (b, o)) (n + 1) cap] ∧ H.m.get b = some (.cells cs e fz) ∧ n < 4294967296 ∧ (cs.drop o).take (n + 1) = ls.map AV.str ∧ ls.length = n + 1 ∧
      (∀ s ∈ ls, s.length < 4611686018427387904) ∧ r = (.int .u32 (.ofNat (4294967295 - crcL ls 4294967295)), H) := by
    intro args H r h
    unfold crcP at h
    split at h
    · rename_i b o n cap
      split at h
      · rename_i cs e fz hg
        simp only [takeK_eq, dropR_eq, lenR_eq] at h
        cases hl : (Nat.beq ((cs.drop o).take (n + 1)).length (n + 1) && Nat.blt n 4294967296)
        · rw [hl] at h; cases h
        · rw [hl] at h
          rw [Bool.and_eq_true, Nat.beq_eq, Nat.blt_eq] at hl
          simp only [cond_true] at h
          obtain ⟨ss, h1, h2, h3⟩ := sumL_iff _ _ _ _ h
          simp only [natK_eq, Option.some.injEq] at h3
          refine ⟨b, o, n, cap, cs, e, fz, ss, rfl, hg, hl.2, h1, ?_, h2, h3.symm⟩
          have := hl.1
          rw [h1, List.length_map] at this
          exact this
      · cases h
    · cases h
  refine ⟨fun args H r h => ?_, fun args H r h D ρ w args' hr ha _ => ?_⟩
  · obtain ⟨b, o, n, cap, cs, e, fz, ls, _, _, _, _, _, _, rfl⟩ := key args H r h
    exact Nat.le_refl _
  · obtain ⟨b, o, n, cap, cs, e, fz, ls, rfl, hg, hn, hls, hll, hlens, rfl⟩ := key args H r h
    obtain ⟨l⟩ := args'
    cases ha with | cons _ v' _ _ h3 h4 =>
    cases h4
    obtain ⟨c, rfl, hle⟩ : ∃ c, v' = .slice (some ⟨ρ b, o, none⟩) (n + 1) c ∧ n + 1 ≤ c := by
      cases h3 <;> exact ⟨_, rfl, by assumption⟩
    obtain ⟨cs', fz', x, y, hw, hxy, hv, hfz⟩ := hr.block hg
    refine prim_does hfn hb hname hr (fun sh => VR.int _ _) ((hc (ρ b) o (n + 1) c ls w hll hle (by omega) hlens ?_).mono fun e w' ⟨h2, h3⟩ => ⟨h2, h3.below⟩)
    intro j s hj
    have h5 : ((cs.drop o).take (n + 1))[j]? = some (AV.str s) := by rw [hls, List.getElem?_map, hj]; rfl
    have h6 : cs[o + j]? = some (AV.str s) := by
      rw [List.getElem?_take] at h5
      split at h5
      · rw [List.getElem?_drop] at h5; exact h5
      · cases h5
    obtain ⟨u, h7, h8⟩ := hv.get _ _ h6
    rw [strs_get h8] at h7
    rw [cell_of hw, ← Array.getElem?_toList, hxy, List.getElem?_append_left (List.getElem?_eq_some_iff.1 h7).1, h7]
end
end Go.Proofs.YtcooafoheknhhaaGreatDoor.Prm

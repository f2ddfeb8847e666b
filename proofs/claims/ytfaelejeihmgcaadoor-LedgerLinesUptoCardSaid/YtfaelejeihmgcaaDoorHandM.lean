/-
  Package atom's New, Commit, Forget and Get: the map behind the pointer tells what the writes told it.
-/
import Derived.Test.YtfaelejeihmgcaaDoorAtm
import Derived.Test.YtfaelejeihmgcaaDoorLg0
import Derived.Deep.LoopGhost
import Derived.Outline
import Derived.StillTailTactics
import Derived.Lib.Builder
import Derived.Lib.Hide
import Derived.IntWalk
import Derived.Carry
import Derived.WalkSpells
import Derived.Tactics2
namespace Go.Proofs.YtfaelejeihmgcaaDoor.Lgx
open Go.RowKit Go.Proofs.YtfaelejeihmgcaaDoorW.PrintWords Go.Proofs.YtfaelejeihmgcaaDoorW.PrintLast
open Atm (MapIs Had nought putM ansVal)

/-- A pointer to a Map in block b, whose map is block m. -/
structure AtomIs (w : World) (b m n : Nat) (M : ByteArray → Had) : Prop where
  cell : w.heap[b]? = some (.cells #[.map (some m)] 144 (0, 0))
  map : MapIs w m n M

theorem AtomIs.lt {w : World} {b m n : Nat} {M : ByteArray → Had} (h : AtomIs w b m n M) : b < w.heap.size := (Array.getElem?_eq_some_iff.1 h.cell).1
theorem AtomIs.ne {w : World} {b m n : Nat} {M : ByteArray → Had} (h : AtomIs w b m n M) : b ≠ m := fun e => by
  subst e
  obtain ⟨es, clock, hb⟩ := h.map.is_map
  have := h.cell.symm.trans hb
  cases this
theorem AtomIs.below {w w' : World} {b m n : Nat} {M : ByteArray → Had} (h : AtomIs w b m n M) (hb : Below w.heap.size w w') : AtomIs w' b m n M :=
  ⟨(hb.block b h.lt).trans h.cell, h.map.below hb⟩
theorem AtomIs.cell0 {w : World} {b m n : Nat} {M : ByteArray → Had} (h : AtomIs w b m n M) : w.cell? ⟨b, 0, none⟩ = some (.map (some m)) := by
  simp [World.cell?, h.cell]
/-- the map is written -/
theorem AtomIs.put {w w' : World} {b m n n' : Nat} {M M' : ByteArray → Had} (h : AtomIs w b m n M) (hm : MapIs w' m n' M') (hg : w.grownBy w' (some m)) : AtomIs w' b m n' M' :=
  ⟨(hg.block b h.lt (fun e => h.ne (Option.some.inj e))).trans h.cell, hm⟩

theorem atom_New (w : World) :
    Calls Tryd.prog 72 #[] w fun e w' => e = .returned (.pointer (some ⟨w.heap.size + 1, 0, none⟩)) ∧ AtomIs w' (w.heap.size + 1) w.heap.size 0 (fun _ => nought) ∧ Below w.heap.size w w' := by
  have hmm := @run_makeMap Tryd.prog
  go_enter Tryd.func72, Tryd.ntmps72
  go_wp2
  go_ret
  refine ⟨rfl, ⟨?_, (MapIs.made w).below (below_alloc (Below.refl _ _) _)⟩, below_alloc (below_alloc (Below.refl _ _) _) _⟩
  have h := heap_alloc_new (w.alloc (Obj.map #[] 0)) (Obj.cells #[Value.map (some w.heap.size)] 144)
  rwa [show (w.alloc (Obj.map #[] 0)).heap.size = w.heap.size + 1 by simp] at h


def commitM (seq : Int) : List S101 → (ByteArray → Had) → (ByteArray → Had)
  | [], M => M
  | x :: l, M => commitM seq l (putM M x.f0 (if x.f1 then nought else (true, x.f2, seq)))
theorem commitM_snoc (seq : Int) (l : List S101) (x : S101) : ∀ M, commitM seq (l ++ [x]) M = putM (commitM seq l M) x.f0 (if x.f1 then nought else (true, x.f2, seq)) := by
  induction l with
  | nil => intro M; rfl
  | cons y l ih => intro M; exact ih _

theorem rd101 {l : List S101} {k : Nat} (h : k < l.length) : rd_T101 l (k : Int) = l[k] := by
  unfold rd_T101
  rw [List.getD_eq_getElem?_getD, Int.toNat_natCast, List.getElem?_eq_getElem h]
  rfl

set_option maxHeartbeats 4000000 in
set_option maxRecDepth 100000 in
theorem atom_Commit (b m n : Nat) (M : ByteArray → Had) (seq : Int) (A : Option Addr) (c : Nat) (l : List S101) (w : World) (hA : AtomIs w b m n M) (hr : ∀ W, w.grownBy W (some m) → Kd.C k101 W A l.length l)
    (hk : ∀ x ∈ l, x.f0.size ≤ maxLen) (hn : n + l.length < maxLen) :
    Calls Tryd.prog 73 #[.pointer (some ⟨b, 0, none⟩), .int .u32 seq, .slice A l.length c] w fun e w' => e = .returned (.tuple #[]) ∧ AtomIs w' b m (n + l.length) (commitM seq l M) ∧ w.grownBy w' (some m) := by
  have cb := hA.cell0
  have q0 := fun (w : World) (r : Option Nat) => run_eql_map_nil (P := Tryd.prog) w 142 9 98 r Tryd.underlying142
  have hl : l.length ≤ 9223372036854775807 := by unfold maxLen at hn; omega
  go_enter Tryd.func73, Tryd.ntmps73
  go_wp2
  go_loopw [21] (fun i wr => ∃ k : Nat, k ≤ l.length ∧ i = .int .i64 k ∧ AtomIs wr b m (n + k) (commitM seq (l.take k) M) ∧ w.grownBy wr (some m)) (fun i _ => l.length - (intOf i).toNat)
  case atStart => exact ⟨0, Nat.zero_le _, rfl, hA, World.grownBy.refl _ _⟩
  case round =>
    obtain ⟨k, hkl, rfl, hI, hg⟩ := hrel
    by_cases hlt : k < l.length
    · obtain ⟨ad, e, c0, c1, c2⟩ := at_T101 (hr _ hg) k (by omega) (by omega)
      cases e
      rw [rd101 hlt] at c0 c1 c2
      have hkk := hk _ (List.getElem_mem hlt)
      have hsn := commitM_snoc seq (l.take k) l[k] M
      rw [← List.take_succ_eq_append_getElem hlt] at hsn
      obtain ⟨x, hx⟩ : ∃ x, x = l[k] := ⟨_, rfl⟩
      rw [← hx] at c0 c1 c2 hkk hsn
      have Hsn := Lib.hid hsn
      have Hx := Lib.hid hx
      clear hsn hx
      simp only [Int.toNat_natCast] at c0 c1 c2
      have cb1 := hI.cell0
      have hblt := hI.lt
      obtain ⟨xk, xd, xv⟩ := x
      cases xd
      · go_wp2_with fail
        have hIW := hI.below (below_alloc (Below.refl _ _) (Obj.cells #[Value.string xk, Value.bool false, Value.string xv] 101))
        have hgW := hg.trans (World.grownBy_alloc wr (Obj.cells #[Value.string xk, Value.bool false, Value.string xv] 101) (some m))
        have g0 := Lib.cell_of_heap (heap_alloc_new wr (Obj.cells #[Value.string xk, Value.bool false, Value.string xv] 101)) 0
        have g2 := Lib.cell_of_heap (heap_alloc_new wr (Obj.cells #[Value.string xk, Value.bool false, Value.string xv] 101)) 2
        simp only [List.getElem?_toArray, List.getElem?_cons_zero, List.getElem?_cons_succ] at g0 g2
        generalize wr.alloc (Obj.cells #[Value.string xk, Value.bool false, Value.string xv] 101) = W at hIW hgW g0 g2 ⊢
        have cbW := hIW.cell0
        go_still_tail 12, (by kernel_rfl)
        change wpList _ _ _ _ _ W.drew
        refine Atm.wpList_put _ rfl _ _ _ rfl m (n + k) _ rfl (hIW.map.below (below_drew (Below.refl _ _))) (by omega) xk xk (true, xv, seq) rfl rfl hkk ?_
        intro w1 hm1 hg1
        have hA1 := AtomIs.put (hIW.below (below_drew (Below.refl _ _))) hm1 hg1
        have hg2 := hgW.trans (World.grownBy.trans ((grown_of_below (below_drew (Below.refl _ _)) _)) hg1)
        clear hm1 hg1
        go_wp2
        go_roundw
        case rel => exact ⟨k + 1, hlt, by simp, by rw [Hsn.out]; exact hA1, hg2⟩
        case measure => simp [intOf]; omega
      · go_wp2_with fail
        have hIW := hI.below (below_alloc (Below.refl _ _) (Obj.cells #[Value.string xk, Value.bool true, Value.string xv] 101))
        have hgW := hg.trans (World.grownBy_alloc wr (Obj.cells #[Value.string xk, Value.bool true, Value.string xv] 101) (some m))
        have g0 := Lib.cell_of_heap (heap_alloc_new wr (Obj.cells #[Value.string xk, Value.bool true, Value.string xv] 101)) 0
        have g2 := Lib.cell_of_heap (heap_alloc_new wr (Obj.cells #[Value.string xk, Value.bool true, Value.string xv] 101)) 2
        simp only [List.getElem?_toArray, List.getElem?_cons_zero, List.getElem?_cons_succ] at g0 g2
        generalize wr.alloc (Obj.cells #[Value.string xk, Value.bool true, Value.string xv] 101) = W at hIW hgW g0 g2 ⊢
        have cbW := hIW.cell0
        go_still_tail 6, (by kernel_rfl)
        change wpList _ _ _ _ _ W.drew
        refine Atm.wpList_del _ rfl _ _ rfl m (n + k) _ rfl (hIW.map.below (below_drew (Below.refl _ _))) xk rfl hkk ?_
        intro w1 hm1 hg1
        have hA1 := AtomIs.put (hIW.below (below_drew (Below.refl _ _))) (hm1.mono (Nat.le_succ _)) hg1
        have hg2 := hgW.trans (World.grownBy.trans ((grown_of_below (below_drew (Below.refl _ _)) _)) hg1)
        clear hm1 hg1
        go_wp2
        go_roundw
        case rel => exact ⟨k + 1, hlt, by simp, by rw [Hsn.out]; exact hA1, hg2⟩
        case measure => simp [intOf]; omega
    · have hke : k = l.length := by omega
      subst hke
      rw [List.take_length] at hI
      go_wp2
      go_end0
      exact ⟨rfl, hI, hg⟩

def forgetM : List ByteArray → (ByteArray → Had) → (ByteArray → Had)
  | [], M => M
  | x :: l, M => forgetM l (putM M x nought)
theorem forgetM_snoc (l : List ByteArray) (x : ByteArray) : ∀ M, forgetM (l ++ [x]) M = putM (forgetM l M) x nought := by
  induction l with
  | nil => intro M; rfl
  | cons y l ih => intro M; exact ih _

theorem rdstr {l : List ByteArray} {k : Nat} (h : k < l.length) : rdOf ByteArray.empty l (k : Int) = l[k] := by
  unfold rdOf
  rw [List.getD_eq_getElem?_getD, Int.toNat_natCast, List.getElem?_eq_getElem h]
  rfl

set_option maxHeartbeats 4000000 in
set_option maxRecDepth 100000 in
theorem atom_Forget (b m n : Nat) (M : ByteArray → Had) (A : Option Addr) (c : Nat) (l : List ByteArray) (w : World) (hA : AtomIs w b m n M) (hr : ∀ W, w.grownBy W (some m) → Kd.C Kd.string W A l.length l)
    (hk : ∀ x ∈ l, x.size ≤ maxLen) (hl : l.length ≤ 9223372036854775807) :
    Calls Tryd.prog 74 #[.pointer (some ⟨b, 0, none⟩), .slice A l.length c] w fun e w' => e = .returned (.tuple #[]) ∧ AtomIs w' b m n (forgetM l M) ∧ w.grownBy w' (some m) := by
  have cb := hA.cell0
  go_enter Tryd.func74, Tryd.ntmps74
  go_wp2
  go_loopw [10] (fun i wr => ∃ k : Nat, k ≤ l.length ∧ i = .int .i64 k ∧ AtomIs wr b m n (forgetM (l.take k) M) ∧ w.grownBy wr (some m)) (fun i _ => l.length - (intOf i).toNat)
  case atStart => exact ⟨0, Nat.zero_le _, rfl, hA, World.grownBy.refl _ _⟩
  case round =>
    obtain ⟨k, hkl, rfl, hI, hg⟩ := hrel
    by_cases hlt : k < l.length
    · obtain ⟨ad, e, c0⟩ := Kd.at_string (hr _ hg) k (by omega) (by omega)
      cases e
      rw [rdstr hlt] at c0
      have hkk := hk _ (List.getElem_mem hlt)
      have hsn := forgetM_snoc (l.take k) l[k] M
      rw [← List.take_succ_eq_append_getElem hlt] at hsn
      obtain ⟨x, hx⟩ : ∃ x, x = l[k] := ⟨_, rfl⟩
      rw [← hx] at c0 hkk hsn
      have Hsn := Lib.hid hsn
      clear hsn hx
      simp only [Int.toNat_natCast] at c0
      have cb1 := hI.cell0
      go_wp2_with (at_delete; refine Atm.wpList_del _ rfl _ _ rfl m n _ rfl hI.map x rfl hkk ?_)
      intro w1 hm1 hg1
      have hA1 := AtomIs.put hI hm1 hg1
      have hg2 := hg.trans hg1
      clear hm1 hg1
      go_wp2
      go_roundw
      case rel => exact ⟨k + 1, hlt, by simp, by rw [Hsn.out]; exact hA1, hg2⟩
      case measure => simp [intOf]; omega
    · have hke : k = l.length := by omega
      subst hke
      rw [List.take_length] at hI
      go_wp2
      go_end0
      exact ⟨rfl, hI, hg⟩

def getM (M : ByteArray → Had) (l : List ByteArray) : List S98 := l.map fun k => ⟨k, (M k).1, (M k).2.1, (M k).2.2⟩

set_option maxHeartbeats 4000000 in
set_option maxRecDepth 100000 in
theorem atom_Get (b m n : Nat) (M : ByteArray → Had) (A : Option Addr) (c : Nat) (l : List ByteArray) (w : World) (hA : AtomIs w b m n M) (hr : Kd.C Kd.string w A l.length l)
    (hk : ∀ x ∈ l, x.size ≤ maxLen) (hl : l.length ≤ 1048576) :
    Calls Tryd.prog 76 #[.pointer (some ⟨b, 0, none⟩), .slice A l.length c] w fun e w' => ∃ v : Value, e = .returned v ∧ Kd.R k98 98 w' w.heap.size (fun _ => True) v (getM M l) ∧ Below w.heap.size w w' := by
  have cb := hA.cell0
  go_enter Tryd.func76, Tryd.ntmps76
  go_wp2
  go_loopw [5, 13] (fun v i wr => ∃ k : Nat, k ≤ l.length ∧ i = .int .i64 k ∧ Kd.R k98 98 wr w.heap.size (fun _ => True) v (getM M (l.take k)) ∧ Below w.heap.size w wr) (fun _ i _ => l.length - (intOf i).toNat)
  case atStart => exact ⟨0, Nat.zero_le _, rfl, Kd.R_nil _ _ _ _ _, Below.refl _ _⟩
  case round =>
    obtain ⟨k, hkl, rfl, hR, hb⟩ := hrel
    have hI := hA.below hb
    have cb1 := hI.cell0
    by_cases hlt : k < l.length
    · obtain ⟨ad, e, c0⟩ := Kd.at_string (Kd.C_below hr hb) k (by omega) (by omega)
      cases e
      rw [rdstr hlt] at c0
      have hkk := hk _ (List.getElem_mem hlt)
      have hsn : getM M (l.take (k + 1)) = getM M (l.take k) ++ [⟨l[k], (M l[k]).1, (M l[k]).2.1, (M l[k]).2.2⟩] := by
        rw [List.take_succ_eq_append_getElem hlt]
        simp only [getM, List.map_append, List.map_cons, List.map_nil]
      obtain ⟨x, hx⟩ : ∃ x, x = l[k] := ⟨_, rfl⟩
      rw [← hx] at c0 hkk hsn
      obtain ⟨mi, mv, mf, hmx⟩ : ∃ mi mv mf, M x = (mi, mv, mf) := ⟨_, _, _, rfl⟩
      rw [hmx] at hsn
      have Hmx := Lib.hid hmx
      clear hmx
      have Hsn := Lib.hid hsn
      clear hsn hx
      simp only [Int.toNat_natCast] at c0
      have hblt := hI.lt
      go_wp2_with (at_lookup; refine Atm.wpList_look _ rfl _ _ rfl m n _ rfl hI.map x rfl hkk ?_)
      intro k'
      rw [Hmx.out]
      unfold ansVal
      have hlen : (getM M (l.take k)).length ≤ 1048576 := by simp only [getM, List.length_map]; have := List.length_take_le k l; omega
      go_wp2_with (at_builtin; refine Kd.R_append k98 (w0 := w) w.heap.size rfl (.tmp 25) (.tmp 27) 41 98 (.agg #[(.string ⟨#[]⟩), (.bool false), (.string ⟨#[]⟩), (.int .u32 0)]) 48 rfl Tryd.underlying41 info98 rfl (by decide) (by omega) u5 (getM M (l.take k)) ⟨x, mi, mv, mf⟩ [.string x, .bool mi, .string mv, .int .u32 mf] (fun _ => True) (fun _ => False) rfl (by first | (go_simp; done) | (go_simp; rfl)) (k98_mkM _ _ _ ⟨x, mi, mv, mf⟩) (fun _ hk => hk.elim) (fun _ _ => trivial) (Kd.R_alloc hR _) (below_alloc hb _) (below_alloc hb _).size ?aL ?_)
      case aL => omega
      intro v1 w1 hR1 hb1 _ _
      have hR2 : Kd.R k98 98 w1 w.heap.size (fun _ => True) v1 (getM M (l.take (k + 1))) := by rw [Hsn.out]; exact hR1
      clear hR hR1
      go_wp2
      go_roundw
      case rel => exact ⟨k + 1, hlt, by simp, hR2, hb1⟩
      case measure => simp [intOf]; omega
    · have hke : k = l.length := by omega
      subst hke
      rw [List.take_length] at hR
      go_wp2
      go_ret
      exact ⟨_, rfl, hR, hb⟩

end Go.Proofs.YtfaelejeihmgcaaDoor.Lgx

/-
  strings.Builder at this dump: what copyCheck, WriteString, WriteByte, String do to a builder that the call itself has made and that is only written till it is read: its bytes, and that every block that is neither the builder's nor its buffer's stands as it stood.
-/
import Derived.Test.YtfaelejeihmgcaaDoorProg
import Derived.Lib.Strings
import Derived.Lib.Slices
import Derived.Lib.Walk
import Derived.Lib.Builder
import Derived.Lib.AppendStr
import Derived.Lib.UnsafeStr
import Derived.Test.YtfaelejeihmgcaaDoorShelf
import Derived.WalkKit
import Derived.KernelRfl
import Derived.OwnWalk
import Derived.Laws.Externs
namespace Go.Proofs.YtfaelejeihmgcaaDoor.Bld
open Go.RowKit

theorem info5 : (Tryd.prog.info? 5).map (fun i => (i.zero, i.size, i.bytes)) = some (some (.int .u8 0), 1, 1) := by kernel_rfl
theorem size82 : (Tryd.prog.info? 82).map (·.size) = some 2 := by kernel_rfl
theorem lies82 : liesAt Tryd.prog Tryd.prog.depth 82 (2 / Tryd.prog.cellsOf 82) 0 82 1 = true := by kernel_rfl

set_option maxHeartbeats 1000000 in
set_option maxRecDepth 100000 in
theorem copyCheck_fresh (b : Nat) (w : World) (h0 : w.cell? ⟨b, 0, none⟩ = some (.pointer none)) (hsh : w.shape? b = some (82, 2)) (hfz : w.frozen? ⟨b, 0, none⟩ = false) :
    Calls Tryd.prog 94 #[.pointer (some ⟨b, 0, none⟩)] w fun e w' => e = .returned (.tuple #[]) ∧ w' = w.setCell ⟨b, 0, none⟩ (.pointer (some ⟨b, 0, none⟩)) := by
  obtain ⟨j, hj, hjs⟩ := Option.map_eq_some_iff.1 size82
  go_enter Tryd.func94, Tryd.ntmps94
  go_wp2
  rw [Lib.run_to_unsafe w ⟨b, 0, none⟩ Tryd.underlying80 Tryd.underlying157 hj (by rw [hjs]; decide) hsh (Nat.zero_lt_succ 1)]
  simp only [Result.andThen]
  rw [Oper.upon_value]
  go_wp2
  rw [run_callFunc_extern Tryd.func116 (by kernel_rfl) (by kernel_rfl) (by kernel_rfl) (e := Extern.AbiNoEscape.same) (by kernel_rfl)]
  rw [Lib.run_noEscape]
  simp only [Result.andThen]
  rw [Oper.upon_value]
  go_wp2
  rw [Lib.run_from_unsafe w ⟨b, 0, none⟩ Tryd.underlying157 Tryd.underlying80 hj hsh lies82]
  simp only [Result.andThen]
  rw [Oper.upon_value]
  go_wp2
  go_end0
  exact ⟨rfl, rfl⟩

set_option maxHeartbeats 1000000 in
set_option maxRecDepth 100000 in
theorem copyCheck_used (b : Nat) (w : World) (h0 : w.cell? ⟨b, 0, none⟩ = some (.pointer (some ⟨b, 0, none⟩))) :
    Calls Tryd.prog 94 #[.pointer (some ⟨b, 0, none⟩)] w fun e w' => e = .returned (.tuple #[]) ∧ w' = w := by
  obtain ⟨j, hj, _⟩ := Option.map_eq_some_iff.1 size82
  go_enter Tryd.func94, Tryd.ntmps94
  go_wp2
  rw [Lib.run_neq_ptr_same w _ Tryd.underlying80 hj]
  go_wp2
  go_end0
  exact ⟨rfl, rfl⟩

/-- A builder in block b, its buffer v, which holds the bytes l; buffer and builder lie from block B on. -/
structure Is (B b : Nat) (v : Value) (l : List UInt8) (w : World) : Prop where
  hB : B ≤ b
  blk : ∃ p, (p = .pointer none ∨ p = .pointer (some ⟨b, 0, none⟩)) ∧ w.heap[b]? = some (.cells #[p, v] 82 (0, 0))
  own : w.ownsRow B 5 1 v l.length (Lib.byteCells l)

/-- Every block but the builder's and its buffer's stands. -/
def Kept (b : Nat) (v : Value) (w w' : World) : Prop := ∀ k o, w.heap[k]? = some o → k ≠ b → some k ≠ v.ownBlock → w'.heap[k]? = some o

theorem Is.lt {B b : Nat} {v : Value} {l : List UInt8} {w : World} (h : Is B b v l w) : b < w.heap.size := by
  obtain ⟨p, _, hb⟩ := h.blk
  exact (Array.getElem?_eq_some_iff.1 hb).1

theorem Is.ne {B b : Nat} {v : Value} {l : List UInt8} {w : World} (h : Is B b v l w) : v.ownBlock ≠ some b := by
  obtain ⟨p, _, hb⟩ := h.blk
  exact Lib.ownBlock_ne h.own hb (by decide)

/-- where the builder's and the buffer's blocks stand as they stood -/
theorem Is.move {B b : Nat} {v : Value} {l : List UInt8} {w w' : World} (h : Is B b v l w) (h0 : w'.heap[b]? = w.heap[b]?) (h1 : ∀ k, v.ownBlock = some k → w'.heap[k]? = w.heap[k]?) : Is B b v l w' := by
  refine ⟨h.hB, ?_, ?_⟩
  · obtain ⟨p, hp, hb⟩ := h.blk
    exact ⟨p, hp, h0.trans hb⟩
  · refine ⟨h.own.1, ?_⟩
    rcases h.own.2 with h2 | ⟨g, cap, cur, hv, hg, hc, r⟩
    · exact .inl h2
    · exact .inr ⟨g, cap, cur, hv, hg, (h1 g (by rw [hv]; rfl)).trans hc, r⟩

theorem Is.own_lt {B b : Nat} {v : Value} {l : List UInt8} {w : World} (h : Is B b v l w) : ∀ k, v.ownBlock = some k → k < w.heap.size := by
  intro k hk
  rcases h.own.2 with ⟨hv, _⟩ | ⟨g, cap, cur, hv, hg, hc, _⟩
  · rw [hv] at hk; simp [Value.ownBlock] at hk
  · rw [hv] at hk
    simp only [Value.ownBlock, Option.some.injEq] at hk
    subst hk
    exact (Array.getElem?_eq_some_iff.1 hc).1

theorem Is.below {B b : Nat} {v : Value} {l : List UInt8} {w w' : World} (h : Is B b v l w) (hb : Below w.heap.size w w') : Is B b v l w' :=
  h.move (hb.block b h.lt) (fun k hk => hb.block k (h.own_lt k hk))

theorem Is.drew {B b : Nat} {v : Value} {l : List UInt8} {w : World} (h : Is B b v l w) : Is B b v l w.drew := h.move rfl (fun _ _ => rfl)

theorem Is.alloc {B b : Nat} {v : Value} {l : List UInt8} {w : World} (h : Is B b v l w) (o : Obj) : Is B b v l (w.alloc o) :=
  h.move (Lib.alloc_old w o b h.lt) (fun k hk => Lib.alloc_old w o k (h.own_lt k hk))

theorem Is.builder {B b : Nat} {v : Value} {l : List UInt8} {w : World} (h : Is B b v l w) : Lib.IsBuilder 82 5 B b (Lib.byteCells l) w := by
  obtain ⟨p, hp, hb⟩ := h.blk
  have hA : Lib.BuilderAt 82 5 B b p (Lib.byteCells l) w := ⟨h.hB, v, hb, by rw [Lib.byteCells_length]; exact h.own, h.ne⟩
  rcases hp with rfl | rfl
  · exact .inl hA
  · exact .inr hA

/-- 'var b strings.Builder' -/
theorem Is.fresh (w : World) : Is w.heap.size w.heap.size (.slice none 0 0) [] (w.alloc (.cells #[.pointer none, .slice none 0 0] 82)) := by
  refine ⟨Nat.le_refl _, ⟨_, .inl rfl, ?_⟩, ⟨by simp [Lib.byteCells], .inl ⟨rfl, rfl⟩⟩⟩
  exact heap_alloc_new w _

theorem copyCheck (B b : Nat) (v : Value) (l : List UInt8) (w : World) (h : Is B b v l w) :
    Calls Tryd.prog 94 #[.pointer (some ⟨b, 0, none⟩)] w fun e w' => e = .returned (.tuple #[]) ∧ (w'.heap[b]? = some (.cells #[.pointer (some ⟨b, 0, none⟩), v] 82 (0, 0)) ∧ Is B b v l w' ∧ Below B w w' ∧ Kept b v w w') := by
  obtain ⟨p, hp, hb⟩ := h.blk
  rcases hp with rfl | rfl
  · refine (copyCheck_fresh b w (by rw [Lib.cell_of_heap hb]; rfl) (by simp [World.shape?, hb]) (Lib.frozen_of_heap hb 0)).mono ?_
    rintro e w' ⟨rfl, rfl⟩
    have e1 : (w.setCell ⟨b, 0, none⟩ (.pointer (some ⟨b, 0, none⟩))).heap[b]? = some (.cells #[.pointer (some ⟨b, 0, none⟩), v] 82 (0, 0)) := by
      simp [World.setCell, Array.getElem?_modify, hb]
    refine ⟨rfl, e1, ⟨h.hB, ⟨_, .inr rfl, e1⟩, ?_⟩, (Below.refl B w).setCell (p := ⟨b, 0, none⟩) h.hB _, fun k o hk hne _ => ?_⟩
    · exact h.own.kept (row := some b) ⟨rfl, rfl, rfl, by simp [World.setCell], fun k _ hk => Below.heap_setCell _ _ _ _ (fun e => hk (by simp [e]))⟩ (Or.inr h.ne)
    · rw [Below.heap_setCell _ _ _ _ (fun e => hne e)]
      exact hk
  · refine (copyCheck_used b w (by rw [Lib.cell_of_heap hb]; rfl)).mono ?_
    rintro e w' ⟨rfl, rfl⟩
    exact ⟨rfl, hb, h, Below.refl B _, fun _ _ hk _ _ => hk⟩

set_option maxHeartbeats 2000000 in
set_option maxRecDepth 100000 in
theorem writeString (B b : Nat) (v : Value) (l : List UInt8) (s : ByteArray) (w : World) (h : Is B b v l w) (hlen : l.length + s.size ≤ 140737488355328) (hBw : B ≤ w.heap.size) :
    Calls Tryd.prog 58 #[.pointer (some ⟨b, 0, none⟩), .string s] w fun e w' => e = .returned (.tuple #[.int .i64 s.size, .nilIface]) ∧ ∃ v', Is B b v' (l ++ s.data.toList) w' ∧ Below B w w' ∧ Kept b v w w' := by
  obtain ⟨i0, hi, hz0, hz1, hz2⟩ := info_parts info5
  go_enter Tryd.func58, Tryd.ntmps58
  go_wp2_with (go_at_call 94; refine (copyCheck B b v l _ h).mono ?_)
  rintro e w1 ⟨rfl, hbk, h1, hb1, hk1⟩
  have c0 : w1.cell? ⟨b, 0, none⟩ = some (.pointer (some ⟨b, 0, none⟩)) := by rw [Lib.cell_of_heap hbk]; rfl
  have c1 : w1.cell? ⟨b, 1, none⟩ = some v := by rw [Lib.cell_of_heap hbk]; rfl
  go_wp2_with (at_builtin; refine Lib.wpList_append_own_string _ rfl _ _ 32 9 rfl B 5 i0 Tryd.underlying32 Tryd.underlying9 hi hz0 hz1 hz2 _ _ _ rfl h1.own s rfl ?c3 ?c4 ?c5 ?_)
  case c3 => unfold maxLen; omega
  case c4 => omega
  case c5 => have := hb1.size; omega
  intro v' w2 hown' hgrow _
  have hlt : b < w1.heap.size := h1.lt
  have hb2 : w2.heap[b]? = some (.cells #[.pointer (some ⟨b, 0, none⟩), v] 82 (0, 0)) := by
    rw [hgrow.block b hlt (fun e => h1.ne e.symm)]
    exact hbk
  have d0 : w2.cell? ⟨b, 0, none⟩ = some (.pointer (some ⟨b, 0, none⟩)) := by rw [Lib.cell_of_heap hb2]; rfl
  have d1 : w2.cell? ⟨b, 1, none⟩ = some v := by rw [Lib.cell_of_heap hb2]; rfl
  have f1 : w2.frozen? ⟨b, 1, none⟩ = false := Lib.frozen_of_heap hb2 1
  have hown2 : w2.ownsRow B 5 1 v' (l ++ s.data.toList).length (Lib.byteCells (l ++ s.data.toList)) := by
    rw [Lib.byteCells_append, ← Lib.strCells_eq]
    have e : (l ++ s.data.toList).length = l.length + s.size := by rw [List.length_append, Array.length_toList]; rfl
    rw [e]
    exact hown'
  have hne2 : v'.ownBlock ≠ some b := Lib.ownBlock_ne hown2 hb2 (by decide)
  obtain ⟨ao, n', cap, hv⟩ : ∃ ao n' cap, v' = .slice ao n' cap := by
    rcases hown'.2 with ⟨hv, _⟩ | ⟨g, cap, cur, hv, _⟩
    · exact ⟨_, _, _, hv⟩
    · exact ⟨_, _, _, hv⟩
  subst hv
  go_wp2
  go_ret2
  have hs1 := hb1.size
  refine ⟨rfl, .slice ao n' cap, ⟨h.hB, ⟨.pointer (some ⟨b, 0, none⟩), .inr rfl, ?_⟩, ?_⟩, ?_, ?_⟩
  · simp [World.setCell, Array.getElem?_modify, hb2]
  · exact hown2.kept (row := some b) ⟨rfl, rfl, rfl, by simp [World.setCell], fun k _ hk => Below.heap_setCell _ _ _ _ (fun e => hk (by simp [e]))⟩ (Or.inr hne2)
  · exact (hb1.grown hgrow (by omega) (fun k hk => (h1.own.lt k hk).1)).setCell (p := ⟨b, 1, none⟩) h.hB _
  · intro k o hk hne hnv
    rw [Below.heap_setCell _ _ _ _ (fun e => hne e)]
    have := hk1 k o hk hne hnv
    rw [hgrow.block k (Array.getElem?_eq_some_iff.1 this).1 hnv]
    exact this

set_option maxHeartbeats 2000000 in
set_option maxRecDepth 100000 in
theorem writeByte (B b : Nat) (v : Value) (l : List UInt8) (c : UInt8) (w : World) (h : Is B b v l w) (hlen : l.length + 1 ≤ 140737488355328) (hBw : B ≤ w.heap.size) :
    Calls Tryd.prog 56 #[.pointer (some ⟨b, 0, none⟩), .int .u8 c.toNat] w fun e w' => e = .returned .nilIface ∧ ∃ v', Is B b v' (l ++ [c]) w' ∧ Below B w w' ∧ Kept b v w w' := by
  obtain ⟨i0, hi, hz0, hz1, hz2⟩ := info_parts info5
  go_enter Tryd.func56, Tryd.ntmps56
  go_wp2_with (go_at_call 94; refine (copyCheck B b v l _ h).mono ?_)
  rintro e w1 ⟨rfl, hbk, h1, hb1, hk1⟩
  have c0 : w1.cell? ⟨b, 0, none⟩ = some (.pointer (some ⟨b, 0, none⟩)) := by rw [Lib.cell_of_heap hbk]; rfl
  have c1 : w1.cell? ⟨b, 1, none⟩ = some v := by rw [Lib.cell_of_heap hbk]; rfl
  go_wp2_with (at_builtin; refine wpList_append_own _ rfl _ _ 32 rfl B 5 i0 (.int .u8 0) 1 1 Tryd.underlying32 hi hz0 hz1 hz2 rfl (by decide) _ _ _ rfl (h1.own.alloc _) ⟨w1.heap.size, 0, none⟩ 1 1 [.int .u8 c.toNat] rfl rfl ?c1 ?c2 ?c3 ?c4 ?c5 ?_)
  case c1 =>
    intro j u hj
    match j, hj with
    | 0, hj => simp at hj; subst hj; simp [Addr.add]
  case c2 => intro u hu; simp at hu; subst hu; rfl
  case c3 => unfold maxLen; omega
  case c4 => omega
  case c5 => have := hb1.size; simp; omega
  intro v' w2 hown' hgrow _
  have hlt : b < w1.heap.size := h1.lt
  have hb2 : w2.heap[b]? = some (.cells #[.pointer (some ⟨b, 0, none⟩), v] 82 (0, 0)) := by
    rw [hgrow.block b (by simp; omega) (fun e => h1.ne e.symm), Lib.alloc_old w1 _ b hlt]
    exact hbk
  have d0 : w2.cell? ⟨b, 0, none⟩ = some (.pointer (some ⟨b, 0, none⟩)) := by rw [Lib.cell_of_heap hb2]; rfl
  have d1 : w2.cell? ⟨b, 1, none⟩ = some v := by rw [Lib.cell_of_heap hb2]; rfl
  have f1 : w2.frozen? ⟨b, 1, none⟩ = false := Lib.frozen_of_heap hb2 1
  have hown2 : w2.ownsRow B 5 1 v' (l ++ [c]).length (Lib.byteCells (l ++ [c])) := by
    rw [Lib.byteCells_append]
    have e : (l ++ [c]).length = l.length + 1 := by simp
    rw [e]
    exact hown'
  have hne2 : v'.ownBlock ≠ some b := Lib.ownBlock_ne hown2 hb2 (by decide)
  obtain ⟨ao, n', cap, hv⟩ : ∃ ao n' cap, v' = .slice ao n' cap := by
    rcases hown'.2 with ⟨hv, _⟩ | ⟨g, cap, cur, hv, _⟩
    · exact ⟨_, _, _, hv⟩
    · exact ⟨_, _, _, hv⟩
  subst hv
  go_wp2
  go_ret
  have hs1 := hb1.size
  refine ⟨rfl, .slice ao n' cap, ⟨h.hB, ⟨.pointer (some ⟨b, 0, none⟩), .inr rfl, ?_⟩, ?_⟩, ?_, ?_⟩
  · simp [World.setCell, Array.getElem?_modify, hb2]
  · exact hown2.kept (row := some b) ⟨rfl, rfl, rfl, by simp [World.setCell], fun k _ hk => Below.heap_setCell _ _ _ _ (fun e => hk (by simp [e]))⟩ (Or.inr hne2)
  · exact ((hb1.alloc (by omega) _).grown hgrow (by simp; omega) (fun k hk => (h1.own.lt k hk).1)).setCell (p := ⟨b, 1, none⟩) h.hB _
  · intro k o hk hne hnv
    rw [Below.heap_setCell _ _ _ _ (fun e => hne e)]
    have h3 := hk1 k o hk hne hnv
    have hl3 := (Array.getElem?_eq_some_iff.1 h3).1
    rw [hgrow.block k (by simp; omega) hnv, Lib.alloc_old w1 _ k hl3]
    exact h3

/-- String of such a builder -/
theorem string (B b : Nat) (v : Value) (l : List UInt8) (w : World) (h : Is B b v l w) (hBw : B ≤ w.heap.size) :
    Calls Tryd.prog 59 #[.pointer (some ⟨b, 0, none⟩)] w fun e w' => e = .returned (.string ⟨l.toArray⟩) ∧ Below B w w' :=
  Tryd.Builder_String_any B b l w h.builder hBw

end Go.Proofs.YtfaelejeihmgcaaDoor.Bld

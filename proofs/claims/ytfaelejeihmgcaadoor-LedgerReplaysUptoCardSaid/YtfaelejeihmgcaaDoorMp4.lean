/-
  Texts of mine, and texts that print.sh and pp.py wrote, merged and cut to what is used: PureU, RowBd, WalkLP
-/
import Derived.Test.YtfaelejeihmgcaaDoorProg
import Derived.Below
import Derived.Lib.ItoaMem
import Derived.Lib.LaidTab
import Derived.Deep.Draws
import Derived.Deep.AppendLies
import Derived.Maps.AppendAt
import Derived.OwnWalk
import Derived.Laws.BytesArg
import Derived.Laws.MakeOwn
import Derived.Laws.OwnMore
import Derived.Deep.OwnRows
import Derived.Tactics
import Derived.Lib.ConvBytes
import Derived.Laws.Slices
import Derived.WalkKit
import Derived.KernelRfl
import Derived.RowKit3
import Derived.Deep.LoopGhost
import Derived.Deep.QuietTactic
import Derived.BigQuiet
import Derived.WideLaws
import Derived.Deep.DeepCutAuto
import Derived.Deep.CutBlock
import Derived.Deep.RegionHeld3
import Derived.Laws.Rows
import Derived.Lib.AppendStr
import Derived.ArgAppend
import Derived.Laws.IdiomCopy
import Derived.RowKit
import Derived.Test.YtfaelejeihmgcaaDoorRows
import Derived.ChangeArms
import Derived.DataReads
import Derived.DataElems
import Derived.OrdersHeld
import Derived.Laws.BitsLemmas
import Derived.Laws.StructEq
import Derived.Test.YtfaelejeihmgcaaDoorCards
import Derived.Test.YtfaelejeihmgcaaDoorTie
import Derived.Lib.LaidU8
import Derived.LaidMore
import Derived.Lay
import Derived.ProofKit
import Derived.OpenShut
import Derived.SevenTiedAt
import Derived.Stop.Joined
import Derived.Deep.DeepHandedRow
import Derived.SliceStrings
import Derived.Carry
import Derived.FnData
import Derived.Outline
import Derived.Tactics2
import Derived.StillTailTactics
import Derived.StillTactics
import Derived.Lib.Builder
import Derived.Lib.Hide
import Derived.IntWalk
import Derived.WalkSpells
import Derived.Lib.DecodeNEq
import Derived.Deep.MidRow
import Derived.Maps.OwnSet
import Derived.Shelf.Strconv.Itoa0
import Derived.Shelf.Strconv.Itoa1
import Derived.Shelf.LaysM
import Derived.Shelf.Strconv.Itoa2
import Derived.Lib.Strings
import Derived.Lib.Slices
import Derived.Lib.Walk
import Derived.Lib.UnsafeStr
import Derived.Shelf.Strings.Builder1
import Derived.Shelf.Strings.OnBuilder
import Derived.Shelf.Unicode.DecodeSlow
import Derived.Shelf.Unicode.DecodeAny
import Derived.Laws.Externs
import Derived.Laws.Pointers
import Derived.Lib.AppendIntMem
import Derived.BigCall
import Derived.BigGuard
import Derived.Test.YtfaelejeihmgcaaDoorMp0
import Derived.Test.YtfaelejeihmgcaaDoorMp1
import Derived.Test.YtfaelejeihmgcaaDoorMp2
import Derived.Test.YtfaelejeihmgcaaDoorMp3

section
namespace Go.Proofs.YtfaelejeihmgcaaDoor.Lgx
open Go.RowKit Go.Proofs.YtfaelejeihmgcaaDoorW.PrintWords Go.Proofs.YtfaelejeihmgcaaDoorW.PrintLast
/-- a map's answers are few, of few bytes -/
structure LB (n : Nat) (L : List S98) : Prop where
  len : L.length ≤ n
  s : ∀ y ∈ L, AnsB 60 y
theorem LB.mono {n n' : Nat} {L : List S98} (h : LB n L) (hn : n ≤ n') : LB n' L := ⟨Nat.le_trans h.len hn, h.s⟩
theorem LB.without {n : Nat} {L : List S98} (h : LB n L) (k : ByteArray) : LB n (withoutF k L) := ⟨Nat.le_trans (withoutF_len k L) h.len, fun y hy => h.s y (List.mem_filter.1 hy).1⟩
theorem LB.forget (l : List ByteArray) : ∀ {n : Nat} {L : List S98}, LB n L → LB n (forgetF l L) := by
  induction l with
  | nil => intro n L h; exact h
  | cons k l ih => intro n L h; exact ih (h.without k)
theorem LB.commit1 {n : Nat} {L : List S98} (h : LB n L) {seq : Int} (h0 : 0 ≤ seq) (h1 : seq ≤ 4294967295) {x : S101} (hx : WrB x) : LB (n + 1) (commit1 seq x L) := by
  refine ⟨Nat.le_trans (commit1_len seq x L) (by have := h.len; omega), fun y hy => ?_⟩
  unfold Lgx.commit1 at hy
  split at hy
  · exact (h.without x.f0).s y hy
  · unfold insF at hy
    rcases List.mem_append.1 hy with hy | hy
    · rcases List.mem_append.1 hy with hy | hy
      · exact (h.without x.f0).s y (List.mem_of_mem_take hy)
      · rw [List.mem_singleton.1 hy]
        exact ⟨hx.1, hx.2, h0, h1⟩
    · exact (h.without x.f0).s y (List.mem_of_mem_drop hy)
theorem LB.commit {seq : Int} (h0 : 0 ≤ seq) (h1 : seq ≤ 4294967295) (l : List S101) : ∀ {n : Nat} {L : List S98}, LB n L → (∀ x ∈ l, WrB x) → LB (n + l.length) (commitF seq l L) := by
  induction l with
  | nil => intro n L h _; exact h
  | cons x l ih =>
    intro n L h hx
    have := ih (h.commit1 h0 h1 (hx x (by simp))) (fun y hy => hx y (by simp [hy]))
    rw [List.length_cons, show n + (l.length + 1) = n + 1 + l.length by omega]
    exact this
theorem look_b (k : ByteArray) : ∀ (l : List S98) (a : S98), (∀ y ∈ l, AnsB 60 y) → AnsB 60 a → AnsB 60 (l.foldl (lookStep k) a)
  | [], _, _, ha => ha
  | y :: l, a, h, ha => by
    rw [List.foldl_cons]
    refine look_b k l _ (fun z hz => h z (by simp [hz])) ?_
    unfold lookStep
    split
    · exact h y (by simp)
    · exact ha
theorem LB.get {n : Nat} {L : List S98} (h : LB n L) {l : List ByteArray} (hl : ∀ k ∈ l, k.size ≤ 4) : ∀ y ∈ refGetF L l, AnsB 60 y := fun y hy => by
  obtain ⟨k, hk, rfl⟩ := List.mem_map.1 hy
  exact look_b k L _ h.s ⟨Nat.le_trans (hl k hk) (by decide), by simp only; decide, by simp only; decide, by simp only; decide⟩
theorem LB.short {n : Nat} {L : List S98} (h : LB n L) : Short98 L := fun y hy => Nat.le_trans (h.s y hy).1 (by decide)
theorem okRow_mk {e : S43} {L L' : List S98} (he : EvB 60 e) {n n' : Nat} (hL : LB n L) (hL' : LB n' L') (hn : n ≤ 1000) (hn' : n' ≤ 1000) : okRow e L L' = true := by
  unfold okRow
  simp only [Bool.and_eq_true, decide_eq_true_eq, List.all_eq_true]
  have := he.n2
  have := he.n3
  have := he.n4
  have := hL.len
  have := hL'.len
  exact ⟨by omega, by omega, fun y hy => Nat.le_trans (hL.s y hy).1 (by decide), fun y hy => Nat.le_trans (he.s2 y hy).1 (by decide), by omega, by omega, fun y hy => ⟨Nat.le_trans (he.s3 y hy).2.1 (by decide), (he.s3 y hy).2.2⟩, he.q0, he.q1⟩
/-- what a raw row must keep -/
def RowB (x : S58) : Prop := EvU x.f4 ∧ ∀ y ∈ x.f2, y.f2.size ≤ 140737488355328
theorem nextSeq_in (seq f1 : Int) : 0 ≤ nextSeq seq f1 ∧ nextSeq seq f1 ≤ 4294967295 := by
  unfold nextSeq
  omega
/-- what a row turns to -/
structure Row1 (x : S58) (seq : Int) (L : List S98) (n : Nat) (e : S43) (seq' : Int) (L' : List S98) : Prop where
  f : row1 x seq L = some (e, seq', L')
  ev : EvB 60 e
  q0 : 0 ≤ seq'
  q1 : seq' ≤ 4294967295
  l : LB (n + 5) L'
  ok : okRow e L L' = true
theorem row1_ok (x : S58) (hx : RowB x) (seq : Int) (h0 : 0 ≤ seq) (h1 : seq ≤ 4294967295) (L : List S98) (n : Nat) (hn : n ≤ 500) (hL : LB n L) : ∃ e seq' L', Row1 x seq L n e seq' L' := by
  by_cases c3 : pickI x.f0 8 = 3
  · obtain ⟨ks, hk, k1, k2⟩ := keys_ok x.f3 4 (by decide) 1000 (by decide)
    have he : EvB 60 ⟨3, 0, [], [], ks⟩ := ⟨by simp only; decide, by simp only; decide, by simp, fun y hy => by simp at hy, by simp, fun y hy => by simp at hy, by simp only; omega, fun y hy => Nat.le_trans (k2 y hy) (by decide)⟩
    refine ⟨⟨3, 0, [], [], ks⟩, seq, forgetF ks L, ?_, he, h0, h1, (LB.forget ks hL).mono (by omega), okRow_mk he hL ((LB.forget ks hL).mono (n' := n + 5) (by omega)) (by omega) (by omega)⟩
    unfold row1
    rw [if_pos c3, show cachepothand_Keys.f 1000 x.f3 4 = some ks from hk]
    rfl
  · by_cases c4 : pickI x.f0 8 = 4 ∨ pickI x.f0 8 = 5 ∨ pickI x.f0 8 = 6
    · obtain ⟨ks, hk, k1, k2⟩ := keys_ok x.f3 5 (by decide) 1000 (by decide)
      have he : EvB 60 ⟨2, 0, [], refGetF L ks, []⟩ := ⟨by simp only; decide, by simp only; decide, by simp, fun y hy => by simp at hy, by simp only [refGetF, List.length_map]; omega, hL.get k2, by simp, fun y hy => by simp at hy⟩
      refine ⟨⟨2, 0, [], refGetF L ks, []⟩, seq, L, ?_, he, h0, h1, hL.mono (by omega), okRow_mk he hL hL (by omega) (by omega)⟩
      unfold row1
      rw [if_neg c3, if_pos c4, show cachepothand_Keys.f 1000 x.f3 5 = some ks from hk]
      rfl
    · by_cases c7 : pickI x.f0 8 = 7
      · obtain ⟨r, hr, he⟩ := short_ev x.f4 hx.1 1000 (by decide)
        refine ⟨⟨r.1, r.2.1, r.2.2.1, r.2.2.2.1, r.2.2.2.2⟩, seq, L, ?_, he, h0, h1, hL.mono (by omega), okRow_mk he hL hL (by omega) (by omega)⟩
        unfold row1
        rw [if_neg c3, if_neg c4, if_pos c7, hr]
        rfl
      · obtain ⟨ws, hw, w1, w2⟩ := writes_ok x.f2 hx.2 1000 (by decide)
        obtain ⟨q0, q1⟩ := nextSeq_in seq x.f1
        have he : EvB 60 ⟨1, nextSeq seq x.f1, ws, [], []⟩ := ⟨q0, q1, by simp only; omega, w2, by simp, fun y hy => by simp at hy, by simp, fun y hy => by simp at hy⟩
        have hc := LB.commit q0 q1 ws hL w2
        refine ⟨⟨1, nextSeq seq x.f1, ws, [], []⟩, nextSeq seq x.f1, commitF (nextSeq seq x.f1) ws L, ?_, he, q0, q1, hc.mono (by omega), okRow_mk he hL hc (by omega) (by omega)⟩
        unfold row1
        rw [if_neg c3, if_neg c4, if_neg c7, hw]
        rfl
theorem turnA_b (l : List S98) (h : ∀ y ∈ l, AnsB 60 y) (at_ how : Int) : ∀ y ∈ turnedA l at_ how, AnsB 61 y := fun y hy => by
  unfold turnedA at hy
  have hr : AnsB 60 (rd_T98 l (pickI at_ l.length)) := by
    rcases rd98_any l (pickI at_ l.length) with h' | h'
    · exact h _ h'
    · rw [h']; exact ⟨by decide, by decide, by decide, by decide⟩
  generalize rd_T98 l (pickI at_ l.length) = z at hr hy
  rcases List.mem_or_eq_of_mem_set hy with hy | hy
  · exact (h y hy).mono (by decide)
  · rw [hy]
    unfold turn1
    split
    · exact ⟨hr.1, Nat.le_trans hr.2.1 (by decide), hr.2.2⟩
    · split
      · have h2 : (z.f2 ++ (⟨#[120]⟩ : ByteArray)).size ≤ 61 := by
          rw [ByteArray.size_append, show (⟨#[120]⟩ : ByteArray).size = 1 from rfl]
          exact Nat.add_le_add_right hr.2.1 1
        exact ⟨hr.1, h2, hr.2.2⟩
      · split
        · refine ⟨hr.1, Nat.le_trans hr.2.1 (by decide), ?_⟩
          have := hr.2.2
          generalize z.f3 = q at this
          simp only [IntKind.wrap, IntKind.signed, IntKind.bits]
          constructor <;> simp <;> omega
        · split
          · exact ⟨Nat.le_trans (name_size _) (by decide), Nat.le_trans hr.2.1 (by decide), hr.2.2⟩
          · exact ⟨hr.1, by simp only; decide, by simp only; decide, by simp only; decide⟩
theorem turn_b {e : S43} (h : EvB 60 e) (at_ how : Int) : EvB 61 (turnE e at_ how) := by
  unfold turnE
  split
  · obtain ⟨p0, p1⟩ := pickI_in at_ 3 (by decide) (by decide)
    have := h.q0
    have := h.q1
    exact ⟨by simp only; omega, by simp only; omega, h.n2, h.s2, h.n3, fun y hy => (h.s3 y hy).mono (by decide), h.n4, h.s4⟩
  · split
    · exact h.mono (by decide)
    · exact ⟨h.q0, h.q1, h.n2, h.s2, by simp only [turnedA, List.length_set]; exact h.n3, turnA_b e.f3 h.s3 at_ how, h.n4, h.s4⟩
theorem eventsG_ok (turn : Int) : ∀ (l : List S58) (i : Nat) (seq : Int) (L : List S98) (out : List S43), (∀ x ∈ l, RowB x) → i ≤ 30 → 0 ≤ seq → seq ≤ 4294967295 → LB (5 * i) L → out.length = i → (∀ e ∈ out, EvB 61 e) →
    ∃ r, eventsG l turn i seq L out = some r ∧ r.length ≤ 30 ∧ ∀ e ∈ r, EvB 61 e
  | [], i, seq, L, out, _, hi, _, _, _, ho, hs => ⟨out, rfl, by omega, hs⟩
  | x :: l, i, seq, L, out, hx, hi, h0, h1, hL, ho, hs => by
    unfold eventsG
    split
    · rename_i hlt
      obtain ⟨e, seq', L', H⟩ := row1_ok x (hx x (by simp)) seq h0 h1 L (5 * i) (by omega) hL
      rw [H.f, Option.bind_some, if_pos H.ok]
      refine eventsG_ok turn l (i + 1) seq' L' _ (fun y hy => hx y (by simp [hy])) (by omega) H.q0 H.q1 (H.l.mono (by omega)) (by rw [len_snoc, ho]) (le_snoc hs ?_)
      split
      · exact turn_b H.ev _ _
      · exact H.ev.mono (by decide)
    · exact ⟨out, rfl, by omega, hs⟩
theorem events_ok (l : List S58) (turn : Int) (hl : l.length ≤ 9223372036854775807) (hx : ∀ x ∈ l, RowB x) : ∃ r, cachepotlaw21_events.f l turn = some r ∧ r.length ≤ 30 ∧ ∀ e ∈ r, EvB 61 e := by
  unfold cachepotlaw21_events.f
  rw [if_pos hl]
  exact eventsG_ok turn l 0 0 [] [] hx (by decide) (by decide) (by decide) ⟨by simp, fun y hy => by simp at hy⟩ rfl (fun y hy => by simp at hy)
theorem EvB.okE {e : S43} {V : Nat} (h : EvB V e) : okE e = true := by
  unfold Lgx.okE small
  simp only [Bool.and_eq_true, decide_eq_true_eq, List.all_eq_true]
  have := h.n2
  have := h.n3
  have := h.n4
  exact ⟨⟨⟨⟨⟨by omega, by omega⟩, by omega⟩, fun y hy => Nat.le_trans (h.s2 y hy).1 (by decide)⟩, fun y hy => Nat.le_trans (h.s3 y hy).1 (by decide)⟩, fun y hy => Nat.le_trans (h.s4 y hy) (by decide)⟩
theorem okL_mk {l : List S43} {V : Nat} (hl : l.length ≤ 30) (h : ∀ e ∈ l, EvB V e) : okL l = true := by
  unfold okL
  simp only [Bool.and_eq_true, decide_eq_true_eq, List.all_eq_true]
  exact ⟨by omega, fun e he => (h e he).okE⟩
theorem writesN_le {V : Nat} : ∀ (l : List S43), (∀ e ∈ l, EvB V e) → writesN l ≤ 6 * l.length
  | [], _ => by simp [writesN]
  | e :: l, h => by
    have := writesN_le l (fun y hy => h y (by simp [hy]))
    have := (h e (by simp)).n2
    unfold writesN at *
    simp only [List.map_cons, List.sum_cons, List.length_cons]
    omega
theorem okR_mk {l : List S43} {V : Nat} (hl : l.length ≤ 30) (h : ∀ e ∈ l, EvB V e) : okR l = true := by
  have := writesN_le l h
  unfold okR
  simp only [Bool.and_eq_true, decide_eq_true_eq, List.all_eq_true]
  exact ⟨okL_mk hl h, by omega, fun e he x hx => Nat.le_trans ((h e he).s2 x hx).1 (by decide)⟩
theorem replay_f {l : List S43} {V : Nat} (hl : l.length ≤ 30) (h : ∀ e ∈ l, EvB V e) : ledger_Replay.f l = some (replayM 0 (fun _ => Atm.nought) l) := by
  unfold ledger_Replay.f
  rw [if_pos (okL_mk hl h)]
theorem replayR_f {l : List S43} {V : Nat} (hl : l.length ≤ 30) (h : ∀ e ∈ l, EvB V e) : cachepotref3_Replay.f l = some (replayM 0 (fun _ => Atm.nought) l) := by
  unfold cachepotref3_Replay.f
  rw [if_pos (okR_mk hl h), replay_eq l 0 Tells.none]
def risingF : Nat → Int → Bool → List S43 → Int × Bool
  | i, _, _, [] => ((i : Int), true)
  | i, top, some_, e :: l => if e.f0 = 1 then (if some_ = true ∧ e.f1 ≤ top then ((i : Int), false) else risingF (i + 1) e.f1 true l) else risingF (i + 1) top some_ l
theorem rising_l0 (x : List S43) (hx : x.length ≤ 1000) : ∀ (d k i : Nat) (top : Int) (b : Bool), x.length - i = d → d < k → i ≤ x.length → ledger_Rising.l0 k x top b x (x.length : Int) (i : Int) = some (risingF i top b (x.drop i)) := by
  intro d
  induction d with
  | zero =>
    intro k i top b hd hk hi
    obtain ⟨k, rfl⟩ : ∃ m, k = m + 1 := ⟨k - 1, by omega⟩
    simp only [ledger_Rising.l0]
    rw [if_neg (by omega), List.drop_eq_nil_of_le (by omega), risingF, show x.length = i by omega]
  | succ d ih =>
    intro k i top b hd hk hi
    obtain ⟨k, rfl⟩ : ∃ m, k = m + 1 := ⟨k - 1, by omega⟩
    have h1 : i < x.length := by omega
    have e1 := fun t b' => ih k (i + 1) t b' (by omega) (by omega) (by omega)
    simp only [ledger_Rising.l0]
    rw [if_pos (by omega), if_pos (by omega), if_pos (by omega), rd43 h1, w64s _ (by omega) (by omega), List.drop_eq_getElem_cons h1, risingF]
    split
    · cases b
      · rw [if_neg (by decide), if_neg (by simp)]
        exact e1 _ _
      · rw [if_pos rfl]
        split
        · rename_i h
          rw [if_pos ⟨rfl, h⟩]
        · rename_i h
          rw [if_neg (fun h' => h h'.2)]
          exact e1 _ _
    · exact e1 _ _
theorem rising_f (x : List S43) (hx : x.length ≤ 30) (k : Nat) (hk : 100 ≤ k) : ledger_Rising.f k x = some (risingF 0 0 false x) := by
  unfold ledger_Rising.f
  exact rising_l0 x (by omega) x.length k 0 0 false (by omega) (by omega) (by omega)
theorem refrising_l0 (x : List S43) (hx : x.length ≤ 1000) : ∀ (d k i : Nat) (top : Int) (b : Bool), x.length - i = d → d < k → i ≤ x.length → cachepotref3_Rising.l0 k x top b (i : Int) = some (risingF i top b (x.drop i)) := by
  intro d
  induction d with
  | zero =>
    intro k i top b hd hk hi
    obtain ⟨k, rfl⟩ : ∃ m, k = m + 1 := ⟨k - 1, by omega⟩
    simp only [cachepotref3_Rising.l0]
    rw [if_neg (by omega), List.drop_eq_nil_of_le (by omega), risingF, show x.length = i by omega]
  | succ d ih =>
    intro k i top b hd hk hi
    obtain ⟨k, rfl⟩ : ∃ m, k = m + 1 := ⟨k - 1, by omega⟩
    have h1 : i < x.length := by omega
    have e1 := fun t b' => ih k (i + 1) t b' (by omega) (by omega) (by omega)
    simp only [cachepotref3_Rising.l0]
    rw [if_pos (by omega), if_pos (by omega), rd43 h1, w64s _ (by omega) (by omega), List.drop_eq_getElem_cons h1, risingF]
    split
    · cases b
      · rw [if_neg (by decide), if_neg (by simp)]
        exact e1 _ _
      · rw [if_pos rfl]
        split
        · rename_i h
          rw [if_pos ⟨rfl, h⟩]
        · rename_i h
          rw [if_neg (fun h' => h h'.2)]
          exact e1 _ _
    · exact e1 _ _
theorem refrising_f (x : List S43) (hx : x.length ≤ 30) (k : Nat) (hk : 100 ≤ k) : cachepotref3_Rising.f k x = some (risingF 0 0 false x) := by
  unfold cachepotref3_Rising.f
  exact refrising_l0 x (by omega) x.length k 0 0 false (by omega) (by omega) (by omega)
end Go.Proofs.YtfaelejeihmgcaaDoor.Lgx
end

section
namespace Go.Proofs.YtfaelejeihmgcaaDoor.Lgx
open Go.RowKit
theorem u32_in {v : Int} (h : (Lit.int .u32 v).wf = true) : 0 ≤ v ∧ v ≤ 4294967295 := by
  simp [Lit.wf, IntKind.min, IntKind.max, IntKind.signed, IntKind.bits] at h
  omega
theorem rowB_of {N : Nat} (hN : N ≤ 1048576) {x : S58} (h : ok58 N x) : RowB x := by
  obtain ⟨_, _, ⟨_, h2⟩, _, h4, _, _⟩ := h
  obtain ⟨_, g1, _, ⟨_, g3⟩, _⟩ := h4
  exact ⟨⟨(u32_in g1).1, (u32_in g1).2, fun y hy => u32_in (g3 y hy).2.2.2⟩, fun y hy => Nat.le_trans (h2 y hy).2.2.1 (by omega)⟩
end Go.Proofs.YtfaelejeihmgcaaDoor.Lgx
end

section
namespace Go.Proofs.YtfaelejeihmgcaaDoor.Lgx
open Go.RowKit Go.Proofs.YtfaelejeihmgcaaDoorW.PrintWords Go.Proofs.YtfaelejeihmgcaaDoorW.PrintLast
theorem LedgerParts.walk (l : List S58) (N : Nat) (hN : N ≤ 1048576) (A : Option Addr) (c : Nat) (W : World) (x1 x2 : Int) (hC : Kd.C k58 W A l.length l) (hc : l.length ≤ c) (hl : ∀ x ∈ l, ok58 N x) (hT : Tabs W) :
    Calls Tryd.prog 10 #[.slice A l.length c, .int .i64 x1, .int .i64 x2] W fun e w' => e = .returned (.bool true) ∧ Below W.heap.size W w' := by
  obtain ⟨x, hx, h30, hB⟩ := events_ok l x1 (Kd.C_max hC) (fun y hy => rowB_of hN (hl y hy))
  obtain ⟨k0, k1⟩ := pickI_in x2 ((x.length : Int) + 1) (by omega) (by omega)
  obtain ⟨kk, hkk⟩ : ∃ kk : Nat, pickI x2 ((x.length : Int) + 1) = kk := ⟨(pickI x2 ((x.length : Int) + 1)).toNat, by omega⟩
  have hle : kk ≤ x.length := by omega
  have ht := replay_take x 0 kk (fun _ => Atm.nought) hle
  have hf := replay_f (l := x.take kk) (V := 61) (by rw [List.length_take]; omega) (fun e he => hB e (List.mem_of_mem_take he))
  rw [ht] at hf
  obtain ⟨⟨n, ok⟩, hr⟩ : ∃ r, r = replayM 0 (fun _ => Atm.nought) x := ⟨_, rfl⟩
  rw [← hr] at hf
  have h1 := replay_f h30 hB
  rw [← hr] at h1
  have z : ((0 : Nat) : Int) + (kk : Int) = kk := by omega
  rw [z] at hf
  by_cases hok : ok = true ∨ (kk : Int) ≤ n
  · rw [if_pos hok] at hf
    refine LedgerParts_walk A c l x1 x2 W hC hc hT x n kk ok true kk hx h1 (by omega) hkk hle hf ?_
    cases ok
    · exact .inr (.inl ⟨rfl, by simpa using hok, rfl, rfl⟩)
    · exact .inl ⟨rfl, rfl, rfl⟩
  · rw [if_neg hok] at hf
    refine LedgerParts_walk A c l x1 x2 W hC hc hT x n n ok false kk hx h1 (by omega) hkk hle hf ?_
    cases ok
    · exact .inr (.inr ⟨rfl, by simpa using hok, rfl, rfl⟩)
    · exact absurd (.inl rfl) hok
theorem LedgerReplays.walk (l : List S58) (N : Nat) (hN : N ≤ 1048576) (A : Option Addr) (c : Nat) (W : World) (x1 : Int) (hC : Kd.C k58 W A l.length l) (hc : l.length ≤ c) (hl : ∀ x ∈ l, ok58 N x) (hT : Tabs W) :
    Calls Tryd.prog 11 #[.slice A l.length c, .int .i64 x1] W fun e w' => e = .returned (.bool true) ∧ Below W.heap.size W w' := by
  obtain ⟨x, hx, h30, hB⟩ := events_ok l x1 (Kd.C_max hC) (fun y hy => rowB_of hN (hl y hy))
  exact LedgerReplays_walk A c l x1 W hC hc hT x _ _ _ _ 1000 hx (replay_f h30 hB) (replayR_f h30 hB) (rising_f x h30 1000 (by decide)) (refrising_f x h30 1000 (by decide))
end Go.Proofs.YtfaelejeihmgcaaDoor.Lgx
end

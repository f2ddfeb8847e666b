/-
  THE LAW LedgerLines, its second form's row and card: the walk (Lg13), the plain law (PureL) and the row's list (LaidL) joined. Conditions: what is read is of bulk at most 1048576.
-/
import Derived.Test.YtfaelejeihmgcaaDoorLaidL
import Derived.Test.YtfaelejeihmgcaaDoorPureL
import Derived.Test.YtfaelejeihmgcaaDoorLedgerLinesFacts
namespace Go.Proofs.YtfaelejeihmgcaaDoor.LedgerLines
open Go.ChangeShapes Go.WideShapes Go.ChangeAt Go.WideMaps Go.ChangeMaps Go.RowKit Lgx

def noEvent : Value := .agg #[.int .i64 0, .int .u32 0, .slice none 0 0, .slice none 0 0, .slice none 0 0]
theorem reads (os : Os) {H : Type} (enc : TypeId × Value → H) : ∃ places, DataW.whole enc Tryd.prog ((World.laidAll Tryd.prog os laidLines).forCall (fun _ _ => 0) ⟨#[], #[noEvent], []⟩).memory Tryd.f9.params.toList Rows.ledgerLinesSpec.vars false #[noEvent].toList 8 = some ([.agg [.lit (.int .i64 0), .lit (.int .u32 0), .nil, .nil, .nil]], [], places) :=
  ⟨[], by kernel_rfl⟩

theorem u32_fits {v : Int} (h : (Lit.int .u32 v).wf = true) : 0 ≤ v ∧ v ≤ 4294967295 := by
  simp [Lit.wf, IntKind.min, IntKind.max, IntKind.signed, IntKind.bits] at h
  omega

set_option maxRecDepth 100000 in
theorem liftedUpto (os : Os) (started : os.Started) (H : Type) (enc : TypeId × Value → H) (F : Stop.Interp) :
    ReturnsInHanded {} Tryd.checked os 9 .any ((Rows.OpenSpec.upto Rows.ledgerLinesSpec).preRow enc Tryd.prog Tryd.f9 Rows.ledgerLinesUptoRow.domain false Rows.ledgerLinesUptoRow.laid) (((Rows.OpenSpec.upto Rows.ledgerLinesSpec).at F).post enc Tryd.prog Tryd.f9 false true false false) := by
  obtain ⟨places, hx⟩ := reads os enc
  refine returnsInHanded_of_row (C := Tryd.checked) (s := Rows.OpenSpec.upto Rows.ledgerLinesSpec) own started (by kernel_rfl) Tryd.func9
    (witness_row_at (enc := enc) (C := Tryd.checked) false (World.laidAll Tryd.prog os laidLines) #[noEvent] (World.laidAll_os _ _ _) (by kernel_rfl) (by kernel_rfl) (by kernel_rfl)
      (OpenSpec.preRow_of_cond 8 hx (by kernel_rfl) (fun k hk => by cases hk; kernel_rfl) (by kernel_rfl) (lines_met os _))) ?_
  intro W base args ds gs before hval hW _ hcond _ hL _ _
  have hW' := hW
  obtain ⟨p, q, hA0, hV, rfl, hfz, hnd⟩ := hW
  have hA : DataW.TrodAll enc Tryd.prog W 0 (fun _ => true) true Tryd.f9.params.toList args.toList ds p := hA0
  rw [Tryd.params9] at hA hval
  obtain ⟨v0, d0, rfl, rfl, h0⟩ := trodAll_one hA
  obtain ⟨rfl, rfl⟩ := trodVars_none hV
  obtain ⟨x, A2, c2, A3, c3, A4, c4, rfl, l2, g2, l3, g3, l4, g4, hx0, hx1, hx2, hx3, hx4⟩ := event_arg (hval 0 43 v0 rfl rfl) h0
  clear hA0
  have hb : Rows.uptoBulk d0 ≤ 1048576 := by
    have h := hcond _ rfl
    simp only [Rows.uptoSmall, decide_eq_true_eq, List.append_nil, Rows.uptoBulkAll] at h
    omega
  simp only [List.append_nil] at hW'
  have hlt : ∀ x ∈ p, x.block < W.heap.size := fun x hx => by simpa using hW'.lt x (by simpa using hx)
  refine (cachepotlaw21_LedgerLines.calls 1001 x.f0 x.f1 A2 c2 x.f2 A3 c3 x.f3 A4 c4 x.f4 true W g2 l2 g3 l3 g4 l4 (LedgerLines_f x.f0 x.f1 x.f2 x.f3 x.f4 (u32_fits hx1).1 (u32_fits hx1).2
    (fun y hy => ⟨Nat.le_trans (hx2.2 y hy).1.1 hb, Nat.le_trans (hx2.2 y hy).2.2.1 hb⟩) (fun y hy => ⟨Nat.le_trans (hx3.2 y hy).1.1 hb, Nat.le_trans (hx3.2 y hy).2.2.1.1 hb, u32_fits (hx3.2 y hy).2.2.2⟩)
    (fun y hy => Nat.le_trans (hx4.2 y hy).1 hb)) (tabs_of_laid hL)).mono fun e W' ⟨he, hB⟩ => ?_
  subst he
  exact ⟨_, rfl, _, _, _, [], p, [], hW', trodAll_mk1 (shut_bool Tryd.underlying4 _), trodAll_mk1 (Below.trod laidOut (by kernel_rfl) (of_decide_eq_true (by kernel_rfl)) h0 hB hlt), rfl, hB.frame _, fun h => by cases h⟩

theorem saidUpto : Rows.LedgerLinesUptoSaid :=
  OpenClaim.holds_of_cond 9 Tryd.f9 rfl rfl rfl rfl rfl rfl rfl ⟨rfl, rfl, rfl, rfl, rfl⟩ rfl rfl rfl rfl rfl (by kernel_rfl) Tryd.func9 closed
    (of_decide_eq_true (by kernel_rfl)) (by unfold Func.isWrapper; first | (rw [if_pos (by decide +kernel)]; kernel_rfl) | (rw [if_neg (by decide +kernel)]; exact ⟨rfl, rfl⟩))
    (fun os started H enc _ F => by rw [OpenClaim.pre_eq_preRow]; exact liftedUpto os started H enc F)

theorem plain (f : FuncId) (fn : Func) (hf : Tryd.pinned.checked.prog.funcNamed "cachepot/cachepotlaw21.LedgerLines" = some f) (hfn : Tryd.pinned.checked.prog.funcs[f]? = some fn) :
    true = Tryd.pinned.checked.prog.looks [] ∧ ∀ (j : Nat) t, fn.params[j]? = some t → Tryd.pinned.checked.prog.wantsStandIn t = false := by
  obtain rfl : f = 9 := Option.some.inj ((show Tryd.prog.funcNamed "cachepot/cachepotlaw21.LedgerLines" = some 9 by kernel_rfl).symm.trans hf) |>.symm
  obtain rfl : fn = Tryd.f9 := (Option.some.inj (Tryd.func9.symm.trans hfn)).symm
  refine ⟨by kernel_rfl, fun j t ht => ?_⟩
  rw [Tryd.params9] at ht
  have hm : t ∈ [43] := by simpa using Array.mem_of_getElem? ht
  have hall : ([43].all fun u => !Tryd.prog.wantsStandIn u) = true := by kernel_rfl
  exact (show Tryd.prog.wantsStandIn t = false by simpa using List.all_eq_true.1 hall t hm)

/-- ████ THE SECOND FORM's CARD ████ -/
theorem cardUpto : Rows.LedgerLinesUptoCardSaid :=
  Claim7.holds_tied_plain_at .later [] _ _ _ _ saidUpto (fun _ h => by cases h) (by kernel_rfl) (fun _ h => by cases h) ledgerLinesUpto_row_tie rfl ⟨rfl, rfl⟩ (by kernel_rfl) rfl plain (by kernel_rfl)
#print axioms cardUpto
end Go.Proofs.YtfaelejeihmgcaaDoor.LedgerLines

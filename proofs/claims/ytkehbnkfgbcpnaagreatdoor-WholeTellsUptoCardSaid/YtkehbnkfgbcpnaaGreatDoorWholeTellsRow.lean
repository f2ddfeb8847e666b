/-
  THE LAW WholeTells, its second form's row and card: the walk (Wd7), the plain law (PureTl) and the row's list (LaidT) joined. Conditions: what is read is of bulk at most 1048576.
-/
import Derived.Test.YtkehbnkfgbcpnaaGreatDoorMw0
import Derived.Test.YtkehbnkfgbcpnaaGreatDoorMw1
import Derived.Test.YtkehbnkfgbcpnaaGreatDoorMw2
import Derived.Test.YtkehbnkfgbcpnaaGreatDoorMw3
import Derived.Test.YtkehbnkfgbcpnaaGreatDoorMw4
import Derived.Test.YtkehbnkfgbcpnaaGreatDoorMw5
import Derived.Test.YtkehbnkfgbcpnaaGreatDoorWholeTellsFacts
namespace Go.Proofs.YtkehbnkfgbcpnaaGreatDoor.WholeTells
open Go.ChangeShapes Go.WideShapes Go.ChangeAt Go.WideMaps Go.ChangeMaps Go.RowKit Wd

def noRow : Value := .agg #[.int .i64 0, .int .i64 0, .int .u32 0, .int .i64 0, .slice none 0 0, .slice none 0 0, .slice none 0 0]
theorem reads (os : Os) {H : Type} (enc : TypeId × Value → H) : ∃ places, DataW.whole enc Tryz.prog ((World.laidAll Tryz.prog os laidHere).forCall (fun _ _ => 0) ⟨#[], #[noRow], []⟩).memory Tryz.f3.params.toList Rows.wholeTellsSpec.vars false #[noRow].toList 8 = some ([.agg [.lit (.int .i64 0), .lit (.int .i64 0), .lit (.int .u32 0), .lit (.int .i64 0), .nil, .nil, .nil]], [], places) :=
  ⟨[], by kernel_rfl⟩

theorem i64_fits {v : Int} (h : (Lit.int .i64 v).wf = true) : -9223372036854775808 ≤ v ∧ v ≤ 9223372036854775807 := by
  simp [Lit.wf, IntKind.min, IntKind.max, IntKind.signed, IntKind.bits] at h
  omega
theorem u32_fits {v : Int} (h : (Lit.int .u32 v).wf = true) : 0 ≤ v ∧ v ≤ 4294967295 := by
  simp [Lit.wf, IntKind.min, IntKind.max, IntKind.signed, IntKind.bits] at h
  omega

set_option maxRecDepth 100000 in
theorem liftedUpto (os : Os) (started : os.Started) (H : Type) (enc : TypeId × Value → H) (F : Stop.Interp) :
    ReturnsInHanded {} Tryz.checked os 3 .any ((Rows.OpenSpec.upto Rows.wholeTellsSpec).preRow enc Tryz.prog Tryz.f3 Rows.wholeTellsUptoRow.domain false Rows.wholeTellsUptoRow.laid) (((Rows.OpenSpec.upto Rows.wholeTellsSpec).at F).post enc Tryz.prog Tryz.f3 false true false false) := by
  obtain ⟨places, hx⟩ := reads os enc
  refine returnsInHanded_of_row (C := Tryz.checked) (s := Rows.OpenSpec.upto Rows.wholeTellsSpec) own started (by kernel_rfl) Tryz.func3
    (witness_row_at (enc := enc) (C := Tryz.checked) false (World.laidAll Tryz.prog os laidHere) #[noRow] (World.laidAll_os _ _ _) (by kernel_rfl) (by kernel_rfl) (by kernel_rfl)
      (OpenSpec.preRow_of_cond 8 hx (by kernel_rfl) (fun k hk => by cases hk; kernel_rfl) (by kernel_rfl) (here_met os _))) ?_
  intro W base args ds gs before hval hW _ hcond _ hL _ _
  have hW' := hW
  obtain ⟨p, q, hA0, hV, rfl, hfz, hnd⟩ := hW
  have hA : DataW.TrodAll enc Tryz.prog W 0 (fun _ => true) true Tryz.f3.params.toList args.toList ds p := hA0
  rw [Tryz.params3] at hA hval
  obtain ⟨v0, d0, rfl, rfl, h0⟩ := trodAll_one hA
  obtain ⟨rfl, rfl⟩ := trodVars_none hV
  obtain ⟨x, A4, c4, A5, c5, A6, c6, rfl, l4, g4, l5, g5, l6, g6, hx0, hx1, hx2, hx3, hx4, hx5, hx6⟩ := row_arg (hval 0 27 v0 rfl rfl) h0
  clear hA0
  have hb : Rows.uptoBulk d0 ≤ 1048576 := by
    have h := hcond _ rfl
    simp only [Rows.uptoSmall, decide_eq_true_eq, List.append_nil, Rows.uptoBulkAll] at h
    omega
  simp only [List.append_nil] at hW'
  have hlt : ∀ x ∈ p, x.block < W.heap.size := fun x hx => by simpa using hW'.lt x (by simpa using hx)
  obtain ⟨k, hk⟩ := WholeTells_f x.f0 x.f1 x.f2 x.f3 x.f4 x.f5 x.f6 {
    a := fun y hy => ⟨Nat.le_trans (hx4.2 y hy).1.1 hb, Nat.le_trans (hx4.2 y hy).2.2.1.1 hb, u32_fits (hx4.2 y hy).2.2.2⟩
    k := fun y hy => Nat.le_trans (hx5.2 y hy).1 hb
    f := fun y hy => Nat.le_trans (hx6.2 y hy).1 hb
    h00 := (i64_fits hx0).1
    h01 := (i64_fits hx0).2
    h10 := (i64_fits hx1).1
    h11 := (i64_fits hx1).2
    h20 := (u32_fits hx2).1
    h21 := (u32_fits hx2).2
    h30 := (i64_fits hx3).1
    h31 := (i64_fits hx3).2 }
  refine (cachepotlaw29_WholeTells.calls k x.f0 x.f1 x.f2 x.f3 A4 c4 x.f4 A5 c5 x.f5 A6 c6 x.f6 true W g4 l4 g5 l5 g6 l6 hk (tabs_of_laid hL)).mono fun e W' ⟨he, hB⟩ => ?_
  subst he
  exact ⟨_, rfl, _, _, _, [], p, [], hW', trodAll_mk1 (shut_bool Tryz.underlying4 _), trodAll_mk1 (Below.trod laidOut (by kernel_rfl) (of_decide_eq_true (by kernel_rfl)) h0 hB hlt), rfl, hB.frame _, fun h => by cases h⟩

theorem saidUpto : Rows.WholeTellsUptoSaid :=
  OpenClaim.holds_of_cond 3 Tryz.f3 rfl rfl rfl rfl rfl rfl rfl ⟨rfl, rfl, rfl, rfl, rfl⟩ rfl rfl rfl rfl rfl (by kernel_rfl) Tryz.func3 closed
    (of_decide_eq_true (by kernel_rfl)) (by unfold Func.isWrapper; first | (rw [if_pos (by decide +kernel)]; kernel_rfl) | (rw [if_neg (by decide +kernel)]; exact ⟨rfl, rfl⟩))
    (fun os started H enc _ F => by rw [OpenClaim.pre_eq_preRow]; exact liftedUpto os started H enc F)

theorem plain (f : FuncId) (fn : Func) (hf : Tryz.pinned.checked.prog.funcNamed "cachepot/cachepotlaw29.WholeTells" = some f) (hfn : Tryz.pinned.checked.prog.funcs[f]? = some fn) :
    true = Tryz.pinned.checked.prog.looks [] ∧ ∀ (j : Nat) t, fn.params[j]? = some t → Tryz.pinned.checked.prog.wantsStandIn t = false := by
  obtain rfl : f = 3 := Option.some.inj ((show Tryz.prog.funcNamed "cachepot/cachepotlaw29.WholeTells" = some 3 by kernel_rfl).symm.trans hf) |>.symm
  obtain rfl : fn = Tryz.f3 := (Option.some.inj (Tryz.func3.symm.trans hfn)).symm
  refine ⟨by kernel_rfl, fun j t ht => ?_⟩
  rw [Tryz.params3] at ht
  have hm : t ∈ [27] := by simpa using Array.mem_of_getElem? ht
  have hall : ([27].all fun u => !Tryz.prog.wantsStandIn u) = true := by kernel_rfl
  exact (show Tryz.prog.wantsStandIn t = false by simpa using List.all_eq_true.1 hall t hm)

/-- ████ THE SECOND FORM's CARD ████ -/
theorem cardUpto : Rows.WholeTellsUptoCardSaid :=
  Claim7.holds_tied_plain_at .later [] _ _ _ _ saidUpto (fun _ h => by cases h) (by kernel_rfl) (fun _ h => by cases h) wholeTellsUpto_row_tie rfl ⟨rfl, rfl⟩ (by kernel_rfl) rfl plain (by kernel_rfl)
#print axioms cardUpto
end Go.Proofs.YtkehbnkfgbcpnaaGreatDoor.WholeTells

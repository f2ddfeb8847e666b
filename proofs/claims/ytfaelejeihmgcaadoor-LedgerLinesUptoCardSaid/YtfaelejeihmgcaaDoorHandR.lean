/-
  ledger.Replay by hand, in the form of the printed functions: it answers as playing the events into a map that is a plain function.
-/
import Derived.Test.YtfaelejeihmgcaaDoorHandM
import Derived.Test.YtfaelejeihmgcaaDoorPureM
import Derived.Deep.RegionHeld3
namespace Go.Proofs.YtfaelejeihmgcaaDoor.Lgx
open Go.RowKit Go.Proofs.YtfaelejeihmgcaaDoorW.PrintWords Go.Proofs.YtfaelejeihmgcaaDoorW.PrintLast
open Atm (MapIs Had nought putM ansVal)

def asked (l : List S98) : List ByteArray := l.map (·.f0)
def stepM (e : S43) (M : ByteArray → Had) : ByteArray → Had :=
  if e.f0 = 1 then commitM e.f1 e.f2 M else if e.f0 = 3 then forgetM e.f4 M else M
def fails (e : S43) (M : ByteArray → Had) : Bool := decide (e.f0 = 2) && !sameA (getM M (asked e.f3)) e.f3
def replayM : Nat → (ByteArray → Had) → List S43 → Int × Bool
  | i, _, [] => ((i : Int), true)
  | i, M, e :: l => if fails e M = true then ((i : Int), false) else replayM (i + 1) (stepM e M) l

def small (s : ByteArray) : Bool := decide (s.size ≤ 140737488355328)
def okE (e : S43) : Bool := decide (e.f2.length ≤ 1048576) && decide (e.f3.length ≤ 1048576) && decide (e.f4.length ≤ 1048576) && e.f2.all (fun x => small x.f0) && e.f3.all (fun x => small x.f0) && e.f4.all small
def okL (l : List S43) : Bool := decide (l.length ≤ 1048576) && l.all okE
def ledger_Replay.f (l0 : List S43) : Option (Int × Bool) := if okL l0 = true then some (replayM 0 (fun _ => nought) l0) else none

theorem rd43 {l : List S43} {k : Nat} (h : k < l.length) : rd_T43 l (k : Int) = l[k] := by
  unfold rd_T43
  rw [List.getD_eq_getElem?_getD, Int.toNat_natCast, List.getElem?_eq_getElem h]
  rfl

theorem small_max {s : ByteArray} (h : small s = true) : s.size ≤ maxLen := by
  unfold small at h
  unfold maxLen
  have := of_decide_eq_true h
  omega

structure OkE (e : S43) : Prop where
  w : e.f2.length ≤ 1048576
  a : e.f3.length ≤ 1048576
  k : e.f4.length ≤ 1048576
  kw : ∀ x ∈ e.f2, x.f0.size ≤ maxLen
  ka : ∀ x ∈ asked e.f3, x.size ≤ maxLen
  kk : ∀ x ∈ e.f4, x.size ≤ maxLen

theorem bound_n {n k m v : Nat} (hn : n ≤ k * 1048576) (hk : k ≤ m) (hm : m ≤ 1048576) (hw : v ≤ 1048576) : n + v < maxLen := by
  unfold maxLen
  omega
theorem bound_k {v : Nat} (hw : v ≤ 1048576) : v ≤ 9223372036854775807 := by omega

theorem okE_is {e : S43} (h : okE e = true) : OkE e := by
  unfold okE at h
  simp only [Bool.and_eq_true, decide_eq_true_eq, List.all_eq_true] at h
  obtain ⟨⟨⟨⟨⟨h1, h2⟩, h3⟩, h4⟩, h5⟩, h6⟩ := h
  refine ⟨h1, h2, h3, fun x hx => small_max (h4 x hx), fun x hx => ?_, fun x hx => small_max (h6 x hx)⟩
  obtain ⟨y, hy, rfl⟩ := List.mem_map.1 hx
  exact small_max (h5 y hy)

set_option maxHeartbeats 8000000 in
set_option maxRecDepth 100000 in
theorem ledger_Replay.calls (A0 : Option Addr) (c0 : Nat) (l0 : List (S43)) (r1 : Int) (r2 : Bool) (w : World) (hr0 : Kd.C k43 w A0 l0.length l0) (hc0 : l0.length ≤ c0) (h : ledger_Replay.f l0 = some (r1, r2)) :
    Calls Tryd.prog 35 #[.slice A0 l0.length c0] w fun e w' => e = .returned (.tuple #[.int .i64 r1, .bool r2]) ∧ Below w.heap.size w w' := by
  have hok : okL l0 = true := by
    unfold ledger_Replay.f at h
    split at h
    · assumption
    · cases h
  have hq : Aside0 (replayM 0 (fun _ => nought) l0 = (r1, r2)) := ⟨by unfold ledger_Replay.f at h; rw [if_pos hok] at h; exact Option.some.inj h⟩
  have hok2 : l0.length ≤ 1048576 ∧ ∀ e ∈ l0, OkE e := by
    unfold okL at hok
    simp only [Bool.and_eq_true, decide_eq_true_eq, List.all_eq_true] at hok
    exact ⟨hok.1, fun e he => okE_is (hok.2 e he)⟩
  obtain ⟨hlen, hev⟩ := hok2
  have HC0 := Lib.hid hc0
  clear h hok hc0
  go_enter Tryd.func35, Tryd.ntmps35
  go_wp2_with fail
  refine (atom_New _).mono ?_
  rintro e w1 ⟨rfl, hA1, hb1⟩
  go_wp2_with fail
  go_loopw [13] (fun i wr => ∃ (k n : Nat) (M : ByteArray → Had), k ≤ l0.length ∧ i = .int .i64 k ∧ n ≤ k * 1048576 ∧ AtomIs wr (w.heap.size + 1) w.heap.size n M ∧ Below w.heap.size w wr ∧ Aside0 (replayM k M (l0.drop k) = (r1, r2))) (fun i _ => l0.length - (intOf i).toNat)
  case atStart => exact ⟨0, 0, _, Nat.zero_le _, rfl, Nat.zero_le _, hA1, hb1, by rw [List.drop_zero]; exact hq⟩
  case round =>
    clear hA1 hb1 hq
    obtain ⟨k, n, M, hkl, rfl, hn, hI, hb, hq⟩ := hrel
    by_cases hlt : k < l0.length
    · obtain ⟨ad, A2, c2, A3, c3, A4, c4, e, x0, x1, x2, x3, x4, l2, g2, l3, g3, l4, g4⟩ := at_T43 hr0 k (by omega) (by omega)
      cases e
      rw [rd43 hlt] at x0 x1 x2 x3 x4 l2 g2 l3 g3 l4 g4
      replace x0 := (hb.cell (World.block_lt_of_cell? w _ x0)).trans x0
      replace x1 := (hb.cell (World.block_lt_of_cell? w _ x1)).trans x1
      replace x2 := (hb.cell (World.block_lt_of_cell? w _ x2)).trans x2
      replace x3 := (hb.cell (World.block_lt_of_cell? w _ x3)).trans x3
      replace x4 := (hb.cell (World.block_lt_of_cell? w _ x4)).trans x4
      have hE := hev _ (List.getElem_mem hlt)
      have hqs := hq.out
      rw [List.drop_eq_getElem_cons hlt, replayM] at hqs
      obtain ⟨x, hx⟩ : ∃ x, x = l0[k] := ⟨_, rfl⟩
      rw [← hx] at x0 x1 x2 x3 x4 l2 g2 l3 g3 l4 g4 hE hqs
      simp only [Int.toNat_natCast] at x0 x1 x2 x3 x4
      have Hqs := Lib.hid hqs
      clear hx hq hqs
      have HL2 := Lib.hid l2
      have HL3 := Lib.hid l3
      have HL4 := Lib.hid l4
      clear l2 l3 l4
      obtain ⟨xk, xs, xw, xa, xy⟩ := x
      have hblt := hI.lt
      have HE := Lib.hid hE
      clear hE
      have moves : ∀ (o : Obj) (W : World), (wr.alloc o).grownBy W (some w.heap.size) → Below w.heap.size w W := fun o W hg => pw_below_grown (below_alloc hb o) _ (below_alloc hb o).size hg (fun j hj => by cases hj; exact Nat.le_refl _)
      by_cases h1 : xk = 1
      · subst h1
        go_wp2_with fail
        refine (atom_Commit (w.heap.size + 1) w.heap.size n M xs _ c2 xw _ (hI.below (below_alloc (Below.refl _ _) _)) (fun W hg => Kd.C_below g2 (moves _ W hg)) HE.out.kw (bound_n hn hkl hlen HE.out.w)).mono ?_
        rintro e w2 ⟨rfl, hA2, hg2⟩
        have hb2 := moves _ _ hg2
        clear hg2 moves
        go_wp2
        go_roundw
        case rel =>
          refine ⟨k + 1, n + xw.length, _, hlt, by simp, ?_, hA2, hb2, ⟨?_⟩⟩
          · have := HE.out.w
            simp only at this
            omega
          · have h := Hqs.out
            rw [if_neg (by simp [fails])] at h
            exact h
        case measure => simp [intOf]; omega
      · by_cases h3 : xk = 3
        · subst h3
          go_wp2_with fail
          refine (atom_Forget (w.heap.size + 1) w.heap.size n M _ c4 xy _ (hI.below (below_alloc (Below.refl _ _) _)) (fun W hg => Kd.C_below g4 (moves _ W hg)) HE.out.kk (bound_k HE.out.k)).mono ?_
          rintro e w2 ⟨rfl, hA2, hg2⟩
          have hb2 := moves _ _ hg2
          clear hg2 moves
          go_wp2
          go_roundw
          case rel =>
            refine ⟨k + 1, n, _, hlt, by simp, Nat.le_trans hn (Nat.mul_le_mul_right _ (Nat.le_succ k)), hA2, hb2, ⟨?_⟩⟩
            have h := Hqs.out
            rw [if_neg (by simp [fails])] at h
            exact h
          case measure => simp [intOf]; omega
        · by_cases h2 : xk = 2
          · subst h2
            go_wp2_with fail
            obtain ⟨O, hO⟩ : ∃ O : Obj, O = Obj.cells #[.int .i64 2, .int .u32 xs, .slice A2 xw.length c2, .slice A3 xa.length c3, .slice A4 xy.length c4] 43 := ⟨_, rfl⟩
            have hI0 := hI.below (below_alloc (Below.refl _ _) O)
            have hb0 := below_alloc hb O
            have z3 : (wr.alloc O).cell? ⟨wr.heap.size, 3, none⟩ = some (.slice A3 xa.length c3) := by
              have h := Lib.cell_of_heap (heap_alloc_new wr (Obj.cells #[.int .i64 2, .int .u32 xs, .slice A2 xw.length c2, .slice A3 xa.length c3, .slice A4 xy.length c4] 43)) 3
              rw [hO, h]
              rfl
            have hz0 : wr.heap.size < (wr.alloc O).heap.size := by simp
            rw [← hO]
            clear hO moves x0 x1 x2 x3 x4 g2 g4
            generalize wr.alloc O = W0 at hI0 hb0 z3 hz0 ⊢
            have hal := HE.out.a
            simp only at hal
            obtain ⟨wo, rfl⟩ : ∃ wo : World, wo = wr := ⟨_, rfl⟩
            go_loopw [7, 39] (fun v i wi => ∃ j : Nat, j ≤ xa.length ∧ i = .int .i64 j ∧ Kd.R Kd.string 9 wi W0.heap.size (fun _ => True) v (asked (xa.take j)) ∧ Below W0.heap.size W0 wi) (fun _ i _ => xa.length - (intOf i).toNat)
            case atStart => exact ⟨0, Nat.zero_le _, rfl, Kd.R_nil _ _ _ _ _, Below.refl _ _⟩
            case round =>
              obtain ⟨j, hjl, rfl, hR, hbi⟩ := hrel
              have hbm : Below w.heap.size w wr := below_then hb0 hb0.size hbi
              by_cases hlj : j < xa.length
              · obtain ⟨ad3, e3, y0, y1, y2, y3⟩ := at_T98 g3 j (by omega) (by omega)
                cases e3
                rw [rd98 hlj] at y0 y1 y2 y3
                replace y0 := (hbm.cell (World.block_lt_of_cell? w _ y0)).trans y0
                replace y1 := (hbm.cell (World.block_lt_of_cell? w _ y1)).trans y1
                replace y2 := (hbm.cell (World.block_lt_of_cell? w _ y2)).trans y2
                replace y3 := (hbm.cell (World.block_lt_of_cell? w _ y3)).trans y3
                have hsn : asked (xa.take (j + 1)) = asked (xa.take j) ++ [xa[j].f0] := by
                  rw [List.take_succ_eq_append_getElem hlj]
                  simp only [asked, List.map_append, List.map_cons, List.map_nil]
                obtain ⟨y, hy⟩ : ∃ y, y = xa[j] := ⟨_, rfl⟩
                rw [← hy] at y0 y1 y2 y3 hsn
                simp only [Int.toNat_natCast] at y0 y1 y2 y3
                have Hsn := Lib.hid hsn
                clear hsn hy
                obtain ⟨yk, yi, yv, yf⟩ := y
                have hlen2 : (asked (xa.take j)).length ≤ 1048576 := by simp only [asked, List.length_map]; have := List.length_take_le j xa; omega
                go_wp2_with (at_builtin; refine Kd.R_append Kd.string (w0 := W0) W0.heap.size rfl (.tmp 43) (.tmp 46) 22 9 (.string ⟨#[]⟩) 16 rfl Tryd.underlying22 info9 rfl (by decide) (by omega) u7 (asked (xa.take j)) yk [.string yk] (fun _ => True) (fun _ => False) rfl (by first | (go_simp; done) | (go_simp; rfl)) rfl (fun _ hk => hk.elim) (fun _ _ => trivial) (Kd.R_alloc hR _) (below_alloc hbi _) (below_alloc hbi _).size ?aL ?_)
                case aL => omega
                intro v1 w4 hR1 hb1 _ _
                have hR2 : Kd.R Kd.string 9 w4 W0.heap.size (fun _ => True) v1 (asked (xa.take (j + 1))) := by rw [Hsn.out]; exact hR1
                clear hR hR1
                go_wp2
                go_roundw
                case rel => exact ⟨j + 1, hlj, by simp, hR2, hb1⟩
                case measure => simp [intOf]; omega
              · have hje : j = xa.length := by omega
                subst hje
                rw [List.take_length] at hR
                have hIa := hI0.below hbi
                have z4 := (hbi.cell (p := ⟨wo.heap.size, 3, none⟩) hz0).trans z3
                obtain ⟨Aa, ca, ea⟩ := Kd.R_slice hR
                subst ea
                obtain ⟨_, hca, hCa⟩ := Kd.R_reads' hR
                have hask : (asked xa).length = xa.length := by simp [asked]
                have hgl : (getM M (asked xa)).length = xa.length := by simp [asked, getM]
                have step : ∀ w3, Below wr.heap.size wr w3 → Calls Tryd.prog 76 #[.pointer (some ⟨w.heap.size + 1, 0, none⟩), .slice Aa (asked xa).length ca] w3 fun e w' => ∃ A c, e = .returned (.slice A (getM M (asked xa)).length c) ∧ ((getM M (asked xa)).length ≤ c ∧ Kd.C k98 w' A (getM M (asked xa)).length (getM M (asked xa))) ∧ Below wr.heap.size wr w' := by
                  intro w3 h3
                  refine (atom_Get _ _ n M Aa ca (asked xa) w3 (hIa.below h3) (Kd.C_below hCa h3) HE.out.ka (by omega)).mono ?_
                  rintro e w4 ⟨v, rfl, hRv, hb4⟩
                  obtain ⟨A, c, rfl⟩ := Kd.R_slice hRv
                  exact ⟨A, c, rfl, (Kd.R_reads' hRv).2, below_then h3 h3.size hb4⟩
                have step2 : ∀ w3 A c, Below wr.heap.size wr w3 → (getM M (asked xa)).length ≤ c → Kd.C k98 w3 A (getM M (asked xa)).length (getM M (asked xa)) → Calls Tryd.prog 75 #[.slice A (getM M (asked xa)).length c, .slice A3 xa.length c3] w3 fun e w' => e = .returned (.bool (sameA (getM M (asked xa)) xa)) ∧ Below wr.heap.size wr w' := by
                  intro w3 A c h3 hc hC
                  exact (api_Answer.calls (xa.length + 1) A c _ A3 c3 xa _ w3 hC hc (Kd.C_below g3 (below_then hbm hbm.size h3)) HL3.out (api_f _ _ (by omega) _ (by omega))).mono (fun e w' h => ⟨h.1, below_then h3 h3.size h.2.below⟩)
                have Hgl := Lib.hid hgl
                have Hask := Lib.hid hask
                clear hgl hask
                obtain ⟨sb, hsb⟩ : ∃ sb, sb = sameA (getM M (asked xa)) xa := ⟨_, rfl⟩
                rw [← hsb] at step2
                have Hsb := Lib.hid hsb
                clear hsb
                have zz : ∀ W, Below wr.heap.size wr W → W.cell? ⟨wo.heap.size, 3, none⟩ = some (.slice A3 xa.length c3) := fun W hW => (hW.cell (p := ⟨wo.heap.size, 3, none⟩) (Nat.lt_of_lt_of_le hz0 hbi.size)).trans z4
                go_wp2_with fail
                go_region_held3 (fun w' => w'.cell? ⟨wo.heap.size, 3, none⟩ = some (.slice A3 xa.length c3)) (exact zz _ (by first | assumption | exact Below.refl _ _ | exact (Below.refl _ _).drew | exact Below.drew (by assumption)))
                  (first | (go_at_call 76; refine (step _ (by first | assumption | exact Below.refl _ _ | exact (Below.refl _ _).drew | exact Below.drew (by assumption))).mono ?_; rintro e w4 ⟨A, c, rfl, ⟨hcc, hCC⟩, hb4⟩) | (go_at_call 75; refine (step2 _ _ _ (by assumption) (by assumption) (by assumption)).mono ?_; rintro e w5 ⟨rfl, hd⟩))
                have hbf : Below w.heap.size w w5 := below_then hbm hbm.size hd
                have hIf := hIa.below hd
                clear step step2 zz
                cases sb
                · have h := Hqs.out
                  rw [if_pos (by simp [fails, ← Hsb.out])] at h
                  simp only [Prod.mk.injEq] at h
                  obtain ⟨rfl, rfl⟩ := h
                  go_wp2
                  go_ret2
                  exact ⟨rfl, hbf⟩
                · go_wp2
                  go_roundw
                  case rel =>
                    refine ⟨k + 1, n, _, hlt, by simp, Nat.le_trans hn (Nat.mul_le_mul_right _ (Nat.le_succ k)), hIf, hbf, ⟨?_⟩⟩
                    have h := Hqs.out
                    rw [if_neg (by simp [fails, ← Hsb.out])] at h
                    exact h
                  case measure => simp [intOf]; omega
          · have t1 : (xk == 1) = false := beq_eq_false_iff_ne.2 h1
            have t3 : (xk == 3) = false := beq_eq_false_iff_ne.2 h3
            have t2 : (xk == 2) = false := beq_eq_false_iff_ne.2 h2
            have Hst : Hid (stepM ⟨xk, xs, xw, xa, xy⟩ M = M ∧ fails ⟨xk, xs, xw, xa, xy⟩ M = false) := Lib.hid ⟨by simp [stepM, h1, h3], by simp [fails, h2]⟩
            clear h1 h3 h2 moves
            go_wp2
            go_roundw
            case rel =>
              refine ⟨k + 1, n, M, hlt, by simp, Nat.le_trans hn (Nat.mul_le_mul_right _ (Nat.le_succ k)), hI.below (below_alloc (Below.refl _ _) _), below_alloc hb _, ⟨?_⟩⟩
              have h := Hqs.out
              rw [if_neg (by rw [Hst.out.2]; decide), Hst.out.1] at h
              exact h
            case measure => simp [intOf]; omega
    · have hke : k = l0.length := by omega
      subst hke
      have hqs := hq.out
      rw [List.drop_length, replayM] at hqs
      simp only [Prod.mk.injEq] at hqs
      obtain ⟨rfl, rfl⟩ := hqs
      clear hq
      go_wp2
      go_ret2
      exact ⟨rfl, hb⟩

end Go.Proofs.YtfaelejeihmgcaaDoor.Lgx

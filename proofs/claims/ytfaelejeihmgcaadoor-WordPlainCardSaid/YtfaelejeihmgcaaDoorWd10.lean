-- printed by a program of mine (pp.py) over the kit's print.py: functions of the laws of chapter 25 in one namespace; some of their callees are proved by hand (YtfaelejeihmgcaaDoorHand..)
import Derived.Test.YtfaelejeihmgcaaDoorWd0
import Derived.Test.YtfaelejeihmgcaaDoorWd2
import Derived.Test.YtfaelejeihmgcaaDoorWd6
import Derived.Test.YtfaelejeihmgcaaDoorWd9
import Derived.Test.YtfaelejeihmgcaaDoorHandD
import Derived.Test.YtfaelejeihmgcaaDoorHandG
namespace Go.Proofs.YtfaelejeihmgcaaDoor.Wd
open Go.RowKit Go.Proofs.YtfaelejeihmgcaaDoorW.PrintWords Go.Proofs.YtfaelejeihmgcaaDoorW.PrintLast Go.Proofs.YtfaelejeihmgcaaDoorW.PrintMore
attribute [local go_sem] max2_int min2_int max_two min_two max_three min_three max_four min_four   -- for this text's walks alone
set_option linter.unusedVariables false
set_option linter.unusedSimpArgs false

/-! ### cachepotlaw25_WordPlain: function 8 -/
mutual
def cachepotlaw25_WordPlain.j0 : Nat → ByteArray → ByteArray → Bool → Option (Bool)
  | 0, _, _, _ => none
  | k + 1, x0, x1, x20 => if x20 = true then ((cachepotlaw25_alive.f k).bind fun t243 => (some t243)) else (cachepotlaw25_WordPlain.l0 k x0 x1 0)
def cachepotlaw25_WordPlain.l0 : Nat → ByteArray → ByteArray → Int → Option (Bool)
  | 0, _, _, _ => none
  | k + 1, x0, x1, x5 => if x5 < (x0.size : Int) then (if 0 ≤ x5 then (if (bt x0 x5) = 34 then ((word_Quote.f x0).bind fun t244 => (some (t244.toList != x0.toList))) else (if (bt x0 x5) = 92 then ((word_Quote.f x0).bind fun t245 => (some (t245.toList != x0.toList))) else (cachepotlaw25_WordPlain.l0 k x0 x1 (wrap64 (x5 + 1))))) else (none)) else (cachepotlaw25_WordPlain.l1 k x0 x1 0)
def cachepotlaw25_WordPlain.l1 : Nat → ByteArray → ByteArray → Int → Option (Bool)
  | 0, _, _, _ => none
  | k + 1, x0, x1, x6 => if x6 < (x1.size : Int) then (if 0 ≤ x6 then (if (bt x1 x6) = 34 then ((word_Quote.f x1).bind fun t246 => (some (t246.toList != x1.toList))) else (if (bt x1 x6) = 92 then ((word_Quote.f x1).bind fun t247 => (some (t247.toList != x1.toList))) else (cachepotlaw25_WordPlain.l1 k x0 x1 (wrap64 (x6 + 1))))) else (none)) else (if x0.size + 1 ≤ 9223372036854775807 then (if (x0 ++ (⟨#[32]⟩ : ByteArray)).size + x1.size ≤ 9223372036854775807 then ((word_Split.f k ((x0 ++ (⟨#[32]⟩ : ByteArray)) ++ x1)).bind fun bt248 => ((word_Quote.f x0).bind fun t252 => (if t252.toList = x0.toList then (if bt248.2 = 0 then (if (bt248.1.length : Int) = 2 then (if 0 < (bt248.1.length : Int) then (if (rdOf ByteArray.empty bt248.1 0).toList = x0.toList then (if 1 < (bt248.1.length : Int) then (if (rdOf ByteArray.empty bt248.1 1).toList = x1.toList then ((word_Join.f k (([x0, x1] : List ByteArray))).bind fun t258 => (some (t258.toList == ((x0 ++ (⟨#[32]⟩ : ByteArray)) ++ x1).toList))) else (some false)) else (none)) else (some false)) else (none)) else (some false)) else (some false)) else (some false)))) else (none)) else (none))
end
def cachepotlaw25_WordPlain.f (k : Nat) (a0 : ByteArray) (a1 : ByteArray) : Option (Bool) := (cachepotlaw25_alive.f k).bind fun t240 => (if t240 = true then ((keys_Right.f a0).bind fun t241 => (if t241 = true then ((keys_Right.f a1).bind fun t242 => (cachepotlaw25_WordPlain.j0 k a0 a1 (!t242))) else (cachepotlaw25_WordPlain.j0 k a0 a1 true))) else (cachepotlaw25_WordPlain.j0 k a0 a1 true))
theorem cachepotlaw25_WordPlain.mono_l : ∀ k, (∀ y0 y1 y2, LeO (cachepotlaw25_WordPlain.j0 k y0 y1 y2) (cachepotlaw25_WordPlain.j0 (k + 1) y0 y1 y2)) ∧ (∀ y0 y1 y2, LeO (cachepotlaw25_WordPlain.l0 k y0 y1 y2) (cachepotlaw25_WordPlain.l0 (k + 1) y0 y1 y2)) ∧ (∀ y0 y1 y2, LeO (cachepotlaw25_WordPlain.l1 k y0 y1 y2) (cachepotlaw25_WordPlain.l1 (k + 1) y0 y1 y2))
  | 0 => ⟨fun _ _ _ r h => by simp [cachepotlaw25_WordPlain.j0] at h, fun _ _ _ r h => by simp [cachepotlaw25_WordPlain.l0] at h, fun _ _ _ r h => by simp [cachepotlaw25_WordPlain.l1] at h⟩
  | k + 1 => by
    obtain ⟨ih0, ih1, ih2⟩ := cachepotlaw25_WordPlain.mono_l k
    refine ⟨?_, ?_, ?_⟩
    · intro y0 y1 y2
      unfold cachepotlaw25_WordPlain.j0
      repeat' first
      | (with_reducible exact ih0 _ _ _)
      | (with_reducible exact ih1 _ _ _)
      | (with_reducible exact ih2 _ _ _)
      | (with_reducible exact cachepotlaw25_alive.mono _)
      | (with_reducible exact word_Join.mono _ _)
      | (with_reducible exact word_Split.mono _ _)
      | (with_reducible exact LeO.refl _)
      | (with_reducible exact LeO.none _)
      | (with_reducible refine LeO.ite ?_ ?_)
      | (with_reducible refine LeO.bind ?_ (fun _ => ?_))
      | exact ih0 _ _ _
      | exact ih1 _ _ _
      | exact ih2 _ _ _
      | exact cachepotlaw25_alive.mono _
      | exact word_Join.mono _ _
      | exact word_Split.mono _ _
      | exact LeO.none _
      | refine LeO.ite ?_ ?_
      | refine LeO.bind ?_ (fun _ => ?_)
    · intro y0 y1 y2
      unfold cachepotlaw25_WordPlain.l0
      repeat' first
      | (with_reducible exact ih0 _ _ _)
      | (with_reducible exact ih1 _ _ _)
      | (with_reducible exact ih2 _ _ _)
      | (with_reducible exact cachepotlaw25_alive.mono _)
      | (with_reducible exact word_Join.mono _ _)
      | (with_reducible exact word_Split.mono _ _)
      | (with_reducible exact LeO.refl _)
      | (with_reducible exact LeO.none _)
      | (with_reducible refine LeO.ite ?_ ?_)
      | (with_reducible refine LeO.bind ?_ (fun _ => ?_))
      | exact ih0 _ _ _
      | exact ih1 _ _ _
      | exact ih2 _ _ _
      | exact cachepotlaw25_alive.mono _
      | exact word_Join.mono _ _
      | exact word_Split.mono _ _
      | exact LeO.none _
      | refine LeO.ite ?_ ?_
      | refine LeO.bind ?_ (fun _ => ?_)
    · intro y0 y1 y2
      unfold cachepotlaw25_WordPlain.l1
      repeat' first
      | (with_reducible exact ih0 _ _ _)
      | (with_reducible exact ih1 _ _ _)
      | (with_reducible exact ih2 _ _ _)
      | (with_reducible exact cachepotlaw25_alive.mono _)
      | (with_reducible exact word_Join.mono _ _)
      | (with_reducible exact word_Split.mono _ _)
      | (with_reducible exact LeO.refl _)
      | (with_reducible exact LeO.none _)
      | (with_reducible refine LeO.ite ?_ ?_)
      | (with_reducible refine LeO.bind ?_ (fun _ => ?_))
      | exact ih0 _ _ _
      | exact ih1 _ _ _
      | exact ih2 _ _ _
      | exact cachepotlaw25_alive.mono _
      | exact word_Join.mono _ _
      | exact word_Split.mono _ _
      | exact LeO.none _
      | refine LeO.ite ?_ ?_
      | refine LeO.bind ?_ (fun _ => ?_)
theorem cachepotlaw25_WordPlain.mono : ∀ a0 a1 k, LeO (cachepotlaw25_WordPlain.f k a0 a1) (cachepotlaw25_WordPlain.f (k + 1) a0 a1) := by
  intro a0 a1 k
  obtain ⟨ih0, ih1, ih2⟩ := cachepotlaw25_WordPlain.mono_l k
  unfold cachepotlaw25_WordPlain.f
  repeat' first
      | (with_reducible exact ih0 _ _ _)
      | (with_reducible exact ih1 _ _ _)
      | (with_reducible exact ih2 _ _ _)
      | (with_reducible exact cachepotlaw25_alive.mono _)
      | (with_reducible exact word_Join.mono _ _)
      | (with_reducible exact word_Split.mono _ _)
      | (with_reducible exact LeO.refl _)
      | (with_reducible exact LeO.none _)
      | (with_reducible refine LeO.ite ?_ ?_)
      | (with_reducible refine LeO.bind ?_ (fun _ => ?_))
      | exact ih0 _ _ _
      | exact ih1 _ _ _
      | exact ih2 _ _ _
      | exact cachepotlaw25_alive.mono _
      | exact word_Join.mono _ _
      | exact word_Split.mono _ _
      | exact LeO.none _
      | refine LeO.ite ?_ ?_
      | refine LeO.bind ?_ (fun _ => ?_)
set_option maxHeartbeats 8000000 in
set_option maxRecDepth 100000 in
theorem cachepotlaw25_WordPlain.calls (k : Nat) (a0 : ByteArray) (a1 : ByteArray) (r : Bool) (w : World) (h : cachepotlaw25_WordPlain.f k a0 a1 = some r) (hT : Tabs w) :
    Calls Tryd.prog 8 #[.string a0, .string a1] w fun e w' => e = .returned (.bool r) ∧ Below w.heap.size w w' := by
  have HB := Aside0.mk (Below.refl w.heap.size w)
  have H : ((cachepotlaw25_alive.f k).bind fun t240 => (if t240 = true then ((keys_Right.f a0).bind fun t241 => (if t241 = true then ((keys_Right.f a1).bind fun t242 => (cachepotlaw25_WordPlain.j0 k a0 a1 (!t242))) else (cachepotlaw25_WordPlain.j0 k a0 a1 true))) else (cachepotlaw25_WordPlain.j0 k a0 a1 true))) = some r := h
  clear h
  have HC3 := Aside0.mk H
  clear H
  go_enter Tryd.func8, Tryd.ntmps8
  go_upto_region 1 with (fail)
  go_cut [20] (fun v20 wc => ∃ (kq : Nat) (x20_2 : Bool), v20 = .bool x20_2 ∧ Aside0 (cachepotlaw25_WordPlain.j0 kq a0 a1 x20_2 = some r) ∧ Aside0 (kq ≤ k) ∧ Aside0 (Below w.heap.size w wc))
  case first =>
    have H := HC3.out
    clear HC3
    replace H := Option.bind_eq_some_iff.mp H
    obtain ⟨t240, A40, H⟩ := H
    replace H : (if t240 = true then ((keys_Right.f a0).bind fun t241 => (if t241 = true then ((keys_Right.f a1).bind fun t242 => (cachepotlaw25_WordPlain.j0 k a0 a1 (!t242))) else (cachepotlaw25_WordPlain.j0 k a0 a1 true))) else (cachepotlaw25_WordPlain.j0 k a0 a1 true)) = some r := H
    have A4 := Aside0.mk A40
    clear A40
    by_cases c5 : t240 = true
    · subst c5
      have H1 : ((keys_Right.f a0).bind fun t241 => (if t241 = true then ((keys_Right.f a1).bind fun t242 => (cachepotlaw25_WordPlain.j0 k a0 a1 (!t242))) else (cachepotlaw25_WordPlain.j0 k a0 a1 true))) = some r := by rw [if_pos rfl] at H; exact H
      clear H
      have H := H1
      clear H1
      replace H := Option.bind_eq_some_iff.mp H
      obtain ⟨t241, A60, H⟩ := H
      replace H : (if t241 = true then ((keys_Right.f a1).bind fun t242 => (cachepotlaw25_WordPlain.j0 k a0 a1 (!t242))) else (cachepotlaw25_WordPlain.j0 k a0 a1 true)) = some r := H
      have A6 := Aside0.mk A60
      clear A60
      by_cases c7 : t241 = true
      · subst c7
        have H1 : ((keys_Right.f a1).bind fun t242 => (cachepotlaw25_WordPlain.j0 k a0 a1 (!t242))) = some r := by rw [if_pos rfl] at H; exact H
        clear H
        have H := H1
        clear H1
        replace H := Option.bind_eq_some_iff.mp H
        obtain ⟨t242, A80, H⟩ := H
        replace H : (cachepotlaw25_WordPlain.j0 k a0 a1 (!t242)) = some r := H
        have A8 := Aside0.mk A80
        clear A80
        have H' := Aside0.mk H
        clear H
        go_wp2_with (first | ((with_reducible refine gate_callee (f := 21) rfl ?_); refine goesL_ (some 9) rfl rfl Tryd.func21 (by kernel_rfl) rfl #[] rfl (by (try simp only [List.map_toArray, List.map_cons, List.map_nil]); first | done | rfl | (simp only [List.length_drop, List.length_take]; rfl)) ?_; (with_reducible refine (cachepotlaw25_alive.calls k  true _ A4.out (by first | exact hT | (refine Tabs.below hT ?_; (repeat (first | (with_reducible first | exact HB.out | exact Below.refl _ _ | apply below_alloc | apply pw_below_drewN | apply below_drew1) | exact HB.out))))).mono ?_); rintro e w9 ⟨rfl, hb⟩; refine ⟨_, rfl, ?_⟩; have n0_ := Aside0.mk (below_step (by repeat (first | (with_reducible first | exact HB.out | apply below_alloc | apply pw_below_drewN | apply below_drew1) | exact HB.out)) hb); clear HB; have HB := n0_; clear n0_; (try clear hb); (try clear hb2); (try clear hk); (try clear hi)) | (go_at_call 30; (with_reducible refine (keys_Right.calls a0 true _ A6.out (by first | exact hT | (refine Tabs.below hT ?_; (repeat (first | (with_reducible first | exact HB.out | exact Below.refl _ _ | apply below_alloc | apply pw_below_drewN | apply below_drew1) | exact HB.out))))).mono ?_); rintro e w10 ⟨rfl, hb⟩; have n0_ := Aside0.mk (below_step (by repeat (first | (with_reducible first | exact HB.out | apply below_alloc | apply pw_below_drewN | apply below_drew1) | exact HB.out)) hb); clear HB; have HB := n0_; clear n0_; (try clear hb); (try clear hb2); (try clear hk); (try clear hi)) | (go_at_call 30; (with_reducible refine (keys_Right.calls a1 t242 _ A8.out (by first | exact hT | (refine Tabs.below hT ?_; (repeat (first | (with_reducible first | exact HB.out | exact Below.refl _ _ | apply below_alloc | apply pw_below_drewN | apply below_drew1) | exact HB.out))))).mono ?_); rintro e w11 ⟨rfl, hb⟩; have n0_ := Aside0.mk (below_step (by repeat (first | (with_reducible first | exact HB.out | apply below_alloc | apply pw_below_drewN | apply below_drew1) | exact HB.out)) hb); clear HB; have HB := n0_; clear n0_; (try clear hb); (try clear hb2); (try clear hk); (try clear hi)))
        go_meet
        case rel => exact ⟨_, (!t242), (by first | rfl | (simp; done) | (simp [*]; done)), H', ⟨by first | omega | exact Nat.le_refl _⟩, ⟨by repeat (first | (with_reducible first | exact HB.out | apply below_alloc | apply pw_below_drewN | apply below_drew1) | exact HB.out)⟩⟩
      · replace c7 := Bool.eq_false_iff.mpr c7
        subst c7
        have H1 : (cachepotlaw25_WordPlain.j0 k a0 a1 true) = some r := by rw [if_neg (show ¬ (false = true) by decide)] at H; exact H
        clear H
        have H := H1
        clear H1
        have H' := Aside0.mk H
        clear H
        go_wp2_with (first | ((with_reducible refine gate_callee (f := 21) rfl ?_); refine goesL_ (some 9) rfl rfl Tryd.func21 (by kernel_rfl) rfl #[] rfl (by (try simp only [List.map_toArray, List.map_cons, List.map_nil]); first | done | rfl | (simp only [List.length_drop, List.length_take]; rfl)) ?_; (with_reducible refine (cachepotlaw25_alive.calls k  true _ A4.out (by first | exact hT | (refine Tabs.below hT ?_; (repeat (first | (with_reducible first | exact HB.out | exact Below.refl _ _ | apply below_alloc | apply pw_below_drewN | apply below_drew1) | exact HB.out))))).mono ?_); rintro e w12 ⟨rfl, hb⟩; refine ⟨_, rfl, ?_⟩; have n0_ := Aside0.mk (below_step (by repeat (first | (with_reducible first | exact HB.out | apply below_alloc | apply pw_below_drewN | apply below_drew1) | exact HB.out)) hb); clear HB; have HB := n0_; clear n0_; (try clear hb); (try clear hb2); (try clear hk); (try clear hi)) | (go_at_call 30; (with_reducible refine (keys_Right.calls a0 false _ A6.out (by first | exact hT | (refine Tabs.below hT ?_; (repeat (first | (with_reducible first | exact HB.out | exact Below.refl _ _ | apply below_alloc | apply pw_below_drewN | apply below_drew1) | exact HB.out))))).mono ?_); rintro e w13 ⟨rfl, hb⟩; have n0_ := Aside0.mk (below_step (by repeat (first | (with_reducible first | exact HB.out | apply below_alloc | apply pw_below_drewN | apply below_drew1) | exact HB.out)) hb); clear HB; have HB := n0_; clear n0_; (try clear hb); (try clear hb2); (try clear hk); (try clear hi)))
        go_meet
        case rel => exact ⟨_, (true), (by first | rfl | (simp; done) | (simp [*]; done)), H', ⟨by first | omega | exact Nat.le_refl _⟩, ⟨by repeat (first | (with_reducible first | exact HB.out | apply below_alloc | apply pw_below_drewN | apply below_drew1) | exact HB.out)⟩⟩
    · replace c5 := Bool.eq_false_iff.mpr c5
      subst c5
      have H1 : (cachepotlaw25_WordPlain.j0 k a0 a1 true) = some r := by rw [if_neg (show ¬ (false = true) by decide)] at H; exact H
      clear H
      have H := H1
      clear H1
      have H' := Aside0.mk H
      clear H
      go_wp2_with (first | ((with_reducible refine gate_callee (f := 21) rfl ?_); refine goesL_ (some 9) rfl rfl Tryd.func21 (by kernel_rfl) rfl #[] rfl (by (try simp only [List.map_toArray, List.map_cons, List.map_nil]); first | done | rfl | (simp only [List.length_drop, List.length_take]; rfl)) ?_; (with_reducible refine (cachepotlaw25_alive.calls k  false _ A4.out (by first | exact hT | (refine Tabs.below hT ?_; (repeat (first | (with_reducible first | exact HB.out | exact Below.refl _ _ | apply below_alloc | apply pw_below_drewN | apply below_drew1) | exact HB.out))))).mono ?_); rintro e w14 ⟨rfl, hb⟩; refine ⟨_, rfl, ?_⟩; have n0_ := Aside0.mk (below_step (by repeat (first | (with_reducible first | exact HB.out | apply below_alloc | apply pw_below_drewN | apply below_drew1) | exact HB.out)) hb); clear HB; have HB := n0_; clear n0_; (try clear hb); (try clear hb2); (try clear hk); (try clear hi)))
      go_meet
      case rel => exact ⟨_, (true), (by first | rfl | (simp; done) | (simp [*]; done)), H', ⟨by first | omega | exact Nat.le_refl _⟩, ⟨by repeat (first | (with_reducible first | exact HB.out | apply below_alloc | apply pw_below_drewN | apply below_drew1) | exact HB.out)⟩⟩
  case rest =>
    clear HC3
    try clear c2
    try clear p2
    try clear c5
    try clear c7
    try clear c8
    obtain ⟨kq, x20_2, rfl, HA, HJ2, HB⟩ := hcut
    cases kq with
    | zero => exact absurd HA.out (by simp [cachepotlaw25_WordPlain.j0])
    | succ kj2 =>
      have H := HA.out
      clear HA
      simp only [cachepotlaw25_WordPlain.j0] at H
      by_cases c15 : x20_2 = true
      · subst c15
        have H1 : ((cachepotlaw25_alive.f kj2).bind fun t243 => (some t243)) = some r := by rw [if_pos rfl] at H; exact H
        clear H
        have H := H1
        clear H1
        replace H := Option.bind_eq_some_iff.mp H
        obtain ⟨t243, A160, H⟩ := H
        replace H : (some t243) = some r := H
        have A16 := Aside0.mk A160
        clear A160
        obtain rfl := Option.some.inj H
        go_wp2_with (first | ((with_reducible refine gate_callee (f := 21) rfl ?_); refine goesL_ (some 21) rfl rfl Tryd.func21 (by kernel_rfl) rfl #[] rfl (by (try simp only [List.map_toArray, List.map_cons, List.map_nil]); first | done | rfl | (simp only [List.length_drop, List.length_take]; rfl)) ?_; (with_reducible refine (cachepotlaw25_alive.calls kj2  t243 _ A16.out (by first | exact hT | (refine Tabs.below hT ?_; (repeat (first | (with_reducible first | exact HB.out | exact Below.refl _ _ | apply below_alloc | apply pw_below_drewN | apply below_drew1) | exact HB.out))))).mono ?_); rintro e w17 ⟨rfl, hb⟩; refine ⟨_, rfl, ?_⟩; have n0_ := Aside0.mk (below_step (by repeat (first | (with_reducible first | exact HB.out | apply below_alloc | apply pw_below_drewN | apply below_drew1) | exact HB.out)) hb); clear HB; have HB := n0_; clear n0_; (try clear hb); (try clear hb2); (try clear hk); (try clear hi)))
        go_ret
        exact ⟨by first | rfl | (simp [errW_none, errW_some] <;> rfl) | (simp [*, errW_none, errW_some] <;> rfl), by repeat (first | (with_reducible first | exact HB.out | apply below_alloc | apply pw_below_drewN | apply below_drew1) | exact HB.out)⟩
      · replace c15 := Bool.eq_false_iff.mpr c15
        subst c15
        have H1 : (cachepotlaw25_WordPlain.l0 kj2 a0 a1 0) = some r := by rw [if_neg (show ¬ (false = true) by decide)] at H; exact H
        clear H
        have H := H1
        clear H1
        have H' := Aside0.mk H
        clear H
        go_wp2
        go_loopg [5] kj2 (fun kq v5 w' => ∃ (x5_2 : Int), v5 = .int .i64 x5_2 ∧ Aside0 (cachepotlaw25_WordPlain.l0 kq a0 a1 x5_2 = some r) ∧ Aside0 (kq ≤ kj2) ∧ Aside0 (Below w.heap.size w w'))
        case atStart => exact ⟨(0), (by first | rfl | (simp; done) | (simp [*]; done)), H', ⟨Nat.le_refl _⟩, ⟨by repeat (first | (with_reducible first | exact HB.out | apply below_alloc | apply pw_below_drewN | apply below_drew1) | exact HB.out)⟩⟩
        case round =>
          clear H'
          try clear c1
          try clear c2
          try clear p2
          try clear c5
          try clear c7
          try clear c8
          try clear c15
          try clear p2
          obtain ⟨x5_2, rfl, HA, HK2, HB⟩ := hrel
          cases gk with
          | zero => exact absurd HA.out (by simp [cachepotlaw25_WordPlain.l0])
          | succ k2 =>
            have H := HA.out
            clear HA
            simp only [cachepotlaw25_WordPlain.l0] at H
            by_cases c18 : x5_2 < (a0.size : Int)
            · rw [if_pos c18] at H
              have c18b0 : decide (x5_2 < (a0.size : Int)) = true := decide_eq_true c18
              clear c18
              by_cases c19 : 0 ≤ x5_2
              · rw [if_pos c19] at H
                have c19b0 : decide (0 ≤ x5_2) = true := decide_eq_true c19
                clear c19
                by_cases c21 : (bt a0 x5_2) = 34
                · rw [if_pos c21] at H
                  have c21b0 : ((bt a0 x5_2) == 34) = true := beq_iff_eq.mpr c21
                  have c21b1 : ((bt a0 x5_2) != 34) = false := bne_eq_false_iff_eq.mpr c21
                  clear c21
                  replace H := Option.bind_eq_some_iff.mp H
                  obtain ⟨t244, A220, H⟩ := H
                  replace H : (some (t244.toList != a0.toList)) = some r := H
                  have A22 := Aside0.mk A220
                  clear A220
                  obtain rfl := Option.some.inj H
                  have p20 : 0 ≤ (x5_2 : Int) := of_decide_eq_true (by first | (with_reducible assumption) | assumption)
                  have q20 : x5_2 < (a0.size : Int) := of_decide_eq_true (by first | (with_reducible assumption) | assumption)
                  have hx20 := bt_at a0 x5_2
                  replace p20 := eq_true p20
                  replace q20 := eq_true q20
                  go_wp2_with (first | ((with_reducible refine gate_callee (f := 26) rfl ?_); refine goesL_ (some 39) rfl rfl Tryd.func26 (by kernel_rfl) rfl #[.string a0] rfl (by (try simp only [List.map_toArray, List.map_cons, List.map_nil]); first | done | rfl | (simp only [List.length_drop, List.length_take]; rfl)) ?_; (with_reducible refine (word_Quote.calls a0 t244 _ A22.out (by first | exact hT | (refine Tabs.below hT ?_; (repeat (first | (with_reducible first | exact HB.out | exact Below.refl _ _ | apply below_alloc | apply pw_below_drewN | apply below_drew1) | exact HB.out))))).mono ?_); rintro e w23 ⟨rfl, hb⟩; refine ⟨_, rfl, ?_⟩; have n0_ := Aside0.mk (below_step (by repeat (first | (with_reducible first | exact HB.out | apply below_alloc | apply pw_below_drewN | apply below_drew1) | exact HB.out)) hb); clear HB; have HB := n0_; clear n0_; (try clear hb); (try clear hb2); (try clear hk); (try clear hi)))
                  go_ret
                  exact ⟨by first | rfl | (simp [errW_none, errW_some] <;> rfl) | (simp [*, errW_none, errW_some] <;> rfl), by repeat (first | (with_reducible first | exact HB.out | apply below_alloc | apply pw_below_drewN | apply below_drew1) | exact HB.out)⟩
                · rw [if_neg c21] at H
                  have c21b0 : ((bt a0 x5_2) == 34) = false := beq_eq_false_iff_ne.mpr c21
                  have c21b1 : ((bt a0 x5_2) != 34) = true := bne_iff_ne.mpr c21
                  by_cases c25 : (bt a0 x5_2) = 92
                  · rw [if_pos c25] at H
                    have c25b0 : ((bt a0 x5_2) == 92) = true := beq_iff_eq.mpr c25
                    have c25b1 : ((bt a0 x5_2) != 92) = false := bne_eq_false_iff_eq.mpr c25
                    clear c25
                    replace H := Option.bind_eq_some_iff.mp H
                    obtain ⟨t245, A260, H⟩ := H
                    replace H : (some (t245.toList != a0.toList)) = some r := H
                    have A26 := Aside0.mk A260
                    clear A260
                    obtain rfl := Option.some.inj H
                    have p20 : 0 ≤ (x5_2 : Int) := of_decide_eq_true (by first | (with_reducible assumption) | assumption)
                    have q20 : x5_2 < (a0.size : Int) := of_decide_eq_true (by first | (with_reducible assumption) | assumption)
                    have hx20 := bt_at a0 x5_2
                    replace p20 := eq_true p20
                    replace q20 := eq_true q20
                    have p24 : 0 ≤ (x5_2 : Int) := of_decide_eq_true (by first | (with_reducible assumption) | assumption)
                    have q24 : x5_2 < (a0.size : Int) := of_decide_eq_true (by first | (with_reducible assumption) | assumption)
                    have hx24 := bt_at a0 x5_2
                    replace p24 := eq_true p24
                    replace q24 := eq_true q24
                    go_wp2_with (first | ((with_reducible refine gate_callee (f := 26) rfl ?_); refine goesL_ (some 39) rfl rfl Tryd.func26 (by kernel_rfl) rfl #[.string a0] rfl (by (try simp only [List.map_toArray, List.map_cons, List.map_nil]); first | done | rfl | (simp only [List.length_drop, List.length_take]; rfl)) ?_; (with_reducible refine (word_Quote.calls a0 t245 _ A26.out (by first | exact hT | (refine Tabs.below hT ?_; (repeat (first | (with_reducible first | exact HB.out | exact Below.refl _ _ | apply below_alloc | apply pw_below_drewN | apply below_drew1) | exact HB.out))))).mono ?_); rintro e w27 ⟨rfl, hb⟩; refine ⟨_, rfl, ?_⟩; have n0_ := Aside0.mk (below_step (by repeat (first | (with_reducible first | exact HB.out | apply below_alloc | apply pw_below_drewN | apply below_drew1) | exact HB.out)) hb); clear HB; have HB := n0_; clear n0_; (try clear hb); (try clear hb2); (try clear hk); (try clear hi)))
                    go_ret
                    exact ⟨by first | rfl | (simp [errW_none, errW_some] <;> rfl) | (simp [*, errW_none, errW_some] <;> rfl), by repeat (first | (with_reducible first | exact HB.out | apply below_alloc | apply pw_below_drewN | apply below_drew1) | exact HB.out)⟩
                  · rw [if_neg c25] at H
                    have c25b0 : ((bt a0 x5_2) == 92) = false := beq_eq_false_iff_ne.mpr c25
                    have c25b1 : ((bt a0 x5_2) != 92) = true := bne_iff_ne.mpr c25
                    have H' := Aside0.mk H
                    clear H
                    have p20 : 0 ≤ (x5_2 : Int) := of_decide_eq_true (by first | (with_reducible assumption) | assumption)
                    have q20 : x5_2 < (a0.size : Int) := of_decide_eq_true (by first | (with_reducible assumption) | assumption)
                    have hx20 := bt_at a0 x5_2
                    replace p20 := eq_true p20
                    replace q20 := eq_true q20
                    have p24 : 0 ≤ (x5_2 : Int) := of_decide_eq_true (by first | (with_reducible assumption) | assumption)
                    have q24 : x5_2 < (a0.size : Int) := of_decide_eq_true (by first | (with_reducible assumption) | assumption)
                    have hx24 := bt_at a0 x5_2
                    replace p24 := eq_true p24
                    replace q24 := eq_true q24
                    go_wp2
                    go_roundg k2
                    case measure => have := HJ2.out; have := HK2.out; omega
                    case rel => exact ⟨(wrap64 (x5_2 + 1)), (by first | rfl | (simp; done) | (simp [*]; done)), H', ⟨by have := HJ2.out; have := HK2.out; omega⟩, ⟨by repeat (first | (with_reducible first | exact HB.out | apply below_alloc | apply pw_below_drewN | apply below_drew1) | exact HB.out)⟩⟩
              · rw [if_neg c19] at H
                exact absurd H (by simp)
            · rw [if_neg c18] at H
              have c18b0 : decide (x5_2 < (a0.size : Int)) = false := decide_eq_false c18
              clear c18
              have H' := Aside0.mk H
              clear H
              go_wp2
              go_loopg [6] k2 (fun kq v6 w' => ∃ (x6_3 : Int), v6 = .int .i64 x6_3 ∧ Aside0 (cachepotlaw25_WordPlain.l1 kq a0 a1 x6_3 = some r) ∧ Aside0 (kq ≤ k2) ∧ Aside0 (Below w.heap.size w w'))
              case atStart => exact ⟨(0), (by first | rfl | (simp; done) | (simp [*]; done)), H', ⟨Nat.le_refl _⟩, ⟨by repeat (first | (with_reducible first | exact HB.out | apply below_alloc | apply pw_below_drewN | apply below_drew1) | exact HB.out)⟩⟩
              case round =>
                clear H'
                try clear c1
                try clear c2
                try clear p2
                try clear q2
                try clear hx2
                try clear c5
                try clear p6
                try clear c7
                try clear c8
                try clear c15
                try clear c18
                try clear c18b0
                try clear c19
                try clear c19b0
                try clear p20
                try clear q20
                try clear hx20
                try clear c21
                try clear c21b0
                try clear c21b1
                try clear p24
                try clear q24
                try clear hx24
                try clear c25
                try clear c25b0
                try clear c25b1
                try clear c26
                try clear p2
                try clear p20
                try clear p24
                try clear q20
                try clear q24
                obtain ⟨x6_3, rfl, HA, HK3, HB⟩ := hrel
                cases gk with
                | zero => exact absurd HA.out (by simp [cachepotlaw25_WordPlain.l1])
                | succ k3 =>
                  have H := HA.out
                  clear HA
                  simp only [cachepotlaw25_WordPlain.l1] at H
                  by_cases c28 : x6_3 < (a1.size : Int)
                  · rw [if_pos c28] at H
                    have c28b0 : decide (x6_3 < (a1.size : Int)) = true := decide_eq_true c28
                    clear c28
                    by_cases c29 : 0 ≤ x6_3
                    · rw [if_pos c29] at H
                      have c29b0 : decide (0 ≤ x6_3) = true := decide_eq_true c29
                      clear c29
                      by_cases c31 : (bt a1 x6_3) = 34
                      · rw [if_pos c31] at H
                        have c31b0 : ((bt a1 x6_3) == 34) = true := beq_iff_eq.mpr c31
                        have c31b1 : ((bt a1 x6_3) != 34) = false := bne_eq_false_iff_eq.mpr c31
                        clear c31
                        replace H := Option.bind_eq_some_iff.mp H
                        obtain ⟨t246, A320, H⟩ := H
                        replace H : (some (t246.toList != a1.toList)) = some r := H
                        have A32 := Aside0.mk A320
                        clear A320
                        obtain rfl := Option.some.inj H
                        have p30 : 0 ≤ (x6_3 : Int) := of_decide_eq_true (by first | (with_reducible assumption) | assumption)
                        have q30 : x6_3 < (a1.size : Int) := of_decide_eq_true (by first | (with_reducible assumption) | assumption)
                        have hx30 := bt_at a1 x6_3
                        replace p30 := eq_true p30
                        replace q30 := eq_true q30
                        go_wp2_with (first | ((with_reducible refine gate_callee (f := 26) rfl ?_); refine goesL_ (some 59) rfl rfl Tryd.func26 (by kernel_rfl) rfl #[.string a1] rfl (by (try simp only [List.map_toArray, List.map_cons, List.map_nil]); first | done | rfl | (simp only [List.length_drop, List.length_take]; rfl)) ?_; (with_reducible refine (word_Quote.calls a1 t246 _ A32.out (by first | exact hT | (refine Tabs.below hT ?_; (repeat (first | (with_reducible first | exact HB.out | exact Below.refl _ _ | apply below_alloc | apply pw_below_drewN | apply below_drew1) | exact HB.out))))).mono ?_); rintro e w33 ⟨rfl, hb⟩; refine ⟨_, rfl, ?_⟩; have n0_ := Aside0.mk (below_step (by repeat (first | (with_reducible first | exact HB.out | apply below_alloc | apply pw_below_drewN | apply below_drew1) | exact HB.out)) hb); clear HB; have HB := n0_; clear n0_; (try clear hb); (try clear hb2); (try clear hk); (try clear hi)))
                        go_ret
                        exact ⟨by first | rfl | (simp [errW_none, errW_some] <;> rfl) | (simp [*, errW_none, errW_some] <;> rfl), by repeat (first | (with_reducible first | exact HB.out | apply below_alloc | apply pw_below_drewN | apply below_drew1) | exact HB.out)⟩
                      · rw [if_neg c31] at H
                        have c31b0 : ((bt a1 x6_3) == 34) = false := beq_eq_false_iff_ne.mpr c31
                        have c31b1 : ((bt a1 x6_3) != 34) = true := bne_iff_ne.mpr c31
                        by_cases c35 : (bt a1 x6_3) = 92
                        · rw [if_pos c35] at H
                          have c35b0 : ((bt a1 x6_3) == 92) = true := beq_iff_eq.mpr c35
                          have c35b1 : ((bt a1 x6_3) != 92) = false := bne_eq_false_iff_eq.mpr c35
                          clear c35
                          replace H := Option.bind_eq_some_iff.mp H
                          obtain ⟨t247, A360, H⟩ := H
                          replace H : (some (t247.toList != a1.toList)) = some r := H
                          have A36 := Aside0.mk A360
                          clear A360
                          obtain rfl := Option.some.inj H
                          have p30 : 0 ≤ (x6_3 : Int) := of_decide_eq_true (by first | (with_reducible assumption) | assumption)
                          have q30 : x6_3 < (a1.size : Int) := of_decide_eq_true (by first | (with_reducible assumption) | assumption)
                          have hx30 := bt_at a1 x6_3
                          replace p30 := eq_true p30
                          replace q30 := eq_true q30
                          have p34 : 0 ≤ (x6_3 : Int) := of_decide_eq_true (by first | (with_reducible assumption) | assumption)
                          have q34 : x6_3 < (a1.size : Int) := of_decide_eq_true (by first | (with_reducible assumption) | assumption)
                          have hx34 := bt_at a1 x6_3
                          replace p34 := eq_true p34
                          replace q34 := eq_true q34
                          go_wp2_with (first | ((with_reducible refine gate_callee (f := 26) rfl ?_); refine goesL_ (some 59) rfl rfl Tryd.func26 (by kernel_rfl) rfl #[.string a1] rfl (by (try simp only [List.map_toArray, List.map_cons, List.map_nil]); first | done | rfl | (simp only [List.length_drop, List.length_take]; rfl)) ?_; (with_reducible refine (word_Quote.calls a1 t247 _ A36.out (by first | exact hT | (refine Tabs.below hT ?_; (repeat (first | (with_reducible first | exact HB.out | exact Below.refl _ _ | apply below_alloc | apply pw_below_drewN | apply below_drew1) | exact HB.out))))).mono ?_); rintro e w37 ⟨rfl, hb⟩; refine ⟨_, rfl, ?_⟩; have n0_ := Aside0.mk (below_step (by repeat (first | (with_reducible first | exact HB.out | apply below_alloc | apply pw_below_drewN | apply below_drew1) | exact HB.out)) hb); clear HB; have HB := n0_; clear n0_; (try clear hb); (try clear hb2); (try clear hk); (try clear hi)))
                          go_ret
                          exact ⟨by first | rfl | (simp [errW_none, errW_some] <;> rfl) | (simp [*, errW_none, errW_some] <;> rfl), by repeat (first | (with_reducible first | exact HB.out | apply below_alloc | apply pw_below_drewN | apply below_drew1) | exact HB.out)⟩
                        · rw [if_neg c35] at H
                          have c35b0 : ((bt a1 x6_3) == 92) = false := beq_eq_false_iff_ne.mpr c35
                          have c35b1 : ((bt a1 x6_3) != 92) = true := bne_iff_ne.mpr c35
                          have H' := Aside0.mk H
                          clear H
                          have p30 : 0 ≤ (x6_3 : Int) := of_decide_eq_true (by first | (with_reducible assumption) | assumption)
                          have q30 : x6_3 < (a1.size : Int) := of_decide_eq_true (by first | (with_reducible assumption) | assumption)
                          have hx30 := bt_at a1 x6_3
                          replace p30 := eq_true p30
                          replace q30 := eq_true q30
                          have p34 : 0 ≤ (x6_3 : Int) := of_decide_eq_true (by first | (with_reducible assumption) | assumption)
                          have q34 : x6_3 < (a1.size : Int) := of_decide_eq_true (by first | (with_reducible assumption) | assumption)
                          have hx34 := bt_at a1 x6_3
                          replace p34 := eq_true p34
                          replace q34 := eq_true q34
                          go_wp2
                          go_roundg k3
                          case measure => have := HJ2.out; have := HK2.out; have := HK3.out; omega
                          case rel => exact ⟨(wrap64 (x6_3 + 1)), (by first | rfl | (simp; done) | (simp [*]; done)), H', ⟨by have := HJ2.out; have := HK2.out; have := HK3.out; omega⟩, ⟨by repeat (first | (with_reducible first | exact HB.out | apply below_alloc | apply pw_below_drewN | apply below_drew1) | exact HB.out)⟩⟩
                    · rw [if_neg c29] at H
                      exact absurd H (by simp)
                  · rw [if_neg c28] at H
                    have c28b0 : decide (x6_3 < (a1.size : Int)) = false := decide_eq_false c28
                    clear c28
                    by_cases c38 : a0.size + 1 ≤ 9223372036854775807
                    · rw [if_pos c38] at H
                      have c38b0 := eq_true c38
                      have c38b1 : decide (a0.size + 1 ≤ 9223372036854775807) = true := decide_eq_true c38
                      try have c38b2 : (9223372036854775807 < a0.size + 1) = False := eq_false (Nat.not_lt.2 c38)
                      by_cases c39 : (a0 ++ (⟨#[32]⟩ : ByteArray)).size + a1.size ≤ 9223372036854775807
                      · rw [if_pos c39] at H
                        have c39b0 := eq_true c39
                        have c39b1 : decide ((a0 ++ (⟨#[32]⟩ : ByteArray)).size + a1.size ≤ 9223372036854775807) = true := decide_eq_true c39
                        try have c39b2 : (9223372036854775807 < (a0 ++ (⟨#[32]⟩ : ByteArray)).size + a1.size) = False := eq_false (Nat.not_lt.2 c39)
                        try have c39b9 : (9223372036854775807 < a0.size + 1 + a1.size) = False := by (have h_ := c39b2; rw [ByteArray.size_append] at h_; exact h_)
                        replace H := Option.bind_eq_some_iff.mp H
                        obtain ⟨⟨t248, t249⟩, A400, H⟩ := H
                        replace H : ((word_Quote.f a0).bind fun t252 => (if t252.toList = a0.toList then (if t249 = 0 then (if (t248.length : Int) = 2 then (if 0 < (t248.length : Int) then (if (rdOf ByteArray.empty t248 0).toList = a0.toList then (if 1 < (t248.length : Int) then (if (rdOf ByteArray.empty t248 1).toList = a1.toList then ((word_Join.f k3 (([a0, a1] : List ByteArray))).bind fun t258 => (some (t258.toList == ((a0 ++ (⟨#[32]⟩ : ByteArray)) ++ a1).toList))) else (some false)) else (none)) else (some false)) else (none)) else (some false)) else (some false)) else (some false))) = some r := H
                        have A40 := Aside0.mk A400
                        clear A400
                        replace H := Option.bind_eq_some_iff.mp H
                        obtain ⟨t252, A410, H⟩ := H
                        replace H : (if t252.toList = a0.toList then (if t249 = 0 then (if (t248.length : Int) = 2 then (if 0 < (t248.length : Int) then (if (rdOf ByteArray.empty t248 0).toList = a0.toList then (if 1 < (t248.length : Int) then (if (rdOf ByteArray.empty t248 1).toList = a1.toList then ((word_Join.f k3 (([a0, a1] : List ByteArray))).bind fun t258 => (some (t258.toList == ((a0 ++ (⟨#[32]⟩ : ByteArray)) ++ a1).toList))) else (some false)) else (none)) else (some false)) else (none)) else (some false)) else (some false)) else (some false)) = some r := H
                        have A41 := Aside0.mk A410
                        clear A410
                        by_cases c42 : t252.toList = a0.toList
                        · rw [if_pos c42] at H
                          have c42b0 : (t252.toList == a0.toList) = true := beq_iff_eq.mpr c42
                          have c42b1 : (t252.toList != a0.toList) = false := bne_eq_false_iff_eq.mpr c42
                          clear c42
                          by_cases c43 : t249 = 0
                          · rw [if_pos c43] at H
                            have c43b0 : (t249 == 0) = true := beq_iff_eq.mpr c43
                            have c43b1 : (t249 != 0) = false := bne_eq_false_iff_eq.mpr c43
                            clear c43
                            by_cases c44 : (t248.length : Int) = 2
                            · rw [if_pos c44] at H
                              have c44b0 : ((t248.length : Int) == 2) = true := beq_iff_eq.mpr c44
                              have c44b1 : ((t248.length : Int) != 2) = false := bne_eq_false_iff_eq.mpr c44
                              clear c44
                              by_cases c45 : 0 < (t248.length : Int)
                              · rw [if_pos c45] at H
                                have c45b0 : decide (0 < (t248.length : Int)) = true := decide_eq_true c45
                                have c45b1 : decide (0 < t248.length) = true := decide_eq_true (by omega)
                                clear c45
                                by_cases c46 : (rdOf ByteArray.empty t248 0).toList = a0.toList
                                · rw [if_pos c46] at H
                                  have c46b0 : ((rdOf ByteArray.empty t248 0).toList == a0.toList) = true := beq_iff_eq.mpr c46
                                  have c46b1 : ((rdOf ByteArray.empty t248 0).toList != a0.toList) = false := bne_eq_false_iff_eq.mpr c46
                                  clear c46
                                  by_cases c47 : 1 < (t248.length : Int)
                                  · rw [if_pos c47] at H
                                    have c47b0 : decide (1 < (t248.length : Int)) = true := decide_eq_true c47
                                    have c47b1 : decide (1 < t248.length) = true := decide_eq_true (by omega)
                                    clear c47
                                    by_cases c48 : (rdOf ByteArray.empty t248 1).toList = a1.toList
                                    · rw [if_pos c48] at H
                                      have c48b0 : ((rdOf ByteArray.empty t248 1).toList == a1.toList) = true := beq_iff_eq.mpr c48
                                      have c48b1 : ((rdOf ByteArray.empty t248 1).toList != a1.toList) = false := bne_eq_false_iff_eq.mpr c48
                                      clear c48
                                      obtain ⟨y255, hy255⟩ : ∃ y_ : List ByteArray, y_ = (([a0, a1] : List ByteArray)) := ⟨_, rfl⟩
                                      replace H : ((word_Join.f k3 y255).bind fun t258 => (some (t258.toList == ((a0 ++ (⟨#[32]⟩ : ByteArray)) ++ a1).toList))) = some r := by first | (rw [hy255]; with_reducible exact H) | (have H2_ := (Option.bind_some _ _).symm.trans H; rw [hy255]; with_reducible exact H2_) | (have H2_ := (Option.bind_some _ _).symm.trans H; with_reducible exact H2_) | with_reducible exact H | (rw [hy255]; exact H) | exact H
                                      have Ny255 := Aside0.mk hy255
                                      clear hy255
                                      replace H := Option.bind_eq_some_iff.mp H
                                      obtain ⟨t258, A490, H⟩ := H
                                      replace H : (some (t258.toList == ((a0 ++ (⟨#[32]⟩ : ByteArray)) ++ a1).toList)) = some r := H
                                      have A49 := Aside0.mk A490
                                      clear A490
                                      obtain rfl := Option.some.inj H
                                      go_wp2_with (first | ((with_reducible refine gate_callee (f := 19) rfl ?_); refine goesL_ (some 67) rfl rfl Tryd.func19 (by kernel_rfl) rfl #[.string ((a0 ++ (⟨#[32]⟩ : ByteArray)) ++ a1)] rfl (by (try simp only [List.map_toArray, List.map_cons, List.map_nil]); first | done | rfl | (simp only [List.length_drop, List.length_take]; rfl)) ?_; (with_reducible refine (word_Split.calls k3 ((a0 ++ (⟨#[32]⟩ : ByteArray)) ++ a1) t248 t249 _ A40.out (by first | exact hT | (refine Tabs.below hT ?_; (repeat (first | (with_reducible first | exact HB.out | exact Below.refl _ _ | apply below_alloc | apply pw_below_drewN | apply below_drew1) | exact HB.out))))).mono ?_); rintro e w50 ⟨v250, rfl, ho0, hb⟩; refine ⟨_, rfl, ?_⟩; have n0_ := Aside0.mk (Kd.R_lower ho0 (below_size (by repeat (first | (with_reducible first | exact HB.out | apply below_alloc | apply pw_below_drewN | apply below_drew1) | exact HB.out)))); have n1_ := Aside0.mk (below_step (by repeat (first | (with_reducible first | exact HB.out | apply below_alloc | apply pw_below_drewN | apply below_drew1) | exact HB.out)) hb); clear HB; have HO251 := n0_; have HB := n1_; clear n0_ n1_; (try clear hb); (try clear hb2); (try clear hk); (try clear hi); (try clear ho0)) | ((with_reducible refine gate_callee (f := 26) rfl ?_); refine goesL_ (some 71) rfl rfl Tryd.func26 (by kernel_rfl) rfl #[.string a0] rfl (by (try simp only [List.map_toArray, List.map_cons, List.map_nil]); first | done | rfl | (simp only [List.length_drop, List.length_take]; rfl)) ?_; (with_reducible refine (word_Quote.calls a0 t252 _ A41.out (by first | exact hT | (refine Tabs.below hT ?_; (repeat (first | (with_reducible first | exact HB.out | exact Below.refl _ _ | apply below_alloc | apply pw_below_drewN | apply below_drew1) | exact HB.out))))).mono ?_); rintro e w51 ⟨rfl, hb⟩; refine ⟨_, rfl, ?_⟩; have n0_ := Aside0.mk (Kd.R_below (by (with_reducible repeat (first | apply Kd.R_alloc | apply Kd.R_drewN | apply Kd.R_drew)); exact HO251.out) hb); have n1_ := Aside0.mk (below_step (by repeat (first | (with_reducible first | exact HB.out | apply below_alloc | apply pw_below_drewN | apply below_drew1) | exact HB.out)) hb); clear HO251; clear HB; have HO251 := n0_; have HB := n1_; clear n0_ n1_; (try clear hb); (try clear hb2); (try clear hk); (try clear hi); obtain ⟨Ao52, co52, eo52⟩ := Kd.R_slice HO251.out; subst eo52; have p253 : 0 ≤ (0 : Int) := (by omega); have q253 : 0 < (t248.length : Int) := of_decide_eq_true (by first | (with_reducible assumption) | assumption); obtain ⟨ad253, e253, hx253_0⟩ := Kd.at_string (Kd.R_reads' HO251.out).2.2 0 p253 q253; cases e253; have qi253 : (0 < t248.length) = True := eq_true (by omega); (try rw [show ((0 : Int)).toNat = 0 from rfl] at hx253_0); (try rw [Addr.add_zero'] at hx253_0); replace p253 := eq_true p253; replace q253 := eq_true q253; have p254 : 0 ≤ (1 : Int) := (by omega); have q254 : 1 < (t248.length : Int) := of_decide_eq_true (by first | (with_reducible assumption) | assumption); obtain ⟨ad254, e254, hx254_0⟩ := Kd.at_string (Kd.R_reads' HO251.out).2.2 1 p254 q254; obtain rfl : ad253 = ad254 := (by injection e254); (try simp only [show (1 : Int).toNat = 1 from rfl, Nat.reduceMul, Nat.reduceEqDiff, Go.Addr.add, ↓reduceIte] at hx254_0); have qi254 : (1 < t248.length) = True := eq_true (by omega); (try rw [show ((1 : Int)).toNat = 1 from rfl] at hx254_0); replace p254 := eq_true p254; replace q254 := eq_true q254) | ((with_reducible refine gate_dst (N := 100) rfl ?_); (try (refine gate_guard (by rfl) ?_; dsimp only)); refine Kd.R_lit Kd.string _ 9 ?hg (N := 100) ?hd (xs := ([a0, a1] : List ByteArray)) (inner := [.string a0, .string a1]) (ok := fun _ => True) (okp := fun _ => True) ?hr ?hp (fun _ hk => hk) trivial (Below.refl _ _) (Nat.le_refl _) (by simp) ?_; (case hd => rfl); (case hg => rfl); (case hr => first | (go_simp; done) | (go_simp; rfl)); (case hp => exact (Reps.one (show Kd.M Kd.string _ _ _ a0 [.string a0] from rfl) (Reps.one (show Kd.M Kd.string _ _ _ a1 [.string a1] from rfl) (Reps.none _ _)))); intro v256 w53 ho54 hb hg_ hnew_; clear hg_ hnew_; (first | rw [← Ny255.out] at ho54 | (simp only [Int.reduceToNat] at ho54; rw [← Ny255.out] at ho54)); have n0_ := Aside0.mk (Kd.R_elder' (by (with_reducible repeat (first | apply Kd.R_alloc | apply Kd.R_drewN | apply Kd.R_drew)); exact HO251.out) (Kd.R_base ho54) hb); have n1_ := Aside0.mk (Kd.R_lower (Kd.R_new' ho54 (Kd.R_lt (by (with_reducible repeat (first | apply Kd.R_alloc | apply Kd.R_drewN | apply Kd.R_drew)); exact HO251.out))) (below_size (by repeat (first | (with_reducible first | exact HB.out | apply below_alloc | apply pw_below_drewN | apply below_drew1) | exact HB.out)))); have n2_ := Aside0.mk (below_step (by repeat (first | (with_reducible first | exact HB.out | apply below_alloc | apply pw_below_drewN | apply below_drew1) | exact HB.out)) hb); clear HO251; clear HB; have HO251 := n0_; have HO257 := n1_; have HB := n2_; clear n0_ n1_ n2_; clear hb ho54; obtain ⟨Ao55, co55, eo55⟩ := Kd.R_slice HO257.out; subst eo55) | (go_at_call 29; (with_reducible refine (word_Join.calls k3 _ _ y255 t258 _ ?side1 ?side2 A49.out (by first | exact hT | (refine Tabs.below hT ?_; (repeat (first | (with_reducible first | exact HB.out | exact Below.refl _ _ | apply below_alloc | apply pw_below_drewN | apply below_drew1) | exact HB.out))))).mono ?_); (case side1 => repeat (first | exact (Kd.R_reads' HO257.out).2.2 | (with_reducible refine Kd.C_alloc ?_ _) | (with_reducible refine Kd.C_drewN ?_ _) | (with_reducible refine Kd.C_drew ?_))); (case side2 => exact (Kd.R_reads' HO257.out).2.1); rintro e w56 ⟨rfl, hb⟩; have n0_ := Aside0.mk (Kd.R_below (by (with_reducible repeat (first | apply Kd.R_alloc | apply Kd.R_drewN | apply Kd.R_drew)); exact HO251.out) hb); have n1_ := Aside0.mk (Kd.R_below (by (with_reducible repeat (first | apply Kd.R_alloc | apply Kd.R_drewN | apply Kd.R_drew)); exact HO257.out) hb); have n2_ := Aside0.mk (below_step (by repeat (first | (with_reducible first | exact HB.out | apply below_alloc | apply pw_below_drewN | apply below_drew1) | exact HB.out)) hb); clear HO251; clear HO257; clear HB; have HO251 := n0_; have HO257 := n1_; have HB := n2_; clear n0_ n1_ n2_; (try clear hb); (try clear hb2); (try clear hk); (try clear hi)))
                                      go_ret
                                      exact ⟨by first | rfl | (simp [errW_none, errW_some] <;> rfl) | (simp [*, errW_none, errW_some] <;> rfl), by repeat (first | (with_reducible first | exact HB.out | apply below_alloc | apply pw_below_drewN | apply below_drew1) | exact HB.out)⟩
                                    · rw [if_neg c48] at H
                                      have c48b0 : ((rdOf ByteArray.empty t248 1).toList == a1.toList) = false := beq_eq_false_iff_ne.mpr c48
                                      have c48b1 : ((rdOf ByteArray.empty t248 1).toList != a1.toList) = true := bne_iff_ne.mpr c48
                                      obtain rfl := Option.some.inj H
                                      go_wp2_with (first | ((with_reducible refine gate_callee (f := 19) rfl ?_); refine goesL_ (some 67) rfl rfl Tryd.func19 (by kernel_rfl) rfl #[.string ((a0 ++ (⟨#[32]⟩ : ByteArray)) ++ a1)] rfl (by (try simp only [List.map_toArray, List.map_cons, List.map_nil]); first | done | rfl | (simp only [List.length_drop, List.length_take]; rfl)) ?_; (with_reducible refine (word_Split.calls k3 ((a0 ++ (⟨#[32]⟩ : ByteArray)) ++ a1) t248 t249 _ A40.out (by first | exact hT | (refine Tabs.below hT ?_; (repeat (first | (with_reducible first | exact HB.out | exact Below.refl _ _ | apply below_alloc | apply pw_below_drewN | apply below_drew1) | exact HB.out))))).mono ?_); rintro e w57 ⟨v250, rfl, ho0, hb⟩; refine ⟨_, rfl, ?_⟩; have n0_ := Aside0.mk (Kd.R_lower ho0 (below_size (by repeat (first | (with_reducible first | exact HB.out | apply below_alloc | apply pw_below_drewN | apply below_drew1) | exact HB.out)))); have n1_ := Aside0.mk (below_step (by repeat (first | (with_reducible first | exact HB.out | apply below_alloc | apply pw_below_drewN | apply below_drew1) | exact HB.out)) hb); clear HB; have HO251 := n0_; have HB := n1_; clear n0_ n1_; (try clear hb); (try clear hb2); (try clear hk); (try clear hi); (try clear ho0)) | ((with_reducible refine gate_callee (f := 26) rfl ?_); refine goesL_ (some 71) rfl rfl Tryd.func26 (by kernel_rfl) rfl #[.string a0] rfl (by (try simp only [List.map_toArray, List.map_cons, List.map_nil]); first | done | rfl | (simp only [List.length_drop, List.length_take]; rfl)) ?_; (with_reducible refine (word_Quote.calls a0 t252 _ A41.out (by first | exact hT | (refine Tabs.below hT ?_; (repeat (first | (with_reducible first | exact HB.out | exact Below.refl _ _ | apply below_alloc | apply pw_below_drewN | apply below_drew1) | exact HB.out))))).mono ?_); rintro e w58 ⟨rfl, hb⟩; refine ⟨_, rfl, ?_⟩; have n0_ := Aside0.mk (Kd.R_below (by (with_reducible repeat (first | apply Kd.R_alloc | apply Kd.R_drewN | apply Kd.R_drew)); exact HO251.out) hb); have n1_ := Aside0.mk (below_step (by repeat (first | (with_reducible first | exact HB.out | apply below_alloc | apply pw_below_drewN | apply below_drew1) | exact HB.out)) hb); clear HO251; clear HB; have HO251 := n0_; have HB := n1_; clear n0_ n1_; (try clear hb); (try clear hb2); (try clear hk); (try clear hi); obtain ⟨Ao59, co59, eo59⟩ := Kd.R_slice HO251.out; subst eo59; have p253 : 0 ≤ (0 : Int) := (by omega); have q253 : 0 < (t248.length : Int) := of_decide_eq_true (by first | (with_reducible assumption) | assumption); obtain ⟨ad253, e253, hx253_0⟩ := Kd.at_string (Kd.R_reads' HO251.out).2.2 0 p253 q253; cases e253; have qi253 : (0 < t248.length) = True := eq_true (by omega); (try rw [show ((0 : Int)).toNat = 0 from rfl] at hx253_0); (try rw [Addr.add_zero'] at hx253_0); replace p253 := eq_true p253; replace q253 := eq_true q253; have p254 : 0 ≤ (1 : Int) := (by omega); have q254 : 1 < (t248.length : Int) := of_decide_eq_true (by first | (with_reducible assumption) | assumption); obtain ⟨ad254, e254, hx254_0⟩ := Kd.at_string (Kd.R_reads' HO251.out).2.2 1 p254 q254; obtain rfl : ad253 = ad254 := (by injection e254); (try simp only [show (1 : Int).toNat = 1 from rfl, Nat.reduceMul, Nat.reduceEqDiff, Go.Addr.add, ↓reduceIte] at hx254_0); have qi254 : (1 < t248.length) = True := eq_true (by omega); (try rw [show ((1 : Int)).toNat = 1 from rfl] at hx254_0); replace p254 := eq_true p254; replace q254 := eq_true q254))
                                      go_ret
                                      exact ⟨by first | rfl | (simp [errW_none, errW_some] <;> rfl) | (simp [*, errW_none, errW_some] <;> rfl), by repeat (first | (with_reducible first | exact HB.out | apply below_alloc | apply pw_below_drewN | apply below_drew1) | exact HB.out)⟩
                                  · rw [if_neg c47] at H
                                    exact absurd H (by simp)
                                · rw [if_neg c46] at H
                                  have c46b0 : ((rdOf ByteArray.empty t248 0).toList == a0.toList) = false := beq_eq_false_iff_ne.mpr c46
                                  have c46b1 : ((rdOf ByteArray.empty t248 0).toList != a0.toList) = true := bne_iff_ne.mpr c46
                                  obtain rfl := Option.some.inj H
                                  go_wp2_with (first | ((with_reducible refine gate_callee (f := 19) rfl ?_); refine goesL_ (some 67) rfl rfl Tryd.func19 (by kernel_rfl) rfl #[.string ((a0 ++ (⟨#[32]⟩ : ByteArray)) ++ a1)] rfl (by (try simp only [List.map_toArray, List.map_cons, List.map_nil]); first | done | rfl | (simp only [List.length_drop, List.length_take]; rfl)) ?_; (with_reducible refine (word_Split.calls k3 ((a0 ++ (⟨#[32]⟩ : ByteArray)) ++ a1) t248 t249 _ A40.out (by first | exact hT | (refine Tabs.below hT ?_; (repeat (first | (with_reducible first | exact HB.out | exact Below.refl _ _ | apply below_alloc | apply pw_below_drewN | apply below_drew1) | exact HB.out))))).mono ?_); rintro e w60 ⟨v250, rfl, ho0, hb⟩; refine ⟨_, rfl, ?_⟩; have n0_ := Aside0.mk (Kd.R_lower ho0 (below_size (by repeat (first | (with_reducible first | exact HB.out | apply below_alloc | apply pw_below_drewN | apply below_drew1) | exact HB.out)))); have n1_ := Aside0.mk (below_step (by repeat (first | (with_reducible first | exact HB.out | apply below_alloc | apply pw_below_drewN | apply below_drew1) | exact HB.out)) hb); clear HB; have HO251 := n0_; have HB := n1_; clear n0_ n1_; (try clear hb); (try clear hb2); (try clear hk); (try clear hi); (try clear ho0)) | ((with_reducible refine gate_callee (f := 26) rfl ?_); refine goesL_ (some 71) rfl rfl Tryd.func26 (by kernel_rfl) rfl #[.string a0] rfl (by (try simp only [List.map_toArray, List.map_cons, List.map_nil]); first | done | rfl | (simp only [List.length_drop, List.length_take]; rfl)) ?_; (with_reducible refine (word_Quote.calls a0 t252 _ A41.out (by first | exact hT | (refine Tabs.below hT ?_; (repeat (first | (with_reducible first | exact HB.out | exact Below.refl _ _ | apply below_alloc | apply pw_below_drewN | apply below_drew1) | exact HB.out))))).mono ?_); rintro e w61 ⟨rfl, hb⟩; refine ⟨_, rfl, ?_⟩; have n0_ := Aside0.mk (Kd.R_below (by (with_reducible repeat (first | apply Kd.R_alloc | apply Kd.R_drewN | apply Kd.R_drew)); exact HO251.out) hb); have n1_ := Aside0.mk (below_step (by repeat (first | (with_reducible first | exact HB.out | apply below_alloc | apply pw_below_drewN | apply below_drew1) | exact HB.out)) hb); clear HO251; clear HB; have HO251 := n0_; have HB := n1_; clear n0_ n1_; (try clear hb); (try clear hb2); (try clear hk); (try clear hi); obtain ⟨Ao62, co62, eo62⟩ := Kd.R_slice HO251.out; subst eo62; have p253 : 0 ≤ (0 : Int) := (by omega); have q253 : 0 < (t248.length : Int) := of_decide_eq_true (by first | (with_reducible assumption) | assumption); obtain ⟨ad253, e253, hx253_0⟩ := Kd.at_string (Kd.R_reads' HO251.out).2.2 0 p253 q253; cases e253; have qi253 : (0 < t248.length) = True := eq_true (by omega); (try rw [show ((0 : Int)).toNat = 0 from rfl] at hx253_0); (try rw [Addr.add_zero'] at hx253_0); replace p253 := eq_true p253; replace q253 := eq_true q253))
                                  go_ret
                                  exact ⟨by first | rfl | (simp [errW_none, errW_some] <;> rfl) | (simp [*, errW_none, errW_some] <;> rfl), by repeat (first | (with_reducible first | exact HB.out | apply below_alloc | apply pw_below_drewN | apply below_drew1) | exact HB.out)⟩
                              · rw [if_neg c45] at H
                                exact absurd H (by simp)
                            · rw [if_neg c44] at H
                              have c44b0 : ((t248.length : Int) == 2) = false := beq_eq_false_iff_ne.mpr c44
                              have c44b1 : ((t248.length : Int) != 2) = true := bne_iff_ne.mpr c44
                              obtain rfl := Option.some.inj H
                              go_wp2_with (first | ((with_reducible refine gate_callee (f := 19) rfl ?_); refine goesL_ (some 67) rfl rfl Tryd.func19 (by kernel_rfl) rfl #[.string ((a0 ++ (⟨#[32]⟩ : ByteArray)) ++ a1)] rfl (by (try simp only [List.map_toArray, List.map_cons, List.map_nil]); first | done | rfl | (simp only [List.length_drop, List.length_take]; rfl)) ?_; (with_reducible refine (word_Split.calls k3 ((a0 ++ (⟨#[32]⟩ : ByteArray)) ++ a1) t248 t249 _ A40.out (by first | exact hT | (refine Tabs.below hT ?_; (repeat (first | (with_reducible first | exact HB.out | exact Below.refl _ _ | apply below_alloc | apply pw_below_drewN | apply below_drew1) | exact HB.out))))).mono ?_); rintro e w63 ⟨v250, rfl, ho0, hb⟩; refine ⟨_, rfl, ?_⟩; have n0_ := Aside0.mk (Kd.R_lower ho0 (below_size (by repeat (first | (with_reducible first | exact HB.out | apply below_alloc | apply pw_below_drewN | apply below_drew1) | exact HB.out)))); have n1_ := Aside0.mk (below_step (by repeat (first | (with_reducible first | exact HB.out | apply below_alloc | apply pw_below_drewN | apply below_drew1) | exact HB.out)) hb); clear HB; have HO251 := n0_; have HB := n1_; clear n0_ n1_; (try clear hb); (try clear hb2); (try clear hk); (try clear hi); (try clear ho0)) | ((with_reducible refine gate_callee (f := 26) rfl ?_); refine goesL_ (some 71) rfl rfl Tryd.func26 (by kernel_rfl) rfl #[.string a0] rfl (by (try simp only [List.map_toArray, List.map_cons, List.map_nil]); first | done | rfl | (simp only [List.length_drop, List.length_take]; rfl)) ?_; (with_reducible refine (word_Quote.calls a0 t252 _ A41.out (by first | exact hT | (refine Tabs.below hT ?_; (repeat (first | (with_reducible first | exact HB.out | exact Below.refl _ _ | apply below_alloc | apply pw_below_drewN | apply below_drew1) | exact HB.out))))).mono ?_); rintro e w64 ⟨rfl, hb⟩; refine ⟨_, rfl, ?_⟩; have n0_ := Aside0.mk (Kd.R_below (by (with_reducible repeat (first | apply Kd.R_alloc | apply Kd.R_drewN | apply Kd.R_drew)); exact HO251.out) hb); have n1_ := Aside0.mk (below_step (by repeat (first | (with_reducible first | exact HB.out | apply below_alloc | apply pw_below_drewN | apply below_drew1) | exact HB.out)) hb); clear HO251; clear HB; have HO251 := n0_; have HB := n1_; clear n0_ n1_; (try clear hb); (try clear hb2); (try clear hk); (try clear hi); obtain ⟨Ao65, co65, eo65⟩ := Kd.R_slice HO251.out; subst eo65))
                              go_ret
                              exact ⟨by first | rfl | (simp [errW_none, errW_some] <;> rfl) | (simp [*, errW_none, errW_some] <;> rfl), by repeat (first | (with_reducible first | exact HB.out | apply below_alloc | apply pw_below_drewN | apply below_drew1) | exact HB.out)⟩
                          · rw [if_neg c43] at H
                            have c43b0 : (t249 == 0) = false := beq_eq_false_iff_ne.mpr c43
                            have c43b1 : (t249 != 0) = true := bne_iff_ne.mpr c43
                            obtain rfl := Option.some.inj H
                            go_wp2_with (first | ((with_reducible refine gate_callee (f := 19) rfl ?_); refine goesL_ (some 67) rfl rfl Tryd.func19 (by kernel_rfl) rfl #[.string ((a0 ++ (⟨#[32]⟩ : ByteArray)) ++ a1)] rfl (by (try simp only [List.map_toArray, List.map_cons, List.map_nil]); first | done | rfl | (simp only [List.length_drop, List.length_take]; rfl)) ?_; (with_reducible refine (word_Split.calls k3 ((a0 ++ (⟨#[32]⟩ : ByteArray)) ++ a1) t248 t249 _ A40.out (by first | exact hT | (refine Tabs.below hT ?_; (repeat (first | (with_reducible first | exact HB.out | exact Below.refl _ _ | apply below_alloc | apply pw_below_drewN | apply below_drew1) | exact HB.out))))).mono ?_); rintro e w66 ⟨v250, rfl, ho0, hb⟩; refine ⟨_, rfl, ?_⟩; have n0_ := Aside0.mk (Kd.R_lower ho0 (below_size (by repeat (first | (with_reducible first | exact HB.out | apply below_alloc | apply pw_below_drewN | apply below_drew1) | exact HB.out)))); have n1_ := Aside0.mk (below_step (by repeat (first | (with_reducible first | exact HB.out | apply below_alloc | apply pw_below_drewN | apply below_drew1) | exact HB.out)) hb); clear HB; have HO251 := n0_; have HB := n1_; clear n0_ n1_; (try clear hb); (try clear hb2); (try clear hk); (try clear hi); (try clear ho0)) | ((with_reducible refine gate_callee (f := 26) rfl ?_); refine goesL_ (some 71) rfl rfl Tryd.func26 (by kernel_rfl) rfl #[.string a0] rfl (by (try simp only [List.map_toArray, List.map_cons, List.map_nil]); first | done | rfl | (simp only [List.length_drop, List.length_take]; rfl)) ?_; (with_reducible refine (word_Quote.calls a0 t252 _ A41.out (by first | exact hT | (refine Tabs.below hT ?_; (repeat (first | (with_reducible first | exact HB.out | exact Below.refl _ _ | apply below_alloc | apply pw_below_drewN | apply below_drew1) | exact HB.out))))).mono ?_); rintro e w67 ⟨rfl, hb⟩; refine ⟨_, rfl, ?_⟩; have n0_ := Aside0.mk (Kd.R_below (by (with_reducible repeat (first | apply Kd.R_alloc | apply Kd.R_drewN | apply Kd.R_drew)); exact HO251.out) hb); have n1_ := Aside0.mk (below_step (by repeat (first | (with_reducible first | exact HB.out | apply below_alloc | apply pw_below_drewN | apply below_drew1) | exact HB.out)) hb); clear HO251; clear HB; have HO251 := n0_; have HB := n1_; clear n0_ n1_; (try clear hb); (try clear hb2); (try clear hk); (try clear hi)))
                            go_ret
                            exact ⟨by first | rfl | (simp [errW_none, errW_some] <;> rfl) | (simp [*, errW_none, errW_some] <;> rfl), by repeat (first | (with_reducible first | exact HB.out | apply below_alloc | apply pw_below_drewN | apply below_drew1) | exact HB.out)⟩
                        · rw [if_neg c42] at H
                          have c42b0 : (t252.toList == a0.toList) = false := beq_eq_false_iff_ne.mpr c42
                          have c42b1 : (t252.toList != a0.toList) = true := bne_iff_ne.mpr c42
                          obtain rfl := Option.some.inj H
                          go_wp2_with (first | ((with_reducible refine gate_callee (f := 19) rfl ?_); refine goesL_ (some 67) rfl rfl Tryd.func19 (by kernel_rfl) rfl #[.string ((a0 ++ (⟨#[32]⟩ : ByteArray)) ++ a1)] rfl (by (try simp only [List.map_toArray, List.map_cons, List.map_nil]); first | done | rfl | (simp only [List.length_drop, List.length_take]; rfl)) ?_; (with_reducible refine (word_Split.calls k3 ((a0 ++ (⟨#[32]⟩ : ByteArray)) ++ a1) t248 t249 _ A40.out (by first | exact hT | (refine Tabs.below hT ?_; (repeat (first | (with_reducible first | exact HB.out | exact Below.refl _ _ | apply below_alloc | apply pw_below_drewN | apply below_drew1) | exact HB.out))))).mono ?_); rintro e w68 ⟨v250, rfl, ho0, hb⟩; refine ⟨_, rfl, ?_⟩; have n0_ := Aside0.mk (Kd.R_lower ho0 (below_size (by repeat (first | (with_reducible first | exact HB.out | apply below_alloc | apply pw_below_drewN | apply below_drew1) | exact HB.out)))); have n1_ := Aside0.mk (below_step (by repeat (first | (with_reducible first | exact HB.out | apply below_alloc | apply pw_below_drewN | apply below_drew1) | exact HB.out)) hb); clear HB; have HO251 := n0_; have HB := n1_; clear n0_ n1_; (try clear hb); (try clear hb2); (try clear hk); (try clear hi); (try clear ho0)) | ((with_reducible refine gate_callee (f := 26) rfl ?_); refine goesL_ (some 71) rfl rfl Tryd.func26 (by kernel_rfl) rfl #[.string a0] rfl (by (try simp only [List.map_toArray, List.map_cons, List.map_nil]); first | done | rfl | (simp only [List.length_drop, List.length_take]; rfl)) ?_; (with_reducible refine (word_Quote.calls a0 t252 _ A41.out (by first | exact hT | (refine Tabs.below hT ?_; (repeat (first | (with_reducible first | exact HB.out | exact Below.refl _ _ | apply below_alloc | apply pw_below_drewN | apply below_drew1) | exact HB.out))))).mono ?_); rintro e w69 ⟨rfl, hb⟩; refine ⟨_, rfl, ?_⟩; have n0_ := Aside0.mk (Kd.R_below (by (with_reducible repeat (first | apply Kd.R_alloc | apply Kd.R_drewN | apply Kd.R_drew)); exact HO251.out) hb); have n1_ := Aside0.mk (below_step (by repeat (first | (with_reducible first | exact HB.out | apply below_alloc | apply pw_below_drewN | apply below_drew1) | exact HB.out)) hb); clear HO251; clear HB; have HO251 := n0_; have HB := n1_; clear n0_ n1_; (try clear hb); (try clear hb2); (try clear hk); (try clear hi)))
                          go_ret
                          exact ⟨by first | rfl | (simp [errW_none, errW_some] <;> rfl) | (simp [*, errW_none, errW_some] <;> rfl), by repeat (first | (with_reducible first | exact HB.out | apply below_alloc | apply pw_below_drewN | apply below_drew1) | exact HB.out)⟩
                      · rw [if_neg c39] at H
                        exact absurd H (by simp)
                    · rw [if_neg c38] at H
                      exact absurd H (by simp)

end Go.Proofs.YtfaelejeihmgcaaDoor.Wd

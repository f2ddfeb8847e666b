/- The plain evaluator is sound: parts, wholes, and every operation that only reckons. -/
import Derived.Test.YtigfokpgohaniaaGreatDoorEvS4
import Derived.Lib.Strings
namespace Go.Ev
open Go

section
variable {P : Program}
variable {D : Nat → Prop} {ρ : Nat → Nat} {sh : Nat → Option (TypeId × Nat)} {w : World} {B nt : Nat}

/-- An operand that may lack. -/
def OV (D : Nat → Prop) (ρ : Nat → Nat) (sh : Nat → Option (TypeId × Nat)) (x : Option AV) (x' : Option Value) : Prop :=
  (x = none ∧ x' = none) ∨ ∃ u u', x = some u ∧ x' = some u' ∧ VR D ρ sh u u'

theorem boundE_some {v : AV} {d y i : Nat} (h : boundE (some v) d y = some i) : i ≤ y ∧ ∃ k, v = .int k (.ofNat i) := by
  cases v <;> simp only [boundE, reduceCtorEq] at h
  case int k n =>
    cases n <;> simp only [reduceCtorEq] at h
    case ofNat m =>
      cases hb : Nat.ble m y
      · rw [hb] at h; simp at h
      · rw [hb] at h
        simp only [cond_true, Option.some.injEq] at h; subst h
        exact ⟨Nat.le_of_ble_eq_true hb, k, rfl⟩

theorem run_bound {v : AV} {v' : Value} {d y i y' : Nat} {code : BoundsCode} (h : boundE (some v) d y = some i) (hv : VR D ρ sh v v') (hy : y ≤ y') :
    (Instr.sliceBound v' y' code).run P w = .ok i w ∧ i ≤ y := by
  obtain ⟨h1, k, rfl⟩ := boundE_some h
  cases hv
  have h0 : (0 : Int) ≤ Int.ofNat i ∧ Int.ofNat i ≤ (y' : Int) := ⟨Int.natCast_nonneg i, Int.ofNat_le.2 (Nat.le_trans h1 hy)⟩
  exact ⟨by simp only [Instr.sliceBound, asIntOf, Sem.run_bind, Sem.run_pure, Result.andThen_ok, Sem.run_ite, if_pos h0]; rfl, h1⟩

theorem run_bounds {lo hi : Option AV} {lo' hi' : Option Value} {len y cap' h l : Nat} {isS : Bool} (hh : boundE hi len y = some h) (hl : boundE lo 0 h = some l)
    (olo : OV D ρ sh lo lo') (ohi : OV D ρ sh hi hi') (hy : y ≤ cap') :
    (Instr.sliceBounds isS len cap' lo' hi' none).run P w = .ok (l, h, cap') w ∧ l ≤ h ∧ (h ≤ y ∨ h = len) := by
  have hlo : ∀ c : BoundsCode, ((match lo' with | some v => Instr.sliceBound v h c | none => pure 0 : Sem Nat)).run P w = .ok l w ∧ l ≤ h := by
    intro c
    rcases olo with ⟨rfl, rfl⟩ | ⟨u, u', rfl, rfl, hu⟩
    · simp only [boundE, Option.some.injEq] at hl; subst hl; exact ⟨rfl, Nat.zero_le _⟩
    · exact run_bound hl hu (Nat.le_refl h)
  rcases ohi with ⟨rfl, rfl⟩ | ⟨u, u', rfl, rfl, hu⟩
  · simp only [boundE, Option.some.injEq] at hh
    subst hh
    refine ⟨?_, (hlo .sliceB).2, .inr rfl⟩
    have := (hlo .sliceB).1
    simp only [Instr.sliceBounds, Sem.run_bind, Sem.run_pure, Result.andThen_ok]
    cases lo' with
    | none =>
      have e : 0 = l := by simpa using this
      subst e
      simp
    | some v => simp only [Option.isSome, Bool.false_eq_true, if_false]; simp [this]
  · have h1 := run_bound (P := P) (w := w) (code := if isS then .sliceAcap else .sliceAlen) hh hu hy
    refine ⟨?_, (hlo .sliceB).2, .inl h1.2⟩
    have := (hlo .sliceB).1
    simp only [Instr.sliceBounds, Sem.run_bind, Sem.run_pure, Result.andThen_ok, h1.1]
    cases lo' with
    | none =>
      have e : 0 = l := by simpa using this
      subst e
      simp
    | some v => simp only [Option.isSome, Bool.false_eq_true, if_false]; simp [this]

theorem mk_extract (s : List UInt8) (l h : Nat) : (⟨⟨s⟩⟩ : ByteArray).extract l h = ⟨⟨(s.drop l).take (h - l)⟩⟩ := by
  apply ByteArray.ext
  apply Array.ext'
  exact Lib.extract_data ⟨⟨s⟩⟩ l h

theorem run_sliceAt_else {t : TypeId} {x : Value} {lo hi mx : Option Value} {d : TypeDesc} (hu : P.underlying t = some d) (hd : ∀ n e, d ≠ .array n e) :
    (Instr.sliceAt t x lo hi mx).run P w = (Instr.slice t x lo hi mx).run P w := by
  simp only [Instr.sliceAt, Sem.run_bind, run_underlying hu, Result.andThen_ok]

theorem sliceE_ok {t : TypeId} {a : AV} {a' : Value} {lo hi mx : Option AV} {lo' hi' mx' : Option Value} {v : AV} (hx : VR D ρ sh a a')
    (olo : OV D ρ sh lo lo') (ohi : OV D ρ sh hi hi') (omx : OV D ρ sh mx mx') (h : (sliceE P t).f a lo hi mx = some v) :
    Yld P D ρ sh w (Instr.sliceAt t a' lo' hi' mx') v := by
  unfold sliceE at h
  split at h
  · rename_i hu
    dsimp only at h
    split at h
    · rename_i s
      rcases omx with ⟨_, rfl⟩ | ⟨u, u', e, _⟩
      · obtain ⟨hh, h1, h2⟩ := bindO_some_iff.1 h
        obtain ⟨l, h3, h4⟩ := bindO_some_iff.1 h2
        simp only [takeK_eq, dropR_eq, lenR_eq, Option.some.injEq] at h4 h1
        subst h4
        cases hx
        have hb := run_bounds (P := P) (w := w) (isS := false) h1 h3 olo ohi (Nat.le_refl _)
        refine ⟨.string ⟨⟨(s.drop l).take (hh - l)⟩⟩, ?_, .str _⟩
        rw [run_sliceAt_else hu (by simp)]
        have hs : (⟨⟨s⟩⟩ : ByteArray).size = s.length := rfl
        simp only [Instr.slice, Sem.run_bind, run_underlying hu, Result.andThen_ok, Option.isSome, Bool.false_eq_true, if_false, hs]
        simp [hb.1, mk_extract]
      · cases e
    · cases h
  · rename_i e hu
    split at h
    · rename_i n hn
      rw [natK_eq] at h
      dsimp only at h
      split at h
      · rename_i base len cap
        rcases omx with ⟨_, rfl⟩ | ⟨u, u', e, _⟩
        · obtain ⟨hh, h1, h2⟩ := bindO_some_iff.1 h
          obtain ⟨l, h3, h4⟩ := bindO_some_iff.1 h2
          rw [natK_eq] at h4
          have hrun : ∀ (A : Option Addr) (cap' : Nat), capOr cap len ≤ cap' → (Instr.sliceAt t (.slice A len cap') lo' hi' none).run P w =
              .ok (.slice (if cap' = l then A else A.map (·.add (l * n))) (hh - l) (cap' - l)) w := by
            intro A cap' hc
            have hb := run_bounds (P := P) (w := w) (isS := true) h1 h3 olo ohi hc
            rw [run_sliceAt_else hu (by simp)]
            simp only [Instr.slice, Sem.run_bind, run_underlying hu, Result.andThen_ok, hb.1, run_szO hn, Sem.run_pure]
          have hb0 := fun A => run_bounds (P := P) (w := w) (isS := true) (cap' := A) h1 h3 olo ohi
          split at h4
          · rename_i c
            rw [natK_eq] at h4
            simp only [Option.some.injEq] at h4; subst h4
            cases hx with | sliceNil =>
            refine ⟨_, hrun none c (Nat.le_refl _), ?_⟩
            have : (if c = l then (none : Option Addr) else Option.map (fun x : Addr => x.add (l * n)) none) = none := by split <;> rfl
            rw [this]; exact .sliceNil _ _
          · rename_i b o c
            cases hx with | sliceAt _ _ _ _ hd hnc =>
            have hle : hh ≤ c := by
              rcases (hb0 c (Nat.le_refl _)).2.2 with h | h
              · exact h
              · omega
            have hl := (hb0 c (Nat.le_refl _)).2.1
            cases hcl : Nat.beq c l
            · rw [hcl] at h4
              simp only [cond_false, natK_eq, Option.some.injEq] at h4; subst h4
              have hne : ¬ c = l := Nat.ne_of_beq_eq_false hcl
              refine ⟨_, hrun _ c (Nat.le_refl _), ?_⟩
              rw [if_neg hne]
              simp only [Option.map_some, add_zero']
              exact .sliceAt _ _ _ _ hd (by omega)
            · rw [hcl] at h4
              simp only [cond_true, Option.some.injEq] at h4; subst h4
              have he : c = l := Nat.eq_of_beq_eq_true hcl
              refine ⟨_, hrun _ c (Nat.le_refl _), ?_⟩
              rw [if_pos he, show c - l = 0 by omega]
              exact .sliceAt _ _ _ _ hd (by omega)
          · rename_i b o s
            cases hsn : Nat.beq s n
            · rw [hsn] at h4; simp at h4
            · rw [hsn] at h4
              have hse : s = n := Nat.eq_of_beq_eq_true hsn
              simp only [cond_true, natK_eq, Option.some.injEq] at h4; subst h4; subst hse
              cases hx with
              | slice _ _ _ c _ hd hnc hf =>
                have hl := (hb0 c hnc).2.1
                have hle : hh ≤ len := by
                  rcases (hb0 c hnc).2.2 with h | h
                  · exact h
                  · omega
                refine ⟨_, hrun _ c hnc, ?_⟩
                by_cases he : c = l
                · rw [if_pos he, show hh - l = 0 by omega]
                  exact .sliceEnd _ _ _ _
                · rw [if_neg he]
                  simp only [Option.map_some, add_zero']
                  refine .slice _ _ _ _ _ hd (by omega) ?_
                  obtain ⟨e', N, h5, h6⟩ := hf
                  refine ⟨e', N, h5, ?_⟩
                  have : l ≤ c := by omega
                  have h7 : c * s = l * s + (c - l) * s := by rw [← Nat.add_mul]; congr 1; omega
                  omega
              | sliceEnd _ A c _ =>
                have hl := (hb0 c (Nat.zero_le _)).2.1
                have hle : hh ≤ 0 := by
                  rcases (hb0 c (Nat.zero_le _)).2.2 with h | h
                  · exact h
                  · omega
                refine ⟨_, hrun _ c (Nat.zero_le _), ?_⟩
                rw [show hh - l = 0 by omega]
                by_cases he : c = l
                · rw [if_pos he]; exact .sliceEnd _ _ _ _
                · rw [if_neg he]; exact .sliceEnd _ _ _ _
          · cases h4
        · cases e
      · rename_i base len cap m
        rcases omx with ⟨e, _⟩ | ⟨u, u', e, rfl, hu'⟩
        · cases e
        · simp only [Option.some.injEq] at e; subst e
          cases hi with
          | none => simp [sliceSl3] at h
          | some hv =>
          cases m <;> simp only [sliceSl3, reduceCtorEq] at h
          case int k i =>
          cases i with
          | negSucc i => simp at h
          | ofNat m =>
          dsimp only at h
          cases hm : Nat.ble m (capOr cap len)
          · rw [hm] at h; simp at h
          · rw [hm] at h
            simp only [cond_true] at h
            have hm' := Nat.le_of_ble_eq_true hm
            obtain ⟨hh, h1, h2⟩ := bindO_some_iff.1 h
            obtain ⟨l, h3, h4⟩ := bindO_some_iff.1 h2
            rcases ohi with ⟨e, _⟩ | ⟨hv', hi', e, rfl, hhi⟩
            · cases e
            · simp only [Option.some.injEq] at e; subst e
              cases hu' with | int k _ =>
              have hbh := run_bound (P := P) (w := w) (code := .slice3B) h1 hhi (Nat.le_refl m)
              have hbl : ∀ c : BoundsCode, ((match lo' with | some v => Instr.sliceBound v hh c | none => pure 0 : Sem Nat)).run P w = .ok l w ∧ l ≤ hh := by
                intro c
                rcases olo with ⟨rfl, rfl⟩ | ⟨u, u', rfl, rfl, hu⟩
                · simp only [boundE, Option.some.injEq] at h3; subst h3; exact ⟨rfl, Nat.zero_le _⟩
                · exact run_bound h3 hu (Nat.le_refl hh)
              have hrun : ∀ (A : Option Addr) (cap' : Nat), capOr cap len ≤ cap' → (Instr.sliceAt t (.slice A len cap') lo' (some hi') (some (.int k (.ofNat m)))).run P w =
                  .ok (.slice (if m = l then A else A.map (·.add (l * n))) (hh - l) (m - l)) w := by
                intro A cap' hc
                have h0 : (0 : Int) ≤ Int.ofNat m ∧ Int.ofNat m ≤ (cap' : Int) := ⟨Int.natCast_nonneg m, Int.ofNat_le.2 (Nat.le_trans hm' hc)⟩
                have hm1 : (Instr.sliceBound (.int k (.ofNat m)) cap' .slice3Acap).run P w = .ok m w := by
                  simp only [Instr.sliceBound, asIntOf, Sem.run_bind, Sem.run_pure, Result.andThen_ok, Sem.run_ite, if_pos h0]; rfl
                rw [run_sliceAt_else hu (by simp)]
                simp only [Instr.slice, Sem.run_bind, run_underlying hu, Result.andThen_ok, Instr.sliceBounds, if_true, hm1, hbh.1, run_szO hn, Sem.run_pure]
                have hl1 := (hbl .slice3C).1
                cases lo' with
                | none =>
                  have e : 0 = l := by simpa using hl1
                  subst e
                  simp
                | some v => simp only [Option.isSome, if_true]; simp [hl1]
              have hlh := (hbl .slice3C).2
              have hhm := hbh.2
              have fin : ∀ (b o cap' : Nat), D b → capOr cap len ≤ cap' → slice3At n b o (hh - l) m l = some v →
                  Yld P D ρ sh w (Instr.sliceAt t (.slice (some ⟨ρ b, o, none⟩) len cap') lo' (some hi') (some (.int k (.ofNat m)))) v := by
                intro b o cap' hd hc h4
                refine ⟨_, hrun _ cap' hc, ?_⟩
                unfold slice3At at h4
                cases hml : Nat.beq m l
                · rw [hml] at h4
                  simp only [cond_false, natK_eq, Option.some.injEq] at h4; subst h4
                  rw [if_neg (Nat.ne_of_beq_eq_false hml)]
                  simp only [Option.map_some, add_zero']
                  exact .sliceAt _ _ _ _ hd (by omega)
                · rw [hml] at h4
                  simp only [cond_true, Option.some.injEq] at h4; subst h4
                  have he : m = l := Nat.eq_of_beq_eq_true hml
                  rw [if_pos he, show m - l = 0 by omega]
                  exact .sliceAt _ _ _ _ hd (by omega)
              unfold slice3G at h4
              rw [natK_eq] at h4
              cases hx with
              | sliceNil _ c =>
                simp only [natK_eq, Option.some.injEq] at h4; subst h4
                refine ⟨_, hrun none c (Nat.le_refl _), ?_⟩
                have : (if m = l then (none : Option Addr) else Option.map (fun x : Addr => x.add (l * n)) none) = none := by split <;> rfl
                rw [this]; exact .sliceNil _ _
              | sliceAt b o _ c hd hnc => exact fin b o c hd (Nat.le_refl _) h4
              | slice b o _ c _ hd hnc hf =>
                cases len with
                | zero =>
                  simp only [Option.some.injEq] at h4; subst h4
                  have : hh - l = 0 := by simp only [capOr] at hm'; omega
                  refine ⟨_, hrun _ c hnc, ?_⟩
                  rw [this]
                  split <;> exact .sliceEnd _ _ _ _
                | succ q => exact fin b o c hd hnc h4
              | sliceEnd p A c _ =>
                obtain ⟨b, o⟩ := p
                simp only [Option.some.injEq] at h4; subst h4
                have : hh - l = 0 := by simp only [capOr] at hm'; omega
                refine ⟨_, hrun _ c (Nat.zero_le _), ?_⟩
                rw [this]
                split <;> exact .sliceEnd _ _ _ _
      · cases h
    · cases h
  · rename_i n e hu
    split at h
    · rename_i sz hn
      rw [natK_eq] at h
      dsimp only at h
      split at h
      · rcases omx with ⟨_, rfl⟩ | ⟨u, u', e, _⟩
        · obtain ⟨b, o, rfl, h0⟩ := onPtr_iff h
          obtain ⟨hh, h1, h2⟩ := bindO_some_iff.1 h0
          obtain ⟨l, h3, h4⟩ := bindO_some_iff.1 h2
          simp only [natK_eq] at h4
          cases hcl : Nat.beq n l
          · rw [hcl] at h4
            simp only [cond_false, Option.some.injEq] at h4; subst h4
            have hne : ¬ n = l := Nat.ne_of_beq_eq_false hcl
            cases hx with | ptr _ _ hd =>
            have hb := run_bounds (P := P) (w := w) (isS := false) h1 h3 olo ohi (Nat.le_refl _)
            refine ⟨.slice (some ⟨ρ b, o + l * sz, none⟩) (hh - l) (n - l), ?_, .sliceAt _ _ _ _ hd (by rcases hb.2.2 with h | h <;> omega)⟩
            simp only [Instr.sliceAt, Sem.run_bind, run_underlying hu, Result.andThen_ok, Instr.sureAddr, Sem.run_pure, hb.1, run_szO hn, if_neg hne]
            simp [add_zero']
          · rw [hcl] at h4; simp at h4
        · cases e
      · cases h
    · cases h
  · cases h

/-! Parts laid into places. -/
theorem foldl_set (v : List Value) : ∀ (cs : Array Value) (off j : Nat), off + j + v.length ≤ cs.size →
    ((v.zipIdx j).foldl (fun cs (x : Value × Nat) => cs.setIfInBounds (off + x.2) x.1) cs).toList = cs.toList.take (off + j) ++ v ++ cs.toList.drop (off + j + v.length) := by
  induction v with
  | nil => intro cs off j h; simp
  | cons a v ih =>
    intro cs off j h
    simp only [List.length_cons] at h
    rw [List.zipIdx_cons, List.foldl_cons, ih _ off (j + 1) (by simp; omega)]
    have hs : (cs.setIfInBounds (off + j) a).toList = cs.toList.set (off + j) a := Array.toList_setIfInBounds
    rw [hs]
    have hl : off + j < cs.toList.length := by simp; omega
    have e1 : (cs.toList.set (off + j) a).take (off + (j + 1)) = cs.toList.take (off + j) ++ [a] := by
      rw [show off + (j + 1) = off + j + 1 by omega, List.take_set, List.take_succ_eq_append_getElem hl]
      rw [List.set_append_right _ _ (by simp [List.length_take]; omega)]
      simp [List.length_take]
      have : off + j - min (off + j) cs.size = 0 := by have : off + j < cs.size := by simpa using hl
                                                       omega
      rw [this]; rfl
    have e2 : (cs.toList.set (off + j) a).drop (off + (j + 1) + v.length) = cs.toList.drop (off + j + (a :: v).length) := by
      rw [List.drop_set_of_lt (by omega)]
      congr 1
      simp; omega
    rw [e1, e2]
    simp

theorem foldl_arr (v : Array Value) (cs : Array Value) (off : Nat) (h : off + v.size ≤ cs.size) :
    (v.zipIdx.foldl (fun cs (x : Value × Nat) => cs.setIfInBounds (off + x.2) x.1) cs).toList = cs.toList.take off ++ v.toList ++ cs.toList.drop (off + v.size) := by
  have := foldl_set v.toList cs off 0 (by simpa using h)
  rw [← Array.foldl_toList, Array.toList_zipIdx]
  simpa using this

theorem fillE_ok {place place' : Nat → Option (Nat × Nat)} : ∀ (parts : List (Nat × AV)) (parts' : List (Nat × Value)) (cells : List AV) (cells' : Array Value) (r : List AV),
    PRL D ρ sh parts parts' → VRL D ρ sh cells cells'.toList → (∀ i, (∃ v, (i, v) ∈ parts) → place' i = place i) →
    fillE place cells parts = some r → ∃ r', Instr.fill place' cells' parts' = some r' ∧ VRL D ρ sh r r'.toList
  | [], _, cells, cells', r, .nil, hc, _, h => by simp only [fillE, Option.some.injEq] at h; subst h; exact ⟨cells', rfl, hc⟩
  | _, _, cells, cells', r, .cons i v v' l l' hv hl, hc, hp, h => by
    simp only [fillE] at h
    split at h
    · cases h
    · rename_i off size hpl
      simp only [lenR_eq] at h
      cases hb : (Nat.beq v.cells.length size && Nat.ble (off + v.cells.length) cells.length)
      · rw [hb] at h; simp at h
      · rw [hb] at h
        simp only [Bool.and_eq_true] at hb
        have h1 : v.cells.length = size := Nat.eq_of_beq_eq_true hb.1
        have h2 : off + v.cells.length ≤ cells.length := Nat.le_of_ble_eq_true hb.2
        simp only [cond_true] at h
        have hvc := hv.cells
        have hlen : v'.cells.size = v.cells.length := by have := hvc.length; simpa using this.symm
        have hcl : cells'.size = cells.length := by have := hc.length; simpa using this.symm
        have hnew := foldl_arr v'.cells cells' off (by omega)
        have hspl : VRL D ρ sh (splice cells off v.cells) (v'.cells.zipIdx.foldl (fun cs (x : Value × Nat) => cs.setIfInBounds (off + x.2) x.1) cells').toList := by
          rw [hnew, hlen]
          exact ((hc.take off).app hvc).app (hc.drop _)
        obtain ⟨r', h3, h4⟩ := fillE_ok l l' _ _ r hl hspl (fun i ⟨u, hu⟩ => hp i ⟨u, by simp [hu]⟩) h
        refine ⟨r', ?_, h4⟩
        simp only [Instr.fill, hp i ⟨v, by simp⟩, hpl]
        rw [if_neg (by simp; omega)]
        exact h3


theorem run_places : ∀ (fs : List Field) , (∀ f ∈ fs, (szO P f.type).isSome = true) →
    (fs.mapM fun f => (do pure (f.offset, ← sizeOf f.type) : Sem (Nat × Nat))).run P w = .ok (fs.map fun f => (f.offset, (szO P f.type).getD 0)) w
  | [], _ => rfl
  | f :: fs, h => by
    obtain ⟨n, hn⟩ := Option.isSome_iff_exists.1 (h f (by simp))
    rw [List.mapM_cons]
    simp only [Sem.run_bind, run_szO hn, Result.andThen_ok, Sem.run_pure, run_places fs (fun g hg => h g (by simp [hg]))]
    simp [hn]

theorem buildE_ok {t : TypeId} {parts : List (Nat × AV)} {parts' : List (Nat × Value)} {v : AV} (hp : PRL D ρ sh parts parts') (h : (buildE P t).f parts = some v) :
    Yld P D ρ sh w (Instr.build t parts'.toArray) v := by
  unfold buildE at h
  split at h
  · rename_i z hz
    obtain ⟨z', hz1, hz2⟩ := run_zeroV (D := D) (ρ := ρ) (sh := sh) (w := w) hz
    have hzc := hz2.cells
    split at h
    · rename_i fs hu
      cases hf : fieldsSized P fs
      · rw [hf] at h; simp at h
      · rw [hf] at h
        simp only [cond_true] at h
        obtain ⟨cs, h1, h2⟩ := bindO_some_iff.1 h
        simp only [wholeK_eq, Option.some.injEq] at h2; subst h2
        have hall : ∀ f ∈ fs.toList, (szO P f.type).isSome = true := by
          intro f hf'
          have := Array.all_eq_true_iff_forall_mem.1 hf f (by simpa using hf')
          exact this
        have hplaces : (fs.mapM fun f => (do pure (f.offset, ← sizeOf f.type) : Sem (Nat × Nat))).run P w = .ok (fs.map fun f => (f.offset, (szO P f.type).getD 0)) w := by
          rw [Array.mapM_eq_mapM_toList]
          rw [Sem.run_map, run_places fs.toList hall]
          simp only [Result.andThen_ok]
          congr 1
          apply Array.ext'
          simp
        obtain ⟨r', h3, h4⟩ := fillE_ok (place' := fun i => (fs.map fun f => (f.offset, (szO P f.type).getD 0))[i]?) parts parts' z.cells z'.cells cs hp hzc (fun i _ => by
          simp only [placeS, Array.getElem?_map]
          cases hfi : fs[i]? with
          | none => rfl
          | some f =>
            have hm : f ∈ fs.toList := by
              have := Array.mem_of_getElem? hfi
              simpa using this
            obtain ⟨n, hn⟩ := Option.isSome_iff_exists.1 (hall f hm)
            simp [hn]) h1
        refine ⟨.agg r', ?_, .agg _ _ h4⟩
        simp only [Instr.build, Sem.run_bind, hz1, Result.andThen_ok, run_underlying hu, hplaces, h3]
        rfl
    · rename_i n e hu
      split at h
      · rename_i n' hn
        obtain ⟨cs, h1, h2⟩ := bindO_some_iff.1 h
        simp only [wholeK_eq, Option.some.injEq] at h2; subst h2
        obtain ⟨r', h3, h4⟩ := fillE_ok (place' := fun i => some (i * n', n')) parts parts' z.cells z'.cells cs hp hzc (fun i _ => rfl) h1
        refine ⟨.agg r', ?_, .agg _ _ h4⟩
        simp only [Instr.build, Sem.run_bind, hz1, Result.andThen_ok, run_underlying hu, run_szO hn, h3]
        rfl
      · cases h
    · cases h
  · cases h

theorem lenE_ok {t ty : TypeId} {a : AV} {a' : Value} {v : AV} {ts : Array TypeId} (ht : ts[0]? = some t) (hx : VR D ρ sh a a') (h : (lenE P t).f a = some v) :
    Yld P D ρ sh w (Builtin.len_ ts ty #[a']) v := by
  unfold lenE at h
  split at h
  · rename_i hu
    dsimp only at h
    split at h
    · rename_i s
      cases hx
      rw [mkI_eq, lenR_eq] at h
      simp only [Option.some.injEq] at h; subst h
      exact ⟨_, by simp only [Builtin.len_, ht]; simp [run_underlying hu]; rfl, .int _ _⟩
    · cases h
  · rename_i n e hu
    simp only [mkI_eq, Option.some.injEq] at h; subst h
    exact ⟨_, by simp only [Builtin.len_, ht]; simp [run_underlying hu]; rfl, .int _ _⟩
  · rename_i e hu
    dsimp only at h
    split at h
    · rw [mkI_eq] at h
      simp only [Option.some.injEq] at h; subst h
      cases hx <;> exact ⟨_, by simp only [Builtin.len_, ht]; simp [run_underlying hu]; rfl, .int _ _⟩
    · cases h
  · cases h

theorem max2E_ok {a b : AV} {a' b' : Value} {v : AV} (hx : VR D ρ sh a a') (hy : VR D ρ sh b b') (h : max2E a b = some v) : Yld P D ρ sh w (Builtin.max2 a' b') v := by
  obtain ⟨k, n, e1, h2⟩ := onInt_iff h
  obtain ⟨k', n', e2, h3⟩ := onInt_iff h2
  subst e1; subst e2
  cases hx; cases hy
  simp only [ltI_eq, Option.some.injEq] at h3; subst h3
  refine ⟨_, rfl, ?_⟩
  by_cases hlt : n < n'
  · simp [hlt]; exact .int _ _
  · simp [hlt]; exact .int _ _
theorem min2E_ok {a b : AV} {a' b' : Value} {v : AV} (hx : VR D ρ sh a a') (hy : VR D ρ sh b b') (h : min2E a b = some v) : Yld P D ρ sh w (Builtin.min2 a' b') v := by
  obtain ⟨k, n, e1, h2⟩ := onInt_iff h
  obtain ⟨k', n', e2, h3⟩ := onInt_iff h2
  subst e1; subst e2
  cases hx; cases hy
  simp only [ltI_eq, Option.some.injEq] at h3; subst h3
  refine ⟨_, rfl, ?_⟩
  by_cases hlt : n' < n
  · simp [hlt]; exact .int _ _
  · simp [hlt]; exact .int _ _
theorem foldE_ok {f : AV → AV → Option AV} {g : Value → Value → Sem Value} (hf : ∀ a b a' b' v, VR D ρ sh a a' → VR D ρ sh b b' → f a b = some v → Yld P D ρ sh w (g a' b') v) :
    ∀ (l : List AV) (l' : List Value) (a : AV) (a' : Value) (v : AV), VR D ρ sh a a' → VRL D ρ sh l l' → foldE f a l = some v → Yld P D ρ sh w (l'.foldlM g a') v
  | [], _, a, a', v, ha, .nil, h => by simp only [foldE, Option.some.injEq] at h; subst h; exact ⟨a', rfl, ha⟩
  | _, _, a, a', v, ha, .cons b b' l l' hb hl, h => by
    simp only [foldE] at h
    obtain ⟨c, h1, h2⟩ := bindO_some_iff.1 h
    obtain ⟨c', h3, h4⟩ := hf _ _ _ _ _ ha hb h1
    obtain ⟨v', h5, h6⟩ := foldE_ok hf l l' c c' v h4 hl h2
    exact ⟨v', by rw [List.foldlM_cons]; simp only [Sem.run_bind, h3, Result.andThen_ok, h5], h6⟩
theorem fold1_ok {f : AV → AV → Option AV} {g : Value → Value → Sem Value} (hf : ∀ a b a' b' v, VR D ρ sh a a' → VR D ρ sh b b' → f a b = some v → Yld P D ρ sh w (g a' b') v)
    {l : List AV} {l' : List Value} {v : AV} (hl : VRL D ρ sh l l') (h : fold1 f l = some v) : ∃ x r, l' = x :: r ∧ Yld P D ρ sh w (r.foldlM g x) v := by
  cases hl with
  | nil => simp [fold1] at h
  | cons a a' l l' ha hl => exact ⟨a', l', rfl, foldE_ok hf l l' a a' v ha hl h⟩

end
end Go.Ev

/- The plain evaluator is sound: appends and copies. -/
import Derived.Test.YtigfokpgohaniaaGreatDoorEvSA
namespace Go.Ev
open Go

section
variable {P : Program} {B WB : Nat}
variable {D : Nat → Prop} {ρ : Nat → Nat} {w : World} {nt : Nat} {H : AH}

theorem run_append_in {ts : Array TypeId} {ty sT xT e : TypeId} {xd : TypeDesc} {size n sLen c : Nat} {base : Option Addr} {x' : Value} {new' : Array Value}
    (hs : ts[0]? = some sT) (hx : ts[1]? = some xT) (hsu : P.underlying sT = some (.slice e)) (hxu : P.underlying xT = some xd) (hxi : isIntT xd = false)
    (hz : szO P e = some size) (hn : (Builtin.lenOf x').run P w = .ok n w) (hle : sLen + n ≤ c) (hnew : (Builtin.firstCells size n x').run P w = .ok new' w) :
    (Builtin.append_ ts ty #[.slice base sLen c, x']).run P w =
      (match base with
        | some a => (storeCells (a.add (sLen * size)) new'.toList).run P w
        | none => .ok () w).andThen fun _ w => .ok (.slice base (sLen + n) c) w := by
  have h0 : (#[Value.slice base sLen c, x'] : Array Value)[0]? = some (.slice base sLen c) := rfl
  have h1x : (#[Value.slice base sLen c, x'] : Array Value)[1]? = some x' := rfl
  unfold Builtin.append_
  rw [hs, hx, h0, h1x]
  dsimp only
  rw [Sem.run_bind, run_underlying hsu]
  simp only [Result.andThen_ok]
  rw [Sem.run_bind, run_szO hz]
  simp only [Result.andThen_ok]
  rw [Sem.run_bind, run_underlying hxu]
  simp only [Result.andThen_ok]
  rw [Sem.run_bind, Sem.run_pure]
  simp only [Result.andThen_ok]
  have hfl : ∀ q : Bool, q = isIntT xd → q = false := fun q h => h.trans hxi
  split
  · exfalso; revert hxi; rename_i heq; simp [isIntT]
  simp only [Bool.false_eq_true, if_false]
  rw [Sem.run_bind, hn]
  simp only [Result.andThen_ok]
  rw [if_pos hle]
  rw [Sem.run_bind]
  simp only [Bool.not_false, if_true]
  rw [hnew]
  simp only [Result.andThen_ok]
  cases base with
  | none => rfl
  | some A => rw [Sem.run_bind]; rfl

theorem run_append_new {ts : Array TypeId} {ty sT xT e : TypeId} {xd : TypeDesc} {size n sLen c : Nat} {base : Option Addr} {x' z' : Value} {new' old' : Array Value} {i : TypeInfo}
    (hs : ts[0]? = some sT) (hx : ts[1]? = some xT) (hsu : P.underlying sT = some (.slice e)) (hxu : P.underlying xT = some xd) (hxi : isIntT xd = false)
    (hz : szO P e = some size) (hi : P.info? e = some i) (hzv : ∀ w, (zeroValue e).run P w = .ok z' w) (hzs : z'.cells.size = size) (hn : (Builtin.lenOf x').run P w = .ok n w) (hle : ¬ sLen + n ≤ c)
    (hb : (2 * (sLen + n) + 1024) * (i.bytes + 1) ≤ 140737488355328)
    (hold : ∀ d, (Builtin.firstCells size sLen (.slice base sLen c)).run P (atD w d) = .ok old' (atD w d))
    (hnew : ∀ d, (Builtin.firstCells size n x').run P (atD w d) = .ok new' (atD w d))
    (hol : old'.size = sLen * size) (hnl : new'.size = n * size) :
    ∃ (cap : Nat) (rest : Array Value) (w' : World), sLen + n ≤ cap ∧ (old' ++ new' ++ rest).size = cap * size ∧ Made1 w w' (.cells (old' ++ new' ++ rest) e) ∧
      (Builtin.append_ ts ty #[.slice base sLen c, x']).run P w = .ok (.slice (some ⟨w.heap.size, 0, none⟩) (sLen + n) cap) w' := by
  have hneed : 2 * (sLen + n) + 1024 ≤ 140737488355328 := Nat.le_trans (Nat.le_mul_of_pos_right _ (Nat.succ_pos _)) hb
  have hmx : ((sLen + n : Nat) : Int) ≤ IntKind.i64.max := by
    have e : IntKind.i64.max = 2 ^ (64 - 1) - 1 := by
      unfold IntKind.max
      rw [if_pos (by decide)]
      rfl
    rw [e]
    have e2 : ((2 : Int) ^ (64 - 1) - 1) = 9223372036854775807 := by decide
    rw [e2]
    omega
  have h1 : ¬ (((sLen + n : Nat) : Int) > IntKind.i64.max) := Int.not_lt.2 hmx
  have h2 : ¬ (Builtin.nextslicecap (sLen + n) c * i.bytes > 2 ^ 48) := by
    have h3 := nextslicecap_le (sLen + n) c (by omega)
    have h4 : Builtin.nextslicecap (sLen + n) c * i.bytes ≤ (2 * (sLen + n) + 1024) * (i.bytes + 1) := Nat.mul_le_mul h3 (Nat.le_succ _)
    omega
  generalize hcap : (Question.appendCap (sLen + n) c e).cut (w.tape w.drawn (.appendCap (sLen + n) c e)) = cap
  have hcap' : sLen + n ≤ cap := by rw [← hcap]; simp [Question.cut]
  refine ⟨cap, Builtin.zeroCells z'.cells (cap - (sLen + n)), ({ w with drawn := w.drawn + 1 } : World).alloc (.cells (old' ++ new' ++ Builtin.zeroCells z'.cells (cap - (sLen + n))) e), hcap', ?_, ⟨rfl, rfl, rfl, rfl⟩, ?_⟩
  · have : (Builtin.zeroCells z'.cells (cap - (sLen + n))).size = (cap - (sLen + n)) * size := by simp [Builtin.zeroCells, hzs]
    simp only [Array.size_append, hol, hnl, this]
    rw [← Nat.add_mul, ← Nat.add_mul]
    congr 1; omega
  · have hold' : (Builtin.firstCells size sLen (.slice base sLen c)).run P { w with drawn := w.drawn + 1 } = .ok old' { w with drawn := w.drawn + 1 } := hold (w.drawn + 1)
    have hnew' : (Builtin.firstCells size n x').run P { w with drawn := w.drawn + 1 } = .ok new' { w with drawn := w.drawn + 1 } := hnew (w.drawn + 1)
    have h0 : (#[Value.slice base sLen c, x'] : Array Value)[0]? = some (.slice base sLen c) := rfl
    have h1x : (#[Value.slice base sLen c, x'] : Array Value)[1]? = some x' := rfl
    unfold Builtin.append_
    rw [hs, hx, h0, h1x]
    dsimp only
    rw [Sem.run_bind, run_underlying hsu]
    simp only [Result.andThen_ok]
    rw [Sem.run_bind, run_szO hz]
    simp only [Result.andThen_ok]
    rw [Sem.run_bind, run_underlying hxu]
    simp only [Result.andThen_ok]
    rw [Sem.run_bind, Sem.run_pure]
    simp only [Result.andThen_ok]
    have hfl : ∀ q : Bool, q = isIntT xd → q = false := fun q h => h.trans hxi
    split
    · exfalso; revert hxi; rename_i heq; simp [isIntT]
    simp only [Bool.false_eq_true, if_false]
    rw [Sem.run_bind, hn]
    simp only [Result.andThen_ok]
    rw [if_neg hle]
    rw [Sem.run_bind, run_info hi]
    simp only [Result.andThen_ok]
    rw [if_neg (fun h => h1 h.1)]
    rw [Sem.run_bind, run_info hi]
    simp only [Result.andThen_ok]
    rw [if_neg h2]
    rw [Sem.run_bind, run_choose]
    simp only [Question.forced, Bool.false_eq_true, if_false, hcap, Result.andThen_ok]
    rw [Sem.run_bind, run_info hi]
    simp only [Result.andThen_ok]
    rw [Sem.run_bind, run_askRoom]
    simp only [Result.andThen_ok]
    rw [Sem.run_bind, hold']
    simp only [Result.andThen_ok]
    rw [Sem.run_bind]
    simp only [Bool.not_false, if_true]
    rw [hnew']
    simp only [Result.andThen_ok]
    rw [Sem.run_bind, hzv]
    rfl

theorem first0 {sh : Nat → Option (TypeId × Nat)} {x : AV} {x' : Value} {m size : Nat} (hx : VR D ρ sh x x') (hm : lenOfE x = some m) : (Builtin.firstCells size 0 x').run P w = .ok #[] w := by
  unfold lenOfE at hm
  split at hm
  · cases hx <;> simp [Builtin.firstCells, loadCells, loadCellsFrom]
  · cases hx
    simp [Builtin.firstCells]
  · cases hm

theorem appendE_ok (hr : HR B WB D ρ H w) {ts : Array TypeId} {ty sT xT : TypeId} {s x : AV} {s' x' : Value} {r : AV × AH} (hs : ts[0]? = some sT) (hx : ts[1]? = some xT)
    (hsv : VR D ρ w.shape? s s') (hxv : VR D ρ w.shape? x x') (h : (appendE P WB sT xT).f H s x = some r) (hf : Free D H.next r.2.next) :
    YldC P B WB D ρ H w (do pure (.value (← Builtin.append_ ts ty #[s', x']))) r := by
  unfold appendE at h
  split at h
  · rename_i e xd hsu hxu
    cases hxi : isIntT xd
    · rw [hxi] at h
      simp only [cond_false] at h
      split at h
      · rename_i size0 i z hz hi hzv0
        cases hzb : Nat.beq (lenR z.cells) (size0 + 1)
        · rw [hzb] at h; simp at h
        rw [hzb] at h
        rw [lenR_eq] at hzb
        simp only [cond_true, natK_eq] at h
        have hzlen : z.cells.length = size0 + 1 := Nat.eq_of_beq_eq_true hzb
        replace hz : szO P e = some (size0 + 1) := hz
        generalize hsz : size0 + 1 = size at h hz hzlen
        have hspos : 0 < size := by omega
        unfold appendG at h
        split at h
        · rename_i base sLen sCap
          obtain ⟨n, hn, h2⟩ := bindO_some_iff.1 h
          have hnr := lenOfE_ok (P := P) hxv hn
          cases hbb : Nat.ble ((2 * (sLen + n) + 1024) * (i.bytes + 1)) 140737488355328
          · rw [hbb] at h2; simp at h2
          rw [hbb] at h2
          have hb := Nat.le_of_ble_eq_true hbb
          simp only [cond_true, natK_eq] at h2
          obtain ⟨z', hz1, hz2⟩ : ∃ z', (∀ w, (zeroValue e).run P w = .ok z' w) ∧ z'.cells.size = size := by
            obtain ⟨z', h3, h4⟩ := run_zeroV (D := D) (ρ := ρ) (sh := w.shape?) (w := w) hzv0
            have h5 := h4.cells.length
            refine ⟨z', fun w2 => ?_, by simp at h5; omega⟩
            obtain ⟨z2, h6, _⟩ := run_zeroV (D := D) (ρ := ρ) (sh := w2.shape?) (w := w2) hzv0
            have : z2 = z' := by
              have e1 : (zeroValue e).run P w2 = .ok z2 w2 := h6
              have e2 : (zeroValue e).run P w = .ok z' w := h3
              simp only [zeroValue, Sem.run_bind, run_info hi, Result.andThen_ok] at e1 e2
              split at e1
              · rename_i v hv
                rw [hv] at e2
                simp only [Sem.run_pure, Result.ok.injEq, and_true] at e1 e2
                rw [← e1, ← e2]
              · simp at e1
            rw [this] at h6
            exact h6
          -- a new block
          have fresh : ∀ (base : Option Addr) (c : Nat) (H0 : AH) (old new : List AV) (old' new' : Array Value) (fz : Option Nat), s' = .slice base sLen c → ¬ sLen + n ≤ c →
              (HR B WB D ρ H0 w ∧ Stp WB D ρ H w D ρ H0 w) → H0.next = H.next →
              (∀ d, (Builtin.firstCells size sLen (.slice base sLen c)).run P (atD w d) = .ok old' (atD w d)) →
              (∀ d, (Builtin.firstCells size n x').run P (atD w d) = .ok new' (atD w d)) →
              VRL D ρ w.shape? old old'.toList → VRL D ρ w.shape? new new'.toList → old.length = sLen * size → new.length = n * size →
              r = (.slice (some (H.next, 0)) (sLen + n) (.more size), ⟨H0.m.set H.next (some (.cells (old ++ new) e fz)), H.next + 1⟩) →
              YldC P B WB D ρ H w (do pure (.value (← Builtin.append_ ts ty #[s', x']))) r := by
            intro base c H0 old new old' new' fz hs' hle hH0 hnx hold hnew ho hn2 hol hnl hre
            subst hs'; subst hre
            obtain ⟨cap, rest, w', h3, h4, h5, h6⟩ := run_append_new (P := P) (ty := ty) hs hx hsu hxu hxi hz hi hz1 hz2 hnr hle hb hold hnew
              (by have := ho.length; simp at this; omega) (by have := hn2.length; simp at this; omega)
            have hor : OR D ρ w.shape? (.cells (old ++ new) e fz) (.cells (old' ++ new' ++ rest) e) := by
              refine .cells _ _ _ _ _ (old'.toList ++ new'.toList) rest.toList (by simp) (ho.app hn2) ?_
              cases fz with
              | none => rfl
              | some k => intro i _ _; simp
            obtain ⟨h7, h8⟩ := alloc_hr hH0.1 (by rw [hnx]; exact hf) h5 hor
            rw [hnx] at h7 h8
            refine ⟨.value (.slice (some ⟨w.heap.size, 0, none⟩) (sLen + n) cap), _, w', _, _, by simp [h6], .inl rfl, h7, ?_, Stp.trans hr.dom hH0.1.dom hH0.2 h8⟩
            have := VR.slice (D := ext D H.next) (ρ := upd ρ H.next w.heap.size) (sh := w'.shape?) H.next 0 (sLen + n) cap size (.inr rfl) h3 ⟨e, (old' ++ new' ++ rest).size, by
              simp only [upd, if_true]
              rw [shape_obj h5.new]; rfl, by omega⟩
            simpa [upd] using this
          cases sCap with
          | is c =>
            simp only at h2
            have hs' : ∃ base', s' = .slice base' sLen c ∧ ((base = none ∧ base' = none) ∨ ∃ b o, base = some (b, o) ∧ base' = some ⟨ρ b, o, none⟩ ∧ D b ∧ sLen ≤ c) := by
              cases hsv with
              | sliceNil => exact ⟨_, rfl, .inl ⟨rfl, rfl⟩⟩
              | sliceAt b o _ _ hd hnc => exact ⟨_, rfl, .inr ⟨b, o, rfl, rfl, hd, hnc⟩⟩
            obtain ⟨base', hse, hbase⟩ := hs'
            cases hle : Nat.ble (sLen + n) c
            · rw [hle] at h2
              simp only [cond_false] at h2
              have hle' : ¬ sLen + n ≤ c := fun e => by rw [Nat.ble_eq_true_of_le e] at hle; cases hle
              unfold appendNew at h2
              obtain ⟨old, old', h3, h4, h5, h6⟩ := srcE_ok (P := P) hr hsv rfl (Nat.le_refl _) h2
              obtain ⟨new, new', h7, h8, h9, h10⟩ := srcE_ok (P := P) hr hxv hn (Nat.le_refl _) h5
              rw [appK_eq, newE_eq] at h9
              simp only [Option.some.injEq] at h9
              subst hse
              exact fresh base' c H old new old' new' none rfl hle' ⟨hr, Stp.refl _ _ _ _⟩ rfl h3 h7 h4 h8 h6 h10 h9.symm
            · rw [hle] at h2
              simp only [cond_true] at h2
              have hle' := Nat.le_of_ble_eq_true hle
              unfold appendIn at h2
              obtain ⟨new, new', h3, h4, h5, h6⟩ := srcE_ok (P := P) hr hxv hn (Nat.le_refl _) h2
              have hrun := run_append_in (P := P) (ty := ty) (base := base') hs hx hsu hxu hxi hz hnr hle' (h3 w.drawn)
              subst hse
              rcases hbase with ⟨rfl, rfl⟩ | ⟨b, o, rfl, rfl, hd, hnc⟩
              · simp only [Option.some.injEq] at h5; subst h5
                exact ⟨_, _, w, D, ρ, by simp only [Sem.run_bind, hrun]; rfl, .inl rfl, hr, .sliceNil _ _, Stp.refl _ _ _ _⟩
              · simp only at h5
                obtain ⟨H', w', h7, h8, h9, h10, h11⟩ := write_ok (P := P) hr h4 h5
                simp only [Option.some.injEq] at h8; subst h8
                have hadd : (⟨ρ b, o, none⟩ : Addr).add (sLen * size) = ⟨ρ b, o + sLen * size, none⟩ := add_zero' _ _ rfl
                simp only [hadd, h7, Result.andThen_ok] at hrun
                exact ⟨_, _, w', D, ρ, by simp only [Sem.run_bind, hrun]; rfl, .inl rfl, h9, .sliceAt _ _ _ _ hd hle', h10⟩
          | more s2 =>
            simp only at h2
            split at h2
            · simp only [Option.some.injEq] at h2; subst h2
              have hnew0 : ∀ X : Value, (Builtin.lenOf x').run P w = .ok 0 w → (∃ A, ∃ c, s' = .slice (some A) sLen c ∧ sLen ≤ c) := by
                intro X _
                cases hsv with
                | slice b o _ c _ hd hnc hf => exact ⟨_, _, rfl, hnc⟩
                | sliceEnd p A c _ => exact ⟨_, _, rfl, Nat.zero_le _⟩
              obtain ⟨A, c, hse, hnc⟩ := hnew0 .nilFunc hnr
              subst hse
              have hfc : (Builtin.firstCells size 0 x').run P w = .ok #[] w := first0 hxv hn
              have hrun := run_append_in (P := P) (ty := ty) (base := some A) hs hx hsu hxu hxi hz hnr (by omega : sLen + 0 ≤ c) hfc
              have hst : (storeCells (A.add (sLen * size)) (#[] : Array Value).toList).run P w = .ok () w := rfl
              simp only [hst, Result.andThen_ok] at hrun
              exact ⟨_, _, w, D, ρ, by simp only [Sem.run_bind, hrun]; rfl, .inl rfl, hr, hsv, Stp.refl _ _ _ _⟩
            · rename_i n0 b
              cases hs2 : Nat.beq s2 size
              · rw [hs2] at h2; simp at h2
              rw [hs2] at h2
              have hs2' : s2 = size := Nat.eq_of_beq_eq_true hs2
              subst hs2'
              simp only [cond_true] at h2
              unfold appendOn at h2
              split at h2
              · rename_i cs e' fz hg
                cases hcc : (Nat.ble WB b && Nat.blt 0 sLen && Nat.beq (lenR cs) (sLen * s2) && Nat.beq e' e && fzOk fz (sLen * s2))
                · rw [hcc] at h2; simp at h2
                rw [hcc] at h2
                simp only [Bool.and_eq_true, lenR_eq, Nat.blt_eq] at hcc
                obtain ⟨⟨⟨⟨hwb, hpos⟩, hcl⟩, hee⟩, hfz⟩ := hcc
                have hwb' := Nat.le_of_ble_eq_true hwb
                have hcl' : cs.length = sLen * s2 := Nat.eq_of_beq_eq_true hcl
                have hee' : e' = e := Nat.eq_of_beq_eq_true hee
                subst hee'
                simp only [cond_true] at h2
                obtain ⟨new, new', h3, h4, h5, h6⟩ := srcE_ok (P := P) hr hxv hn (Nat.le_refl _) h2
                cases hone : new.all AV.one
                · rw [hone] at h5; simp at h5
                rw [hone] at h5
                simp only [cond_true] at h5
                rw [appK_eq, Tr.setK_set, newE_eq] at h5
                simp only [Option.some.injEq] at h5
                cases hsv with
                | sliceEnd => omega
                | slice _ _ _ c _ hd hnc hfit =>
                  by_cases hle : sLen + (n0 + 1) ≤ c
                  · -- the old block goes on
                    obtain ⟨cs', f, x1, y1, h7, h8, h9, h10⟩ := hr.block hg
                    obtain ⟨e2, N, h11, h12⟩ := hfit
                    have hN : N = cs'.size := by
                      have := shape_obj h7
                      rw [h11] at this
                      simp [Obj.shp] at this
                      exact this.2
                    have hnl := h4.length
                    have h6' : new.length = (n0 + 1) * s2 := h6
                    have hroom : sLen * s2 + (n0 + 1) * s2 ≤ cs'.size := by
                      have : (sLen + (n0 + 1)) * s2 ≤ c * s2 := Nat.mul_le_mul_right _ hle
                      rw [Nat.add_mul] at this
                      omega
                    obtain ⟨c', h13, h14⟩ := run_storeCells (P := P) (off := sLen * s2) new'.toList 0 cs' w h7 (by omega)
                      (ones h4 (fun v hv => List.all_eq_true.1 hone v hv)) (fz_range h10 (by simpa using hfz))
                    have hxl : x1.length = sLen * s2 := by rw [← h9.length]; exact hcl'
                    have hyl : new'.toList.length ≤ y1.length := by
                      have : cs'.toList.length = (x1 ++ y1).length := by rw [h8]
                      simp only [Array.length_toList, List.length_append] at this
                      omega
                    have hc' : c'.toList = (x1 ++ new'.toList) ++ y1.drop new'.toList.length := by
                      rw [h14, h8]
                      simp only [Nat.add_zero]
                      rw [← hxl, List.take_left', List.drop_append]
                      · simp
                      · rfl
                    have hcs : c'.size = cs'.size := by
                      have h15 : c'.toList.length = ((x1 ++ new'.toList) ++ y1.drop new'.toList.length).length := by rw [hc']
                      have h16 : cs'.toList.length = (x1 ++ y1).length := by rw [h8]
                      simp only [Array.length_toList, List.length_append, List.length_drop] at h15 h16 hyl
                      omega
                    have hor : OR D ρ w.shape? (.cells (cs ++ new) e' fz) (.cells c' e' f) :=
                      .cells _ _ _ _ _ (x1 ++ new'.toList) (y1.drop new'.toList.length) hc' (h9.app h4) (hcs ▸ h10)
                    have hf1 : Free D H.next (H.next + 1) := by rw [← h5] at hf; exact hf
                    obtain ⟨h15, h16⟩ := move_hr hr hf1 hg hwb' h7 (by simp [Obj.shp, hcs]) hor
                    have hrun := run_append_in (P := P) (ty := ty) (base := some ⟨ρ b, 0, none⟩) hs hx hsu hxu hxi hz hnr hle (h3 w.drawn)
                    have hadd : (⟨ρ b, 0, none⟩ : Addr).add (sLen * s2) = ⟨ρ b, sLen * s2, none⟩ := by rw [add_zero' _ _ rfl]; simp
                    have h13' : (storeCells ⟨ρ b, sLen * s2, none⟩ new'.toList).run P w = .ok () (put w (ρ b) (.cells c' e' f)) := h13
                    simp only [hadd, h13', Result.andThen_ok] at hrun
                    rw [← h5]
                    refine ⟨_, _, _, _, _, by simp only [Sem.run_bind, hrun]; rfl, .inl rfl, h15, ?_, h16⟩
                    have := VR.slice (D := ext D H.next) (ρ := upd ρ H.next (ρ b)) (sh := (put w (ρ b) (.cells c' e' f)).shape?) H.next 0 (sLen + (n0 + 1)) c s2 (.inr rfl) hle ⟨e2, N, by
                      simp only [upd, if_true]
                      rw [put_shape h7 (by simp [Obj.shp, hcs])]
                      exact h11, by omega⟩
                    simpa [upd] using this
                  · obtain ⟨hd1, hd2⟩ := drop_hr hr b
                    have hoc : objCells H b = some cs := by simp [objCells, hg]
                    obtain ⟨l', h7, h8⟩ := cellsAt_any (P := P) (n := sLen * s2) hr hoc (o := 0) rfl (by simp [hcl'])
                    have htk : (cs.drop 0).take (sLen * s2) = cs := by rw [List.drop_zero, ← hcl', List.take_length]
                    rw [htk] at h8
                    exact fresh (some ⟨ρ b, 0, none⟩) c ⟨H.m.set b none, H.next⟩ cs new l'.toArray new' fz rfl hle ⟨hd1, hd2⟩ rfl
                      (fun d => by simp only [Builtin.firstCells]; exact h7 d) h3 (by simpa using h8) h4 hcl' h6 h5.symm
              · cases h2
            · cases h2
        · cases h
      · cases h
    · rw [hxi] at h; simp at h
  · cases h
end
end Go.Ev

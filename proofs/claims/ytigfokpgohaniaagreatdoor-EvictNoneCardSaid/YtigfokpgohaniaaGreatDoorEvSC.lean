/- The plain evaluator is sound: copies, maps, iterators. -/
import Derived.Test.YtigfokpgohaniaaGreatDoorEvSB
namespace Go.Ev
open Go

section
variable {P : Program} {B WB : Nat}
variable {D : Nat → Prop} {ρ : Nat → Nat} {w : World} {nt : Nat} {H : AH}

theorem copyE_ok (hr : HR B WB D ρ H w) {ts : Array TypeId} {ty dT : TypeId} {d s : AV} {d' s' : Value} {r : AV × AH} (hs : ts[0]? = some dT)
    (hdv : VR D ρ w.shape? d d') (hsv : VR D ρ w.shape? s s') (h : (copyE P WB dT).f H d s = some r) :
    YldC P B WB D ρ H w (do pure (.value (← Builtin.copy_ ts ty #[d', s']))) r := by
  unfold copyE at h
  split at h
  · rename_i e hu
    split at h
    · rename_i size hz
      rw [natK_eq] at h
      have h0 : copyG WB size H d s = some r := h
      unfold copyG at h0
      split at h0
      · rename_i base dLen cap
        obtain ⟨sLen, hn, h2⟩ := bindO_some_iff.1 h0
        rw [natK_eq] at h2
        obtain ⟨new, new', h3, h4, h5, h6⟩ := srcE_ok (P := P) hr hsv hn (Nat.min_le_left sLen dLen) h2
        have hnr := lenOfE_ok (P := P) hsv hn
        have hnew := h3 w.drawn
        rw [atD_self] at hnew
        have hrun : ∀ (base' : Option Addr) (c : Nat) (w' : World), (match base' with | some a => (storeCells a new'.toList).run P w | none => .ok () w) = .ok () w' →
            (Builtin.copy_ ts ty #[.slice base' dLen c, s']).run P w = .ok (.int .i64 (.ofNat (Nat.min sLen dLen))) w' := by
          intro base' c w' hst
          have h0' : (#[Value.slice base' dLen c, s'] : Array Value)[0]? = some (.slice base' dLen c) := rfl
          have h1' : (#[Value.slice base' dLen c, s'] : Array Value)[1]? = some s' := rfl
          unfold Builtin.copy_
          rw [hs, h0', h1']
          dsimp only
          rw [Sem.run_bind, run_underlying hu]
          simp only [Result.andThen_ok]
          rw [Sem.run_bind, hnr]
          simp only [Result.andThen_ok]
          rw [Sem.run_bind, run_szO hz]
          simp only [Result.andThen_ok]
          rw [Sem.run_bind, hnew]
          simp only [Result.andThen_ok]
          cases base' with
          | none => simp only [Result.ok.injEq] at hst; rw [← hst.2]; rfl
          | some a => simp only at hst ⊢; rw [Sem.run_bind, hst]; rfl
        cases base with
        | none =>
          simp only [Option.some.injEq] at h5; subst h5
          cases hdv with | sliceNil _ c =>
          exact ⟨_, _, w, D, ρ, by simp only [Sem.run_bind, hrun none c w rfl]; rfl, .inl rfl, hr, .int _ _, Stp.refl _ _ _ _⟩
        | some bo =>
          obtain ⟨b, o⟩ := bo
          simp only at h5
          by_cases hnil : new = []
          · subst hnil
            have hn' : new'.toList = [] := by cases hc : new'.toList with
              | nil => rfl
              | cons a l => rw [hc] at h4; cases h4
            simp only [writeE, Option.some.injEq] at h5; subst h5
            have : ∀ A : Addr, (storeCells A new'.toList).run P w = .ok () w := fun A => by rw [hn']; rfl
            cases hdv with
            | sliceAt _ _ _ c _ _ => exact ⟨_, _, w, D, ρ, by simp only [Sem.run_bind, hrun (some _) c w (this _)]; rfl, .inl rfl, hr, .int _ _, Stp.refl _ _ _ _⟩
            | slice _ _ _ c _ _ _ _ => exact ⟨_, _, w, D, ρ, by simp only [Sem.run_bind, hrun (some _) c w (this _)]; rfl, .inl rfl, hr, .int _ _, Stp.refl _ _ _ _⟩
            | sliceEnd _ A c _ => exact ⟨_, _, w, D, ρ, by simp only [Sem.run_bind, hrun (some _) c w (this _)]; rfl, .inl rfl, hr, .int _ _, Stp.refl _ _ _ _⟩
          · obtain ⟨H', w', h7, h8, h9, h10, h11⟩ := write_ok (P := P) hr h4 h5
            simp only [Option.some.injEq] at h8; subst h8
            cases hdv with
            | sliceAt _ _ _ c _ _ => exact ⟨_, _, w', D, ρ, by simp only [Sem.run_bind, hrun (some _) c w' h7]; rfl, .inl rfl, h9, .int _ _, h10⟩
            | slice _ _ _ c _ _ _ _ => exact ⟨_, _, w', D, ρ, by simp only [Sem.run_bind, hrun (some _) c w' h7]; rfl, .inl rfl, h9, .int _ _, h10⟩
            | sliceEnd _ A c _ =>
              exfalso
              have : min sLen 0 = 0 := Nat.min_zero sLen
              rw [this] at h6
              simp at h6
              exact hnil h6
      · cases h0
    · cases h
  · cases h

/-! Maps. -/
theorem run_setObj {r : Nat} {o o0 : Obj} (h : w.heap[r]? = some o0) (hc : Obj.shp o0 = none) : (setObj r o).run P w = .ok () (put w r o) := by
  cases o0 <;> first | (simp [Obj.shp] at hc; done) | simp [setObj, Sem.run, h, put]

theorem setObjE_iff {r : Nat} {o : AObj} {k : AH → Res} {x : AV × AH} (h : setObjE WB H r o k = some x) : WB ≤ r ∧ k ⟨H.m.set r (some o), H.next⟩ = some x := by
  unfold setObjE at h
  cases hb : Nat.ble WB r
  · rw [hb] at h; simp at h
  · rw [hb] at h
    rw [cond_true, Tr.setK_set] at h
    exact ⟨Nat.le_of_ble_eq_true hb, h⟩

theorem ERL.push {sh : Nat → Option (TypeId × Nat)} {k v : AV} {k' v' : Value} {s : Nat} (hk : VR D ρ sh k k') (hv : VR D ρ sh v v') : ∀ {l : List (AV × AV × Nat)} {l' : List MapEntry},
    ERL D ρ sh l l' → ERL D ρ sh (l ++ [(k, v, s)]) (l' ++ [⟨k', v', s⟩])
  | _, _, .nil => .cons _ _ _ _ _ _ _ hk hv .nil
  | _, _, .cons a b c a' b' l l' h1 h2 h => .cons a b c a' b' _ _ h1 h2 (h.push hk hv)

theorem ERL.putAt {sh : Nat → Option (TypeId × Nat)} {k v : AV} {k' v' : Value} (hk : VR D ρ sh k k') (hv : VR D ρ sh v v') : ∀ {l : List (AV × AV × Nat)} {l' : List MapEntry} (i : Nat),
    ERL D ρ sh l l' → ERL D ρ sh (putAt k v l i) (l'.modify i fun e => { e with key := k', val := v' })
  | _, _, i, .nil => by simpa [Ev.putAt] using ERL.nil
  | _, _, 0, .cons a b c a' b' l l' h1 h2 h => by
    simp only [Ev.putAt, List.modify_zero_cons]
    exact .cons _ _ _ _ _ _ _ hk hv h
  | _, _, i + 1, .cons a b c a' b' l l' h1 h2 h => by
    simp only [Ev.putAt, List.modify_succ_cons]
    exact .cons _ _ _ _ _ _ _ h1 h2 (h.putAt hk hv i)

theorem ERL.eraseIdx {sh : Nat → Option (TypeId × Nat)} : ∀ {l : List (AV × AV × Nat)} {l' : List MapEntry} (i : Nat), ERL D ρ sh l l' → ERL D ρ sh (l.eraseIdx i) (l'.eraseIdx i)
  | _, _, i, .nil => by simpa using ERL.nil
  | _, _, 0, .cons a b c a' b' l l' h1 h2 h => by simpa using h
  | _, _, i + 1, .cons a b c a' b' l l' h1 h2 h => by
    simp only [List.eraseIdx_cons_succ]
    exact .cons _ _ _ _ _ _ _ h1 h2 (h.eraseIdx i)

theorem sameBits_of {d : TypeDesc} {a b : Value} (h : Instr.sameNow d a b = some true) : Instr.sameBits 10000 b a = true := by
  unfold Instr.sameNow at h
  split at h
  · split at h
    · rename_i hk
      simp only [Option.some.injEq, beq_iff_eq] at h
      subst hk; subst h
      simp [Instr.sameBits]
    · cases h
  · rename_i a b
    simp only [Option.some.injEq] at h
    have e : a = b := by
      rw [beq_toListBytes, ByteArray.toList_eq, ByteArray.toList_eq, beq_iff_eq] at h
      exact ByteArray.ext (Array.ext' h)
    subst e
    simp only [Instr.sameBits]
    rw [beq_toListBytes, beq_iff_eq]
  · simp only [Option.some.injEq, beq_iff_eq] at h
    subst h
    simp [Instr.sameBits]
  · cases h

theorem mapUpdateE_ok (hr : HR B WB D ρ H w) {t : TypeId} {m k v : AV} {m' k' v' : Value} {r : AV × AH} (hm : VR D ρ w.shape? m m') (hk : VR D ρ w.shape? k k') (hv : VR D ρ w.shape? v v')
    (h : mapUpdateE P WB t H m k v = some r) : YldC P B WB D ρ H w (do Instr.mapUpdate t m' k' v'; pure .skip) r := by
  unfold mapUpdateE at h
  split at h
  · rename_i kt et b hu
    cases hkk : keyKind P kt k
    · rw [hkk] at h; simp at h
    · rw [hkk] at h
      simp only [cond_true] at h
      split at h
      · rename_i es clock hg
        obtain ⟨at', h1, h2⟩ := bindO_some_iff.1 h
        cases hm
        obtain ⟨d, hd⟩ := keyKind_under hkk
        obtain ⟨r0, h3, h4⟩ := hr.obj _ _ hg
        cases h4 with | map _ _ es' h5 =>
        obtain ⟨r', h6, h7⟩ := findE_ok hd hkk hk es es'.toList 0 at' h5 h1
        rcases h7 with ⟨rfl, rfl⟩ | ⟨j, u, u', q, rfl, rfl, h8, _, h9, h10, h11⟩
        · simp only [mapPut, appK_eq, natK_eq] at h2
          obtain ⟨hwb, h12⟩ := setObjE_iff h2
          simp only [Option.some.injEq] at h12; subst h12
          obtain ⟨h13, h14⟩ := put_hr hr hg hwb h3 (r := .map (es'.push { key := k', val := v', born := clock }) (clock + 1)) rfl (.map _ _ _ (by simpa using h5.push hk hv))
          refine ⟨.skip, undef, _, D, ρ, ?_, .inr ⟨rfl, rfl⟩, h13, vr_undef, h14⟩
          simp only [Instr.mapUpdate, Sem.run_bind, run_underlying hu, Result.andThen_ok, run_getMap h3, run_checkKey hkk hk, run_findKey hd h6]
          rw [run_setObj h3 rfl]
          rfl
        · simp only [mapPut, wholeK_eq] at h2
          obtain ⟨hwb, h12⟩ := setObjE_iff h2
          simp only [Option.some.injEq] at h12; subst h12
          have hkey : ((es'[j]?).map (·.key)).getD k' = q := by
            have : es'[j]?.map (·.key) = some q := by simpa using h10
            rw [this]; rfl
          have hlist : (es'.modify j fun e => { e with key := k', val := v' }).toList = es'.toList.modify j fun e => { e with key := k', val := v' } := Array.toList_modify
          obtain ⟨h13, h14⟩ := put_hr hr hg hwb h3 (r := .map (es'.modify j fun e => { e with key := k', val := v' }) clock) rfl (.map _ _ _ (by rw [hlist]; exact h5.putAt hk hv j))
          refine ⟨.skip, undef, _, D, ρ, ?_, .inr ⟨rfl, rfl⟩, h13, vr_undef, h14⟩
          simp only [Instr.mapUpdate, Sem.run_bind, run_underlying hu, Result.andThen_ok, run_getMap h3, run_checkKey hkk hk, run_findKey hd h6, Instr.keyThatStays, hkey, sameBits_of h11, if_true, Sem.run_pure]
          rw [run_setObj h3 rfl]
          rfl
      · cases h
  · cases h

theorem deleteE_ok (hr : HR B WB D ρ H w) {ts : Array TypeId} {ty t : TypeId} {m k : AV} {m' k' : Value} {r : AV × AH} (hs : ts[0]? = some t) (hm : VR D ρ w.shape? m m') (hk : VR D ρ w.shape? k k')
    (h : deleteE P WB t H m k = some r) : YldC P B WB D ρ H w (do pure (.value (← Builtin.delete_ ts ty #[m', k']))) r := by
  have h0 : (#[m', k'] : Array Value)[0]? = some m' := rfl
  have h1' : (#[m', k'] : Array Value)[1]? = some k' := rfl
  unfold deleteE at h
  split at h
  · rename_i kt et hu
    cases hkk : keyKind P kt k
    · rw [hkk] at h; simp at h
    · rw [hkk] at h
      simp only [cond_true, Option.some.injEq] at h; subst h
      cases hm
      refine ⟨.value (.tuple #[]), _, w, D, ρ, ?_, .inl rfl, hr, .tup [] #[] .nil, Stp.refl _ _ _ _⟩
      unfold Builtin.delete_
      rw [hs, h0, h1']
      simp only [Sem.run_bind, run_underlying hu, Result.andThen_ok, run_checkKey hkk hk, Sem.run_pure]
  · rename_i kt et b hu
    cases hkk : keyKind P kt k
    · rw [hkk] at h; simp at h
    · rw [hkk] at h
      simp only [cond_true] at h
      split at h
      · rename_i es clock hg
        obtain ⟨at', h1, h2⟩ := bindO_some_iff.1 h
        cases hm
        obtain ⟨d, hd⟩ := keyKind_under hkk
        obtain ⟨r0, h3, h4⟩ := hr.obj _ _ hg
        cases h4 with | map _ _ es' h5 =>
        obtain ⟨r', h6, h7⟩ := findE_ok hd hkk hk es es'.toList 0 at' h5 h1
        rcases h7 with ⟨rfl, rfl⟩ | ⟨j, u, u', q, rfl, rfl, h8, _, h9, h10, h11⟩
        · simp only [mapDrop] at h2
          obtain ⟨hwb, h12⟩ := setObjE_iff h2
          simp only [Option.some.injEq] at h12; subst h12
          obtain ⟨h13, h14⟩ := put_hr hr hg hwb h3 (r := .map es' clock) rfl (.map _ _ _ h5)
          refine ⟨.value (.tuple #[]), _, _, D, ρ, ?_, .inl rfl, h13, .tup [] #[] .nil, h14⟩
          unfold Builtin.delete_
          rw [hs, h0, h1']
          simp only [Sem.run_bind, run_underlying hu, Result.andThen_ok, run_checkKey hkk hk, run_getMap h3, run_findKey hd h6]
          rw [run_setObj h3 rfl]
          rfl
        · simp only [mapDrop, wholeK_eq] at h2
          obtain ⟨hwb, h12⟩ := setObjE_iff h2
          simp only [Option.some.injEq] at h12; subst h12
          have hlist : (es'.eraseIdxIfInBounds j).toList = es'.toList.eraseIdx j := by simp
          obtain ⟨h13, h14⟩ := put_hr hr hg hwb h3 (r := .map (es'.eraseIdxIfInBounds j) clock) rfl (.map _ _ _ (by rw [hlist]; exact h5.eraseIdx j))
          refine ⟨.value (.tuple #[]), _, _, D, ρ, ?_, .inl rfl, h13, .tup [] #[] .nil, h14⟩
          unfold Builtin.delete_
          rw [hs, h0, h1']
          simp only [Sem.run_bind, run_underlying hu, Result.andThen_ok, run_checkKey hkk hk, run_getMap h3, run_findKey hd h6]
          rw [run_setObj h3 rfl]
          rfl
      · cases h
  · cases h

/-! Iterators. -/
theorem rangeE_ok (hr : HR B WB D ρ H w) {t : TypeId} {x : AV} {x' : Value} {r : AV × AH} (hx : VR D ρ w.shape? x x') (h : rangeE P t H x = some r) (hf : Free D H.next r.2.next) :
    YldC P B WB D ρ H w (do pure (.value (← Instr.range t x'))) r := by
  have fin : ∀ (o : AObj) (q : Obj), OR D ρ w.shape? o q → r = (.ptr (some (H.next, 0)), ⟨H.m.set H.next (some o), H.next + 1⟩) →
      (Instr.range t x').run P w = .ok (.pointer (some ⟨w.heap.size, 0, none⟩)) (w.alloc q) → YldC P B WB D ρ H w (do pure (.value (← Instr.range t x'))) r := by
    intro o q ho hre hrun
    subst hre
    obtain ⟨h1, h2⟩ := alloc_hr hr hf (w' := w.alloc q) ⟨rfl, rfl, rfl, rfl⟩ ho
    exact ⟨_, _, _, _, _, by simp only [Sem.run_bind, hrun]; rfl, .inl rfl, h1, vr_ptr, h2⟩
  unfold rangeE at h
  split at h
  · rename_i s hu
    rw [newE_eq] at h
    simp only [Option.some.injEq] at h
    cases hx
    exact fin _ _ (.siter s 0) h.symm (by simp [Instr.range, run_underlying hu])
  · rename_i kt et hu
    rw [newE_eq] at h
    simp only [Option.some.injEq] at h
    cases hx
    exact fin _ _ (.miterNil 0 [] 0) h.symm (by simp [Instr.range, run_underlying hu])
  · rename_i kt et m hu
    split at h
    · rename_i es clock hg
      rw [newE_eq] at h
      simp only [Option.some.injEq] at h
      cases hx
      obtain ⟨r0, h3, h4⟩ := hr.obj _ _ hg
      cases h4 with | map _ _ es' h5 =>
      exact fin _ _ (.miter m clock [] clock (hr.dom m ⟨_, hg⟩)) h.symm (by simp [Instr.range, run_underlying hu, run_getMap h3])
    · cases h
  · cases h
end
end Go.Ev

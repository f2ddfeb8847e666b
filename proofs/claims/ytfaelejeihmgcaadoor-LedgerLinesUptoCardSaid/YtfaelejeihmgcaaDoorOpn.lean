/-
  How an argument's data read as the printed contracts read them (Kd.K): by kinds: numbers, bools, strings, slices, structs; with a measure of what was read.
-/
import Derived.Test.YtfaelejeihmgcaaDoorWWords
import Derived.Test.YtfaelejeihmgcaaDoorRows
import Derived.Test.YtfaelejeihmgcaaDoorProg
import Derived.ChangeArms
import Derived.DataReads
import Derived.DataElems
namespace Go.Proofs.YtfaelejeihmgcaaDoor.Opn
open Go.RowKit Go.Proofs.YtfaelejeihmgcaaDoorW.PrintWords Go.Proofs.YtfaelejeihmgcaaDoor.Rows

/-- Data of type t read as the kind d; 'fit N x' holds of what was read at bulk N. -/
structure Opn {α : Type} (d : Kd α) (t : TypeId) (fit : Nat → α → Prop) : Prop where
  sz : Tryd.prog.cellsOf t = d.sz
  mono : ∀ {N N' : Nat} {x : α}, N ≤ N' → fit N x → fit N' x
  opn : ∀ {H : Type} {enc : TypeId × Value → H} {W : World} {n : Nat} {cs : List Value} {D : DataW H} {ps : List MemPlace},
    DataW.trod enc Tryd.prog W 0 (fun _ => true) true n t cs = some (D, ps) → ∃ x, d.K W x cs ∧ fit (uptoBulk D) x

theorem bulk_pos {H : Type} (D : DataW H) : 1 ≤ uptoBulk D := by
  cases D with
  | lit l => cases l <;> simp [uptoBulk]
  | _ => simp [uptoBulk]
theorem bulk_all {H : Type} : ∀ (l : List (DataW H)) (i : Nat) (D : DataW H), l[i]? = some D → uptoBulk D ≤ uptoBulkAll l
  | [], i, D, h => by simp at h
  | x :: l, 0, D, h => by
    simp at h
    subst h
    simp [uptoBulkAll]
  | x :: l, i + 1, D, h => by
    have := bulk_all l i D (by simpa using h)
    simp [uptoBulkAll]
    omega
theorem bulk_len {H : Type} : ∀ (l : List (DataW H)), l.length ≤ uptoBulkAll l
  | [] => Nat.le_refl _
  | x :: l => by
    have := bulk_len l
    have := bulk_pos x
    simp [uptoBulkAll]
    omega
theorem bulk_app {H : Type} : ∀ (l l' : List (DataW H)), uptoBulkAll (l ++ l') = uptoBulkAll l + uptoBulkAll l'
  | [], l' => by simp [uptoBulkAll]
  | x :: l, l' => by
    rw [List.cons_append, uptoBulkAll, uptoBulkAll, bulk_app l l']
    omega

theorem int {t : TypeId} {k : IntKind} (ht : Tryd.prog.underlying t = some (.int k)) (hs : Tryd.prog.cellsOf t = 1) : Opn (Kd.int k) t (fun _ n => (Lit.int k n).wf = true) := by
  refine ⟨hs, fun _ h => h, fun {H enc W n cs D ps} h => ?_⟩
  obtain ⟨a, rfl, _, hw⟩ := DataW.trod_int ht h
  exact ⟨a, rfl, hw⟩

theorem bool {t : TypeId} (ht : Tryd.prog.underlying t = some .bool) (hs : Tryd.prog.cellsOf t = 1) : Opn Kd.bool t (fun _ _ => True) := by
  refine ⟨hs, fun _ h => h, fun {H enc W n cs D ps} h => ?_⟩
  obtain ⟨b, rfl, _⟩ := DataW.trod_bool ht h
  exact ⟨b, rfl, trivial⟩

theorem string {t : TypeId} (ht : Tryd.prog.underlying t = some .string) (hs : Tryd.prog.cellsOf t = 1) : Opn Kd.string t (fun N s => s.size ≤ N ∧ s.size ≤ maxLen) := by
  refine ⟨hs, fun h h' => ⟨Nat.le_trans h'.1 h, h'.2⟩, fun {H enc W n cs D ps} h => ?_⟩
  obtain ⟨s, rfl, hx, hm⟩ := DataW.trod_string ht h
  simp only [Prod.mk.injEq] at hx
  obtain ⟨rfl, _⟩ := hx
  refine ⟨s, rfl, ?_, hm⟩
  simp only [uptoBulk, Array.length_toList]
  exact Nat.le_succ _

theorem slice {α : Type} {d : Kd α} {e t : TypeId} {fit : Nat → α → Prop} (o : Opn d e fit) (ht : Tryd.prog.underlying t = some (.slice e)) (hs : Tryd.prog.cellsOf t = 1) :
    Opn (Kd.slice e d) t (fun N xs => xs.length ≤ N ∧ ∀ x ∈ xs, fit N x) := by
  refine ⟨hs, fun h h' => ⟨Nat.le_trans h'.1 h, fun x hx => o.mono h (h'.2 x hx)⟩, fun {H enc W n cs D ps} h => ?_⟩
  rcases DataW.trod_slice ht h with ⟨rfl, _⟩ | ⟨a, len, cap, elems, rest, m, rfl, rfl, hx, _, hle, hmx, hlen, hel, _, _⟩
  · exact ⟨[], ⟨none, 0, rfl, Nat.le_refl _, rfl, by simp, fun hn => absurd hn (by simp)⟩, Nat.zero_le _, fun x hx => by simp at hx⟩
  · simp only [Prod.mk.injEq] at hx
    obtain ⟨rfl, _⟩ := hx
    have each : ∀ i : Fin len, ∃ x c, c.length = d.sz ∧ d.K W x c ∧ (∀ q u, c[q]? = some u → W.cell? (a.add (i.val * d.sz + q)) = some u) ∧ fit (uptoBulkAll (elems.map (·.1))) x := by
      intro i
      have h1 := hel i.val i.isLt
      rw [List.getElem?_eq_getElem (by rw [hlen]; exact i.isLt)] at h1
      obtain ⟨c, hc, hy⟩ := Option.bind_eq_some_iff.1 h1
      obtain ⟨x, hK, hf⟩ := o.opn (D := (elems[i.val]'(by rw [hlen]; exact i.isLt)).1) (ps := (elems[i.val]'(by rw [hlen]; exact i.isLt)).2) hy
      obtain ⟨_, hcl, hcell⟩ := World.cells?_some hc
      rw [o.sz] at hcl hcell
      refine ⟨x, c, hcl, hK, fun q u hq => ?_, o.mono (bulk_all _ i.val (elems[i.val]'(by rw [hlen]; exact i.isLt)).1 (by rw [List.getElem?_map, List.getElem?_eq_getElem (by rw [hlen]; exact i.isLt)]; rfl)) hf⟩
      have hql := (List.getElem?_eq_some_iff.1 hq).1
      rw [← hq, ← hcell q (by omega)]
      rw [Addr.add_add]
    refine ⟨List.ofFn fun i : Fin len => Classical.choose (each i), ⟨some a, cap, by rw [List.length_ofFn], by rw [List.length_ofFn]; exact hle, rfl, by rw [List.length_ofFn]; unfold maxLen at hmx; omega, fun _ => ⟨a, rfl, fun j p hj => ?_⟩⟩, ?_, fun x hx => ?_⟩
    · obtain ⟨hjl, hjp⟩ := List.getElem?_eq_some_iff.1 hj
      rw [List.length_ofFn] at hjl
      rw [List.getElem_ofFn] at hjp
      obtain ⟨c, h1, h2, h3, _⟩ := Classical.choose_spec (each ⟨j, hjl⟩)
      rw [hjp] at h2
      exact ⟨c, h1, h2, h3⟩
    · rw [List.length_ofFn, ← hlen]
      have := bulk_len (elems.map (·.1))
      rw [List.length_map] at this
      simp only [uptoBulk]
      omega
    · obtain ⟨i, rfl⟩ := List.mem_ofFn.1 hx
      obtain ⟨c, _, _, _, h4⟩ := Classical.choose_spec (each i)
      exact o.mono (by simp only [uptoBulk]; omega) h4

/-- The fields of a struct from an offset on. -/
structure OpnF {α : Type} (d : Kd α) (fs : List Field) (off : Nat) (fit : Nat → α → Prop) : Prop where
  mono : ∀ {N N' : Nat} {x : α}, N ≤ N' → fit N x → fit N' x
  opn : ∀ {H : Type} {enc : TypeId × Value → H} {W : World} {n : Nat} {cs : List Value} {xs : List (DataW H × List MemPlace)}, xs.length = fs.length →
    (∀ (i : Nat) (f : Field), fs[i]? = some f → DataW.trod enc Tryd.prog W 0 (fun _ => true) true n f.type ((cs.drop f.offset).take (Tryd.prog.cellsOf f.type)) = xs[i]?) →
    ∃ x, d.K W x ((cs.drop off).take d.sz) ∧ fit (uptoBulkAll (xs.map (·.1))) x

theorem OpnF.one {α : Type} {d : Kd α} {f : Field} {t off : Nat} {fit : Nat → α → Prop} (o : Opn d t fit) (ht : f.type = t) (ho : f.offset = off) : OpnF d [f] off fit := by
  subst ht
  refine ⟨o.mono, fun {H enc W n cs xs} hl h => ?_⟩
  obtain ⟨y, rfl⟩ : ∃ y, xs = [y] := by
    match xs, hl with
    | [y], _ => exact ⟨y, rfl⟩
  have h0 := h 0 f rfl
  rw [ho, o.sz] at h0
  obtain ⟨x, hK, hf⟩ := o.opn (D := y.1) (ps := y.2) h0
  exact ⟨x, hK, o.mono (bulk_all _ 0 _ rfl) hf⟩

theorem OpnF.cons {α β : Type} {a : Kd α} {b : Kd β} {f : Field} {fs : List Field} {t off : Nat} {fa : Nat → α → Prop} {fb : Nat → β → Prop} (o : Opn a t fa) (ht : f.type = t) (ho : f.offset = off) (os : OpnF b fs (off + a.sz) fb) :
    OpnF (Kd.pair a b) (f :: fs) off (fun N x => fa N x.1 ∧ fb N x.2) := by
  subst ht
  refine ⟨fun hN h => ⟨o.mono hN h.1, os.mono hN h.2⟩, fun {H enc W n cs xs} hl h => ?_⟩
  match xs, hl with
  | y :: xs, hl =>
    have h0 := h 0 f rfl
    rw [ho, o.sz] at h0
    obtain ⟨x, hK, hf⟩ := o.opn (D := y.1) (ps := y.2) h0
    obtain ⟨x', hK', hf'⟩ := os.opn (cs := cs) (xs := xs) (by simpa using hl) (fun i g hg => h (i + 1) g (by simpa using hg))
    refine ⟨(x, x'), ⟨_, _, ?_, hK, hK'⟩, o.mono (bulk_all _ 0 _ rfl) hf, os.mono (by simp [uptoBulkAll]) hf'⟩
    show (cs.drop off).take (a.sz + b.sz) = _
    rw [List.take_add, List.drop_drop]

theorem struct {α β : Type} {d : Kd α} {proj : β → α} {t : TypeId} {fs : Array Field} {fit : Nat → α → Prop} (os : OpnF d fs.toList 0 fit) (ht : Tryd.prog.underlying t = some (.struct fs)) (hs : Tryd.prog.cellsOf t = d.sz)
    (mk : α → β) (hm : ∀ y, proj (mk y) = y) : Opn (Kd.iso d proj) t (fun N x => fit N (proj x)) := by
  refine ⟨hs, fun h h' => os.mono h h', fun {H enc W n cs D ps} h => ?_⟩
  obtain ⟨xs, m, rfl, hx, hl, hxl, he⟩ := DataW.trod_struct ht h
  simp only [Prod.mk.injEq] at hx
  obtain ⟨rfl, _⟩ := hx
  obtain ⟨y, hK, hf⟩ := os.opn (cs := cs) (xs := xs) (by simpa using hxl) (fun i f hi => he i f (by simpa using hi))
  rw [List.drop_zero, ← hs, ← hl, List.take_length] at hK
  refine ⟨mk y, ?_, ?_⟩
  · show d.K W (proj (mk y)) cs
    rw [hm]
    exact hK
  · rw [hm]
    exact os.mono (by simp only [uptoBulk]; omega) hf

end Go.Proofs.YtfaelejeihmgcaaDoor.Opn

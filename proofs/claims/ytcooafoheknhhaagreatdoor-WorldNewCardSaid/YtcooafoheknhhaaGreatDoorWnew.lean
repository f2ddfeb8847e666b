/- world.New, Up, Contents, Image and Play's refusing, by hand. -/
import Derived.Test.YtcooafoheknhhaaGreatDoorFnew
namespace Go.Proofs.YtcooafoheknhhaaGreatDoor.Pgm
open Go Go.RowKit Go.Proofs.YtcooafoheknhhaaGreatDoorW.PrintWords Go.Proofs.YtcooafoheknhhaaGreatDoorW.PrintLast Go.Proofs.YtcooafoheknhhaaGreatDoorW.PrintMore

set_option maxHeartbeats 2000000 in
set_option maxRecDepth 100000 in
theorem wNew_bad (p q r : Int) (s : ByteArray) (w : World) (h : rightB p q r = false ∨ sizeB p q r < (s.size : Int)) :
    Calls Tryz.prog 37 #[.agg #[.int .i64 p, .int .i64 q, .int .i64 r], .string s] w fun e w' => e = .returned (.tuple #[.pointer none, .int .i64 1]) ∧ Below w.heap.size w w' := by
  go_enter Tryz.func37, Tryz.ntmps37
  have hk1 : (w.alloc (gBox p q r)).heap[w.heap.size]? = some (gBox p q r) := heap_alloc_new w _
  obtain ⟨k0, k1, k2⟩ := gBox_cells hk1
  simp only [gBox] at k0 k1 k2
  go_wp2_with fail
  refine (New_bad p q r s _ h).mono ?_
  rintro e w1 ⟨rfl, hb1⟩
  have hw1 : Below w.heap.size w w1 := below_then (below_alloc (Below.refl _ _) _) (by simp) hb1
  go_wp2_with fail
  go_ret2
  exact ⟨rfl, hw1⟩

/-- A new world in block u. -/
structure WorldAt (B : Nat) (w : World) (u f b cap : Nat) (p q r : Int) (G : ByteArray) : Prop where
  dev : NewAt B w f b cap p q r G
  hu0 : B ≤ u
  world : w.heap[u]? = some (Obj.cells #[.pointer (some ⟨f, 0, none⟩), .pointer none] 155 (0, 0))
theorem NewAt.kept {B : Nat} {w w' : World} {f b cap : Nat} {p q r : Int} {G : ByteArray} (h : NewAt B w f b cap p q r G) (hb : ∀ k, k < w.heap.size → w'.heap[k]? = w.heap[k]?) (hs : w.heap.size ≤ w'.heap.size) : NewAt B w' f b cap p q r G := by
  have hf : f < w.heap.size := (Array.getElem?_eq_some_iff.1 h.flash).1
  refine ⟨h.hf, h.hb0, by rw [hb f hf]; exact h.flash, fun j hj => ?_, Nat.lt_of_lt_of_le h.hb hs⟩
  rw [← h.bytes j hj]
  simp only [World.cell?, hb b h.hb]
theorem WorldAt.kept {B : Nat} {w w' : World} {u f b cap : Nat} {p q r : Int} {G : ByteArray} (h : WorldAt B w u f b cap p q r G) (hb : Below w.heap.size w w') : WorldAt B w' u f b cap p q r G :=
  ⟨h.dev.kept (fun k hk => hb.block k hk) hb.size, h.hu0, by rw [hb.block u (Array.getElem?_eq_some_iff.1 h.world).1]; exact h.world⟩
theorem WorldAt.drew {B : Nat} {w : World} {u f b cap : Nat} {p q r : Int} {G : ByteArray} (h : WorldAt B w u f b cap p q r G) : WorldAt B w.drew u f b cap p q r G :=
  ⟨⟨h.dev.hf, h.dev.hb0, h.dev.flash, h.dev.bytes, h.dev.hb⟩, h.hu0, h.world⟩

set_option maxHeartbeats 2000000 in
set_option maxRecDepth 100000 in
theorem wNew_good (p q r : Int) (s : ByteArray) (w : World) (hr : rightB p q r = true) (hs : (s.size : Int) ≤ sizeB p q r) :
    Calls Tryz.prog 37 #[.agg #[.int .i64 p, .int .i64 q, .int .i64 r], .string s] w fun e w' => ∃ u f b cap, e = .returned (.tuple #[.pointer (some ⟨u, 0, none⟩), .int .i64 0]) ∧ WorldAt w.heap.size w' u f b cap p q r (imgB p q r s) ∧ Below w.heap.size w w' := by
  go_enter Tryz.func37, Tryz.ntmps37
  have hk1 : (w.alloc (gBox p q r)).heap[w.heap.size]? = some (gBox p q r) := heap_alloc_new w _
  obtain ⟨k0, k1, k2⟩ := gBox_cells hk1
  simp only [gBox] at k0 k1 k2
  go_wp2_with fail
  refine (New_good p q r s _ hr hs).mono ?_
  rintro e w1 ⟨f, b, cap, rfl, hN, hb1⟩
  have hw1 : Below w.heap.size w w1 := below_then (below_alloc (Below.refl _ _) _) (by simp) hb1
  go_wp2_with fail
  go_ret2
  have hN' : NewAt w.heap.size w1 f b cap p q r (imgB p q r s) := ⟨by have := hN.hf; simp at this; omega, by have := hN.hb0; simp at this; omega, hN.flash, hN.bytes, hN.hb⟩
  refine ⟨w1.heap.size, f, b, cap, rfl, ⟨hN'.kept (fun k hk => by simp only [World.alloc]; rw [Array.getElem?_push, if_neg (by omega)]) (by simp), hw1.size, heap_alloc_new w1 _⟩, below_alloc hw1 _⟩

section
variable {B : Nat} {w : World} {u f b cap : Nat} {p q r : Int} {G : ByteArray}
theorem WorldAt.cells (h : WorldAt B w u f b cap p q r G) : w.cell? ⟨u, 0, none⟩ = some (.pointer (some ⟨f, 0, none⟩)) ∧ w.cell? ⟨u, 1, none⟩ = some (.pointer none) ∧ w.cell? ⟨f, 1 + 2, none⟩ = some (.slice (some ⟨b, 0, none⟩) G.size cap) ∧ w.cell? ⟨f, 3, none⟩ = some (.slice (some ⟨b, 0, none⟩) G.size cap) := by
  refine ⟨?_, ?_, ?_, ?_⟩ <;> simp [World.cell?, h.world, h.dev.flash]

set_option maxHeartbeats 2000000 in
set_option maxRecDepth 100000 in
theorem Up_calls (h : WorldAt B w u f b cap p q r G) : Calls Tryz.prog 32 #[.pointer (some ⟨u, 0, none⟩)] w fun e w' => e = .returned (.bool false) ∧ w' = w := by
  obtain ⟨c0, c1, c2, c3⟩ := h.cells
  go_enter Tryz.func32, Tryz.ntmps32
  go_wp2
  go_ret
  exact ⟨rfl, rfl⟩
set_option maxHeartbeats 2000000 in
set_option maxRecDepth 100000 in
theorem Contents_calls (h : WorldAt B w u f b cap p q r G) : Calls Tryz.prog 34 #[.pointer (some ⟨u, 0, none⟩)] w fun e w' => e = .returned (.slice none 0 0) ∧ w' = w := by
  go_enter Tryz.func34, Tryz.ntmps34
  go_wp2_with fail
  refine (Up_calls h).mono ?_
  rintro e w1 ⟨rfl, rfl⟩
  go_wp2_with fail
  go_ret
  exact ⟨rfl, rfl⟩
theorem nums_str (G : ByteArray) : strOfNums (G.data.toList.map fun x => (x.toNat : Int)) = G := by
  obtain ⟨⟨l⟩⟩ := G
  unfold strOfNums
  rw [List.map_map]
  have : (fun n : Int => UInt8.ofNat n.toNat) ∘ (fun x : UInt8 => (x.toNat : Int)) = id := by funext x; simp
  rw [this, List.map_id]
theorem nums_len (G : ByteArray) : (G.data.toList.map fun x => (x.toNat : Int)).length = G.size := by rw [List.length_map]; rfl
theorem nums_get (G : ByteArray) (i : Nat) (hi : i < G.size) : ((G.data.toList.getD i 0).toNat : Int) = (G.data.toList.map fun x => (x.toNat : Int)).getD i 0 := by
  have hi' : i < G.data.toList.length := hi
  rw [List.getD_eq_getElem?_getD, List.getD_eq_getElem?_getD, List.getElem?_map, List.getElem?_eq_getElem hi']
  rfl
theorem nums_at {w : World} {b n cap : Nat} {G : ByteArray} (hn : G.size = n) (hb : ∀ j, j < G.size → w.cell? ⟨b, j, none⟩ = some (.int .u8 (G.data.toList.getD j 0).toNat)) :
    (convert 159 9 (.slice (some ⟨b, 0, none⟩) n cap)).run Tryz.prog w = .ok (.string G) w := by
  subst hn
  have h1 := run_convert_bytes_arg w 159 5 Tryz.underlying159 Tryz.underlying5 b 0 G.size cap _ (nums_len G) (fun i hi => by
    rw [Nat.zero_add, hb i hi, nums_get G i hi]) 9 Tryz.underlying9
  rw [h1, nums_str]
set_option maxHeartbeats 2000000 in
set_option maxRecDepth 100000 in
theorem fImage_calls (h : WorldAt B w u f b cap p q r G) : Calls Tryz.prog 86 #[.pointer (some ⟨f, 0, none⟩)] w fun e w' => e = .returned (.string G) ∧ w' = w := by
  obtain ⟨c0, c1, c2, c3⟩ := h.cells
  have hcv := nums_at (cap := cap) rfl h.dev.bytes
  go_enter Tryz.func86, Tryz.ntmps86
  go_wp2
  go_ret
  exact ⟨rfl, rfl⟩
set_option maxHeartbeats 2000000 in
set_option maxRecDepth 100000 in
theorem Image_calls (h : WorldAt B w u f b cap p q r G) : Calls Tryz.prog 33 #[.pointer (some ⟨u, 0, none⟩)] w fun e w' => e = .returned (.string G) ∧ w' = w := by
  obtain ⟨c0, c1, c2, c3⟩ := h.cells
  go_enter Tryz.func33, Tryz.ntmps33
  go_wp2_with fail
  refine (fImage_calls h).mono ?_
  rintro e w1 ⟨rfl, rfl⟩
  go_wp2_with fail
  go_ret
  exact ⟨rfl, rfl⟩
def op7 : Value := .agg #[.int .i64 7, .int .i64 0, .string ⟨#[]⟩, .string ⟨#[]⟩, .slice none 0 0, .int .i64 0, .slice none 0 0, .int .i64 0, .int .i64 0, .int .i64 0]
set_option maxHeartbeats 2000000 in
set_option maxRecDepth 100000 in
theorem Play_calls (h : WorldAt B w u f b cap p q r G) : Calls Tryz.prog 31 #[.pointer (some ⟨u, 0, none⟩), op7] w fun e w' => e = .returned (.agg #[.int .i64 6, .int .i64 0, .int .u32 0, .int .i64 0, .slice none 0 0, .slice none 0 0, .slice none 0 0]) ∧ Below w.heap.size w w' := by
  obtain ⟨c0, c1, c2, c3⟩ := h.cells
  have hu := (Array.getElem?_eq_some_iff.1 h.world).1
  unfold op7
  go_enter Tryz.func31, Tryz.ntmps31
  go_wp2
  refine bodyPost_ret (results_cell_row rfl _ _ (w.heap.size + 1) 68 #[.int .i64 6, .int .i64 0, .int .u32 0, .int .i64 0, .slice none 0 0, .slice none 0 0, .slice none 0 0] (0, 0) _ rfl ?_ Tryz.underlying68 rfl (by kernel_rfl)) rfl ?_
  · have := heap_alloc_new (w.alloc (.cells #[.int .i64 7, .int .i64 0, .string ⟨#[]⟩, .string ⟨#[]⟩, .slice none 0 0, .int .i64 0, .slice none 0 0, .int .i64 0, .int .i64 0, .int .i64 0] 65)) (.cells #[.int .i64 6, .int .i64 0, .int .u32 0, .int .i64 0, .slice none 0 0, .slice none 0 0, .slice none 0 0] 68)
    rw [show (w.alloc (.cells #[.int .i64 7, .int .i64 0, .string ⟨#[]⟩, .string ⟨#[]⟩, .slice none 0 0, .int .i64 0, .slice none 0 0, .int .i64 0, .int .i64 0, .int .i64 0] 65)).heap.size = w.heap.size + 1 from by simp] at this
    exact this
  · exact ⟨rfl, below_alloc (below_alloc (Below.refl _ _) _) _⟩
end
end Go.Proofs.YtcooafoheknhhaaGreatDoor.Pgm

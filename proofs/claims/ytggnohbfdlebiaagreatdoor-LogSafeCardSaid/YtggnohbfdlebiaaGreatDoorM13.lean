/-
  Merged of my texts, in order: Pad.
-/
import Derived.Test.YtggnohbfdlebiaaGreatDoorM12
/-
  sum.Roots, sum.padded.
-/
namespace Go.Proofs.YtggnohbfdlebiaaGreatDoor
open Go.RowKit Go.Shelf Go.ChangeMaps Go.ChangeShapes

def rootsL : List Int := [0x428a2f98, 0x71374491, 0xb5c0fbcf, 0xe9b5dba5, 0x3956c25b, 0x59f111f1, 0x923f82a4, 0xab1c5ed5,
  0xd807aa98, 0x12835b01, 0x243185be, 0x550c7dc3, 0x72be5d74, 0x80deb1fe, 0x9bdc06a7, 0xc19bf174,
  0xe49b69c1, 0xefbe4786, 0x0fc19dc6, 0x240ca1cc, 0x2de92c6f, 0x4a7484aa, 0x5cb0a9dc, 0x76f988da,
  0x983e5152, 0xa831c66d, 0xb00327c8, 0xbf597fc7, 0xc6e00bf3, 0xd5a79147, 0x06ca6351, 0x14292967,
  0x27b70a85, 0x2e1b2138, 0x4d2c6dfc, 0x53380d13, 0x650a7354, 0x766a0abb, 0x81c2c92e, 0x92722c85,
  0xa2bfe8a1, 0xa81a664b, 0xc24b8b70, 0xc76c51a3, 0xd192e819, 0xd6990624, 0xf40e3585, 0x106aa070,
  0x19a4c116, 0x1e376c08, 0x2748774c, 0x34b0bcb5, 0x391c0cb3, 0x4ed8aa4a, 0x5b9cca4f, 0x682e6ff3,
  0x748f82ee, 0x78a5636f, 0x84c87814, 0x8cc70208, 0x90befffa, 0xa4506ceb, 0xbef9a3f7, 0xc67178f2]
set_option maxRecDepth 100000 in
theorem rootsL_range : ∀ x ∈ rootsL, R32 x := by
  have h : rootsL.all (fun x => decide (0 ≤ x) && decide (x ≤ 4294967295)) = true := by decide +kernel
  intro x hx
  have := List.all_eq_true.1 h x hx
  simp only [Bool.and_eq_true, decide_eq_true_eq] at this
  exact this

theorem words_one (l : List Int) : ∀ v ∈ words l, v.oneCell' = true := by
  intro v hv
  obtain ⟨x, _, rfl⟩ := List.mem_map.1 hv
  rfl
theorem words_at {w : World} {b : Nat} {t : TypeId} {l : List Int} (h : Row32 w b t l) : ∀ (j : Nat) v, (words l).toArray.toList[j]? = some v → w.cell? ⟨b, 0 + j, none⟩ = some v := by
  intro j v hj
  rw [Nat.zero_add, blk_cell h]
  simpa using hj
theorem setRow_blk {w : World} {g : Nat} {cur cs : Array Value} {t : TypeId} (h : w.heap[g]? = some (.cells cur t (0, 0))) : (w.setRow g cs).heap[g]? = some (.cells cs t (0, 0)) := setRow_heap w g cur cs t _ h
theorem Kp.setRow {F : Nat → Prop} {a w : World} (h : Kp F a w) {g : Nat} (hg : F g ∨ a.heap.size ≤ g) (cs : Array Value) : Kp F a (w.setRow g cs) :=
  ⟨h.os, h.tape, h.output, by have := h.size; simp; exact this, fun k hk hF => (setRow_other w g k _ (by rintro rfl; rcases hg with h1 | h1; exact hF h1; omega)).trans (h.block k hk hF)⟩

theorem results_cell {P : Program} {fn : Func} {tmps : Array Value} {w : World} {t : TypeId} {a b : Nat} {v : Value} (hr : fn.results = #[.cell a t]) (ha : tmps.getD a undef = .pointer (some ⟨b, 0, none⟩))
    (hl : (loadVar t ⟨b, 0, none⟩).run P w = .ok v w) : (results fn tmps).run P w = .ok v w := by
  unfold results
  rw [hr]
  simp only [Array.getD_eq_getD_getElem?] at ha
  simp [ha, asAddr, hl]
theorem load_words {P : Program} {w : World} {b : Nat} {t : TypeId} {C : Array Value} (h : w.heap[b]? = some (.cells C t (0, 0))) {ty : TypeId} (ha : ∀ w, (isAgg ty).run P w = .ok true w) (hi : (P.info? ty).map (·.size) = some C.size) :
    (loadVar ty ⟨b, 0, none⟩).run P w = .ok (.agg C) w :=
  load_agg_run C (fun j v hj => by rw [Nat.zero_add, blk_cell h]; simpa using hj) ha hi
set_option maxRecDepth 100000 in
set_option maxHeartbeats 2000000 in
theorem Roots_any (w : World) : Calls Tryz.prog 89 #[] w fun e w' => e = .returned (.agg (words rootsL).toArray) ∧ Kp (fun _ => False) w w' := by
  have ha : ∀ w, (isAgg 153).run Tryz.prog w = .ok true w := fun w => isAgg_run (Tryz.underlying153) rfl w
  have hsz : (Tryz.prog.info? 153).map (·.size) = some (words rootsL).toArray.size := by kernel_rfl
  obtain ⟨C, hC⟩ : ∃ C, (words rootsL).toArray = C := ⟨_, rfl⟩
  have h1 : ∀ v ∈ C.toList, v.oneCell' = true := by rw [← hC]; exact words_one _
  have h64 : C.size = 64 := by rw [← hC]; rfl
  rw [hC] at hsz ⊢
  go_enter Tryz.func89, Tryz.ntmps89
  have hr := setRow_blk (cs := C) (heap_alloc_new w (Obj.cells (words (List.replicate 64 0)).toArray 153))
  have hk := (((Kp.refl (fun _ => False) w).alloc (Obj.cells (words (List.replicate 64 0)).toArray 153))).setRow (g := w.heap.size) (.inr (Nat.le_refl _)) C
  have HRK := Lib.hid (And.intro hr hk)
  clear hr hk
  go_wp2_with (refine wpList_store_agg (cells := C) rfl 153 _ _ rfl rfl (by rw [← hC]; kernel_rfl) (heap_alloc_new w _) hsz (by rw [h64]; exact Nat.le_refl _) h1 ?_; rw [splice_all _ _ (by rw [h64]; rfl)]; generalize hwz : World.setRow _ w.heap.size C = wz; have hrk : wz.heap[w.heap.size]? = some (Obj.cells C 153 (0, 0)) ∧ Kp (fun _ => False) w wz := (by rw [← hwz]; exact HRK.out); have HZ := Lib.hid hrk; clear hwz hrk HRK)
  exact bodyPost_ret (v := .agg C) (results_cell Tryz.results89 rfl (load_words HZ.out.1 ha hsz)) rfl ⟨rfl, HZ.out.2⟩
end Go.Proofs.YtggnohbfdlebiaaGreatDoor

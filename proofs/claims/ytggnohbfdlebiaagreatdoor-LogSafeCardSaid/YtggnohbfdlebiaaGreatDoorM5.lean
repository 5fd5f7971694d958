/-
  Merged of my texts, in order: Chunk.
-/
import Derived.Test.YtggnohbfdlebiaaGreatDoorM4
import Derived.RangeFuncBox
import Derived.RangeFuncLeaves
import Derived.RangeFuncFrom
import Derived.RangeFuncNested
import Derived.RangeFuncBound
import Derived.RangeFuncCalls
import Derived.RangeFuncWrites
import Derived.Shelf.Abstract
import Derived.Shelf.RegionOpen
import Derived.WalkKit
import Derived.OwnWalkIn
import Derived.TacticsInMore
import Derived.LoopNIn
import Derived.LoopIn
/-
  slices.Chunk over bytes, 32 at a time: the iterator.
-/
namespace Go.Proofs.YtggnohbfdlebiaaGreatDoor
open Go.RowKit Go.Shelf Go.ChangeMaps

attribute [local go_sem] Oper.semAt_some

/-- The chunk of number j. -/
def chunk (b off len j : Nat) : Value := .slice (some ⟨b, off + 32 * j, none⟩) (min 32 (len - 32 * j)) (min 32 (len - 32 * j))

/-- Two blocks lie as they lay. -/
def Two (A B : Nat) (W W' : World) : Prop := W'.heap[A]? = W.heap[A]? ∧ W'.heap[B]? = W.heap[B]?
theorem Two.refl (A B : Nat) (W : World) : Two A B W W := ⟨rfl, rfl⟩
theorem Two.trans {A B : Nat} {x y z : World} (h : Two A B x y) (k : Two A B y z) : Two A B x z := ⟨k.1.trans h.1, k.2.trans h.2⟩

set_option maxRecDepth 100000 in
set_option maxHeartbeats 2000000 in
theorem Chunk1_in (F : Fence) (n : Nat) (hf : F.fn 71) (hro : F.round = none) (hn : 1 ≤ n) (l Bs Bn b off len cap : Nat) (hcap : len ≤ cap) (hreach : len ≤ 140737488351232) (J Jx : List Nat → World → Prop) (hJd : ∀ s W, J s W → J s W.drew)
    (hY : ∀ pre x W, J pre W → pre.length < (len + 31) / 32 → YieldAt F (n - 1) Tryz.prog l #[chunk b off len x] W fun e W' =>
      (e = .returned (.bool true) ∧ J (pre ++ [x]) W' ∧ Two Bs Bn W W') ∨ (e = .returned (.bool false) ∧ Jx (pre ++ [x]) W'))
    (W : World) (cs : W.cell? ⟨Bs, 0, none⟩ = some (.slice (some ⟨b, off, none⟩) len cap)) (cn : W.cell? ⟨Bn, 0, none⟩ = some (.int .i64 32)) (h0 : J [] W) :
    CallsIn F n Tryz.prog 71 #[.func (.yield l) #[] #[], .pointer (some ⟨Bs, 0, none⟩), .pointer (some ⟨Bn, 0, none⟩)] W fun e W' => (∃ v, e = .returned v) ∧
      ((∃ ys, ys = List.range ((len + 31) / 32) ∧ J ys W') ∨ (∃ pre, True ∧ Jx pre W')) := by
  have HJ := Lib.hid hJd
  clear hJd
  refine callsIn_of_wp Tryz.func71 rfl hf ?_ hro
  simp only [Tryz.ntmps71, List.size_toArray, List.length_cons, List.length_nil, Nat.reduceAdd, Nat.reduceSub, Array.replicate_succ, Array.replicate_zero, List.push_toArray, List.append_toArray, List.nil_append, List.cons_append]
  gi_wp2
  gi_loopw [4] (fun i wr => ∃ k : Nat, k ≤ (len + 31) / 32 ∧ i = .int .i64 (32 * (k : Int)) ∧ J (List.range k) wr ∧ Two Bs Bn W wr)
    (fun i _ => 32 * ((len + 31) / 32) - (intOf i).toNat)
  case atStart => exact ⟨0, Nat.zero_le _, rfl, h0, Two.refl _ _ _⟩
  case round =>
    obtain ⟨k, hk, rfl, hJs, hnx⟩ := hrel
    have ds := (World.cell?_of_block (a := ⟨Bs, 0, none⟩) hnx.1).trans cs
    have dn := (World.cell?_of_block (a := ⟨Bn, 0, none⟩) hnx.2).trans cn
    by_cases hlt : 32 * k < len
    · obtain ⟨fn, tmps, assign, body, hy, hR⟩ := hY _ k wr.drew (HJ.out _ _ hJs) (by rw [List.length_range]; omega)
      have hb0 : (0 : Int) ≤ 32 * (k : Int) := by omega
      have hb1 : 32 * (k : Int) ≤ (len : Int) := by omega
      have hlt' : 32 * (k : Int) < (len : Int) := by omega
      obtain ⟨e, he⟩ : ∃ e, e = min 32 (len - 32 * k) := ⟨_, rfl⟩
      have he1 : 1 ≤ e ∧ e ≤ 32 ∧ 32 * k + e ≤ len := by omega
      obtain ⟨q0, q1, q2⟩ := he1
      have hmin : min 32 (((len - (32 * (k : Int)).toNat : Nat)) : Int) = (e : Int) := by omega
      have q3 : 32 * (k : Int) + (e : Int) ≤ (cap : Int) := by omega
      have q4 : (0 : Int) ≤ 32 * (k : Int) + (e : Int) := by omega
      have hch : chunk b off len k = .slice (some ⟨b, off + 32 * k, none⟩) e e := by unfold chunk; rw [he]
      rw [hch] at hy
      have hbd : Two Bs Bn W wr.drew := hnx
      have ds' : wr.drew.cell? ⟨Bs, 0, none⟩ = some (.slice (some ⟨b, off, none⟩) len cap) := ds
      clear he hch
      gi_wp2
      gi_region
      all_goals
        clear hmin
        generalize wr.drew = wd at *
        gi_wp2
        refine hR.mono ?_
        rintro ed W3 (⟨rfl, hJ3, hk3⟩ | ⟨rfl, hJx3⟩)
        · have hk4 : Two Bs Bn W W3 := hbd.trans hk3
          have dn3 := (World.cell?_of_block (a := ⟨Bn, 0, none⟩) hk4.2).trans cn
          rw [← List.range_succ] at hJ3
          gi_wp2
          go_roundw
          case rel => exact ⟨k + 1, by omega, by go_num, hJ3, hk4⟩
          case measure => simp [intOf]; omega
        · gi_wp2
          refine bodyPost_ret (results_none rfl _ _ _) rfl ?_
          exact ⟨⟨_, rfl⟩, .inr ⟨_, trivial, hJx3⟩⟩
    · have hge : (len : Int) ≤ 32 * (k : Int) := by omega
      obtain rfl : k = (len + 31) / 32 := by omega
      gi_wp2
      go_end0
      exact ⟨⟨_, rfl⟩, .inl ⟨_, rfl, hJs⟩⟩

set_option maxRecDepth 100000 in
set_option maxHeartbeats 1000000 in
/-- .. of no bytes: no round. -/
theorem Chunk1_none (F : Fence) (n : Nat) (hf : F.fn 71) (hro : F.round = none) (l Bs Bn cap : Nat) (p : Option Addr) (J : List Nat → World → Prop) (W : World)
    (cs : W.cell? ⟨Bs, 0, none⟩ = some (.slice p 0 cap)) (h0 : J [] W) :
    CallsIn F n Tryz.prog 71 #[.func (.yield l) #[] #[], .pointer (some ⟨Bs, 0, none⟩), .pointer (some ⟨Bn, 0, none⟩)] W fun e W' => (∃ v, e = .returned v) ∧ J [] W' := by
  refine callsIn_of_wp Tryz.func71 rfl hf ?_ hro
  simp only [Tryz.ntmps71, List.size_toArray, List.length_cons, List.length_nil, Nat.reduceAdd, Nat.reduceSub, Array.replicate_succ, Array.replicate_zero, List.push_toArray, List.append_toArray, List.nil_append, List.cons_append]
  gi_wp2
  gi_loopw [4] (fun i wr => i = .int .i64 0 ∧ wr = W) (fun _ _ => 0)
  case atStart => exact ⟨rfl, rfl⟩
  case round =>
    obtain ⟨rfl, rfl⟩ := hrel
    gi_wp2
    go_end0
    exact ⟨⟨_, rfl⟩, h0⟩

/-- slices.Chunk(p, 32): the slice and the number are boxed. -/
theorem Chunk_in (F : Fence) (n : Nat) (hf : F.fn 40) (hro : F.round = none) (p : Option Addr) (len cap : Nat) (w : World) :
    CallsIn F n Tryz.prog 40 #[.slice p len cap, .int .i64 32] w fun e w' => e = .returned (.func (.func 71) #[] #[.pointer (some ⟨w.heap.size, 0, none⟩), .pointer (some ⟨w.heap.size + 1, 0, none⟩)]) ∧
      (w.alloc (.cells #[.slice p len cap] 33)).alloc (.cells #[.int .i64 32] 3) = w' := by
  refine callsIn_of_wp Tryz.func40 rfl hf ?_ hro
  simp only [Tryz.ntmps40, List.size_toArray, List.length_cons, List.length_nil, Nat.reduceAdd, Nat.reduceSub, Array.replicate_succ, Array.replicate_zero, List.push_toArray, List.append_toArray, List.nil_append, List.cons_append]
  gi_wp2
  go_ret
  exact ⟨rfl, rfl⟩

/-- What slices.Chunk hands back gives the chunks in order: chunk j for j from 0 on. -/
theorem chunk_stops (F : Fence) (n : Nat) (hf : F.fn 71) (hro : F.round = none) (hn : 1 ≤ n) (Bs Bn : Nat) (p : Option Addr) (b off len cap : Nat) (hp : len ≠ 0 → p = some ⟨b, off, none⟩) (hcap : len ≤ cap) (hreach : len ≤ 140737488351232)
    (w : World) (hBs : Bs < w.heap.size) (hBn : Bn < w.heap.size) (cs : w.cell? ⟨Bs, 0, none⟩ = some (.slice p len cap)) (cn : w.cell? ⟨Bn, 0, none⟩ = some (.int .i64 32)) :
    SeqStopsK F n Tryz.prog 71 #[.pointer (some ⟨Bs, 0, none⟩), .pointer (some ⟨Bn, 0, none⟩)] (fun j => #[chunk b off len j]) (Two Bs Bn) (fun ys => ys = List.range ((len + 31) / 32)) (fun _ => True) ((len + 31) / 32) w := by
  intro l J Jx W hW hJ _ hY h0
  have cs' := (hW.cell (p := ⟨Bs, 0, none⟩) hBs).trans cs
  have cn' := (hW.cell (p := ⟨Bn, 0, none⟩) hBn).trans cn
  by_cases h : len = 0
  · subst h
    exact (Chunk1_none F n hf hro l Bs Bn cap p J W cs' h0).mono fun e W' ⟨he, hj⟩ => ⟨he, .inl ⟨[], rfl, hj⟩⟩
  · rw [hp h] at cs'
    exact Chunk1_in F n hf hro hn l Bs Bn b off len cap hcap hreach J Jx (fun s W1 hs => hJ s W1 _ none hs ⟨rfl, rfl, rfl, Nat.le_refl _, fun _ _ _ => rfl⟩ (fun r e => by cases e)) hY W cs' cn' h0
end Go.Proofs.YtggnohbfdlebiaaGreatDoor

/-
  slices.Chunk over bytes: each chunk is one of those that there are.
-/
import Derived.Test.YtmcmapaapffadaaDoorChunk
namespace Go.Proofs.YtmcmapaapffadaaDoor
open Go.RowKit Go.Shelf Go.ChangeMaps

attribute [local go_sem] Oper.semAt_some

set_option maxRecDepth 100000 in
set_option maxHeartbeats 2000000 in
theorem Chunk1_at (F : Fence) (n : Nat) (hf : F.fn 71) (hro : F.round = none) (hn : 1 ≤ n) (l Bs Bn b off len cap : Nat) (hcap : len ≤ cap) (hreach : len ≤ 140737488351232) (J Jx : List Nat → World → Prop) (hJd : ∀ s W, J s W → J s W.drew)
    (hY : ∀ pre x W, J pre W → pre.length < (len + 31) / 32 → x = pre.length → YieldAt F (n - 1) Tryd.prog l #[chunk b off len x] W fun e W' =>
      (e = .returned (.bool true) ∧ J (pre ++ [x]) W' ∧ Two Bs Bn W W') ∨ (e = .returned (.bool false) ∧ Jx (pre ++ [x]) W'))
    (W : World) (cs : W.cell? ⟨Bs, 0, none⟩ = some (.slice (some ⟨b, off, none⟩) len cap)) (cn : W.cell? ⟨Bn, 0, none⟩ = some (.int .i64 32)) (h0 : J [] W) :
    CallsIn F n Tryd.prog 71 #[.func (.yield l) #[] #[], .pointer (some ⟨Bs, 0, none⟩), .pointer (some ⟨Bn, 0, none⟩)] W fun e W' => (∃ v, e = .returned v) ∧
      ((∃ ys, ys = List.range ((len + 31) / 32) ∧ J ys W') ∨ (∃ pre, True ∧ Jx pre W')) := by
  have HJ := Lib.hid hJd
  clear hJd
  refine callsIn_of_wp Tryd.func71 rfl hf ?_ hro
  simp only [Tryd.ntmps71, List.size_toArray, List.length_cons, List.length_nil, Nat.reduceAdd, Nat.reduceSub, Array.replicate_succ, Array.replicate_zero, List.push_toArray, List.append_toArray, List.nil_append, List.cons_append]
  gi_wp2
  gi_loopw [4] (fun i wr => ∃ k : Nat, k ≤ (len + 31) / 32 ∧ i = .int .i64 (32 * (k : Int)) ∧ J (List.range k) wr ∧ Two Bs Bn W wr)
    (fun i _ => 32 * ((len + 31) / 32) - (intOf i).toNat)
  case atStart => exact ⟨0, Nat.zero_le _, rfl, h0, Two.refl _ _ _⟩
  case round =>
    obtain ⟨k, hk, rfl, hJs, hnx⟩ := hrel
    have ds := (World.cell?_of_block (a := ⟨Bs, 0, none⟩) hnx.1).trans cs
    have dn := (World.cell?_of_block (a := ⟨Bn, 0, none⟩) hnx.2).trans cn
    by_cases hlt : 32 * k < len
    · obtain ⟨fn, tmps, assign, body, hy, hR⟩ := hY _ k wr.drew (HJ.out _ _ hJs) (by rw [List.length_range]; omega) (by rw [List.length_range])
      have hb0 : (0 : Int) ≤ 32 * (k : Int) := by omega
      have hb1 : 32 * (k : Int) ≤ (len : Int) := by omega
      have hlt' : 32 * (k : Int) < (len : Int) := by omega
      obtain ⟨e, he⟩ : ∃ e, e = min 32 (len - 32 * k) := ⟨_, rfl⟩
      have he1 : 1 ≤ e ∧ e ≤ 32 ∧ 32 * k + e ≤ len := by omega
      obtain ⟨q0, q1, q2⟩ := he1
      have hmin : min 32 (((len - (32 * (k : Int)).toNat : Nat)) : Int) = (e : Int) := by omega
      have q3 : 32 * (k : Int) + (e : Int) ≤ (cap : Int) := by omega
      have q4 : (0 : Int) ≤ 32 * (k : Int) + (e : Int) := by omega
      have hch : chunk b off len k = .slice (some ⟨b, off + 32 * k, none⟩) e e := by unfold chunk; rw [he]
      rw [hch] at hy
      have hbd : Two Bs Bn W wr.drew := hnx
      have ds' : wr.drew.cell? ⟨Bs, 0, none⟩ = some (.slice (some ⟨b, off, none⟩) len cap) := ds
      clear he hch
      gi_wp2
      gi_region
      all_goals
        clear hmin
        generalize wr.drew = wd at *
        gi_wp2
        refine hR.mono ?_
        rintro ed W3 (⟨rfl, hJ3, hk3⟩ | ⟨rfl, hJx3⟩)
        · have hk4 : Two Bs Bn W W3 := hbd.trans hk3
          have dn3 := (World.cell?_of_block (a := ⟨Bn, 0, none⟩) hk4.2).trans cn
          rw [← List.range_succ] at hJ3
          gi_wp2
          go_roundw
          case rel => exact ⟨k + 1, by omega, by go_num, hJ3, hk4⟩
          case measure => simp [intOf]; omega
        · gi_wp2
          refine bodyPost_ret (results_none rfl _ _ _) rfl ?_
          exact ⟨⟨_, rfl⟩, .inr ⟨_, trivial, hJx3⟩⟩
    · have hge : (len : Int) ≤ 32 * (k : Int) := by omega
      obtain rfl : k = (len + 31) / 32 := by omega
      gi_wp2
      go_end0
      exact ⟨⟨_, rfl⟩, .inl ⟨_, rfl, hJs⟩⟩


/-- What slices.Chunk hands back gives the chunks in order; each is one of those that there are. -/
theorem chunk_fin (F : Fence) (n : Nat) (hf : F.fn 71) (hro : F.round = none) (hn : 1 ≤ n) (Bs Bn b off len cap : Nat) (hcap : len ≤ cap) (hreach : len ≤ 140737488351232)
    (w : World) (hBs : Bs < w.heap.size) (hBn : Bn < w.heap.size) (cs : w.cell? ⟨Bs, 0, none⟩ = some (.slice (some ⟨b, off, none⟩) len cap)) (cn : w.cell? ⟨Bn, 0, none⟩ = some (.int .i64 32)) :
    SeqStopsK F n Tryd.prog 71 #[.pointer (some ⟨Bs, 0, none⟩), .pointer (some ⟨Bn, 0, none⟩)] (fun j : Fin ((len + 31) / 32) => #[chunk b off len j.val]) (Two Bs Bn) (fun ys => ys.map (fun j => j.val) = List.range ((len + 31) / 32)) (fun _ => True) ((len + 31) / 32) w := by
  intro l J Jx W hW hJ _ hY h0
  have cs' := (hW.cell (p := ⟨Bs, 0, none⟩) hBs).trans cs
  have cn' := (hW.cell (p := ⟨Bn, 0, none⟩) hBn).trans cn
  refine (Chunk1_at F n hf hro hn l Bs Bn b off len cap hcap hreach (fun s W => ∃ t : List (Fin ((len + 31) / 32)), t.map (fun j => j.val) = s ∧ J t W) (fun _ W => ∃ t, Jx t W) ?_ ?_ W cs' cn' ⟨[], rfl, h0⟩).mono ?_
  · rintro s W1 ⟨t, ht, hs⟩
    exact ⟨t, ht, hJ t W1 _ none hs ⟨rfl, rfl, rfl, Nat.le_refl _, fun _ _ _ => rfl⟩ (fun r e => by cases e)⟩
  · rintro pre x W1 ⟨t, ht, hs⟩ hlt rfl
    have hl : t.length = pre.length := by rw [← ht, List.length_map]
    refine (hY t ⟨pre.length, hlt⟩ W1 hs (by omega)).mono ?_
    rintro e W2 (⟨h1, h2, h3⟩ | ⟨h1, h2⟩)
    · exact .inl ⟨h1, ⟨t ++ [⟨pre.length, hlt⟩], by rw [List.map_append, ht]; rfl, h2⟩, h3⟩
    · exact .inr ⟨h1, _, h2⟩
  · rintro e W1 ⟨he, ⟨ys, rfl, t, ht, hs⟩ | ⟨pre, -, t, ht⟩⟩
    · exact ⟨he, .inl ⟨t, ht, hs⟩⟩
    · exact ⟨he, .inr ⟨t, trivial, ht⟩⟩
end Go.Proofs.YtmcmapaapffadaaDoor

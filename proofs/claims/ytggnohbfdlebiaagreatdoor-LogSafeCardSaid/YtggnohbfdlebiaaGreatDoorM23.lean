/-
  Merged of my texts, in order: SnapKit.
-/
import Derived.Test.YtggnohbfdlebiaaGreatDoorM1
import Derived.Test.YtggnohbfdlebiaaGreatDoorM11
import Derived.Deep.Grids
import Derived.SizedLaws
import Derived.Lib.SmallJoins
/-
  A slice of bytes that comes in as an argument, with its size and its numbers.
-/
namespace Go.Proofs.YtggnohbfdlebiaaGreatDoor
open Go.RowKit Go.Shelf Go.ChangeMaps Go.ChangeShapes Go.WideShapes Go.Deep Go.Joins

set_option maxRecDepth 100000 in
theorem open_row {H : Type} {enc : TypeId × Value → H} {W : World} {base : Nat} {v : Value} {d : DataW H} {ps : List MemPlace} (hv : Value.okWide Tryz.prog W .any base 33 v) (h : DataW.Trod enc Tryz.prog W 0 (fun _ => true) true 33 v d ps) :
    ∃ p len cap bs, v = .slice p len cap ∧ BytesAt W (fun _ => False) (.slice p len cap) bs ∧ Byts bs ∧ len ≤ maxLen ∧ ((∀ n ∈ d.weights Tryz.prog 33, n ≤ reachBytes) → len ≤ 140737488351232) := by
  obtain ⟨a0, l0, c0, rfl⟩ := okWide_slice Tryz.underlying33 hv
  obtain ⟨fuel, hf⟩ := h
  rcases open_ints Tryz.underlying33 Tryz.underlying5 cells_u8 hf with ⟨hcs, _⟩ | ⟨a, len, cap, zs, hcs, _, hl, hm, hz, hx, hcell, hwz⟩
  · simp [Value.cells] at hcs
    obtain ⟨rfl, rfl, rfl⟩ := hcs
    exact ⟨none, 0, 0, [], rfl, ⟨none, 0, rfl, Nat.le_refl _, fun j x hj => by simp at hj⟩, fun x hx => (by cases hx), Nat.zero_le _, fun _ => by omega⟩
  · simp [Value.cells] at hcs
    obtain ⟨rfl, rfl, rfl⟩ := hcs
    simp only [if_true] at hz
    have hlz : (zs.take l0).length = l0 := by rw [List.length_take]; omega
    refine ⟨_, _, _, zs.take l0, rfl, ⟨_, c0, by rw [hlz], by rw [hlz]; exact hl, fun j x hj => ?_⟩, fun x hx => ?_, Nat.le_trans hl hm, fun hs => ?_⟩
    · have hjl := (List.getElem?_eq_some_iff.1 hj).1
      rw [List.getElem?_take, if_pos (by omega)] at hj
      obtain ⟨b, o, rfl, hc⟩ := ints_at hcell (show 0 < zs.length by omega)
      have hcj := hcell j (by omega)
      rw [Addr.add_lit, List.getD_eq_getElem?_getD, hj] at hcj
      exact ⟨b, o, rfl, id, hcj⟩
    · exact bounds_u8 (hwz x (List.mem_of_mem_take hx))
    · have h5 := hs (l0 * Tryz.prog.bytesOf 5 + (c0 - l0) * Tryz.prog.bytesOf 5) ?_
      · rw [show Tryz.prog.bytesOf 5 = 1 by kernel_rfl] at h5
        unfold reachBytes at h5
        omega
      · have e : d = .slice (lits .u8 (zs.take l0)) (lits .u8 (zs.drop l0)) := by injection hx
        rw [e]
        simp only [DataW.weights, Tryz.underlying33]
        rw [List.mem_cons]
        refine .inl ?_
        rw [lits, lits, List.length_map, List.length_map, hlz, List.length_drop, hz, Nat.add_mul]
theorem trodAll_five {H : Type} {enc : TypeId × Value → H} {P : Program} {W : World} {base : Nat} {spare : Nat → Bool} {held : Bool} {t0 t1 t2 t3 t4 : TypeId} {args : Array Value} {ds : List (DataW H)} {ps : List MemPlace} (h : DataW.TrodAll enc P W base spare held [t0, t1, t2, t3, t4] args.toList ds ps) :
    ∃ v0 v1 v2 v3 v4 d0 d1 d2 d3 d4 p0 p1 p2 p3 p4, args = #[v0, v1, v2, v3, v4] ∧ ds = [d0, d1, d2, d3, d4] ∧ ps = p0 ++ (p1 ++ (p2 ++ (p3 ++ p4))) ∧ DataW.Trod enc P W base spare held t0 v0 d0 p0 ∧ DataW.Trod enc P W base spare held t1 v1 d1 p1 ∧ DataW.Trod enc P W base spare held t2 v2 d2 p2 ∧ DataW.Trod enc P W base spare held t3 v3 d3 p3 ∧ DataW.Trod enc P W base spare held t4 v4 d4 p4 := by
  obtain ⟨v0, vs0, d0, ds0, p0, q0, e0, rfl, rfl, h0, r0⟩ := trodAll_cons h
  obtain ⟨v1, vs1, d1, ds1, p1, q1, e1, rfl, rfl, h1, r1⟩ := trodAll_cons r0
  obtain ⟨v2, vs2, d2, ds2, p2, q2, e2, rfl, rfl, h2, r2⟩ := trodAll_cons r1
  obtain ⟨v3, vs3, d3, ds3, p3, q3, e3, rfl, rfl, h3, r3⟩ := trodAll_cons r2
  obtain ⟨v4, vs4, d4, ds4, p4, q4, e4, rfl, rfl, h4, r4⟩ := trodAll_cons r3
  obtain ⟨e5, rfl, rfl⟩ := trodAll_nil r4
  subst e5 e4 e3 e2 e1
  refine ⟨v0, v1, v2, v3, v4, d0, d1, d2, d3, d4, p0, p1, p2, p3, p4, ?_, rfl, by simp, h0, h1, h2, h3, h4⟩
  exact Array.ext' (by simpa using e0)
end Go.Proofs.YtggnohbfdlebiaaGreatDoor

/-
  A restart by a fate of its own; the fate that comes in as an argument.
-/
import Derived.Test.YtmcmapaapffadaaDoorBytes
import Derived.Test.YtmcmapaapffadaaDoorLawKit
import Derived.Deep.Grids
import Derived.SizedLaws
import Derived.Lib.SmallJoins
namespace Go.Proofs.YtmcmapaapffadaaDoor
open Go.RowKit Go.Shelf Go.ChangeMaps Go.ChangeShapes Go.WideShapes Go.Deep Go.Joins

theorem Dsk.restart_new {w0 w w' : World} {d : Nat} {S : St} {F : Nat → Prop} (h : Dsk w0 w d S F) (hoff : S.off = true) (dn : Bool) {L : List Bool} (hl : L.length ≤ 140737488351232) {g c : Nat} (hc : L.length ≤ c) (hg : w.heap.size ≤ g) (hgs : g < w'.heap.size)
    (hx : ∀ (j : Nat) x, (L.map Value.bool)[j]? = some x → w'.cell? ⟨g, 0 + j, none⟩ = some x) (hk : Kp (fun _ => False) w w') :
    Calls Tryd.prog 17 #[.pointer (some ⟨d, 0, none⟩), .agg #[.bool dn, .slice (some ⟨g, 0, none⟩) L.length c]] w' (Goes w0 w' d 0 (S.restart dn L) F) := by
  refine (h.step hk).restart hoff dn L _ _ hc hl (fun j b hj => ⟨g, 0, rfl, hx j _ (by rw [List.getElem?_map, hj]; rfl)⟩) ?_ ?_
  · intro kb ko e hf
    injection e with e
    injection e with e1 _ _
    have := h.flt kb hf
    omega
  · intro kb ko e hf
    injection e with e
    injection e with e1 _ _
    have h' : w'.heap.size ≤ kb := hf
    omega
/-- A list of bools that is a function's values. -/
theorem bools_list (B : Nat → Bool) (n : Nat) : ∃ L : List Bool, L.length = n ∧ ∀ (j : Nat) b, L[j]? = some b → j < n ∧ b = B j := by
  refine ⟨(List.range n).map B, by simp, fun j b hj => ?_⟩
  rw [List.getElem?_map, Option.map_eq_some_iff] at hj
  obtain ⟨k, hk, rfl⟩ := hj
  obtain ⟨h1, h2⟩ := List.getElem?_eq_some_iff.1 hk
  simp only [List.length_range, List.getElem_range] at h1 h2
  subst h2
  exact ⟨h1, rfl⟩
set_option maxRecDepth 100000 in
/-- A fate, opened. -/
theorem open_fate {H : Type} {enc : TypeId × Value → H} {W : World} {base : Nat} {v : Value} {d : DataW H} {ps : List MemPlace} (hv : Value.okWide Tryd.prog W .any base 45 v) (h : DataW.Trod enc Tryd.prog W 0 (fun _ => true) true 45 v d ps) :
    ∃ (dn : Bool) (L : List Bool) (p : Option Addr) (c : Nat), v = .agg #[.bool dn, .slice p L.length c] ∧ CellsAt W (fun _ => False) (.slice p L.length c) (L.map Value.bool) ∧ ((∀ n ∈ d.weights Tryd.prog 45, n ≤ reachBytes) → L.length ≤ 140737488351232) := by
  obtain ⟨v0, v1, y0, y1, n, rfl, rfl, rfl, h0, h1⟩ := open_agg2 Tryd.underlying45 (by kernel_rfl) (by kernel_rfl) hv h
  obtain ⟨b, h2, h3, h4⟩ := DataW.trod_bool Tryd.underlying4 h0
  obtain rfl : v0 = .bool b := by simpa using h2
  rcases open_bools Tryd.underlying43 Tryd.underlying4 (by kernel_rfl) h1 with ⟨hcs, _⟩ | ⟨a, len, cap, B, hcs, _, hl, hm, hx, hcell⟩
  · obtain rfl : v1 = .slice none 0 0 := by simpa using hcs
    exact ⟨b, [], none, 0, rfl, ⟨none, 0, rfl, by simp, fun j x hj => by simp at hj⟩, fun _ => by simp⟩
  · obtain rfl : v1 = .slice (some a) len cap := by simpa using hcs
    obtain ⟨L, hL, hB⟩ := bools_list B len
    subst hL
    refine ⟨b, L, some a, cap, rfl, ⟨some a, cap, by rw [List.length_map], by rw [List.length_map]; exact hl, fun j x hj => ?_⟩, fun hs => ?_⟩
    · rw [List.getElem?_map, Option.map_eq_some_iff] at hj
      obtain ⟨c, hc, rfl⟩ := hj
      obtain ⟨hj1, rfl⟩ := hB j c hc
      have hcj := hcell j (by omega)
      have hc0 := hcell 0 (by omega)
      obtain ⟨ab, ao, spot⟩ := a
      obtain rfl : spot = none := by simpa [Addr.add] using World.cell?_spot hc0
      rw [Addr.add_lit] at hcj
      exact ⟨ab, ao, rfl, id, hcj⟩
    · have h5 := hs (L.length * Tryd.prog.bytesOf 4 + (cap - L.length) * Tryd.prog.bytesOf 4) ?_
      · rw [show Tryd.prog.bytesOf 4 = 1 by kernel_rfl] at h5
        unfold reachBytes at h5
        omega
      · rw [hx]
        simp only [DataW.weights, Tryd.underlying45, DataW.weightsEach, boolRow, List.map_cons, Tryd.underlying43, List.length_map, List.length_range]
        simp [Nat.add_mul]
end Go.Proofs.YtmcmapaapffadaaDoor

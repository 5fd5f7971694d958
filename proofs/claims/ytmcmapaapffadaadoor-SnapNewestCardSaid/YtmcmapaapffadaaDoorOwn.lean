/-
  A row of bytes of the call's own: what append does to it.
-/
import Derived.Test.YtmcmapaapffadaaDoorBytes
import Derived.Maps.AppendAt
import Derived.Lib.AppendZeros
namespace Go.Proofs.YtmcmapaapffadaaDoor
open Go.RowKit Go.Shelf Go.ChangeMaps

/-- A slice of bytes in memory from B on, none other's; it may grow in place. -/
def Own8 (w : World) (B : Nat) (v : Value) (bs : List Int) : Prop := w.ownsRow B 5 1 v bs.length (byteVals bs)
/-- What append does to the world and to where the row lies. -/
structure Grew (w w' : World) (v v' : Value) : Prop where
  grown : w.grownBy w' v.ownBlock
  block : v'.ownBlock = v.ownBlock ∨ v'.ownBlock = some w.heap.size
theorem byteVals_append (a b : List Int) : byteVals (a ++ b) = byteVals a ++ byteVals b := by simp [byteVals]
theorem byteVals_length (a : List Int) : (byteVals a).length = a.length := by simp [byteVals]
theorem byteVals_one (a : List Int) : ∀ u ∈ byteVals a, u.oneCell' = true := by
  intro u hu
  obtain ⟨x, _, rfl⟩ := List.mem_map.1 hu
  rfl
theorem Own8.nil (w : World) (B : Nat) : Own8 w B (.slice none 0 0) [] := ⟨rfl, .inl ⟨rfl, rfl⟩⟩
theorem u8_parts : ∃ i, Tryd.prog.info? 5 = some i ∧ i.zero = some (.int .u8 0) ∧ i.size = 1 ∧ i.bytes = 1 := by
  have h : (Tryd.prog.info? 5).map (fun i => (i.zero, i.size, i.bytes)) = some (some (.int .u8 0), 1, 1) := by kernel_rfl
  obtain ⟨i, hi, he⟩ := Option.map_eq_some_iff.1 h
  simp only [Prod.mk.injEq] at he
  exact ⟨i, hi, he.1, he.2.1, he.2.2⟩
set_option maxRecDepth 100000 in
theorem own_append {w : World} {B : Nat} {v : Value} {bs cs : List Int} {F : Nat → Prop} {a : Addr} {n c : Nat} (h : Own8 w B v bs) (hx : BytesAt w F (.slice (some a) n c) cs) (hB : B ≤ w.heap.size) (hn : bs.length + cs.length ≤ 100000000) (ty : TypeId) :
    ∃ v' w', (Builtin.append_ #[22, 22] ty #[v, .slice (some a) n c]).run Tryd.prog w = .ok v' w' ∧ Own8 w' B v' (bs ++ cs) ∧ Grew w w' v v' := by
  obtain ⟨i, hi, hz, h1, h2⟩ := u8_parts
  obtain ⟨rfl, _⟩ := hx.len
  have hcells : ∀ (j : Nat) u, (byteVals cs)[j]? = some u → w.cell? (a.add j) = some u := by
    intro j u hj
    simp only [byteVals, List.getElem?_map, Option.map_eq_some_iff] at hj
    obtain ⟨x, hx', rfl⟩ := hj
    obtain ⟨b, o, e, hc⟩ := hx.at_ j x hx'
    injection e with e
    subst e
    rw [Addr.add_lit]; exact hc
  obtain ⟨v', w', hr, ho, hg, _, hb⟩ := run_append_own_at (P := Tryd.prog) w B 22 ty 5 i (.int .u8 0) 1 1 (by kernel_rfl) hi hz h1 h2 rfl (by omega) v bs.length (byteVals bs) h a cs.length c (byteVals cs) (by rw [byteVals_length]; omega) hcells (byteVals_one cs)
    (by unfold maxLen; omega) (by omega) hB
  refine ⟨v', w', hr, ?_, hg, hb⟩
  unfold Own8
  rw [List.length_append, byteVals_append]
  exact ho
theorem zero_cells (n : Nat) : (Builtin.zeroCells #[.int .u8 0] n) = (List.replicate n (.int .u8 0)).toArray := by
  apply Array.ext'
  simp [Builtin.zeroCells, Nat.mod_one, List.map_const']
set_option maxRecDepth 100000 in
theorem own_zeros {w : World} {B : Nat} {v : Value} {bs : List Int} (h : Own8 w B v bs) (hB : B ≤ w.heap.size) (k : Nat) (hn : bs.length + k ≤ 100000000) (ty : TypeId) :
    ∃ v' w', (Builtin.append_ #[22, 3] ty #[v, .int .i64 (k : Int)]).run Tryd.prog w = .ok v' w' ∧ Own8 w' B v' (bs ++ List.replicate k 0) ∧ Grew w w' v v' := by
  obtain ⟨i, hi, hz, h1, h2⟩ := u8_parts
  have ht : Tryd.prog.underlying 22 = some (.slice 5) := by kernel_rfl
  have htn : Tryd.prog.underlying 3 = some (.int .i64) := by kernel_rfl
  have hw : IntKind.i64.wrap (k : Int) = k := by rw [IntKind.wrap_i64]; omega
  have hneg : ¬ ((k : Int) < 0) := by omega
  have h48i : ¬ (281474976710656 < (k : Int) * (i.bytes : Int)) := by rw [h2]; omega
  have hl0 : bs.length = (byteVals bs).length := (byteVals_length bs).symm
  have hout : (bs ++ List.replicate k 0).length = bs.length + k := by simp
  have hvals : byteVals (bs ++ List.replicate k 0) = byteVals bs ++ List.replicate k (Value.int .u8 0) := by rw [byteVals_append]; simp [byteVals]
  have h' := h
  obtain ⟨hlen, hrow⟩ := h'
  unfold Own8
  rw [hout, hvals]
  by_cases hk : k = 0
  · subst hk
    have hw0 : IntKind.i64.wrap 0 = 0 := by simpa using hw
    refine ⟨v, w, ?_, by simpa [Own8] using h, ⟨⟨rfl, rfl, rfl, Nat.le_refl _, fun _ _ _ => rfl⟩, .inl rfl⟩⟩
    rcases hrow with ⟨rfl, h0⟩ | ⟨g, cap, cur, rfl, hbg, hg, hnc, hcm, hcs, htake⟩
    · simp [Builtin.append_, run_underlying ht, run_underlying htn, sizeOf, typeInfo, hi, asInt, asIntOf, hw0]
    · simp [Builtin.append_, run_underlying ht, run_underlying htn, sizeOf, typeInfo, hi, asInt, asIntOf, hw0, hnc, storeCells]
  · have grown : ∀ (old : Nat), old < bs.length + k → ∀ (row : Option Nat) (xs : List Value), xs = byteVals bs →
        (w.drew.alloc (.cells (xs ++ List.replicate k (Value.int .u8 0) ++ List.replicate (grownCap w (bs.length + k) old 5 - (bs.length + k)) (Value.int .u8 0)).toArray 5)).ownsRow B 5 1
          (.slice (some ⟨w.heap.size, 0, none⟩) (bs.length + k) (grownCap w (bs.length + k) old 5)) (bs.length + k) (byteVals bs ++ List.replicate k (Value.int .u8 0)) ∧
        w.grownBy (w.drew.alloc (.cells (xs ++ List.replicate k (Value.int .u8 0) ++ List.replicate (grownCap w (bs.length + k) old 5 - (bs.length + k)) (Value.int .u8 0)).toArray 5)) row := by
      intro old ho row xs hxs
      subst hxs
      have hge := grownCap_ge w (bs.length + k) old 5
      have hcm : grownCap w (bs.length + k) old 5 ≤ maxLen := grownCap_le_maxLen w (bs.length + k) old 5 (by unfold maxLen; omega)
      have hll : (byteVals bs ++ List.replicate k (Value.int .u8 0)).length = bs.length + k := by rw [List.length_append, byteVals_length, List.length_replicate]
      refine ⟨⟨by rw [hll]; omega, .inr ⟨w.heap.size, _, _, rfl, hB, heap_alloc_new w.drew _, hge, hcm, ?_, ?_⟩⟩, ⟨rfl, rfl, rfl, by simp, fun j hj _ => heap_alloc_old w.drew _ j hj⟩⟩
      · rw [List.size_toArray, List.length_append, hll, List.length_replicate]; omega
      · show ((byteVals bs ++ List.replicate k (Value.int .u8 0)) ++ _).take ((bs.length + k) * 1) = _
        rw [Nat.mul_one, ← hll, List.take_left]
    rcases hrow with ⟨rfl, h0⟩ | ⟨g, cap, cur, rfl, hbg, hg, hnc, hcm, hcs, htake⟩
    · have hb0 : bs = [] := List.eq_nil_of_length_eq_zero h0
      subst hb0
      have hr := Lib.run_append_nil_zeros (P := Tryd.prog) w 22 3 ty 5 i (.int .u8 0) .i64 .i64 ht htn hi hz k (by omega) (by omega) (by omega) (by rw [h2]; omega)
      rw [show (Value.int .u8 0).cells = #[.int .u8 0] from rfl, zero_cells, zero_cells, List.append_toArray] at hr
      have hg2 := grown 0 (by simp; omega) none [] rfl
      simp only [List.length_nil, Nat.zero_add, List.nil_append] at hg2 ⊢
      exact ⟨_, _, hr, hg2.1, ⟨hg2.2, .inr rfl⟩⟩
    · by_cases hroom : bs.length + k ≤ cap
      · have hst := storeCells_run (P := Tryd.prog) (off := bs.length) hg (List.replicate k (Value.int .u8 0)) (by rw [List.length_replicate]; omega) (fun v hv => by rw [(List.mem_replicate.1 hv).2]; rfl)
        refine ⟨.slice (some ⟨g, 0, none⟩) (bs.length + k) cap, w.setRow g (splice cur bs.length (List.replicate k (Value.int .u8 0))), ?_, ⟨by rw [List.length_append, byteVals_length, List.length_replicate]; omega, .inr ⟨g, cap, _, rfl, hbg, setRow_heap w g cur _ _ _ hg, hroom, hcm, ?_, ?_⟩⟩, ⟨⟨rfl, rfl, rfl, by simp, fun j _ hj => setRow_other w g j _ (fun e => hj (by simp [Value.ownBlock, e]))⟩, .inl rfl⟩⟩
        · simp [Builtin.append_, run_underlying ht, run_underlying htn, sizeOf, typeInfo, hi, asInt, asIntOf, hw, hneg, h48i, hroom, Value.cells, zero_cells, Addr.add_lit, h1, hst, hk]
        · rw [splice_size]
          · omega
          · rw [List.length_replicate]; omega
        · unfold splice
          rw [Nat.mul_one] at htake ⊢
          rw [htake, show bs.length + k = (byteVals bs ++ List.replicate k (Value.int .u8 0)).length by rw [List.length_append, byteVals_length, List.length_replicate]]
          exact List.take_left
      · have holds : ∀ (j : Nat) u, (byteVals bs)[j]? = some u → w.drew.cell? ((⟨g, 0, none⟩ : Addr).add j) = some u := h.cells (g := g) rfl
        have hfo := run_firstCells_some (P := Tryd.prog) w.drew i.size bs.length ⟨g, 0, none⟩ bs.length cap (byteVals bs) (by rw [h1, byteVals_length]; omega) holds
        rw [h1] at hfo
        have hg2 := grown cap (by omega) (Value.ownBlock (.slice (some ⟨g, 0, none⟩) bs.length cap)) _ rfl
        refine ⟨_, _, ?_, hg2.1, ⟨hg2.2, .inr rfl⟩⟩
        have h63 : ¬ (9223372036854775807 < ((bs.length : Int) + (k : Int))) := by omega
        have h48 : ¬ (281474976710656 < Builtin.nextslicecap (bs.length + k) cap * i.bytes) := Nat.not_lt.2 (growslice_fits (by omega) (by rw [h2]; omega))
        simp [Builtin.append_, run_underlying ht, run_underlying htn, sizeOf, typeInfo, hi, asInt, asIntOf, hw, hneg, h48i, hroom, Value.cells, zero_cells, h1, hk, h63, h48, Question.forced, hfo, newRow, grownCap]
        congr 2
        apply Array.ext'
        simp
end Go.Proofs.YtmcmapaapffadaaDoor

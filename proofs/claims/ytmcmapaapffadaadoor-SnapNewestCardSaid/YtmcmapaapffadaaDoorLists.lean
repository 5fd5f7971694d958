/-
  Lists of one-cell elements in memory: append onto a slice of no room; Twin, SameBytes, fate.
-/
import Derived.Test.YtmcmapaapffadaaDoorSecs
import Derived.Test.YtmcmapaapffadaaDoorWalkB
import Derived.Lib.Hide
import Derived.Deep.QuietTactic
import Derived.BigQuiet
import Derived.Deep.RegionHeld3
import Derived.Test.YtmcmapaapffadaaDoorAggs
import Derived.Test.YtmcmapaapffadaaDoorRegn
namespace Go.Proofs.YtmcmapaapffadaaDoor
open Go.RowKit Go.ChangeMaps

/-- These values lie there, outside F. -/
def CellsAt (w : World) (F : Nat → Prop) (v : Value) (vs : List Value) : Prop :=
  ∃ p c, v = .slice p vs.length c ∧ vs.length ≤ c ∧ ∀ (j : Nat) x, vs[j]? = some x → ∃ b o, p = some ⟨b, o, none⟩ ∧ ¬ F b ∧ w.cell? ⟨b, o + j, none⟩ = some x
theorem CellsAt.kept {w w' : World} {F F' : Nat → Prop} {v : Value} {vs : List Value} (h : CellsAt w F v vs) (hk : Kp F w w') (hF : ∀ k, F' k → F k ∨ w.heap.size ≤ k) : CellsAt w' F' v vs := by
  obtain ⟨p, c, rfl, hc, h⟩ := h
  refine ⟨p, c, rfl, hc, fun j x hj => ?_⟩
  obtain ⟨b, o, e, hb, hx⟩ := h j x hj
  refine ⟨b, o, e, fun h' => ?_, hk.cell hx hb⟩
  rcases hF b h' with h1 | h1
  · exact hb h1
  · have : b < w.heap.size := block_lt_of_cell hx
    omega
theorem CellsAt.mono {w : World} {F F' : Nat → Prop} {v : Value} {vs : List Value} (h : CellsAt w F v vs) (hF : ∀ k, F' k → F k) : CellsAt w F' v vs := by
  obtain ⟨p, c, rfl, hc, h⟩ := h
  exact ⟨p, c, rfl, hc, fun j x hj => let ⟨b, o, e, hb, hx⟩ := h j x hj; ⟨b, o, e, fun h' => hb (hF b h'), hx⟩⟩
/-- All of them lie in one block. -/
theorem CellsAt.holds {w : World} {F : Nat → Prop} {p : Option Addr} {n c : Nat} {vs : List Value} (h : CellsAt w F (.slice p n c) vs) :
    n = vs.length ∧ vs.length ≤ c ∧ ∃ b off, (n ≠ 0 → p = some ⟨b, off, none⟩) ∧ ∀ (j : Nat) x, vs[j]? = some x → w.cell? ⟨b, off + j, none⟩ = some x := by
  obtain ⟨p', c', e, hc, h⟩ := h
  injection e with e1 e2 e3
  subst e1 e2 e3
  refine ⟨rfl, hc, ?_⟩
  cases vs with
  | nil => exact ⟨0, 0, fun h => absurd rfl h, fun j v hj => by simp at hj⟩
  | cons x vs =>
    obtain ⟨b, o, e, _, _⟩ := h 0 x rfl
    refine ⟨b, o, fun _ => e, fun j v hj => ?_⟩
    obtain ⟨b', o', e', _, hc'⟩ := h j v hj
    rw [e] at e'
    injection e' with e'
    injection e' with e1 e2 _
    subst e1 e2
    exact hc'
theorem CellsAt.take {w : World} {F : Nat → Prop} {p : Option Addr} {n c : Nat} {vs : List Value} (h : CellsAt w F (.slice p n c) vs) {k : Nat} (hk : k ≤ n) : CellsAt w F (.slice p k c) (vs.take k) := by
  obtain ⟨p', c', e, hc, h⟩ := h
  injection e with e1 e2 e3
  subst e1 e2 e3
  have hl : (vs.take k).length = k := by rw [List.length_take]; omega
  refine ⟨p, c, by rw [hl], by omega, fun j x hj => ?_⟩
  rw [List.getElem?_take] at hj
  split at hj
  · exact h j x hj
  · cases hj

theorem info_u8 : ∃ i z, Tryd.prog.info? 5 = some i ∧ i.zero = some z ∧ i.size = 1 ∧ i.bytes = 1 ∧ z.cells.size = 1 := by
  have h : (Tryd.prog.info? 5).map (fun i => (i.zero.map fun z => z.cells.size, i.size, i.bytes)) = some (some 1, 1, 1) := by kernel_rfl
  obtain ⟨i, hi, he⟩ := Option.map_eq_some_iff.1 h
  simp only [Prod.mk.injEq, Option.map_eq_some_iff] at he
  obtain ⟨⟨z, hz, hs⟩, h1, h2⟩ := he
  exact ⟨i, z, hi, hz, h1, h2, hs⟩
theorem info_bool : ∃ i z, Tryd.prog.info? 4 = some i ∧ i.zero = some z ∧ i.size = 1 ∧ i.bytes = 1 ∧ z.cells.size = 1 := by
  have h : (Tryd.prog.info? 4).map (fun i => (i.zero.map fun z => z.cells.size, i.size, i.bytes)) = some (some 1, 1, 1) := by kernel_rfl
  obtain ⟨i, hi, he⟩ := Option.map_eq_some_iff.1 h
  simp only [Prod.mk.injEq, Option.map_eq_some_iff] at he
  obtain ⟨⟨z, hz, hs⟩, h1, h2⟩ := he
  exact ⟨i, z, hi, hz, h1, h2, hs⟩
theorem alloc_size' (w : World) (o : Obj) : (w.alloc o).heap.size = w.heap.size + 1 := by simp
set_option maxRecDepth 100000 in
/-- append of one-cell elements onto an empty slice without room. -/
theorem append_new {t e : TypeId} {i : TypeInfo} {z : Value} (ht : Tryd.prog.underlying t = some (.slice e)) (hi : Tryd.prog.info? e = some i) (hz : i.zero = some z) (h1 : i.size = 1) (hb : i.bytes = 1)
    {w : World} {F : Nat → Prop} {x : Value} {vs : List Value} (hx : CellsAt w F x vs) (hn : vs.length ≤ 140737488351232) (b0 : Nat) (hb0 : b0 < w.heap.size) (ty : TypeId) :
    ∃ g c w', (Builtin.append_ #[t, t] ty #[.slice (some ⟨b0, 0, none⟩) 0 0, x]).run Tryd.prog w = .ok (.slice (some ⟨g, 0, none⟩) vs.length c) w' ∧ vs.length ≤ c ∧ (g = b0 ∨ g = w.heap.size) ∧ g < w'.heap.size ∧
      (∀ (j : Nat) x, vs[j]? = some x → w'.cell? ⟨g, 0 + j, none⟩ = some x) ∧ Kp (fun _ => False) w w' := by
  obtain ⟨p, c, rfl, hc, h⟩ := hx
  cases vs with
  | nil =>
    refine ⟨b0, 0, w, ?_, Nat.le_refl _, .inl rfl, hb0, fun j x hj => by simp at hj, Kp.refl _ _⟩
    have hf : (Builtin.firstCells i.size 0 (.slice p 0 c)).run Tryd.prog w = .ok #[] w := by
      cases p with
      | none => simp [Builtin.firstCells]
      | some q => simp [Builtin.firstCells, loadCells, loadCellsFrom]
    simp [Builtin.append_, run_underlying ht, sizeOf, typeInfo, hi, Builtin.lenOf, hf, storeCells]
  | cons v vs =>
    obtain ⟨n, hvn⟩ : ∃ n, (v :: vs).length = n := ⟨_, rfl⟩
    have hpos : 0 < n := by rw [← hvn]; simp
    obtain ⟨bb, o, rfl, _, _⟩ := h 0 v rfl
    have hnews : ∀ (j : Nat) x, (v :: vs)[j]? = some x → w.cell? ((⟨bb, o, none⟩ : Addr).add j) = some x := by
      intro j x hj
      obtain ⟨b', o', e', _, hc'⟩ := h j x hj
      injection e' with e'
      injection e' with e1 e2 _
      subst e1 e2
      rw [Addr.add_lit]; exact hc'
    rw [hvn] at hn hc ⊢
    have hd : (w.drew).heap.size = w.heap.size := rfl
    have hfit : Builtin.nextslicecap (0 + n) 0 * i.bytes ≤ 281474976710656 := by rw [Nat.zero_add, nextslicecap_zero hpos, hb]; omega
    have hcap := grownCap_ge w n 0 e
    have hrun := run_append_grow (P := Tryd.prog) w t ty e i z ht hi hz ⟨b0, 0, none⟩ 0 0 [] (by simp) (by simp) ⟨bb, o, none⟩ n c (v :: vs) (by rw [hvn, h1]; omega) hnews (by omega) (by omega) hfit
    simp only [Nat.zero_add] at hrun
    rw [toArr2] at hrun
    refine ⟨w.heap.size, _, _, hrun, hcap, .inr rfl, by rw [alloc_size', hd]; omega, fun j x hj => ?_, (Kp.refl _ _).drew.alloc _⟩
    have hh : (w.drew.alloc (.cells ([] ++ (v :: vs) ++ (Builtin.zeroCells z.cells (grownCap w n 0 e - n)).toList).toArray e)).heap[w.heap.size]? = some (.cells ([] ++ (v :: vs) ++ (Builtin.zeroCells z.cells (grownCap w n 0 e - n)).toList).toArray e (0, 0)) := heap_alloc_new w.drew _
    rw [Nat.zero_add, blk_cell hh]
    have hlt := (List.getElem?_eq_some_iff.1 hj).1
    rw [List.getElem?_toArray, List.nil_append, List.getElem?_append_left hlt]
    exact hj

/-- A copy in new memory. -/
def NewRow (w : World) (vs : List Value) (v : Value) (w' : World) : Prop :=
  ∃ g c, v = .slice (some ⟨g, 0, none⟩) vs.length c ∧ vs.length ≤ c ∧ w.heap.size ≤ g ∧ g < w'.heap.size ∧ (∀ (j : Nat) x, vs[j]? = some x → w'.cell? ⟨g, 0 + j, none⟩ = some x) ∧ Kp (fun _ => False) w w'
theorem Twin_any {w : World} {F : Nat → Prop} {v : Value} {vs : List Value} (h : CellsAt w F v vs) (hl : vs.length ≤ 140737488351232) :
    Calls Tryd.prog 9 #[v] w fun e w' => ∃ u, e = .returned u ∧ NewRow w vs u w' := by
  obtain ⟨i, z, hi, hz, h1, hb, _⟩ := info_u8
  have h2 : CellsAt (w.alloc (.cells #[] 5)) (fun k => F k ∧ k < w.heap.size) v vs := (h.mono fun _ h => h.1).kept ((Kp.refl _ w).alloc _) fun _ h => .inl h
  obtain ⟨g, c, w', hap, hc, hg, hgs, hx, hk⟩ := append_new (t := 22) (by kernel_rfl) hi hz h1 hb h2 hl w.heap.size (by simp) 22
  have HC := Lib.hid hx
  have HK := Lib.hid hk
  have HG := Lib.hid hg
  have HS := Lib.hid hgs
  clear h h2 hx hk hi hz hl hg hgs
  go_enter Tryd.func9, Tryd.ntmps9
  go_wp2_with (at_builtin; refine wpList_append_run rfl _ _ _ _ rfl rfl rfl hap ?_)
  go_ret
  refine ⟨_, rfl, g, c, rfl, hc, ?_, HS.out, HC.out, ((Kp.refl (fun _ => False) w).alloc _).trans HK.out⟩
  have h := HG.out
  rw [alloc_size'] at h
  omega

theorem u8_inj {a b : List Int} : a.map (Value.int .u8) = b.map (Value.int .u8) ↔ a = b := ⟨fun h => List.map_inj_right (f := Value.int .u8) (fun x y e => by injection e) |>.1 h, fun h => by rw [h]⟩
set_option maxHeartbeats 2000000 in
set_option maxRecDepth 100000 in
theorem SameBytes_any {w : World} {F G : Nat → Prop} {v1 v2 : Value} {a b : List Int} (h1 : CellsAt w F v1 (a.map (Value.int .u8))) (h2 : CellsAt w G v2 (b.map (Value.int .u8))) (ha : a.length ≤ 140737488351232) :
    Calls Tryd.prog 14 #[v1, v2] w fun e w' => e = .returned (.bool (decide (a = b))) ∧ Kp (fun _ => False) w w' := by
  obtain ⟨p1, c1, rfl, -, H1⟩ := h1
  obtain ⟨p2, c2, rfl, -, H2⟩ := h2
  rw [List.length_map, List.length_map]
  have H1 := Lib.hid H1
  have H2 := Lib.hid H2
  by_cases hl : a.length = b.length
  · obtain ⟨n, hn⟩ : ∃ n, a.length = n := ⟨_, rfl⟩
    have hbn : b.length = n := by omega
    rw [hn, hbn]
    rw [hn] at ha
    have HN := Lib.hid hn
    have HB := Lib.hid hbn
    clear hl hn hbn
    go_enter Tryd.func14, Tryd.ntmps14
    go_wp2
    go_loopw [13] (fun vi wr => ∃ i : Nat, i ≤ n ∧ vi = .int .i64 i ∧ Kp (fun _ => False) w wr ∧ a.take i = b.take i) (fun i _ => n - (intOf i).toNat)
    case atStart => exact ⟨0, Nat.zero_le _, rfl, Kp.refl _ _, by simp⟩
    case round =>
      obtain ⟨i, hi, rfl, hkp, hpre⟩ := hrel
      have HK := Lib.hid hkp
      have HP := Lib.hid hpre
      by_cases hlt : i < n
      · have hai : i < a.length := by rw [HN.out]; exact hlt
        have hbi : i < b.length := by rw [HB.out]; exact hlt
        obtain ⟨b1, o1, rfl, -, hc1⟩ := H1.out i (.int .u8 a[i]) (by rw [List.getElem?_map, List.getElem?_eq_getElem hai]; rfl)
        obtain ⟨b2, o2, rfl, -, hc2⟩ := H2.out i (.int .u8 b[i]) (by rw [List.getElem?_map, List.getElem?_eq_getElem hbi]; rfl)
        have hr1 := hkp.cell hc1 id
        have hr2 := hkp.cell hc2 id
        obtain ⟨x, hx⟩ : ∃ x, a[i] = x := ⟨_, rfl⟩
        obtain ⟨y, hy⟩ : ∃ y, b[i] = y := ⟨_, rfl⟩
        rw [hx] at hr1
        rw [hy] at hr2
        have HA : Hid (a[i]? = some x) := by rw [List.getElem?_eq_getElem hai, hx]; rfl
        have HY : Hid (b[i]? = some y) := by rw [List.getElem?_eq_getElem hbi, hy]; rfl
        clear hx hy hc1 hc2 hai hbi hkp hpre
        by_cases hxy : x = y
        · subst hxy
          go_wp2
          go_quiet (fail)
          go_wp2
          go_roundw
          case rel =>
            refine ⟨i + 1, by omega, by go_num, ?_, ?_⟩
            · exact HK.out.trans ((Kp.refl _ _).drewN _)
            · rw [List.take_add_one, List.take_add_one, HP.out, HA.out, HY.out]
          case measure => simp [intOf]; omega
        · go_wp2
          go_quiet (fail)
          go_wp2
          go_ret
          refine ⟨?_, HK.out.trans ((Kp.refl _ _).drewN _)⟩
          have : a ≠ b := by
            rintro rfl
            have h1 := HA.out
            rw [HY.out] at h1
            injection h1 with h1
            exact hxy h1.symm
          exact congrArg (fun x => Ending.returned (.bool x)) (decide_eq_false this).symm
      · go_wp2
        go_ret
        refine ⟨?_, HK.out⟩
        have : a = b := by
          have h := HP.out
          rw [List.take_of_length_le (by rw [HN.out]; omega), List.take_of_length_le (by rw [HB.out]; omega)] at h
          exact h
        exact congrArg (fun x => Ending.returned (.bool x)) (decide_eq_true this).symm
  · obtain ⟨n, hn⟩ : ∃ n, a.length = n := ⟨_, rfl⟩
    obtain ⟨m, hm⟩ : ∃ m, b.length = m := ⟨_, rfl⟩
    rw [hn, hm]
    rw [hn] at ha hl
    rw [hm] at hl
    have hne : a ≠ b := by
      rintro rfl
      exact hl (hn.symm.trans hm)
    have HN := Lib.hid hne
    clear hn hm hne
    go_enter Tryd.func14, Tryd.ntmps14
    go_wp2
    go_ret
    refine ⟨?_, Kp.refl _ _⟩
    exact congrArg (fun x => Ending.returned (.bool x)) (decide_eq_false HN.out).symm
theorem oper_append2 {P : Program} {o : Oper} {a : Act} {w w' : World} {K : Act → World → Prop} {Q : Exit → Act → World → Prop} (s x : Operand) (t tx : TypeId)
    (ho : o.op = .call { callee := .builtin .append, args := #[s, x], argTypes := #[t, tx] }) {vs vx v : Value} (hs : a.eval s = vs) (hx : a.eval x = vx)
    (hr : (Builtin.append_ #[t, tx] o.type #[vs, vx]).run P w = .ok v w') (h : K (a.put o.dst v) w') : Oper.wp P o a w K Q := by
  unfold Oper.wp execOp
  simp only [ho, resolve, invoke, builtin, Sem.run_bind, Sem.run_pure, Result.andThen_ok, List.map_toArray, List.map_cons, List.map_nil, hs, hx, hr]
  exact h
theorem oper_store_agg {P : Program} {o : Oper} {a : Act} {w : World} {K : Act → World → Prop} {Q : Exit → Act → World → Prop} (ty : TypeId) (x y : Operand) (ho : o.op = .store ty x y)
    {g off : Nat} {t : TypeId} {cur cells : Array Value} (hx : a.eval x = .pointer (some ⟨g, off, none⟩)) (hy : a.eval y = .agg cells) (hg : w.heap[g]? = some (.cells cur t (0, 0)))
    (hi : (P.info? ty).map (·.size) = some cells.size) (hl : off + cells.size ≤ cur.size) (h1 : ∀ v ∈ cells.toList, v.oneCell' = true)
    (h : K (a.put o.dst undef) (w.setRow g (splice cur off cells.toList))) : Oper.wp P o a w K Q := by
  obtain ⟨i, hi1, hi2⟩ := Option.map_eq_some_iff.1 hi
  have hs := storeCells_run (P := P) hg cells.toList (by simpa using hl) h1
  unfold Oper.wp execOp
  simp only [ho, hx, hy, Instr.storeAt, Instr.sureAddr, Sem.run_bind, Sem.run_pure, Result.andThen_ok]
  have hsv : (storeVar ty ⟨g, off, none⟩ (.agg cells)).run P w = .ok () (w.setRow g (splice cur off cells.toList)) := by
    simp [storeVar, sizeOf, typeInfo, hi1, Value.cells, ← hi2, hs]
  simp only [hsv, Result.andThen_ok]
  exact h
/-- A fate of its own: the list of bools lies in new memory. -/
def FateRow (w : World) (dn : Bool) (L : List Bool) (e : Ending) (w' : World) : Prop :=
  ∃ g c, e = .returned (.agg #[.bool dn, .slice (some ⟨g, 0, none⟩) L.length c]) ∧ L.length ≤ c ∧ w.heap.size ≤ g ∧ g < w'.heap.size ∧
    (∀ (j : Nat) x, (L.map Value.bool)[j]? = some x → w'.cell? ⟨g, 0 + j, none⟩ = some x) ∧ Kp (fun _ => False) w w'
set_option maxHeartbeats 2000000 in
set_option maxRecDepth 100000 in
theorem fate_any {w : World} {F : Nat → Prop} {dn : Bool} {p : Option Addr} {c : Nat} {L : List Bool} (h : CellsAt w F (.slice p L.length c) (L.map Value.bool)) (hl : L.length ≤ 140737488351232) :
    Calls Tryd.prog 18 #[.agg #[.bool dn, .slice p L.length c]] w (FateRow w dn L) := by
  obtain ⟨i, z, hi, hz, h1, hb, _⟩ := info_bool
  obtain ⟨w3, hw3⟩ : ∃ w3, w3 = (((w.alloc (.cells #[.bool dn, .slice p L.length c] 45)).alloc (.cells #[.bool false, .slice none 0 0] 48)).alloc (.cells #[] 4)).drew := ⟨_, rfl⟩
  have k3 : Kp (fun _ => False) w w3 := by rw [hw3]; exact ((((Kp.refl _ w).alloc _).alloc _).alloc _).drew
  have s3 : w3.heap.size = w.heap.size + 1 + 1 + 1 := by rw [hw3]; simp only [World.drew]; rw [alloc_size', alloc_size', alloc_size']
  have hx : CellsAt w3 (fun k => F k ∧ k < w.heap.size) (.slice p L.length c) (L.map Value.bool) := (h.mono fun _ h => h.1).kept (k3.mono fun _ h => h.elim) fun _ h => .inl h
  obtain ⟨g, c2, w', hap, hc, hg, hgs, hcl, hk⟩ := append_new (t := 43) (by kernel_rfl) hi hz h1 hb hx (by simpa using hl) (w.heap.size + 1 + 1) (by omega) 43
  rw [List.length_map] at hap hc
  have e0 : w3.cell? ⟨w.heap.size, 0, none⟩ = some (.bool dn) := by rw [hw3]; exact (blk_cell (blk_drew (blk_alloc _ (blk_alloc _ (heap_alloc_new w _)))) 0)
  have e1 : w3.cell? ⟨w.heap.size, 1, none⟩ = some (.slice p L.length c) := by rw [hw3]; exact (blk_cell (blk_drew (blk_alloc _ (blk_alloc _ (heap_alloc_new w _)))) 1)
  have d0 : ((w.alloc (.cells #[.bool dn, .slice p L.length c] 45)).alloc (.cells #[.bool false, .slice none 0 0] 48)).drew.cell? ⟨w.heap.size, 0, none⟩ = some (.bool dn) := (blk_cell (blk_drew (blk_alloc _ (heap_alloc_new w _))) 0)
  have d1 : ((w.alloc (.cells #[.bool dn, .slice p L.length c] 45)).alloc (.cells #[.bool false, .slice none 0 0] 48)).drew.cell? ⟨w.heap.size, 1, none⟩ = some (.slice p L.length c) := (blk_cell (blk_drew (blk_alloc _ (heap_alloc_new w _))) 1)
  have f0 := hk.cell e0 id
  have f1 := hk.cell e1 id
  have r3 : w3.heap[w.heap.size + 1]? = some (.cells #[.bool false, .slice none 0 0] 48 (0, 0)) := by
    have hs : (w.alloc (.cells #[.bool dn, .slice p L.length c] 45)).heap.size = w.heap.size + 1 := alloc_size' _ _
    rw [hw3, ← hs]
    exact blk_drew (blk_alloc _ (heap_alloc_new _ _))
  have r4 := hk.blk r3 id
  obtain ⟨w5, hw5⟩ : ∃ w5, w5 = w'.setRow (w.heap.size + 1) (splice #[.bool false, .slice none 0 0] 0 (#[.bool dn, .slice (some ⟨g, 0, none⟩) L.length c2] : Array Value).toList) := ⟨_, rfl⟩
  have r5 : w5.heap[w.heap.size + 1]? = some (.cells #[.bool dn, .slice (some ⟨g, 0, none⟩) L.length c2] 48 (0, 0)) := by rw [hw5]; exact setRow_heap _ _ _ _ _ _ r4
  have q0 := blk_cell r5 0
  have q1 := blk_cell r5 1
  simp only [List.getElem?_toArray, List.getElem?_cons_zero, List.getElem?_cons_succ] at q0 q1
  have k5 : Kp (fun k => k = w.heap.size + 1) w' w5 := by
    rw [hw5]; exact ⟨rfl, rfl, rfl, by simp, fun k _ hk => by simp only [World.setRow, Array.getElem?_modify]; rw [if_neg (Ne.symm hk)]⟩
  have g0 := k5.cell f0 (by omega)
  have g1 := k5.cell f1 (by omega)
  have HC := Lib.hid hcl
  have HK := Lib.hid (k3.trans hk)
  have HG := Lib.hid hg
  have HS := Lib.hid hgs
  have S3 := Lib.hid s3
  rw [hw3] at e0 e1 hap
  clear hcl hk hg hgs s3 k3 hx r3 h hi hz h1 hb hl hw3
  go_enter Tryd.func18, Tryd.ntmps18
  go_wp2
  refine wp_region_held_drew (S := (fun w' => w'.cell? ⟨w.heap.size, 0, none⟩ = some (.bool dn) ∧ w'.cell? ⟨w.heap.size, 1, none⟩ = some (.slice p L.length c))) (by kernel_rfl) ⟨d0, d1⟩ (fun hHeld => ?_)
  refine take_yes (i := 0) (v := ?_) (some 3) rfl rfl (by kernel_rfl) (by kernel_rfl) (by kernel_rfl) (fun _ _ _ h => h) (Or.inl ⟨by rfl, ?_⟩) (by assumption) ?_
  rotate_left
  · (intro w hSw; (try dsimp only at hSw); go_simp <;> (try with_reducible rfl))
  (try simp only [Act.put, List.setIfInBounds_toArray, List.set_cons_zero, List.set_cons_succ])
  refine take_yes (i := 1) (v := ?_) (some 4) rfl rfl (by kernel_rfl) (by kernel_rfl) (by kernel_rfl) (fun _ _ _ h => h) (Or.inl ⟨by rfl, ?_⟩) (by assumption) ?_
  rotate_left
  · (intro w hSw; (try dsimp only at hSw); go_simp <;> (try with_reducible rfl))
  (try simp only [Act.put, List.setIfInBounds_toArray, List.set_cons_zero, List.set_cons_succ])
  refine take_yes (i := 3) (v := ?_) (some 6) rfl rfl (by kernel_rfl) (by kernel_rfl) (by kernel_rfl) (fun _ _ _ h => h) (Or.inl ⟨by rfl, ?_⟩) (by assumption) ?_
  rotate_left
  · (intro w hSw; (try dsimp only at hSw); go_simp <;> (try with_reducible rfl))
  (try simp only [Act.put, List.setIfInBounds_toArray, List.set_cons_zero, List.set_cons_succ])
  refine take_yes (i := 4) (v := ?_) (some 7) rfl rfl (by kernel_rfl) (by kernel_rfl) (by kernel_rfl) (fun _ _ _ h => h) (Or.inl ⟨by rfl, ?_⟩) (by assumption) ?_
  rotate_left
  · (intro w hSw; (try dsimp only at hSw); go_simp <;> (try with_reducible rfl))
  (try simp only [Act.put, List.setIfInBounds_toArray, List.set_cons_zero, List.set_cons_succ])
  refine wpAnyH_ready (rs := [2]) (by kernel_rfl) (by simp) ?_
  refine AllReadyH.cons (o := _) rfl (fun K hK => ?_) AllReadyH.nil
  go_simp
  skip
  refine hK.out _ _ ⟨e0, e1⟩ (fun hHeld => ?_)
  clear hK K
  (try simp only [Act.put, List.setIfInBounds_toArray, List.set_cons_zero, List.set_cons_succ])
  refine wpAnyH_ready (rs := [5]) (by kernel_rfl) (by simp) ?_
  refine AllReadyH.cons (o := _) rfl (fun K hK => ?_) AllReadyH.nil
  skip
  refine oper_append2 _ _ _ _ rfl rfl rfl hap ?_
  change K (Act.put _ (some 8) _) _
  refine hK.out _ _ ⟨f0, f1⟩ (fun hHeld => ?_)
  clear hK K
  (try simp only [Act.put, List.setIfInBounds_toArray, List.set_cons_zero, List.set_cons_succ])
  refine take_yes (i := 6) (v := ?_) (some 9) rfl rfl (by kernel_rfl) (by kernel_rfl) (by kernel_rfl) (fun _ _ _ h => h) (Or.inl ⟨by rfl, ?_⟩) (by assumption) ?_
  rotate_left
  · (intro w hSw; (try dsimp only at hSw); go_simp <;> (try with_reducible rfl))
  (try simp only [Act.put, List.setIfInBounds_toArray, List.set_cons_zero, List.set_cons_succ])
  refine wpAnyH_ready (rs := [7]) (by kernel_rfl) (by simp) ?_
  refine AllReadyH.cons (o := _) rfl (fun K hK => ?_) AllReadyH.nil
  skip
  refine oper_store_agg 48 _ _ rfl rfl rfl r4 (by kernel_rfl) (Nat.le_refl _) (by intro v hv; rcases List.mem_cons.1 hv with rfl | hv; rfl; rcases List.mem_cons.1 hv with rfl | hv; rfl; cases hv) ?_
  rw [← hw5]
  change K (Act.put _ none _) _
  refine hK.out _ _ ⟨g0, g1⟩ (fun hHeld => ?_)
  clear hK K
  (try simp only [Act.put])
  refine wpAnyH_done (by kernel_rfl) ?_ _
  clear r4 hw5 f0 f1 e0 e1 d0 d1 hap
  go_wp2
  refine bodyPost_ret (results_cell_row (P := Tryd.prog) rfl _ _ (w.heap.size + 1) _ _ _ _ rfl r5 Tryd.underlying48 rfl (by kernel_rfl)) rfl ?_
  have h := HG.out
  rw [S3.out] at h
  refine ⟨g, c2, rfl, hc, by omega, Nat.lt_of_lt_of_le HS.out k5.size, fun j x hj => ?_, HK.out.trans' k5 fun i h => by right; omega⟩
  exact k5.cell (HC.out j x hj) (by omega)
end Go.Proofs.YtmcmapaapffadaaDoor

/-
  slices.Contains at []string, slices.Reverse at []int64: the shelf's contracts laid at this dump; a row of whole numbers of the call's own; passbookref01.SameInts of lists that are alike.
-/
import Derived.Test.YtmcmapaapffadaaDoorName
import Derived.Shelf.SlicesE.Reverse
import Derived.Shelf.SlicesE.Index
namespace Go.Proofs.YtmcmapaapffadaaDoor
open Go.RowKit Go.Shelf Go.ChangeMaps

def renC : Go.Shelf.Ren := ⟨fun | 29 => 48 | 31 => 24 | n => n, fun | 0 => 0 | 3 => 3 | 4 => 4 | 22 => 58 | 23 => 9 | n => n, fun | n => n⟩
theorem laysC : Go.Proofs.SlLaysE.n31 Tryd.prog renC := {
  mixed := by kernel_rfl
  f29 := ⟨Tryd.f48.name, by decide, Tryd.func48.trans (congrArg some (by kernel_rfl))⟩
  f31 := ⟨Tryd.f24.name, by decide, Tryd.func24.trans (congrArg some (by kernel_rfl))⟩
  t0 := Tryd.underlying0
  a0 := Tryd.isAgg0
  z0 := Tryd.sizeOf0
  v0 := Tryd.zeroValue0
  t3 := Tryd.underlying3
  a3 := Tryd.isAgg3
  z3 := Tryd.sizeOf3
  v3 := Tryd.zeroValue3
  t4 := Tryd.underlying4
  a4 := Tryd.isAgg4
  z4 := Tryd.sizeOf4
  v4 := Tryd.zeroValue4
  t22 := Tryd.underlying58
  a22 := Tryd.isAgg58
  z22 := Tryd.sizeOf58
  v22 := Tryd.zeroValue58
  a23 := Tryd.isAgg9
  z23 := Tryd.sizeOf9 }
def renR : Go.Shelf.Ren := ⟨fun | 35 => 20 | n => n, fun | 0 => 0 | 3 => 3 | 4 => 4 | 22 => 31 | 23 => 2 | n => n, fun | n => n⟩
theorem laysR : Go.Proofs.SlLaysE.n35 Tryd.prog renR := {
  mixed := by kernel_rfl
  f35 := ⟨Tryd.f20.name, by decide, Tryd.func20.trans (congrArg some (by kernel_rfl))⟩
  t0 := Tryd.underlying0
  a0 := Tryd.isAgg0
  z0 := Tryd.sizeOf0
  v0 := Tryd.zeroValue0
  t3 := Tryd.underlying3
  a3 := Tryd.isAgg3
  z3 := Tryd.sizeOf3
  v3 := Tryd.zeroValue3
  t4 := Tryd.underlying4
  a4 := Tryd.isAgg4
  z4 := Tryd.sizeOf4
  v4 := Tryd.zeroValue4
  t22 := Tryd.underlying31
  a22 := Tryd.isAgg31
  z22 := Tryd.sizeOf31
  v22 := Tryd.zeroValue31
  a23 := Tryd.isAgg2
  z23 := Tryd.sizeOf2 }
/-- A row of names, and whether one is among them. -/
theorem Contains_names {w : World} {base : Nat} {v : Value} {ns : List Nm} (h : w.ownsRow base 9 1 v ns.length (ns.map Value.string)) (hl : ns.length ≤ 1000) (x : Nm) :
    Calls Tryd.prog 24 #[v, .string x] w fun e w' => ∃ b, e = .returned (.bool b) ∧ (b = true ↔ x ∈ ns) ∧ w = w' := by
  obtain ⟨np, nc, rfl, hc⟩ := names_row h
  cases ns with
  | nil =>
    refine (AnyE.slices_Contains_empty laysC np nc (.string x) w).mono ?_
    rintro e w' ⟨rfl, rfl⟩
    exact ⟨_, rfl, by simp, rfl⟩
  | cons y ys =>
    obtain ⟨nb, rfl, _, _⟩ := hc 0 y rfl
    refine (AnyE.slices_Contains laysC Value.string _ (EqlAt.string _ _) nb 0 (y :: ys).length nc (y :: ys) x w (Nat.le_refl _) (by omega) fun j hj => ?_).mono ?_
    · obtain ⟨nb', e, _, h⟩ := hc j (y :: ys)[j] (List.getElem?_eq_getElem hj)
      injection e with e
      injection e with e _ _
      subst e
      rw [Nat.zero_add, h, getElem!_pos (y :: ys) j hj]
    · rintro e w' ⟨rfl, rfl⟩
      refine ⟨_, rfl, ?_, rfl⟩
      rw [List.take_length, List.any_eq_true]
      constructor
      · rintro ⟨z, hz, e⟩
        rw [beq_iff_eq, ByteArray.toList_eq, ByteArray.toList_eq] at e
        rw [show x = z from ByteArray.ext (Array.toList_inj.mp e)]; exact hz
      · intro hx
        exact ⟨x, hx, by simp⟩
/-! ### a row of whole numbers -/
def intVals (l : List Nat) : List Value := l.map fun n : Nat => Value.int .i64 (n : Int)
def OwnI (w : World) (B : Nat) (v : Value) (ns : List Nat) : Prop := w.ownsRow B 2 1 v ns.length (intVals ns)
theorem intVals_length (a : List Nat) : (intVals a).length = a.length := by simp [intVals]
theorem intVals_append (a b : List Nat) : intVals (a ++ b) = intVals a ++ intVals b := by simp [intVals]
theorem OwnI.nil (w : World) (B : Nat) : OwnI w B (.slice none 0 0) [] := ⟨rfl, .inl ⟨rfl, rfl⟩⟩
theorem i64_parts : ∃ i, Tryd.prog.info? 2 = some i ∧ i.zero = some (.int .i64 0) ∧ i.size = 1 ∧ i.bytes = 8 := by
  have h : (Tryd.prog.info? 2).map (fun i => (i.zero, i.size, i.bytes)) = some (some (.int .i64 0), 1, 8) := by kernel_rfl
  obtain ⟨i, hi, he⟩ := Option.map_eq_some_iff.1 h
  simp only [Prod.mk.injEq] at he
  exact ⟨i, hi, he.1, he.2.1, he.2.2⟩
theorem OwnI.kept {w w' : World} {B : Nat} {v : Value} {bs : List Nat} {F : Nat → Prop} (h : OwnI w B v bs) (hk : Kp F w w') (hF : ∀ k, v.ownBlock = some k → ¬ F k) : OwnI w' B v bs := by
  obtain ⟨h1, h2⟩ := h
  refine ⟨h1, h2.imp id ?_⟩
  rintro ⟨g, cap, cur, rfl, hg, hh, r⟩
  exact ⟨g, cap, cur, rfl, hg, hk.blk hh (hF g rfl), r⟩
theorem OwnI.base {w : World} {B B' : Nat} {v : Value} {bs : List Nat} (h : OwnI w B v bs) (hB : B' ≤ B) : OwnI w B' v bs := by
  obtain ⟨h1, h2⟩ := h
  refine ⟨h1, h2.imp id ?_⟩
  rintro ⟨g, cap, cur, e, hg, r⟩
  exact ⟨g, cap, cur, e, Nat.le_trans hB hg, r⟩
theorem OwnI.lt {w : World} {B : Nat} {v : Value} {bs : List Nat} (h : OwnI w B v bs) : ∀ k, v.ownBlock = some k → B ≤ k ∧ k < w.heap.size := by
  intro k hk
  obtain ⟨_, ⟨rfl, _⟩ | ⟨g, cap, cur, rfl, hg, hh, _⟩⟩ := h
  · cases hk
  · simp only [Value.ownBlock, Option.some.injEq] at hk
    subst hk
    exact ⟨hg, blk_lt hh⟩
theorem OwnI.slice {w : World} {B : Nat} {v : Value} {bs : List Nat} (h : OwnI w B v bs) : ∃ p c, v = .slice p bs.length c := by
  obtain ⟨_, ⟨rfl, h0⟩ | ⟨g, cap, cur, rfl, _⟩⟩ := h
  · exact ⟨none, 0, by rw [h0]⟩
  · exact ⟨_, _, rfl⟩
set_option maxRecDepth 100000 in
/-- append of one number, its row just made. -/
theorem own_int {w : World} {B : Nat} {v : Value} {ns : List Nat} (h : OwnI w B v ns) (n : Nat) (hB : B ≤ w.heap.size) (hn : ns.length ≤ 1000000) (ty : TypeId) :
    ∃ v' w', (Builtin.append_ #[31, 31] ty #[v, .slice (some ⟨w.heap.size, 0, none⟩) 1 1]).run Tryd.prog (w.alloc (.cells #[.int .i64 (n : Int)] 2)) = .ok v' w' ∧ OwnI w' B v' (ns ++ [n]) ∧ Grew (w.alloc (.cells #[.int .i64 (n : Int)] 2)) w' v v' := by
  obtain ⟨i, hi, hz, h1, h2⟩ := i64_parts
  have h' : OwnI (w.alloc (.cells #[.int .i64 (n : Int)] 2)) B v ns := h.kept (F := fun _ => False) ((Kp.refl _ w).alloc _) fun _ _ h => h
  obtain ⟨v', w', hr, ho, hg, _, hb⟩ := run_append_own_at (P := Tryd.prog) (w.alloc (.cells #[.int .i64 (n : Int)] 2)) B 31 ty 2 i (.int .i64 0) 1 8 (by kernel_rfl) hi hz h1 h2 rfl (by omega) v ns.length (intVals ns) h' ⟨w.heap.size, 0, none⟩ 1 1 (intVals [n]) (by rw [intVals_length]; rfl) (fun j u hj => by
      obtain rfl : j = 0 := by
        have := (List.getElem?_eq_some_iff.1 hj).1
        rw [intVals_length] at this
        simpa using this
      rw [Addr.add_lit, blk_cell (heap_alloc_new w _)]
      simpa [intVals] using hj)
    (fun u hu => by
      obtain ⟨x, _, rfl⟩ := List.mem_map.1 hu
      rfl) (by unfold maxLen; omega) (by omega) (by rw [alloc_size']; omega)
  refine ⟨v', w', hr, ?_, hg, hb⟩
  unfold OwnI
  rw [List.length_append, intVals_append]
  exact ho
/-- A slice of whole numbers, read. -/
def RowI (w : World) (v : Value) (ns : List Nat) : Prop := ∃ p c, v = .slice p ns.length c ∧ ∀ (j n : Nat), ns[j]? = some n → ∃ b, p = some ⟨b, 0, none⟩ ∧ w.cell? ⟨b, j, none⟩ = some (.int .i64 (n : Int))
theorem OwnI.row {w : World} {B : Nat} {v : Value} {ns : List Nat} (h : OwnI w B v ns) : RowI w v ns := by
  obtain ⟨_, ⟨rfl, h0⟩ | ⟨g, cap, cur, rfl, hb, hg, hn, hm, _, ht⟩⟩ := h
  · refine ⟨none, 0, by rw [h0], ?_⟩
    intro j n hj
    rw [List.eq_nil_of_length_eq_zero h0] at hj; simp at hj
  · refine ⟨_, cap, rfl, ?_⟩
    intro j n hj
    refine ⟨g, rfl, ?_⟩
    rw [blk_cell hg]
    have hlt : j < ns.length := (List.getElem?_eq_some_iff.1 hj).1
    have h1 : (intVals ns)[j]? = some (.int .i64 (n : Int)) := by simp [intVals, hj]
    rw [← ht, List.getElem?_take, if_pos (by omega)] at h1
    simpa using h1
theorem kp_putRow {α : Type} [Inhabited α] (enc : α → Value) (w : World) (n blk off : Nat) (d : Array α) : Kp (fun k => k = blk) w (Sort.putRow enc (Sort.ahead w n) blk off d) := by
  refine ⟨rfl, rfl, rfl, by simp, fun k hk hF => ?_⟩
  simp only [Sort.putRow, Sort.mapBlock, Array.getElem?_modify]
  rw [if_neg (fun h => hF h.symm)]
  rfl
theorem Reverse_ints {w : World} {B : Nat} {v : Value} {ns : List Nat} (h : OwnI w B v ns) (hl : ns.length ≤ 1000000) :
    Calls Tryd.prog 20 #[v] w fun e w' => e = .returned (.tuple #[]) ∧ RowI w' v ns.reverse ∧ Kp (fun k => v.ownBlock = some k) w w' := by
  have hrow := h.row
  obtain ⟨_, ⟨rfl, h0⟩ | ⟨g, cap, cur, rfl, hb, hg, hn, hm, _, ht⟩⟩ := h
  · refine (AnyE.slices_Reverse_empty laysR none 0 w).mono ?_
    rintro e w' ⟨rfl, rfl⟩
    have := List.eq_nil_of_length_eq_zero h0
    subst this
    exact ⟨rfl, ⟨none, 0, rfl, fun j n hj => by simp at hj⟩, Kp.refl _ _⟩
  · obtain ⟨p, c, e0, hc⟩ := hrow
    injection e0 with e1 e2 e3
    subst e1
    have hcell : ∀ j, j < ns.length → w.cell? ⟨g, 0 + j, none⟩ = some ((fun n : Nat => Value.int .i64 (n : Int)) ns.toArray[j]!) ∧ w.frozen? ⟨g, 0 + j, none⟩ = false := fun j hj => by
      obtain ⟨b, e, hx⟩ := hc j ns[j] (List.getElem?_eq_getElem hj)
      injection e with e
      injection e with e _ _
      subst e
      rw [Nat.zero_add]
      refine ⟨by rw [hx, getElem!_pos ns.toArray j (by simpa using hj)]; simp, blk_free hg j⟩
    have hH : Sort.Holds (fun n : Nat => Value.int .i64 (n : Int)) w g 0 ns.toArray := fun j hj => hcell j (by simpa using hj)
    refine (AnyE.slices_Reverse laysR (fun n : Nat => Value.int .i64 (n : Int)) (fun _ => rfl) g 0 cap ns w hH (by omega)).mono ?_
    rintro e w' ⟨rfl, q, rfl⟩
    have hR : Sort.Holds (fun n : Nat => Value.int .i64 (n : Int)) (Sort.putRow (fun n : Nat => Value.int .i64 (n : Int)) (Sort.ahead w q) g 0 ns.reverse.toArray) g 0 ns.reverse.toArray :=
      Sort.holds_putRow _ _ g 0 ns.toArray _ (Sort.holds_ahead _ w q g 0 _ hH) (by simp)
    refine ⟨rfl, ⟨_, cap, by rw [List.length_reverse], fun j n hj => ⟨g, rfl, ?_⟩⟩, (kp_putRow _ w q g 0 _).mono fun k hk => by rw [hk]; rfl⟩
    have hlt := (List.getElem?_eq_some_iff.1 hj).1
    have := (hR j (by simpa using hlt)).1
    rw [Nat.zero_add] at this
    rw [this, getElem!_pos _ j (by simpa using hlt)]
    simp only [List.getElem_toArray]
    rw [(List.getElem?_eq_some_iff.1 hj).2]
set_option maxRecDepth 100000 in
set_option maxHeartbeats 2000000 in
theorem SameInts_same {w : World} {v1 v2 : Value} {ns : List Nat} (h1 : RowI w v1 ns) (h2 : RowI w v2 ns) (hl : ns.length ≤ 1000000) :
    Calls Tryd.prog 15 #[v1, v2] w fun e w' => e = .returned (.bool true) ∧ Kp (fun _ => False) w w' := by
  obtain ⟨p1, c1, rfl, g1⟩ := h1
  obtain ⟨p2, c2, rfl, g2⟩ := h2
  obtain ⟨z, hz⟩ : ∃ z, ns.length = z := ⟨_, rfl⟩
  rw [hz] at hl ⊢
  have HZ := Lib.hid hz
  have G1 := Lib.hid g1
  have G2 := Lib.hid g2
  clear hz g1 g2
  go_enter Tryd.func15, Tryd.ntmps15
  go_wp2
  go_loopw [13] (fun vi wr => ∃ i : Nat, i ≤ z ∧ vi = .int .i64 i ∧ Kp (fun _ => False) w wr) (fun i _ => z - (intOf i).toNat)
  case atStart => exact ⟨0, Nat.zero_le _, rfl, Kp.refl _ _⟩
  case round =>
    obtain ⟨i, hi, rfl, hkp⟩ := hrel
    have HK := Lib.hid hkp
    by_cases hz : i < z
    · obtain ⟨n, hn⟩ : ∃ n, ns[i]? = some n := ⟨_, List.getElem?_eq_getElem (by rw [HZ.out]; exact hz)⟩
      obtain ⟨b1, rfl, x1⟩ := G1.out i n hn
      obtain ⟨b2, rfl, x2⟩ := G2.out i n hn
      have y1 := hkp.cell x1 id
      have y2 := hkp.cell x2 id
      clear hn hkp x1 x2
      go_wp2
      go_quiet (fail)
      go_wp2
      go_roundw
      case rel => exact ⟨i + 1, by omega, by go_num, HK.out.trans ((Kp.refl _ _).drewN _)⟩
      case measure => simp [intOf]; omega
    · obtain rfl : i = z := by omega
      clear hkp
      go_wp2
      go_ret
      exact ⟨rfl, HK.out⟩
end Go.Proofs.YtmcmapaapffadaaDoor

/-
  A script of calls that comes in as an argument.
-/
import Derived.Test.YtdncdnnlmddjhaaDoorCrash
import Derived.Deep.Slices
import Derived.Deep.Fields
namespace Go.Proofs.YtdncdnnlmddjhaaDoor
open Go.RowKit Go.Shelf Go.ChangeMaps Go.ChangeShapes Go.WideShapes Go.Deep Go.Joins

structure OpVal where
  kind : Int
  A : Nm
  B : Nm
  P : Option Addr
  n : Nat
  m : Nat
  bs : List Int
  N : Int
  dn : Bool
  L : List Bool
  kp : Option Addr
  kc : Nat
def OpVal.vals (x : OpVal) : Array Value := #[.int .u8 x.kind, .string x.A, .string x.B, .slice x.P x.n x.m, .int .i64 x.N, .bool x.dn, .slice x.kp x.L.length x.kc]
def OpCells (w : World) (b o : Nat) (x : OpVal) : Prop :=
  w.cell? ⟨b, o, none⟩ = some (.int .u8 x.kind) ∧ w.cell? ⟨b, o + 1, none⟩ = some (.string x.A) ∧ w.cell? ⟨b, o + 2, none⟩ = some (.string x.B) ∧ w.cell? ⟨b, o + 3, none⟩ = some (.slice x.P x.n x.m) ∧
    w.cell? ⟨b, o + 4, none⟩ = some (.int .i64 x.N) ∧ w.cell? ⟨b, o + 5, none⟩ = some (.bool x.dn) ∧ w.cell? ⟨b, o + 6, none⟩ = some (.slice x.kp x.L.length x.kc)
structure OpOk (w : World) (x : OpVal) : Prop where
  kind : 0 ≤ x.kind ∧ x.kind ≤ 255
  a : x.A.size ≤ maxLen
  b : x.B.size ≤ maxLen
  bytes : BytesAt w (fun _ => False) (.slice x.P x.n x.m) x.bs
  len : x.n ≤ maxLen
  num : -9223372036854775808 ≤ x.N ∧ x.N ≤ 9223372036854775807
  keep : CellsAt w (fun _ => False) (.slice x.kp x.L.length x.kc) (x.L.map Value.bool)
  keeps : x.L.length ≤ 140737488351232
def ScriptAt (w : World) (p : Option Addr) (len : Nat) : Prop := ∀ i, i < len → ∃ b o x, p = some ⟨b, o, none⟩ ∧ OpCells w b (o + i * 7) x ∧ OpOk w x
theorem OpCells.kept {w w' : World} {b o : Nat} {x : OpVal} (h : OpCells w b o x) (hk : Kp (fun _ => False) w w') : OpCells w' b o x :=
  ⟨hk.cell h.1 id, hk.cell h.2.1 id, hk.cell h.2.2.1 id, hk.cell h.2.2.2.1 id, hk.cell h.2.2.2.2.1 id, hk.cell h.2.2.2.2.2.1 id, hk.cell h.2.2.2.2.2.2 id⟩
theorem OpOk.kept {w w' : World} {x : OpVal} (h : OpOk w x) (hk : Kp (fun _ => False) w w') : OpOk w' x :=
  ⟨h.kind, h.a, h.b, h.bytes.kept hk fun _ h => .inl h, h.len, h.num, h.keep.kept hk fun _ h => .inl h, h.keeps⟩
theorem ScriptAt.kept {w w' : World} {p : Option Addr} {len : Nat} (h : ScriptAt w p len) (hk : Kp (fun _ => False) w w') : ScriptAt w' p len := fun i hi =>
  let ⟨b, o, x, h1, h2, h3⟩ := h i hi
  ⟨b, o, x, h1, h2.kept hk, h3.kept hk⟩
theorem mem_weightsAll {H : Type} {P : Program} {e : TypeId} {d : DataW H} {n : Nat} (hn : n ∈ d.weights P e) : ∀ {ds : List (DataW H)}, d ∈ ds → n ∈ DataW.weightsAll P e ds
  | [], h => by cases h
  | x :: ds, h => by
    simp only [DataW.weightsAll, List.mem_append]
    rcases List.mem_cons.1 h with rfl | h
    · exact .inl hn
    · exact .inr (mem_weightsAll hn h)
set_option maxRecDepth 100000 in
theorem open_keep {H : Type} {enc : TypeId × Value → H} {W : World} {n : Nat} {v : Value} {y : DataW H × List MemPlace} (h1 : DataW.trod enc Tryd.prog W 0 (fun _ => true) true n 33 [v] = some y) :
    ∃ (L : List Bool) (p : Option Addr) (c : Nat), v = .slice p L.length c ∧ CellsAt W (fun _ => False) (.slice p L.length c) (L.map Value.bool) ∧ ((∀ n ∈ y.1.weights Tryd.prog 33, n ≤ reachBytes) → L.length ≤ 140737488351232) := by
  rcases open_bools Tryd.underlying33 Tryd.underlying4 (by kernel_rfl) h1 with ⟨hcs, _⟩ | ⟨a, len, cap, B, hcs, _, hl, hm, hx, hcell⟩
  · obtain rfl : v = .slice none 0 0 := by simpa using hcs
    exact ⟨[], none, 0, rfl, ⟨none, 0, rfl, by simp, fun j x hj => by simp at hj⟩, fun _ => by simp⟩
  · obtain rfl : v = .slice (some a) len cap := by simpa using hcs
    obtain ⟨L, hL, hB⟩ := bools_list B len
    subst hL
    refine ⟨L, some a, cap, rfl, ⟨some a, cap, by rw [List.length_map], by rw [List.length_map]; exact hl, fun j x hj => ?_⟩, fun hs => ?_⟩
    · rw [List.getElem?_map, Option.map_eq_some_iff] at hj
      obtain ⟨c, hc, rfl⟩ := hj
      obtain ⟨hj1, rfl⟩ := hB j c hc
      have hcj := hcell j (by omega)
      have hc0 := hcell 0 (by omega)
      obtain ⟨ab, ao, spot⟩ := a
      obtain rfl : spot = none := by simpa [Addr.add] using World.cell?_spot hc0
      rw [Addr.add_lit] at hcj
      exact ⟨ab, ao, rfl, id, hcj⟩
    · have h5 := hs (L.length * Tryd.prog.bytesOf 4 + (cap - L.length) * Tryd.prog.bytesOf 4) ?_
      · rw [show Tryd.prog.bytesOf 4 = 1 by kernel_rfl] at h5
        unfold reachBytes at h5
        omega
      · rw [hx]
        simp only [DataW.weights, boolRow, Tryd.underlying33, List.length_map, List.length_range]
        simp [Nat.add_mul]
set_option maxRecDepth 100000 in
/-- A slice of bytes, opened. -/
theorem open_row8 {H : Type} {enc : TypeId × Value → H} {W : World} {n : Nat} {v : Value} {y : DataW H × List MemPlace} (hf : DataW.trod enc Tryd.prog W 0 (fun _ => true) true n 22 [v] = some y) :
    ∃ p len cap bs, v = .slice p len cap ∧ len ≤ maxLen ∧ BytesAt W (fun _ => False) (.slice p len cap) bs := by
  rcases open_ints Tryd.underlying22 Tryd.underlying5 cells_u8 hf with ⟨hcs, _⟩ | ⟨a, len, cap, zs, hcs, _, hl, hm, hz, _, hcell, hwz⟩
  · obtain rfl : v = .slice none 0 0 := by simpa using hcs
    exact ⟨none, 0, 0, [], rfl, Nat.zero_le _, none, 0, rfl, Nat.le_refl _, fun j x hj => by simp at hj⟩
  · obtain rfl : v = .slice (some a) len cap := by simpa using hcs
    simp only [if_true] at hz
    have hlm := Nat.le_trans hl hm
    clear hm
    obtain ⟨bs, _, hb⟩ := arg_bytes (w := W) (p := some a) (len := len) (cap := cap) hl fun j hj => by
      obtain ⟨b, o, rfl, hc⟩ := ints_at hcell (show 0 < zs.length by omega)
      have hj' : j < zs.length := by omega
      have hcj := hcell j hj'
      rw [Addr.add_lit] at hcj
      have hb := bounds_u8 (hwz (zs.getD j 0) (by rw [List.getD_eq_getElem?_getD, List.getElem?_eq_getElem hj']; exact List.getElem_mem hj'))
      exact ⟨b, o, _, rfl, hb.1, hb.2, hcj⟩
    exact ⟨some a, len, cap, bs, rfl, hlm, hb⟩
set_option maxRecDepth 100000 in
theorem open_script {H : Type} {enc : TypeId × Value → H} {W : World} {base : Nat} {v : Value} {d : DataW H} {ps : List MemPlace} (hv : Value.okWide Tryd.prog W .any base 32 v) (h : DataW.Trod enc Tryd.prog W 0 (fun _ => true) true 32 v d ps)
    (hs : ∀ n ∈ d.weights Tryd.prog 32, n ≤ reachBytes) : ∃ p len cap, v = .slice p len cap ∧ len ≤ cap ∧ len ≤ maxLen ∧ ScriptAt W p len := by
  obtain ⟨a0, l0, c0, rfl⟩ := okWide_slice Tryd.underlying32 hv
  obtain ⟨fuel, hf⟩ := h
  have hC : Tryd.prog.cellsOf 37 = 7 := by kernel_rfl
  rcases open_slice Tryd.underlying32 hf with ⟨hcs, _⟩ | ⟨a, len, cap, m, n, D, Pl, hcs, _, hl, hm, hmm, hx, hi⟩
  · simp [Value.cells] at hcs
    obtain ⟨rfl, rfl, rfl⟩ := hcs
    exact ⟨none, 0, 0, rfl, Nat.le_refl _, Nat.zero_le _, fun i hi => absurd hi (Nat.not_lt_zero i)⟩
  · simp [Value.cells] at hcs
    obtain ⟨rfl, rfl, rfl⟩ := hcs
    simp only [if_true] at hmm
    subst hmm
    refine ⟨_, _, _, rfl, hl, Nat.le_trans hl hm, fun i hil => ?_⟩
    clear hm
    obtain ⟨ab, ao, spot⟩ := a
    obtain rfl : spot = none := by
      obtain ⟨cs0, hc0, _⟩ := hi 0 (by omega)
      rw [hC] at hc0
      obtain ⟨_, hl0, hat0⟩ := World.cells?_some hc0
      have h0 := hat0 0 (by omega)
      rw [List.getElem?_eq_getElem (by omega)] at h0
      simpa [Addr.add] using World.cell?_spot h0
    obtain ⟨cs', hc, ht'⟩ := hi i (by omega)
    rw [hC] at hc
    obtain ⟨_, hcl, hat⟩ := World.cells?_some hc
    obtain ⟨ys, n', hn', hy, hlen, hyl, hg⟩ := DataW.trod_struct Tryd.underlying37 ht'
    match cs', hcl with
    | [c0, c1, c2, c3, c4, c5, c6], _ =>
      have g0 : DataW.trod enc Tryd.prog W 0 (fun _ => true) true n' 5 (([c0, c1, c2, c3, c4, c5, c6].drop 0).take (Tryd.prog.cellsOf 5)) = ys[0]? := hg 0 _ rfl
      rw [show Tryd.prog.cellsOf 5 = 1 by kernel_rfl] at g0
      have g1 : DataW.trod enc Tryd.prog W 0 (fun _ => true) true n' 9 (([c0, c1, c2, c3, c4, c5, c6].drop 1).take (Tryd.prog.cellsOf 9)) = ys[1]? := hg 1 _ rfl
      rw [show Tryd.prog.cellsOf 9 = 1 by kernel_rfl] at g1
      have g2 : DataW.trod enc Tryd.prog W 0 (fun _ => true) true n' 9 (([c0, c1, c2, c3, c4, c5, c6].drop 2).take (Tryd.prog.cellsOf 9)) = ys[2]? := hg 2 _ rfl
      rw [show Tryd.prog.cellsOf 9 = 1 by kernel_rfl] at g2
      have g3 : DataW.trod enc Tryd.prog W 0 (fun _ => true) true n' 22 (([c0, c1, c2, c3, c4, c5, c6].drop 3).take (Tryd.prog.cellsOf 22)) = ys[3]? := hg 3 _ rfl
      rw [show Tryd.prog.cellsOf 22 = 1 by kernel_rfl] at g3
      have g4 : DataW.trod enc Tryd.prog W 0 (fun _ => true) true n' 3 (([c0, c1, c2, c3, c4, c5, c6].drop 4).take (Tryd.prog.cellsOf 3)) = ys[4]? := hg 4 _ rfl
      rw [show Tryd.prog.cellsOf 3 = 1 by kernel_rfl] at g4
      have g5 : DataW.trod enc Tryd.prog W 0 (fun _ => true) true n' 35 (([c0, c1, c2, c3, c4, c5, c6].drop 5).take (Tryd.prog.cellsOf 35)) = ys[5]? := hg 5 _ rfl
      rw [show Tryd.prog.cellsOf 35 = 2 by kernel_rfl] at g5
      have hyl6 : ys.length = 6 := hyl
      match ys, hyl6 with
      | [y0, y1, y2, y3, y4, y5], _ =>
        obtain ⟨k, e0, _, wk⟩ := DataW.trod_int Tryd.underlying5 g0
        obtain ⟨A, e1, _, sA⟩ := DataW.trod_string Tryd.underlying9 g1
        obtain ⟨B, e2, _, sB⟩ := DataW.trod_string Tryd.underlying9 g2
        obtain ⟨P, n, m, bs, e3, hlm, hbs⟩ := open_row8 g3
        obtain ⟨N, e4, _, wN⟩ := DataW.trod_int Tryd.underlying3 g4
        obtain ⟨zs, n2, _, hz, hlz, hzl, hz2⟩ := DataW.trod_struct Tryd.underlying35 g5
        have f0 : DataW.trod enc Tryd.prog W 0 (fun _ => true) true n2 4 ((([c0, c1, c2, c3, c4, c5, c6].drop 5).take 2).drop 0 |>.take (Tryd.prog.cellsOf 4)) = zs[0]? := hz2 0 _ rfl
        have f1 : DataW.trod enc Tryd.prog W 0 (fun _ => true) true n2 33 ((([c0, c1, c2, c3, c4, c5, c6].drop 5).take 2).drop 1 |>.take (Tryd.prog.cellsOf 33)) = zs[1]? := hz2 1 _ rfl
        rw [show Tryd.prog.cellsOf 4 = 1 by kernel_rfl] at f0
        rw [show Tryd.prog.cellsOf 33 = 1 by kernel_rfl] at f1
        have hzl2 : zs.length = 2 := hzl
        match zs, hzl2 with
        | [z0, z1], _ =>
          obtain ⟨dn, e5, _⟩ := DataW.trod_bool Tryd.underlying4 f0
          obtain ⟨L, kp, kc, e6, hL, hLl⟩ := open_keep f1
          obtain rfl : c0 = .int .u8 k := by simpa using e0
          obtain rfl : c1 = .string A := by simpa using e1
          obtain rfl : c2 = .string B := by simpa using e2
          obtain rfl : c4 = .int .i64 N := by simpa using e4
          obtain rfl : c5 = .bool dn := by simpa using e5
          subst e3 e6
          have hk := bounds_u8 wk
          refine ⟨ab, ao, ⟨k, A, B, P, n, m, bs, N, dn, L, kp, kc⟩, rfl, ?_, hk, sA, sB, hbs, hlm, ?_, hL, hLl fun n hn => hs n ?_⟩
          · have h0 := hat 0 (by omega)
            have h1 := hat 1 (by omega)
            have h2 := hat 2 (by omega)
            have h3 := hat 3 (by omega)
            have h4 := hat 4 (by omega)
            have h5 := hat 5 (by omega)
            have h6 := hat 6 (by omega)
            simp only [Addr.add_lit] at h0 h1 h2 h3 h4 h5 h6
            exact ⟨h0, h1, h2, h3, h4, h5, h6⟩
          · have := wN
            simp [Lit.wf] at this
            exact ⟨Int.le_trans (by decide) this.1, this.2⟩
          · simp only [Prod.mk.injEq] at hx hy
            rw [hx.1]
            simp only [DataW.weights, Tryd.underlying32]
            refine List.mem_cons_of_mem _ (List.mem_append_left _ (mem_weightsAll (d := D i) ?_ (List.mem_map.2 ⟨i, by simpa using hil, rfl⟩)))
            rw [hy.1]
            simp only [DataW.weights, Tryd.underlying37, DataW.weightsEach, List.map_cons, hz, Tryd.underlying35]
            simp [hn]
end Go.Proofs.YtdncdnnlmddjhaaDoor

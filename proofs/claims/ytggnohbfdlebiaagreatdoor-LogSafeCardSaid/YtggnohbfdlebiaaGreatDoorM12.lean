/-
  Merged of my texts, in order: Block.
-/
import Derived.Test.YtggnohbfdlebiaaGreatDoorM11
import Derived.StillTailTactics
/-
  sum.block: the eight words behind one more block.
-/
namespace Go.Proofs.YtggnohbfdlebiaaGreatDoor
open Go.RowKit Go.Shelf Go.ChangeMaps Go.ChangeShapes

structure V8 where
  a : Int
  b : Int
  c : Int
  d : Int
  e : Int
  f : Int
  g : Int
  h : Int
def V8.vals (v : V8) : Array Value := #[.int .u32 v.a, .int .u32 v.b, .int .u32 v.c, .int .u32 v.d, .int .u32 v.e, .int .u32 v.f, .int .u32 v.g, .int .u32 v.h]
def R32 (x : Int) : Prop := 0 ≤ x ∧ x ≤ 4294967295
structure V8.ok (v : V8) : Prop where
  a : R32 v.a
  b : R32 v.b
  c : R32 v.c
  d : R32 v.d
  e : R32 v.e
  f : R32 v.f
  g : R32 v.g
  h : R32 v.h
def words (l : List Int) : List Value := l.map (Value.int .u32)
def Row32 (w : World) (b : Nat) (t : TypeId) (l : List Int) : Prop := w.heap[b]? = some (.cells (words l).toArray t (0, 0))
theorem Row32.cell {w : World} {b : Nat} {t : TypeId} {l : List Int} (h : Row32 w b t l) {i : Nat} (hi : i < l.length) : w.cell? ⟨b, i, none⟩ = some (.int .u32 (l.getD i 0)) := by
  rw [blk_cell h]
  simp [words, hi]
theorem Row32.free {w : World} {b : Nat} {t : TypeId} {l : List Int} (h : Row32 w b t l) (i : Nat) : w.frozen? ⟨b, i, none⟩ = false := blk_free h i
theorem Row32.set {w : World} {b : Nat} {t : TypeId} {l : List Int} (h : Row32 w b t l) (i : Nat) (x : Int) : Row32 (w.setCell ⟨b, i, none⟩ (.int .u32 x)) b t (l.set i x) := by
  unfold Row32
  rw [blk_set h]
  simp [words, List.map_set]
/-- The words of a block of bytes; the sixty-four. -/
def wordAt (q : List Int) (i : Nat) : Int := wordF (q.getD (4 * i) 0) (q.getD (4 * i + 1) 0) (q.getD (4 * i + 2) 0) (q.getD (4 * i + 3) 0)
def W1 (q : List Int) : Nat → List Int
  | 0 => List.replicate 64 0
  | i + 1 => (W1 q i).set i (wordAt q i)
theorem W1_length (q : List Int) : ∀ i, (W1 q i).length = 64
  | 0 => by simp [W1]
  | i + 1 => by rw [W1, List.length_set, W1_length q i]

def schedF (a b x y : Int) : Int :=
  IntKind.u32.wrap (IntKind.u32.wrap (IntKind.u32.wrap (a + b) + bits .xor .u32 (bits .xor .u32 (rotF x 25) (rotF x 14)) (x / 8)) + bits .xor .u32 (bits .xor .u32 (rotF y 15) (rotF y 13)) (y / 1024))
theorem wrap32 (x : Int) : 0 ≤ IntKind.u32.wrap x ∧ IntKind.u32.wrap x ≤ 4294967295 := by rw [IntKind.wrap_u32]; omega
def W2 (l : List Int) : Nat → List Int
  | 0 => l
  | j + 1 => (W2 l j).set (j + 16) (schedF ((W2 l j).getD j 0) ((W2 l j).getD (j + 9) 0) ((W2 l j).getD (j + 1) 0) ((W2 l j).getD (j + 14) 0))
theorem W2_length {l : List Int} (h : l.length = 64) : ∀ j, (W2 l j).length = 64
  | 0 => h
  | j + 1 => by rw [W2, List.length_set, W2_length h j]
theorem schedF_range (a b x y : Int) : R32 (schedF a b x y) := wrap32 _
theorem W2_range {l : List Int} (h : ∀ x ∈ l, R32 x) : ∀ j, ∀ x ∈ W2 l j, R32 x
  | 0 => h
  | j + 1 => fun x hx => by
    rcases List.mem_or_eq_of_mem_set hx with h' | rfl
    · exact W2_range h j x h'
    · exact schedF_range _ _ _ _
def nextT (v : V8) (k w : Int) : Int :=
  IntKind.u32.wrap (IntKind.u32.wrap (IntKind.u32.wrap (IntKind.u32.wrap (v.h + bits .xor .u32 (bits .xor .u32 (rotF v.e 26) (rotF v.e 21)) (rotF v.e 7)) + bits .xor .u32 (bits .and .u32 v.e v.f) (bits .and .u32 (bits .xor .u32 IntKind.u32.max v.e) v.g)) + k) + w)
def nextU (v : V8) : Int :=
  IntKind.u32.wrap (bits .xor .u32 (bits .xor .u32 (rotF v.a 30) (rotF v.a 19)) (rotF v.a 10) + bits .xor .u32 (bits .xor .u32 (bits .and .u32 v.a v.b) (bits .and .u32 v.a v.c)) (bits .and .u32 v.b v.c))
def roundF (v : V8) (k w : Int) : V8 := ⟨(nextT v k w + nextU v) % 4294967296, v.a, v.b, v.c, (v.d + nextT v k w) % 4294967296, v.e, v.f, v.g⟩
def vIter (v : V8) (K W : List Int) : Nat → V8
  | 0 => v
  | i + 1 => roundF (vIter v K W i) (K.getD i 0) (W.getD i 0)
theorem vIter_ok {v : V8} (h : v.ok) (K W : List Int) : ∀ i, (vIter v K W i).ok
  | 0 => h
  | i + 1 => by
    have ih := vIter_ok h K W i
    exact ⟨by unfold R32; simp only [vIter, roundF]; omega, ih.a, ih.b, ih.c, by unfold R32; simp only [vIter, roundF]; omega, ih.e, ih.f, ih.g⟩
def V8.list (v : V8) : List Int := [v.a, v.b, v.c, v.d, v.e, v.f, v.g, v.h]
def ofL (l : List Int) : V8 := ⟨l.getD 0 0, l.getD 1 0, l.getD 2 0, l.getD 3 0, l.getD 4 0, l.getD 5 0, l.getD 6 0, l.getD 7 0⟩
def addN (l m : List Int) : Nat → List Int
  | 0 => l
  | i + 1 => (addN l m i).set i (IntKind.u32.wrap ((addN l m i).getD i 0 + m.getD i 0))
theorem addN_length {l m : List Int} (h : l.length = 8) : ∀ i, (addN l m i).length = 8
  | 0 => h
  | i + 1 => by rw [addN, List.length_set, addN_length h i]
theorem addN_range {l m : List Int} (h : ∀ x ∈ l, R32 x) : ∀ i, ∀ x ∈ addN l m i, R32 x
  | 0 => h
  | i + 1 => fun x hx => by
    rcases List.mem_or_eq_of_mem_set hx with h' | rfl
    · exact addN_range h i x h'
    · exact wrap32 _
/-- The eight words behind a block of bytes. -/
def blockF (v : V8) (q K : List Int) : V8 := ofL (addN v.list (vIter v K (W2 (W1 q 16) 48) 64).list 8)
theorem V8.ok.list {v : V8} (h : v.ok) : ∀ x ∈ v.list, R32 x := by
  intro x hx
  simp only [V8.list, List.mem_cons, List.not_mem_nil, or_false] at hx
  rcases hx with rfl | rfl | rfl | rfl | rfl | rfl | rfl | rfl
  · exact h.a
  · exact h.b
  · exact h.c
  · exact h.d
  · exact h.e
  · exact h.f
  · exact h.g
  · exact h.h
theorem W1_range {q : List Int} : ∀ i, ∀ x ∈ W1 q i, R32 x
  | 0 => fun x hx => by rw [W1, List.mem_replicate] at hx; rw [hx.2]; exact ⟨by decide, by decide⟩
  | i + 1 => fun x hx => by
    rcases List.mem_or_eq_of_mem_set hx with h | rfl
    · exact W1_range i x h
    · exact wordF_range _ _ _ _
theorem blockF_ok {v : V8} (h : v.ok) (q K : List Int) : (blockF v q K).ok := by
  have hr := addN_range (m := (vIter v K (W2 (W1 q 16) 48) 64).list) h.list 8
  have g : ∀ k, R32 ((addN v.list (vIter v K (W2 (W1 q 16) 48) 64).list 8).getD k 0) := fun k => by
    rw [List.getD_eq_getElem?_getD]
    cases e : (addN v.list (vIter v K (W2 (W1 q 16) 48) 64).list 8)[k]? with
    | none => exact ⟨by decide, by decide⟩
    | some x => exact hr x (List.mem_of_getElem? e)
  exact ⟨g 0, g 1, g 2, g 3, g 4, g 5, g 6, g 7⟩
theorem BytesAt.cellAt {w : World} {F : Nat → Prop} {b o n c : Nat} {bs : List Int} (h : BytesAt w F (.slice (some ⟨b, o, none⟩) n c) bs) {j : Nat} (hj : j < bs.length) : w.cell? ⟨b, o + j, none⟩ = some (.int .u8 (bs.getD j 0)) := by
  obtain ⟨b', o', e, hc⟩ := h.at_ j bs[j] (List.getElem?_eq_getElem hj)
  injection e with e
  injection e with e1 e2 _
  subst e1 e2
  rw [hc, List.getD_eq_getElem?_getD, List.getElem?_eq_getElem hj]; rfl
theorem Byts.getD {bs : List Int} (h : Byts bs) (j : Nat) : 0 ≤ bs.getD j 0 ∧ bs.getD j 0 ≤ 255 := by
  rw [List.getD_eq_getElem?_getD]
  by_cases hj : j < bs.length
  · rw [List.getElem?_eq_getElem hj]; exact h _ (List.getElem_mem hj)
  · rw [List.getElem?_eq_none (by omega)]; exact ⟨by decide, by decide⟩
theorem getD_r32 {l : List Int} (h : ∀ x ∈ l, R32 x) (i : Nat) : R32 (l.getD i 0) := by
  rw [List.getD_eq_getElem?_getD]
  by_cases hi : i < l.length
  · rw [List.getElem?_eq_getElem hi]; exact h _ (List.getElem_mem hi)
  · rw [List.getElem?_eq_none (by omega)]; exact ⟨by decide, by decide⟩

set_option maxRecDepth 100000 in
set_option maxHeartbeats 2000000 in
theorem block_any {w : World} {b o n c kb : Nat} {q K : List Int} {v : V8} (hv : v.ok) (hq : BytesAt w (fun _ => False) (.slice (some ⟨b, o, none⟩) n c) q) (hqb : Byts q) (hn : 64 ≤ n) (hnm : n ≤ 10000) (hK : Row32 w kb 153 K) (hKl : K.length = 64) (hKr : ∀ x ∈ K, R32 x) :
    Calls Tryz.prog 91 #[.agg v.vals, .slice (some ⟨b, o, none⟩) n c, .pointer (some ⟨kb, 0, none⟩)] w fun e w' => e = .returned (.agg (blockF v q K).vals) ∧ Kp (fun _ => False) w w' := by
  have hl := hq.len
  obtain ⟨rfl, hcap⟩ := hl
  have HQ := Lib.hid (And.intro hq hqb)
  have HK := Lib.hid (And.intro hK (And.intro hKl hKr))
  have HV := Lib.hid hv
  clear hq hqb hK hKl hKr hv
  go_enter Tryz.func91, Tryz.ntmps91
  go_wp2
  generalize hw3 : World.alloc _ (Obj.cells _ 153) = w3
  obtain ⟨B, hB⟩ : ∃ B, w.heap.size = B := ⟨_, rfl⟩
  simp only [hB]
  have hk3 : Kp (fun _ => False) w w3 := by rw [← hw3]; exact (((Kp.refl _ w).alloc _).alloc _).alloc _
  have r2 : Row32 w3 (B + 1 + 1) 153 (W1 q 0) := by
    have := heap_alloc_new ((w.alloc (Obj.cells v.vals 152)).alloc (Obj.cells (words (List.replicate 8 0)).toArray 152)) (Obj.cells (words (List.replicate 64 0)).toArray 153)
    rw [← hw3]
    simp only [World.size_alloc, hB] at this
    exact this
  have r0 : w3.heap[B]? = some (.cells v.vals 152 (0, 0)) := by
    rw [← hw3, ← hB]; exact blk_alloc _ (blk_alloc _ (heap_alloc_new w _))
  have r1 : Row32 w3 (B + 1) 152 (List.replicate 8 0) := by
    have := heap_alloc_new (w.alloc (Obj.cells v.vals 152)) (Obj.cells (words (List.replicate 8 0)).toArray 152)
    rw [← hw3]
    simp only [World.size_alloc, hB] at this
    exact blk_alloc _ this
  have h3s : w3.heap.size = B + 1 + 1 + 1 := by rw [← hw3]; simp [hB]
  have H3 := Lib.hid (And.intro hk3 (And.intro r0 (And.intro r1 (And.intro r2 h3s))))
  have HB := Lib.hid hB
  clear hw3 hk3 r0 r1 r2 h3s hB
  go_loopw [20] (fun vi wr => ∃ i : Nat, i ≤ 16 ∧ vi = .int .i64 i ∧ Row32 wr (B + 1 + 1) 153 (W1 q i) ∧ Kp (fun k => k = B + 1 + 1) w3 wr) (fun i _ => 16 - (intOf i).toNat)
  case atStart => exact ⟨0, by omega, rfl, H3.out.2.2.2.1, Kp.refl _ _⟩
  case round =>
    obtain ⟨i, hi, rfl, hr, hk⟩ := hrel
    have HR := Lib.hid (And.intro hr hk)
    by_cases hi16 : i < 16
    · have hb := HQ.out.1.kept (H3.out.1.trans' hk fun j hj => .inr (by have := HB.out; omega)) (F' := fun _ => False) fun _ h => .inl h
      have c0 := hb.cellAt (j := 4 * i) (by omega)
      have c1 := hb.cellAt (j := 4 * i + 1) (by omega)
      have c2 := hb.cellAt (j := 4 * i + 2) (by omega)
      have c3 := hb.cellAt (j := 4 * i + 3) (by omega)
      have HW := word_any (w := wr) (b := b) (o := o + 4 * i) (c := c - 4 * i) (n := q.length - 4 * i) (by omega) (HQ.out.2.getD (4 * i)) (HQ.out.2.getD (4 * i + 1)) (HQ.out.2.getD (4 * i + 2)) (HQ.out.2.getD (4 * i + 3)) c0 c1 c2 c3
      clear hr hk hb c0 c1 c2 c3
      go_wp2_with (go_at_call 113; refine Hid.out ?_)
      refine Lib.hid ?_
      refine HW.mono ?_
      rintro e w5 ⟨rfl, nk, rfl⟩
      have hk5 : Kp (fun k => k = B + 1 + 1) w3 (wr.drewN nk) := HR.out.2.drewN nk
      have hr5 : Row32 (wr.drewN nk) (B + 1 + 1) 153 (W1 q i) := HR.out.1
      obtain ⟨w5, hw5⟩ : ∃ w5, wr.drewN nk = w5 := ⟨_, rfl⟩
      rw [hw5] at hk5 hr5 ⊢
      have hc := hr5.cell (i := i) (by rw [W1_length]; omega)
      have hf := hr5.free i
      have hst := hr5.set i (wordAt q i)
      have HST := Lib.hid (And.intro hst (hk5.setCell (p := ⟨B + 1 + 1, i, none⟩) (.inl rfl) (.int .u32 (wordAt q i))))
      clear hw5 HW hk5 hr5 hst HR
      go_wp2
      go_roundw
      case rel => exact ⟨i + 1, by omega, by go_num, HST.out.1, HST.out.2⟩
      case measure => simp [intOf]; omega
    · have hi2 : i = 16 := by omega
      have hi3 : ¬ (i : Int) < 16 := by omega
      rw [hi2] at HR
      clear hr hk hi2 hi hi16
      go_wp2
      obtain ⟨w4, hw4⟩ : ∃ w4, w4 = wr := ⟨_, rfl⟩
      subst hw4
      obtain ⟨L1, hL1⟩ : ∃ L1, W1 q 16 = L1 := ⟨_, rfl⟩
      have hl1 : L1.length = 64 ∧ ∀ x ∈ L1, R32 x := by rw [← hL1]; exact ⟨W1_length q 16, W1_range 16⟩
      rw [hL1] at HR
      have HL1 := Lib.hid (And.intro hL1 hl1)
      clear hL1 hl1
      go_loopw [10] (fun vi wr => ∃ j : Nat, j ≤ 48 ∧ vi = .int .i64 ((j : Int) + 16) ∧ Row32 wr (B + 1 + 1) 153 (W2 L1 j) ∧ Kp (fun k => k = B + 1 + 1) w3 wr) (fun i _ => 64 - (intOf i).toNat)
      case atStart => exact ⟨0, by omega, rfl, HR.out.1, HR.out.2⟩
      case round =>
        obtain ⟨j, hj, rfl, hr, hk⟩ := hrel
        by_cases hj48 : j < 48
        · have hlen := W2_length HL1.out.2.1 j
          have hrng := W2_range HL1.out.2.2 j
          obtain ⟨LJ, hLJ⟩ : ∃ LJ, W2 L1 j = LJ := ⟨_, rfl⟩
          have hnext : W2 L1 (j + 1) = LJ.set (j + 16) (schedF (LJ.getD j 0) (LJ.getD (j + 9) 0) (LJ.getD (j + 1) 0) (LJ.getD (j + 14) 0)) := by rw [W2, hLJ]
          rw [hLJ] at hr hlen hrng
          have hR2 := Lib.hid (And.intro hr hk)
          have HN := Lib.hid hnext
          obtain ⟨x, hx⟩ : ∃ x, LJ.getD (j + 1) 0 = x := ⟨_, rfl⟩
          obtain ⟨y, hy⟩ : ∃ y, LJ.getD (j + 14) 0 = y := ⟨_, rfl⟩
          obtain ⟨a1, ha1⟩ : ∃ y, LJ.getD j 0 = y := ⟨_, rfl⟩
          obtain ⟨a2, ha2⟩ : ∃ y, LJ.getD (j + 9) 0 = y := ⟨_, rfl⟩
          have cx := hr.cell (i := j + 1) (by omega)
          have cy := hr.cell (i := j + 14) (by omega)
          have ca := hr.cell (i := j) (by omega)
          have cb := hr.cell (i := j + 9) (by omega)
          have cz := hr.cell (i := j + 16) (by omega)
          have cf := hr.free (j + 16)
          have rx := getD_r32 hrng (j + 1)
          have ry := getD_r32 hrng (j + 14)
          have ra := getD_r32 hrng j
          have rb := getD_r32 hrng (j + 9)
          rw [hx] at cx rx
          rw [hy] at cy ry
          rw [ha1] at ca ra
          rw [ha2] at cb rb
          unfold R32 at rx ry ra rb
          rw [ha1, ha2, hx, hy] at HN
          clear hr hk hx hy ha1 ha2 hlen hrng hLJ hnext HR
          go_wp2
          go_quiet (fail)
          go_wp2
          obtain ⟨w5, hw5⟩ : ∃ w5, wr.drewN nq = w5 := ⟨_, rfl⟩
          have dx : w5.cell? ⟨B + 1 + 1, j + 1, none⟩ = some (.int .u32 x) := by rw [← hw5]; exact cx
          have dy : w5.cell? ⟨B + 1 + 1, j + 14, none⟩ = some (.int .u32 y) := by rw [← hw5]; exact cy
          have da : w5.cell? ⟨B + 1 + 1, j, none⟩ = some (.int .u32 a1) := by rw [← hw5]; exact ca
          have db : w5.cell? ⟨B + 1 + 1, j + 9, none⟩ = some (.int .u32 a2) := by rw [← hw5]; exact cb
          have dz : w5.cell? ⟨B + 1 + 1, j + 16, none⟩ = some (.int .u32 (LJ.getD (j + 16) 0)) := by rw [← hw5]; exact cz
          have df : w5.frozen? ⟨B + 1 + 1, j + 16, none⟩ = false := by rw [← hw5]; exact cf
          have HW5 := Lib.hid hw5
          rw [hw5]
          clear cx cy ca cb cz cf hw5
          -- [[
          have wj0 : IntKind.i64.wrap (j : Int) = j := by rw [IntKind.wrap_i64]; omega
          have wj9 : IntKind.i64.wrap ((j : Int) + 9) = j + 9 := by rw [IntKind.wrap_i64]; omega
          have wj9' : IntKind.i64.wrap ((j : Int) + 16 - 7) = j + 9 := by rw [IntKind.wrap_i64]; omega
          have tj9 : ((j : Int) + 9).toNat = j + 9 := by omega
          have bj0 : (j : Int) < 64 := by omega
          have bj9 : (j : Int) + 9 < 64 := by omega
          have bj8 : 0 ≤ (j : Int) + 9 := by omega
          have bj16 : (j : Int) + 16 < 64 := by omega
          have bj17 : 0 ≤ (j : Int) + 16 := by omega
          have tj16 : ((j : Int) + 16).toNat = j + 16 := by omega
          refine wp_region_still_tail 33 (by kernel_rfl) (by kernel_rfl) ?_
          simp only [List.take_succ_cons, List.take_zero, List.drop_succ_cons, List.drop_zero]
          repeat still_step
          still_call (rot_7 _ x rx)
          repeat still_step
          still_call (rot_18 _ x rx)
          repeat still_step
          still_call (rot_17 _ y ry)
          repeat still_step
          still_call (rot_19 _ y ry)
          repeat still_step
          refine wpStill_nil ?_
          obtain ⟨Z, hZ⟩ : ∃ Z, schedF a1 a2 x y = Z := ⟨_, rfl⟩
          have hN2 := HN.out
          rw [hZ] at hN2
          simp only [schedF] at hZ
          rw [hZ]
          have HN2 := Lib.hid hN2
          clear hZ hN2
          change wpList _ _ _ _ _ w5.drew
          have hr6 : Row32 w5.drew (B + 1 + 1) 153 LJ := by rw [← HW5.out]; exact hR2.out.1
          have hk6 : Kp (fun k => k = B + 1 + 1) w3 w5.drew := by rw [← HW5.out]; exact (hR2.out.2.drewN nq).drew
          obtain ⟨w6, hw6⟩ : ∃ w6, w5.drew = w6 := ⟨_, rfl⟩
          have ez : w6.cell? ⟨B + 1 + 1, j + 16, none⟩ = some (.int .u32 (LJ.getD (j + 16) 0)) := by rw [← hw6]; exact dz
          have ef : w6.frozen? ⟨B + 1 + 1, j + 16, none⟩ = false := by rw [← hw6]; exact df
          rw [hw6] at hr6 hk6 ⊢
          have hst := hr6.set (j + 16) Z
          rw [← HN2.out] at hst
          have HST := Lib.hid (And.intro hst (hk6.setCell (p := ⟨B + 1 + 1, j + 16, none⟩) (.inl rfl) (.int .u32 Z)))
          clear dx dy da db dz df hr6 hk6 hw6 hst
          go_wp2
          go_roundw
          case rel => exact ⟨j + 1, by omega, by go_num, HST.out.1, HST.out.2⟩
          case measure => simp [intOf]; omega
          -- ]]
        · have hj2 : j = 48 := by omega
          have hj3 : ¬ (j : Int) + 16 < 64 := by omega
          rw [hj2] at hr
          have hlen := W2_length HL1.out.2.1 48
          have hrng := W2_range HL1.out.2.2 48
          obtain ⟨LJ, hLJ⟩ : ∃ LJ, W2 L1 48 = LJ := ⟨_, rfl⟩
          rw [hLJ] at hr hlen hrng
          have hR2 := Lib.hid (And.intro hr hk)
          have HLJ := Lib.hid (And.intro hLJ (And.intro hlen hrng))
          have hr0 := hk.blk H3.out.2.1 (by omega)
          have k0 : wr.cell? ⟨B, 0, none⟩ = some (.int .u32 v.a) := blk_cell hr0 0
          have k1 : wr.cell? ⟨B, 1, none⟩ = some (.int .u32 v.b) := blk_cell hr0 1
          have k2 : wr.cell? ⟨B, 2, none⟩ = some (.int .u32 v.c) := blk_cell hr0 2
          have k3 : wr.cell? ⟨B, 3, none⟩ = some (.int .u32 v.d) := blk_cell hr0 3
          have k4 : wr.cell? ⟨B, 4, none⟩ = some (.int .u32 v.e) := blk_cell hr0 4
          have k5 : wr.cell? ⟨B, 5, none⟩ = some (.int .u32 v.f) := blk_cell hr0 5
          have k6 : wr.cell? ⟨B, 6, none⟩ = some (.int .u32 v.g) := blk_cell hr0 6
          have k7 : wr.cell? ⟨B, 7, none⟩ = some (.int .u32 v.h) := blk_cell hr0 7
          clear hr hk hlen hrng hLJ HR hr0 hj2 hj hj48
          go_wp2
          obtain ⟨D, hD⟩ : ∃ D, wr.heap.size = D := ⟨_, rfl⟩
          generalize hw7 : World.alloc wr (Obj.cells _ 152) = w7
          have hD7 : w7.heap[D]? = some (.cells (vIter v K LJ 0).vals 152 (0, 0)) := by rw [← hw7, ← hD]; exact heap_alloc_new wr _
          have hk7 : Kp (fun k => k = B + 1 + 1) w3 w7 := by rw [← hw7]; exact hR2.out.2.alloc _
          have hr7 : Row32 w7 (B + 1 + 1) 153 LJ := by rw [← hw7]; exact blk_alloc _ hR2.out.1
          have hDB : B + 1 + 1 + 1 ≤ D := by rw [← hD]; have := H3.out.2.2.2.2; have := hR2.out.2.size; omega
          rw [hD]
          have H7 := Lib.hid (And.intro hD7 (And.intro hk7 (And.intro hr7 hDB)))
          clear k0 k1 k2 k3 k4 k5 k6 k7 hw7 hD hD7 hk7 hr7 hDB hR2
          go_loopw [77] (fun vi wr => ∃ s : Nat, s ≤ 64 ∧ vi = .int .i64 s ∧ wr.heap[D]? = some (.cells (vIter v K LJ s).vals 152 (0, 0)) ∧ Kp (fun k => k = D) w7 wr) (fun i _ => 64 - (intOf i).toNat)
          case atStart => exact ⟨0, by omega, rfl, H7.out.1, Kp.refl _ _⟩
          case round =>
            obtain ⟨s, hs, rfl, hr, hk⟩ := hrel
            obtain ⟨u, hu⟩ : ∃ u, vIter v K LJ s = u := ⟨_, rfl⟩
            have huo : u.ok := by rw [← hu]; exact vIter_ok HV.out K LJ s
            have hnx : vIter v K LJ (s + 1) = roundF u (K.getD s 0) (LJ.getD s 0) := by rw [vIter, hu]
            by_cases hs64 : s < 64
            · -- [[
              rw [hu] at hr
              have hR := Lib.hid (And.intro hr hk)
              obtain ⟨x, hx⟩ : ∃ x, LJ.getD s 0 = x := ⟨_, rfl⟩
              obtain ⟨y, hy⟩ : ∃ y, K.getD s 0 = y := ⟨_, rfl⟩
              have rx := getD_r32 HLJ.out.2.2 s
              have ry := getD_r32 HK.out.2.2 s
              rw [hx] at rx hnx
              rw [hy] at ry hnx
              have hcw := (show Row32 wr (B + 1 + 1) 153 LJ from hk.blk H7.out.2.2.1 (by have := H7.out.2.2.2; omega)).cell (i := s) (by rw [HLJ.out.2.1]; exact hs64)
              have hkb : kb < w.heap.size := blk_lt HK.out.1
              have hck := (show Row32 wr kb 153 K from hk.blk (H7.out.2.1.blk (H3.out.1.blk HK.out.1 id) (by have := HB.out; omega)) (by have := H7.out.2.2.2; have := HB.out; omega)).cell (i := s) (by rw [HK.out.2.1]; exact hs64)
              rw [hx] at hcw
              rw [hy] at hck
              obtain ⟨a0, b0, c0, d0, e0, f0, g0, h0⟩ := u
              obtain ⟨ra, rb, rc, rd, re, rf, rg, rh⟩ := huo
              simp only [R32] at ra rb rc rd re rf rg rh rx ry
              have HF : Hid (∀ wz : World, wz.heap = wr.heap → wz.cell? ⟨D, 0, none⟩ = some (.int .u32 a0) ∧ wz.cell? ⟨D, 1, none⟩ = some (.int .u32 b0) ∧ wz.cell? ⟨D, 2, none⟩ = some (.int .u32 c0) ∧ wz.cell? ⟨D, 3, none⟩ = some (.int .u32 d0) ∧
                  wz.cell? ⟨D, 4, none⟩ = some (.int .u32 e0) ∧ wz.cell? ⟨D, 5, none⟩ = some (.int .u32 f0) ∧ wz.cell? ⟨D, 6, none⟩ = some (.int .u32 g0) ∧ wz.cell? ⟨D, 7, none⟩ = some (.int .u32 h0) ∧
                  wz.cell? ⟨B + 1 + 1, s, none⟩ = some (.int .u32 x) ∧ wz.cell? ⟨kb, s, none⟩ = some (.int .u32 y)) := by
                refine Lib.hid fun wz hz => ?_
                have hc : ∀ p, wz.cell? p = wr.cell? p := fun p => by simp only [World.cell?, hz]
                simp only [hc]
                exact ⟨blk_cell hr 0, blk_cell hr 1, blk_cell hr 2, blk_cell hr 3, blk_cell hr 4, blk_cell hr 5, blk_cell hr 6, blk_cell hr 7, hcw, hck⟩
              have HNX := Lib.hid hnx
              have HU := Lib.hid hu
              have ws : IntKind.i64.wrap (s : Int) = s := by rw [IntKind.wrap_i64]; omega
              have bs : (s : Int) < 64 := by omega
              clear hr hk hx hy hcw hck hnx hu hkb
              obtain ⟨q0, q1, q2, q3, q4, q5, q6, q7, q8, q9⟩ := HF.out wr rfl
              go_wp2
              go_still (by kernel_rfl)
              clear q0 q1 q2 q3 q4 q5 q6 q7 q8 q9
              change Exit.then _ _ _ _ wr.drew
              obtain ⟨w8, hw8⟩ : ∃ w8, wr.drew = w8 := ⟨_, rfl⟩
              have hh8 : w8.heap = wr.heap := by rw [← hw8]; rfl
              have hk8 : Kp (fun _ => False) wr w8 := by rw [← hw8]; exact (Kp.refl _ wr).drew
              rw [hw8]
              obtain ⟨q0, q1, q2, q3, q4, q5, q6, q7, q8, q9⟩ := HF.out w8 hh8
              have HK8 := Lib.hid (And.intro hk8 hh8)
              clear hk8 hh8 hw8
              go_wp2
              refine wp_region_still_lit (by kernel_rfl) (by kernel_rfl) ?_
              repeat still_step
              still_call (rot_6 _ e0 re)
              repeat still_step
              still_call (rot_11 _ e0 re)
              repeat still_step
              still_call (rot_25 _ e0 re)
              repeat still_step
              refine wpStill_nil ?_
              clear q0 q1 q2 q3 q4 q5 q6 q7 q8 q9
              change Exit.then _ _ _ _ w8.drew
              obtain ⟨w9, hw9⟩ : ∃ w9, w8.drew = w9 := ⟨_, rfl⟩
              have hh9 : w9.heap = wr.heap := by rw [← hw9]; exact HK8.out.2
              have hk9 : Kp (fun _ => False) wr w9 := by rw [← hw9]; exact HK8.out.1.drew
              rw [hw9]
              obtain ⟨q0, q1, q2, q3, q4, q5, q6, q7, q8, q9⟩ := HF.out w9 hh9
              have HK9 := Lib.hid (And.intro hk9 hh9)
              clear hk9 hh9 hw9 HK8
              go_wp2
              obtain ⟨T, hT⟩ : ∃ T, nextT ⟨a0, b0, c0, d0, e0, f0, g0, h0⟩ y x = T := ⟨_, rfl⟩
              have rT : 0 ≤ T ∧ T ≤ 4294967295 := by rw [← hT]; exact wrap32 _
              have HT := Lib.hid hT
              simp only [nextT] at hT
              rw [hT]
              clear hT
              refine wp_region_still_lit (by kernel_rfl) (by kernel_rfl) ?_
              repeat still_step
              still_call (rot_2 _ a0 ra)
              repeat still_step
              still_call (rot_13 _ a0 ra)
              repeat still_step
              still_call (rot_22 _ a0 ra)
              repeat still_step
              refine wpStill_nil ?_
              clear q0 q1 q2 q3 q4 q5 q6 q7 q8 q9
              obtain ⟨U, hU⟩ : ∃ U, nextU ⟨a0, b0, c0, d0, e0, f0, g0, h0⟩ = U := ⟨_, rfl⟩
              have rU : 0 ≤ U ∧ U ≤ 4294967295 := by rw [← hU]; exact wrap32 _
              have HU2 := Lib.hid hU
              simp only [nextU] at hU
              rw [hU]
              clear hU
              change Exit.then _ _ _ _ w9.drew
              have hDa : w9.drew.heap[D]? = some (.cells #[.int .u32 a0, .int .u32 b0, .int .u32 c0, .int .u32 d0, .int .u32 e0, .int .u32 f0, .int .u32 g0, .int .u32 h0] 152 (0, 0)) := by
                show w9.heap[D]? = _
                rw [HK9.out.2]; exact hR.out.1
              have hka : Kp (fun k => k = D) w7 w9.drew := (hR.out.2.trans (HK9.out.1.mono fun _ h => h.elim)).drew
              obtain ⟨wa, hwa⟩ : ∃ wa, w9.drew = wa := ⟨_, rfl⟩
              rw [hwa] at hDa hka ⊢
              have HA := Lib.hid (And.intro hDa hka)
              clear hDa hka hwa HK9
              go_wp2
              go_still_tail 2, (by kernel_rfl)
              change wpList _ _ _ _ _ wa.drew
              have hcp := run_copy_row (P := Tryz.prog) wa.drew 174 174 3 128 D 1 7 7 ⟨D, 0, none⟩ 7 8 #[.int .u32 a0, .int .u32 b0, .int .u32 c0, .int .u32 d0, .int .u32 e0, .int .u32 f0, .int .u32 g0, .int .u32 h0] 152
                [.int .u32 a0, .int .u32 b0, .int .u32 c0, .int .u32 d0, .int .u32 e0, .int .u32 f0, .int .u32 g0] (by kernel_rfl) (by kernel_rfl) HA.out.1 rfl (fun j v hj => by
                  have hc := blk_cell HA.out.1 j
                  rw [Addr.add_lit, Nat.zero_add]
                  show wa.cell? _ = _
                  rw [hc]
                  rcases (by have := (List.getElem?_eq_some_iff.1 hj).1; simp at this; omega : j = 0 ∨ j = 1 ∨ j = 2 ∨ j = 3 ∨ j = 4 ∨ j = 5 ∨ j = 6) with rfl | rfl | rfl | rfl | rfl | rfl | rfl <;> exact hj) (by simp) (fun v hv => by
                  simp only [List.mem_cons, List.not_mem_nil, or_false] at hv
                  rcases hv with rfl | rfl | rfl | rfl | rfl | rfl | rfl <;> rfl)
              have hDb := setRow_heap wa.drew D _ (([.int .u32 a0, .int .u32 a0, .int .u32 b0, .int .u32 c0, .int .u32 d0, .int .u32 e0, .int .u32 f0, .int .u32 g0] : List Value).toArray) _ _ HA.out.1
              refine wpList_copy_run rfl _ _ _ _ rfl rfl rfl hcp ?_
              change wpList _ _ _ _ _ (wa.drew.setRow D (([.int .u32 a0, .int .u32 a0, .int .u32 b0, .int .u32 c0, .int .u32 d0, .int .u32 e0, .int .u32 f0, .int .u32 g0] : List Value).toArray))
              have hkb : Kp (fun k => k = D) w7 (wa.drew.setRow D (([.int .u32 a0, .int .u32 a0, .int .u32 b0, .int .u32 c0, .int .u32 d0, .int .u32 e0, .int .u32 f0, .int .u32 g0] : List Value).toArray)) :=
                ⟨HA.out.2.os, HA.out.2.tape, HA.out.2.output, by have := HA.out.2.size; simp; exact this, fun k hk hF => (setRow_other wa.drew D k _ hF).trans (HA.out.2.block k hk hF)⟩
              obtain ⟨wb, hwb⟩ : ∃ wb, wa.drew.setRow D (([.int .u32 a0, .int .u32 a0, .int .u32 b0, .int .u32 c0, .int .u32 d0, .int .u32 e0, .int .u32 f0, .int .u32 g0] : List Value).toArray) = wb := ⟨_, rfl⟩
              rw [hwb] at hDb hkb ⊢
              have p4 : wb.cell? ⟨D, 4, none⟩ = some (.int .u32 d0) := blk_cell hDb 4
              have p0 : wb.cell? ⟨D, 0, none⟩ = some (.int .u32 a0) := blk_cell hDb 0
              have f4 : wb.frozen? ⟨D, 4, none⟩ = false := blk_free hDb 4
              have f0' : wb.frozen? ⟨D, 0, none⟩ = false := blk_free hDb 0
              have HDB := Lib.hid (And.intro hDb hkb)
              clear hDb hkb hwb hcp HA
              go_wp2
              go_roundw
              case rel =>
                refine ⟨s + 1, by omega, by go_num, ?_, (HDB.out.2.setCell (p := ⟨D, 4, none⟩) (.inl rfl) _).setCell (p := ⟨D, 0, none⟩) (.inl rfl) _⟩
                rw [HNX.out]
                simp only [roundF, V8.vals, HT.out, HU2.out]
                exact blk_set (blk_set HDB.out.1 4 _) 0 _
              case measure => simp [intOf]; omega
              -- ]]
            · have hs2 : s = 64 := by omega
              have hs3 : ¬ (s : Int) < 64 := by omega
              rw [hs2] at hu
              have hBD : ¬ B = D := by have := H7.out.2.2.2; omega
              have hr0 : wr.heap[B]? = some (.cells (words (addN v.list u.list 0)).toArray 152 (0, 0)) := hk.blk (H7.out.2.1.blk H3.out.2.1 (by omega)) hBD
              have hr1 : Row32 wr (B + 1) 152 (List.replicate 8 0) := hk.blk (H7.out.2.1.blk H3.out.2.2.1 (by omega)) (by have := H7.out.2.2.2; omega)
              have hkk : Kp (fun _ => False) w wr := (H3.out.1.trans' H7.out.2.1 fun i h => .inr (by have := HB.out; omega)).trans' hk fun i h => .inr (by have := H7.out.2.2.2; have := HB.out; omega)
              have HU := Lib.hid hu
              rw [show (vIter v K LJ s).vals = u.vals by rw [hs2, hu]] at hr
              obtain ⟨wd, hwd⟩ : ∃ wd, wd = wr := ⟨_, rfl⟩
              subst hwd
              have HR := Lib.hid (And.intro hr (And.intro hr0 (And.intro hr1 (And.intro hkk (And.intro huo hBD)))))
              clear hr hr0 hr1 hkk hk hs hs64 hs2 hu hnx huo hBD
              go_wp2
              go_loopw [159] (fun vi wr => ∃ t : Nat, t ≤ 8 ∧ vi = .int .i64 t ∧ Row32 wr B 152 (addN v.list u.list t) ∧ Kp (fun k => k = B) wd wr) (fun i _ => 8 - (intOf i).toNat)
              case atStart => exact ⟨0, by omega, rfl, HR.out.2.1, Kp.refl _ _⟩
              case round =>
                obtain ⟨t, ht, rfl, hr, hk⟩ := hrel
                by_cases ht8 : t < 8
                · obtain ⟨x, hx⟩ : ∃ x, (addN v.list u.list t).getD t 0 = x := ⟨_, rfl⟩
                  obtain ⟨y, hy⟩ : ∃ y, u.list.getD t 0 = y := ⟨_, rfl⟩
                  have hnx : addN v.list u.list (t + 1) = (addN v.list u.list t).set t (IntKind.u32.wrap (x + y)) := by rw [addN, hx, hy]
                  have hlen : (addN v.list u.list t).length = 8 := addN_length rfl t
                  have rx : R32 x := by rw [← hx]; exact getD_r32 (addN_range HV.out.list t) t
                  have ry : R32 y := by rw [← hy]; exact getD_r32 HR.out.2.2.2.2.1.list t
                  unfold R32 at rx ry
                  have hrd : Row32 wr D 152 u.list := hk.blk HR.out.1 (fun h => HR.out.2.2.2.2.2 h.symm)
                  have cd := hrd.cell (i := t) (by show t < 8; omega)
                  have cb := hr.cell (i := t) (by omega)
                  have cf := hr.free t
                  rw [hy] at cd
                  rw [hx] at cb
                  have hst := hr.set t (IntKind.u32.wrap (x + y))
                  rw [← hnx] at hst
                  have HST := Lib.hid (And.intro hr (And.intro hnx hk))
                  have bt : (t : Int) < 8 := by omega
                  clear hr hx hy hnx hlen hrd hst hk
                  go_wp2
                  go_still_tail 8, (by kernel_rfl)
                  change wpList _ _ _ _ _ wr.drew
                  obtain ⟨we, hwe⟩ : ∃ we, wr.drew = we := ⟨_, rfl⟩
                  have cb2 : we.cell? ⟨B, t, none⟩ = some (.int .u32 x) := by rw [← hwe]; exact cb
                  have cf2 : we.frozen? ⟨B, t, none⟩ = false := by rw [← hwe]; exact cf
                  have hr2 : Row32 we B 152 (addN v.list u.list t) := by rw [← hwe]; exact HST.out.1
                  have hk2 : Kp (fun k => k = B) wd we := by rw [← hwe]; exact HST.out.2.2.drew
                  have hst := hr2.set t (IntKind.u32.wrap (x + y))
                  rw [← HST.out.2.1] at hst
                  have HS2 := Lib.hid (And.intro hst (hk2.setCell (p := ⟨B, t, none⟩) (.inl rfl) (.int .u32 (IntKind.u32.wrap (x + y)))))
                  rw [hwe]
                  clear hwe cb cf cd hr2 hk2 hst HST
                  go_wp2
                  go_roundw
                  case rel => exact ⟨t + 1, by omega, by go_num, HS2.out.1, HS2.out.2⟩
                  case measure => simp [intOf]; omega
                · have ht2 : t = 8 := by omega
                  have ht3 : ¬ (t : Int) < 8 := by omega
                  rw [ht2] at hr
                  have hlen : (addN v.list u.list 8).length = 8 := addN_length rfl 8
                  have hF : blockF v q K = ofL (addN v.list u.list 8) := by unfold blockF; rw [HL1.out.1, HLJ.out.1, HU.out]
                  obtain ⟨l, hl⟩ : ∃ l, addN v.list u.list 8 = l := ⟨_, rfl⟩
                  rw [hl] at hr hlen hF
                  obtain ⟨x0, hx0⟩ : ∃ x, l.getD 0 0 = x := ⟨_, rfl⟩
                  have k0 := hr.cell (i := 0) (by omega)
                  rw [hx0] at k0
                  obtain ⟨x1, hx1⟩ : ∃ x, l.getD 1 0 = x := ⟨_, rfl⟩
                  have k1 := hr.cell (i := 1) (by omega)
                  rw [hx1] at k1
                  obtain ⟨x2, hx2⟩ : ∃ x, l.getD 2 0 = x := ⟨_, rfl⟩
                  have k2 := hr.cell (i := 2) (by omega)
                  rw [hx2] at k2
                  obtain ⟨x3, hx3⟩ : ∃ x, l.getD 3 0 = x := ⟨_, rfl⟩
                  have k3 := hr.cell (i := 3) (by omega)
                  rw [hx3] at k3
                  obtain ⟨x4, hx4⟩ : ∃ x, l.getD 4 0 = x := ⟨_, rfl⟩
                  have k4 := hr.cell (i := 4) (by omega)
                  rw [hx4] at k4
                  obtain ⟨x5, hx5⟩ : ∃ x, l.getD 5 0 = x := ⟨_, rfl⟩
                  have k5 := hr.cell (i := 5) (by omega)
                  rw [hx5] at k5
                  obtain ⟨x6, hx6⟩ : ∃ x, l.getD 6 0 = x := ⟨_, rfl⟩
                  have k6 := hr.cell (i := 6) (by omega)
                  rw [hx6] at k6
                  obtain ⟨x7, hx7⟩ : ∃ x, l.getD 7 0 = x := ⟨_, rfl⟩
                  have k7 := hr.cell (i := 7) (by omega)
                  rw [hx7] at k7
                  have hF2 : blockF v q K = ⟨x0, x1, x2, x3, x4, x5, x6, x7⟩ := by rw [hF]; simp only [ofL, hx0, hx1, hx2, hx3, hx4, hx5, hx6, hx7]
                  have hr1 : Row32 wr (B + 1) 152 (List.replicate 8 0) := hk.blk HR.out.2.2.1 (by omega)
                  have m0 : wr.cell? ⟨B + 1, 0, none⟩ = some (.int .u32 0) := hr1.cell (i := 0) (by simp)
                  have m1 : wr.cell? ⟨B + 1, 1, none⟩ = some (.int .u32 0) := hr1.cell (i := 1) (by simp)
                  have m2 : wr.cell? ⟨B + 1, 2, none⟩ = some (.int .u32 0) := hr1.cell (i := 2) (by simp)
                  have m3 : wr.cell? ⟨B + 1, 3, none⟩ = some (.int .u32 0) := hr1.cell (i := 3) (by simp)
                  have m4 : wr.cell? ⟨B + 1, 4, none⟩ = some (.int .u32 0) := hr1.cell (i := 4) (by simp)
                  have m5 : wr.cell? ⟨B + 1, 5, none⟩ = some (.int .u32 0) := hr1.cell (i := 5) (by simp)
                  have m6 : wr.cell? ⟨B + 1, 6, none⟩ = some (.int .u32 0) := hr1.cell (i := 6) (by simp)
                  have m7 : wr.cell? ⟨B + 1, 7, none⟩ = some (.int .u32 0) := hr1.cell (i := 7) (by simp)
                  have n0 := hr1.free
                  have hkw : Kp (fun _ => False) w wr := HR.out.2.2.2.1.trans' hk fun i h => .inr (by have := HB.out; omega)
                  have HKW := Lib.hid hkw
                  have HF := Lib.hid hF2
                  have HBB : Hid (w.heap.size ≤ B + 1) := by have := HB.out; exact Lib.hid (by omega)
                  clear hr hr1 hk hlen hF hF2 hl hkw hx0 hx1 hx2 hx3 hx4 hx5 hx6 hx7
                  go_wp2
                  refine bodyPost_ret (v := .agg #[.int .u32 x0, .int .u32 x1, .int .u32 x2, .int .u32 x3, .int .u32 x4, .int .u32 x5, .int .u32 x6, .int .u32 x7]) ?_ rfl ⟨by rw [HF.out]; rfl, ((((((((HKW.out.setCell (.inr HBB.out) _).setCell (.inr HBB.out) _).setCell (.inr HBB.out) _).setCell (.inr HBB.out) _).setCell (.inr HBB.out) _).setCell (.inr HBB.out) _).setCell (.inr HBB.out) _).setCell (.inr HBB.out) _)⟩
                  simp [results, Tryz.results91, go_sem, m0, m1, m2, m3, m4, m5, m6, m7]
end Go.Proofs.YtggnohbfdlebiaaGreatDoor

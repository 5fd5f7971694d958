/-
  Plain words on worlds and on maps in memory: what a call keeps (Kp), blocks behind stores and allocations, and a map's block read as a list of pairs in the order of its entries. No program stands in it.
-/
import Derived.WalkKit
import Derived.WalkSpells
import Derived.WalkLawsBesides
namespace Go.Proofs.YtmcmapaapffadaaDoor
open Go.RowKit

theorem alloc_old' (w : World) (o : Obj) (k : Nat) (h : k < w.heap.size) : (w.alloc o).heap[k]? = w.heap[k]? := by
  show (w.heap.push o)[k]? = _
  rw [Array.getElem?_push, if_neg (by omega)]

/-- Of what was there, only blocks of F may have turned. -/
structure Kp (F : Nat → Prop) (w w' : World) : Prop where
  os : w'.os = w.os
  tape : w'.tape = w.tape
  output : w'.output = w.output
  size : w.heap.size ≤ w'.heap.size
  block : ∀ k, k < w.heap.size → ¬ F k → w'.heap[k]? = w.heap[k]?

theorem Kp.refl (F : Nat → Prop) (w : World) : Kp F w w := ⟨rfl, rfl, rfl, Nat.le_refl _, fun _ _ _ => rfl⟩
theorem Kp.trans {F : Nat → Prop} {a b c : World} (h : Kp F a b) (k : Kp F b c) : Kp F a c :=
  ⟨k.os.trans h.os, k.tape.trans h.tape, k.output.trans h.output, Nat.le_trans h.size k.size,
    fun i hi hF => (k.block i (Nat.lt_of_lt_of_le hi h.size) hF).trans (h.block i hi hF)⟩
/-- The second call may turn besides what the first has made. -/
theorem Kp.trans' {F F' : Nat → Prop} {a b c : World} (h : Kp F a b) (k : Kp F' b c) (hs : ∀ i, F' i → F i ∨ a.heap.size ≤ i) : Kp F a c :=
  ⟨k.os.trans h.os, k.tape.trans h.tape, k.output.trans h.output, Nat.le_trans h.size k.size,
    fun i hi hF => (k.block i (Nat.lt_of_lt_of_le hi h.size) (fun h' => by rcases hs i h' with h1 | h1; exact hF h1; omega)).trans (h.block i hi hF)⟩
theorem Kp.mono {F F' : Nat → Prop} {a b : World} (h : Kp F a b) (hs : ∀ i, F i → F' i) : Kp F' a b :=
  ⟨h.os, h.tape, h.output, h.size, fun i hi hF => h.block i hi fun h' => hF (hs i h')⟩
theorem Kp.mono' {F F' : Nat → Prop} {a b : World} (h : Kp F a b) (hs : ∀ i, F i → F' i ∨ a.heap.size ≤ i) : Kp F' a b :=
  ⟨h.os, h.tape, h.output, h.size, fun i hi hF => h.block i hi fun h' => by rcases hs i h' with h1 | h1; exact hF h1; omega⟩
theorem Kp.drew {F : Nat → Prop} {a w : World} (h : Kp F a w) : Kp F a w.drew := ⟨h.os, h.tape, h.output, h.size, h.block⟩
theorem Kp.drewN {F : Nat → Prop} {a w : World} (h : Kp F a w) (n : Nat) : Kp F a (w.drewN n) := ⟨h.os, h.tape, h.output, h.size, h.block⟩
theorem Kp.alloc {F : Nat → Prop} {a w : World} (h : Kp F a w) (o : Obj) : Kp F a (w.alloc o) :=
  ⟨h.os, h.tape, h.output, by have := h.size; simp; omega, fun k hk hF => (alloc_old' w o k (by have := h.size; omega)).trans (h.block k hk hF)⟩
theorem Kp.setCell {F : Nat → Prop} {a w : World} (h : Kp F a w) {p : Addr} (hp : F p.block ∨ a.heap.size ≤ p.block) (v : Value) : Kp F a (w.setCell p v) :=
  ⟨h.os, h.tape, h.output, by have := h.size; simp; omega, fun k hk hF => (heap_setCell_other w p k v (by rintro rfl; rcases hp with h1 | h1; exact hF h1; omega)).trans (h.block k hk hF)⟩
theorem Kp.setObj {F : Nat → Prop} {a w : World} (h : Kp F a w) {b : Nat} (hp : F b ∨ a.heap.size ≤ b) (o : Obj) : Kp F a (ChangeMaps.setBlock w b o) :=
  ⟨h.os, h.tape, h.output, by have := h.size; simp [ChangeMaps.setBlock]; omega, fun k hk hF => by
    have hne : b ≠ k := by rintro rfl; rcases hp with h1 | h1; exact hF h1; omega
    simp only [ChangeMaps.setBlock, Array.getElem?_setIfInBounds]; rw [if_neg hne]; exact h.block k hk hF⟩
theorem Kp.below {w w' : World} (h : Kp (fun _ => False) w w') : Below w.heap.size w w' := ⟨h.os, h.tape, h.output, h.size, fun k hk => h.block k hk id⟩
theorem Kp.of_below {w w' : World} (F : Nat → Prop) (h : Below w.heap.size w w') : Kp F w w' := ⟨h.os, h.tape, h.output, h.size, fun k hk _ => h.block k hk⟩
theorem Kp.below_of {F : Nat → Prop} {w w' : World} (h : Kp F w w') (B : Nat) (hB : B ≤ w.heap.size) (hF : ∀ k, F k → B ≤ k) : Below B w w' :=
  ⟨h.os, h.tape, h.output, h.size, fun k hk => h.block k (by omega) fun h' => by have := hF k h'; omega⟩
theorem Kp.of_grown {F : Nat → Prop} {w w' : World} {row : Option Nat} (h : w.grownBy w' row) (hr : ∀ k, row = some k → F k ∨ w.heap.size ≤ k) : Kp F w w' :=
  ⟨h.os, h.tape, h.output, h.size, fun k hk hF => h.block k hk fun e => by rcases hr k e.symm with h1 | h1; exact hF h1; omega⟩
theorem Kp.cell {F : Nat → Prop} {w w' : World} (h : Kp F w w') {b o : Nat} {v : Value} (hc : w.cell? ⟨b, o, none⟩ = some v) (hF : ¬ F b) : w'.cell? ⟨b, o, none⟩ = some v :=
  (World.cell?_of_block (w := w) (h.block b (block_lt_of_cell hc) hF)).trans hc

/-! ### blocks -/
theorem blk_lt {w : World} {b : Nat} {o : Obj} (h : w.heap[b]? = some o) : b < w.heap.size := (Array.getElem?_eq_some_iff.1 h).1
theorem blk_cell {w : World} {b : Nat} {cs : Array Value} {t : TypeId} {fr : Nat × Nat} (h : w.heap[b]? = some (.cells cs t fr)) (i : Nat) : w.cell? ⟨b, i, none⟩ = cs[i]? := by
  simp [World.cell?, h]
theorem blk_free {w : World} {b : Nat} {cs : Array Value} {t : TypeId} (h : w.heap[b]? = some (.cells cs t (0, 0))) (i : Nat) : w.frozen? ⟨b, i, none⟩ = false := by
  simp [World.frozen?, h]
theorem blk_set {w : World} {b : Nat} {cs : Array Value} {t : TypeId} {fr : Nat × Nat} (h : w.heap[b]? = some (.cells cs t fr)) (i : Nat) (v : Value) :
    (w.setCell ⟨b, i, none⟩ v).heap[b]? = some (.cells (cs.setIfInBounds i v) t fr) := by
  simp [World.setCell, Array.getElem?_modify, h]
theorem blk_far {w : World} {b i k : Nat} (v : Value) (h : k ≠ b) : (w.setCell ⟨b, i, none⟩ v).heap[k]? = w.heap[k]? := heap_setCell_other w _ k v h
theorem blk_alloc {w : World} {b : Nat} {o : Obj} (x : Obj) (h : w.heap[b]? = some o) : (w.alloc x).heap[b]? = some o := (alloc_old' w x b (blk_lt h)).trans h
theorem blk_drew {w : World} {b : Nat} {o : Obj} (h : w.heap[b]? = some o) : w.drew.heap[b]? = some o := h
theorem blk_put {w : World} {b : Nat} {o o' : Obj} (h : w.heap[b]? = some o) : (ChangeMaps.setBlock w b o').heap[b]? = some o' := by
  simp [ChangeMaps.setBlock, blk_lt h]
theorem blk_off {w : World} {b k : Nat} (o : Obj) (h : k ≠ b) : (ChangeMaps.setBlock w b o).heap[k]? = w.heap[k]? := by
  simp only [ChangeMaps.setBlock, Array.getElem?_setIfInBounds]; rw [if_neg (fun e => h e.symm)]
theorem Kp.blk {F : Nat → Prop} {w w' : World} (h : Kp F w w') {b : Nat} {o : Obj} (hb : w.heap[b]? = some o) (hF : ¬ F b) : w'.heap[b]? = some o := (h.block b (blk_lt hb) hF).trans hb

/-! ### lists of pairs -/
section
variable {K : Type} [DecidableEq K] {α : Type}
def get : List (K × α) → K → Option α
  | [], _ => none
  | (k, v) :: l, x => if x = k then some v else get l x
def put : List (K × α) → K → α → List (K × α)
  | [], x, v => [(x, v)]
  | (k, u) :: l, x, v => if x = k then (k, v) :: l else (k, u) :: put l x v
def del : List (K × α) → K → List (K × α)
  | [], _ => []
  | (k, u) :: l, x => if x = k then l else (k, u) :: del l x
theorem get_put (l : List (K × α)) (x y : K) (v : α) : get (put l x v) y = if y = x then some v else get l y := by
  induction l with
  | nil => simp [put, get]
  | cons p l ih =>
    obtain ⟨k, u⟩ := p
    by_cases h : x = k
    · subst h; simp only [put, if_true, get]; by_cases h2 : y = x <;> simp [h2]
    · simp only [put, if_neg h, get]
      by_cases h2 : y = k
      · subst h2; simp [Ne.symm h]
      · simp [h2, ih]
theorem put_keys (l : List (K × α)) (x : K) (v : α) : (put l x v).map (·.1) = if (get l x).isSome then l.map (·.1) else l.map (·.1) ++ [x] := by
  induction l with
  | nil => simp [put, get]
  | cons p l ih =>
    obtain ⟨k, u⟩ := p
    by_cases h : x = k
    · subst h; simp [put, get]
    · simp only [put, if_neg h, get, List.map_cons, ih]
      split <;> simp
theorem get_isSome {l : List (K × α)} {x : K} : (get l x).isSome = true ↔ x ∈ l.map (·.1) := by
  induction l with
  | nil => simp [get]
  | cons p l ih =>
    obtain ⟨k, u⟩ := p
    by_cases h : x = k
    · subst h; simp [get]
    · simp only [get, if_neg h, List.map_cons, List.mem_cons]
      rw [ih]
      simp [h]
theorem get_none {l : List (K × α)} {x : K} : get l x = none ↔ x ∉ l.map (·.1) := by
  rw [← get_isSome]; cases get l x <;> simp
theorem put_nodup {l : List (K × α)} (h : (l.map (·.1)).Nodup) (x : K) (v : α) : ((put l x v).map (·.1)).Nodup := by
  rw [put_keys]
  split
  · exact h
  · rename_i hx
    rw [List.nodup_append]
    refine ⟨h, by simp, ?_⟩
    intro a ha b hb
    have : b = x := by simpa using hb
    subst this
    rintro rfl
    exact hx (get_isSome.2 ha)
theorem del_keys (l : List (K × α)) (x : K) : (del l x).map (·.1) = (l.map (·.1)).erase x := by
  induction l with
  | nil => simp [del]
  | cons p l ih =>
    obtain ⟨k, u⟩ := p
    by_cases h : x = k
    · subst h; simp [del]
    · simp only [del, if_neg h, List.map_cons, ih]
      rw [List.erase_cons_tail (by simpa using Ne.symm h)]
theorem del_nodup {l : List (K × α)} (h : (l.map (·.1)).Nodup) (x : K) : ((del l x).map (·.1)).Nodup := by
  rw [del_keys]; exact h.erase x
theorem get_del {l : List (K × α)} (h : (l.map (·.1)).Nodup) (x y : K) : get (del l x) y = if y = x then none else get l y := by
  induction l with
  | nil => simp [del, get]
  | cons p l ih =>
    obtain ⟨k, u⟩ := p
    simp only [List.map_cons, List.nodup_cons] at h
    by_cases hk : x = k
    · subst hk
      simp only [del, if_true, get]
      by_cases h2 : y = x
      · subst h2; simp; exact get_none.2 h.1
      · simp [h2]
    · simp only [del, if_neg hk, get]
      by_cases h2 : y = k
      · subst h2; simp [Ne.symm hk]
      · simp [h2, ih h.2]
theorem mem_get {l : List (K × α)} (h : (l.map (·.1)).Nodup) {x : K} {v : α} : (x, v) ∈ l ↔ get l x = some v := by
  induction l with
  | nil => simp [get]
  | cons p l ih =>
    obtain ⟨k, u⟩ := p
    simp only [List.map_cons, List.nodup_cons] at h
    by_cases hk : x = k
    · subst hk
      simp only [get, if_true, List.mem_cons, Prod.mk.injEq, true_and, Option.some.injEq]
      constructor
      · rintro (rfl | h2); rfl; exact absurd (List.mem_map_of_mem (f := (·.1)) h2) h.1
      · rintro rfl; exact .inl rfl
    · simp only [get, if_neg hk, List.mem_cons, Prod.mk.injEq]
      rw [ih h.2]
      simp [hk]
end

/-! ### a map's entries -/
section
variable {K : Type} {α : Type} (kv : K → Value) (R : Value → α → Prop)
/-- The entries are these pairs, in this order. -/
def Ents : List MapEntry → List (K × α) → Prop
  | [], [] => True
  | e :: es, p :: l => e.key = kv p.1 ∧ R e.val p.2 ∧ Ents es l
  | _, _ => False
variable {kv R}
theorem Ents.imp {R' : Value → α → Prop} (hR : ∀ v a, R v a → R' v a) : ∀ {es : List MapEntry} {l : List (K × α)}, Ents kv R es l → Ents kv R' es l
  | [], [], _ => trivial
  | _ :: _, _ :: _, h => ⟨h.1, hR _ _ h.2.1, Ents.imp hR h.2.2⟩
theorem Ents.length : ∀ {es : List MapEntry} {l : List (K × α)}, Ents kv R es l → es.length = l.length
  | [], [], _ => rfl
  | _ :: _, _ :: _, h => by simp [Ents.length h.2.2]
theorem Ents.keys : ∀ {es : List MapEntry} {l : List (K × α)}, Ents kv R es l → es.map (·.key) = l.map (fun p => kv p.1)
  | [], [], _ => rfl
  | _ :: _, _ :: _, h => by simp [h.1, Ents.keys h.2.2]
theorem Ents.mem : ∀ {es : List MapEntry} {l : List (K × α)}, Ents kv R es l → ∀ e ∈ es, ∃ p ∈ l, e.key = kv p.1 ∧ R e.val p.2
  | [], [], _, _, he => by cases he
  | e :: es, p :: l, h, x, hx => by
    rcases List.mem_cons.1 hx with rfl | hx
    · exact ⟨p, by simp, h.1, h.2.1⟩
    · obtain ⟨q, hq, h1⟩ := Ents.mem h.2.2 x hx; exact ⟨q, by simp [hq], h1⟩
theorem Ents.at_ : ∀ {es : List MapEntry} {l : List (K × α)}, Ents kv R es l → ∀ (i : Nat) (e : MapEntry), es[i]? = some e → ∃ p : K × α, l[i]? = some p ∧ e.key = kv p.1 ∧ R e.val p.2
  | [], [], _, _, _, he => by simp at he
  | x :: es, p :: l, h, 0, e, he => by obtain rfl : x = e := by simpa using he
                                       exact ⟨p, rfl, h.1, h.2.1⟩
  | x :: es, p :: l, h, i + 1, e, he => by simpa using Ents.at_ h.2.2 i e (by simpa using he)

variable [DecidableEq K]
/-- Keys that are compared at once. -/
structure KeyNow (d : TypeDesc) (kv : K → Value) : Prop where
  same : ∀ a b, Instr.sameNow d (kv a) (kv b) = some (decide (a = b))
  bits : ∀ a, Instr.sameBits 10000 (kv a) (kv a) = true
  inj : ∀ a b, kv a = kv b → a = b
  plain : ∀ (P : Program) (k : TypeId), P.underlying k = some d → ∀ (e : Bool) (a : K) (w : World), (Instr.checkKey e 10000 k (kv a)).run P w = .ok () w

variable {d : TypeDesc}
theorem findNow_none (hk : KeyNow d kv) (x : K) : ∀ {es : List MapEntry} {l : List (K × α)} (_ : Ents kv R es l) (_ : get l x = none) (i : Nat), Instr.findNow d (kv x) es i = some none
  | [], [], _, _, _ => rfl
  | e :: es, p :: l, h, hg, i => by
    obtain ⟨k, u⟩ := p
    have h1 : e.key = kv k := h.1
    have hx : x ≠ k := by rintro rfl; simp [get] at hg
    simp only [get, if_neg hx] at hg
    simp only [Instr.findNow, h1, hk.same, decide_eq_false hx]
    exact findNow_none hk x h.2.2 hg (i + 1)
theorem findNow_some (hk : KeyNow d kv) (x : K) : ∀ {es : List MapEntry} {l : List (K × α)} (_ : Ents kv R es l) (v : α) (_ : get l x = some v) (i : Nat),
    ∃ j e, Instr.findNow d (kv x) es i = some (some (i + j, e.val)) ∧ es[j]? = some e ∧ e.key = kv x ∧ R e.val v ∧
      (∀ u, R u v → True) ∧ (∀ v' u, R u v' → Ents kv R (es.modify j fun e => { e with val := u }) (put l x v')) ∧ Ents kv R (es.eraseIdx j) (del l x)
  | [], [], _, _, hg, _ => by simp [get] at hg
  | e :: es, p :: l, h, v, hg, i => by
    obtain ⟨k, u⟩ := p
    have h1 : e.key = kv k := h.1
    by_cases hx : x = k
    · subst hx
      simp only [get, if_true, Option.some.injEq] at hg
      subst hg
      refine ⟨0, e, ?_, rfl, h1, h.2.1, fun _ _ => trivial, ?_, ?_⟩
      · simp [Instr.findNow, h1, hk.same]
      · intro v' u' hu
        simp only [List.modify_zero_cons, put, if_true]
        exact ⟨h1, hu, h.2.2⟩
      · simpa [del] using h.2.2
    · simp only [get, if_neg hx] at hg
      obtain ⟨j, e', h2, h3, h4, h5, _, h6, h7⟩ := findNow_some hk x h.2.2 v hg (i + 1)
      refine ⟨j + 1, e', ?_, by simpa using h3, h4, h5, fun _ _ => trivial, ?_, ?_⟩
      · simp only [Instr.findNow, h1, hk.same, decide_eq_false hx, h2]
        congr 3; omega
      · intro v' u' hu
        simp only [List.modify_succ_cons, put, if_neg hx]
        exact ⟨h1, h.2.1, h6 v' u' hu⟩
      · simp only [List.eraseIdx_cons_succ, del, if_neg hx]
        exact ⟨h1, h.2.1, h7⟩
theorem Ents.push : ∀ {es : List MapEntry} {l : List (K × α)} (_ : Ents kv R es l) (x : K) (_ : get l x = none) (v : α) (u : Value) (_ : R u v) (c : Nat), Ents kv R (es ++ [{ key := kv x, val := u, born := c }]) (put l x v)
  | [], [], _, _, _, _, _, hu, _ => ⟨rfl, hu, trivial⟩
  | e :: es, p :: l, h, x, hg, v, u, hu, c => by
    obtain ⟨k, a⟩ := p
    have hx : x ≠ k := by rintro rfl; simp [get] at hg
    simp only [get, if_neg hx] at hg
    simp only [List.cons_append, put, if_neg hx]
    exact ⟨h.1, h.2.1, Ents.push h.2.2 x hg v u hu c⟩
end
end Go.Proofs.YtmcmapaapffadaaDoor

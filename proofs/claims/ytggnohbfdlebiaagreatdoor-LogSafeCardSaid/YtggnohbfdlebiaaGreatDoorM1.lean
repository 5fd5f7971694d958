/-
  Merged of my texts, in order: Core, Regn, LawKit, Maps, SnapLaw, Dk, Range, Aggs, LogLaw, Secs, WalkA, WalkB, WalkC, Lists, WalkD.
-/
import Derived.WalkKit
import Derived.WalkSpells
import Derived.WalkLawsBesides
import Derived.Deep.RegionHeld3
import Derived.Test.YtggnohbfdlebiaaGreatDoorCards
import Derived.Test.YtggnohbfdlebiaaGreatDoorTie
import Derived.ProofKit
import Derived.OpenShut
import Derived.Deep.DeepHandedRow
import Derived.LaidMore
import Derived.Test.YtggnohbfdlebiaaGreatDoorProg
import Derived.Laws.CopyRow
import Derived.Laws.Tables
import Derived.Lib.Hide
import Derived.BigQuiet
import Derived.Outline
import Derived.Deep.QuietTactic
import Derived.StillTailTactics
/-
  Plain words on worlds and on maps in memory: what a call keeps (Kp), blocks behind stores and allocations, and a map's block read as a list of pairs in the order of its entries. No program stands in it.
-/
namespace Go.Proofs.YtggnohbfdlebiaaGreatDoor
open Go.RowKit

theorem alloc_old' (w : World) (o : Obj) (k : Nat) (h : k < w.heap.size) : (w.alloc o).heap[k]? = w.heap[k]? := by
  show (w.heap.push o)[k]? = _
  rw [Array.getElem?_push, if_neg (by omega)]

/-- Of what was there, only blocks of F may have turned. -/
structure Kp (F : Nat → Prop) (w w' : World) : Prop where
  os : w'.os = w.os
  tape : w'.tape = w.tape
  output : w'.output = w.output
  size : w.heap.size ≤ w'.heap.size
  block : ∀ k, k < w.heap.size → ¬ F k → w'.heap[k]? = w.heap[k]?

theorem Kp.refl (F : Nat → Prop) (w : World) : Kp F w w := ⟨rfl, rfl, rfl, Nat.le_refl _, fun _ _ _ => rfl⟩
theorem Kp.trans {F : Nat → Prop} {a b c : World} (h : Kp F a b) (k : Kp F b c) : Kp F a c :=
  ⟨k.os.trans h.os, k.tape.trans h.tape, k.output.trans h.output, Nat.le_trans h.size k.size,
    fun i hi hF => (k.block i (Nat.lt_of_lt_of_le hi h.size) hF).trans (h.block i hi hF)⟩
/-- The second call may turn besides what the first has made. -/
theorem Kp.trans' {F F' : Nat → Prop} {a b c : World} (h : Kp F a b) (k : Kp F' b c) (hs : ∀ i, F' i → F i ∨ a.heap.size ≤ i) : Kp F a c :=
  ⟨k.os.trans h.os, k.tape.trans h.tape, k.output.trans h.output, Nat.le_trans h.size k.size,
    fun i hi hF => (k.block i (Nat.lt_of_lt_of_le hi h.size) (fun h' => by rcases hs i h' with h1 | h1; exact hF h1; omega)).trans (h.block i hi hF)⟩
theorem Kp.mono {F F' : Nat → Prop} {a b : World} (h : Kp F a b) (hs : ∀ i, F i → F' i) : Kp F' a b :=
  ⟨h.os, h.tape, h.output, h.size, fun i hi hF => h.block i hi fun h' => hF (hs i h')⟩
theorem Kp.mono' {F F' : Nat → Prop} {a b : World} (h : Kp F a b) (hs : ∀ i, F i → F' i ∨ a.heap.size ≤ i) : Kp F' a b :=
  ⟨h.os, h.tape, h.output, h.size, fun i hi hF => h.block i hi fun h' => by rcases hs i h' with h1 | h1; exact hF h1; omega⟩
theorem Kp.drew {F : Nat → Prop} {a w : World} (h : Kp F a w) : Kp F a w.drew := ⟨h.os, h.tape, h.output, h.size, h.block⟩
theorem Kp.drewN {F : Nat → Prop} {a w : World} (h : Kp F a w) (n : Nat) : Kp F a (w.drewN n) := ⟨h.os, h.tape, h.output, h.size, h.block⟩
theorem Kp.alloc {F : Nat → Prop} {a w : World} (h : Kp F a w) (o : Obj) : Kp F a (w.alloc o) :=
  ⟨h.os, h.tape, h.output, by have := h.size; simp; omega, fun k hk hF => (alloc_old' w o k (by have := h.size; omega)).trans (h.block k hk hF)⟩
theorem Kp.setCell {F : Nat → Prop} {a w : World} (h : Kp F a w) {p : Addr} (hp : F p.block ∨ a.heap.size ≤ p.block) (v : Value) : Kp F a (w.setCell p v) :=
  ⟨h.os, h.tape, h.output, by have := h.size; simp; omega, fun k hk hF => (heap_setCell_other w p k v (by rintro rfl; rcases hp with h1 | h1; exact hF h1; omega)).trans (h.block k hk hF)⟩
theorem Kp.setObj {F : Nat → Prop} {a w : World} (h : Kp F a w) {b : Nat} (hp : F b ∨ a.heap.size ≤ b) (o : Obj) : Kp F a (ChangeMaps.setBlock w b o) :=
  ⟨h.os, h.tape, h.output, by have := h.size; simp [ChangeMaps.setBlock]; omega, fun k hk hF => by
    have hne : b ≠ k := by rintro rfl; rcases hp with h1 | h1; exact hF h1; omega
    simp only [ChangeMaps.setBlock, Array.getElem?_setIfInBounds]; rw [if_neg hne]; exact h.block k hk hF⟩
theorem Kp.below {w w' : World} (h : Kp (fun _ => False) w w') : Below w.heap.size w w' := ⟨h.os, h.tape, h.output, h.size, fun k hk => h.block k hk id⟩
theorem Kp.of_below {w w' : World} (F : Nat → Prop) (h : Below w.heap.size w w') : Kp F w w' := ⟨h.os, h.tape, h.output, h.size, fun k hk _ => h.block k hk⟩
theorem Kp.below_of {F : Nat → Prop} {w w' : World} (h : Kp F w w') (B : Nat) (hB : B ≤ w.heap.size) (hF : ∀ k, F k → B ≤ k) : Below B w w' :=
  ⟨h.os, h.tape, h.output, h.size, fun k hk => h.block k (by omega) fun h' => by have := hF k h'; omega⟩
theorem Kp.of_grown {F : Nat → Prop} {w w' : World} {row : Option Nat} (h : w.grownBy w' row) (hr : ∀ k, row = some k → F k ∨ w.heap.size ≤ k) : Kp F w w' :=
  ⟨h.os, h.tape, h.output, h.size, fun k hk hF => h.block k hk fun e => by rcases hr k e.symm with h1 | h1; exact hF h1; omega⟩
theorem Kp.cell {F : Nat → Prop} {w w' : World} (h : Kp F w w') {b o : Nat} {v : Value} (hc : w.cell? ⟨b, o, none⟩ = some v) (hF : ¬ F b) : w'.cell? ⟨b, o, none⟩ = some v :=
  (World.cell?_of_block (w := w) (h.block b (block_lt_of_cell hc) hF)).trans hc

/-! ### blocks -/
theorem blk_lt {w : World} {b : Nat} {o : Obj} (h : w.heap[b]? = some o) : b < w.heap.size := (Array.getElem?_eq_some_iff.1 h).1
theorem blk_cell {w : World} {b : Nat} {cs : Array Value} {t : TypeId} {fr : Nat × Nat} (h : w.heap[b]? = some (.cells cs t fr)) (i : Nat) : w.cell? ⟨b, i, none⟩ = cs[i]? := by
  simp [World.cell?, h]
theorem blk_free {w : World} {b : Nat} {cs : Array Value} {t : TypeId} (h : w.heap[b]? = some (.cells cs t (0, 0))) (i : Nat) : w.frozen? ⟨b, i, none⟩ = false := by
  simp [World.frozen?, h]
theorem blk_set {w : World} {b : Nat} {cs : Array Value} {t : TypeId} {fr : Nat × Nat} (h : w.heap[b]? = some (.cells cs t fr)) (i : Nat) (v : Value) :
    (w.setCell ⟨b, i, none⟩ v).heap[b]? = some (.cells (cs.setIfInBounds i v) t fr) := by
  simp [World.setCell, Array.getElem?_modify, h]
theorem blk_far {w : World} {b i k : Nat} (v : Value) (h : k ≠ b) : (w.setCell ⟨b, i, none⟩ v).heap[k]? = w.heap[k]? := heap_setCell_other w _ k v h
theorem blk_alloc {w : World} {b : Nat} {o : Obj} (x : Obj) (h : w.heap[b]? = some o) : (w.alloc x).heap[b]? = some o := (alloc_old' w x b (blk_lt h)).trans h
theorem blk_drew {w : World} {b : Nat} {o : Obj} (h : w.heap[b]? = some o) : w.drew.heap[b]? = some o := h
theorem blk_put {w : World} {b : Nat} {o o' : Obj} (h : w.heap[b]? = some o) : (ChangeMaps.setBlock w b o').heap[b]? = some o' := by
  simp [ChangeMaps.setBlock, blk_lt h]
theorem blk_off {w : World} {b k : Nat} (o : Obj) (h : k ≠ b) : (ChangeMaps.setBlock w b o).heap[k]? = w.heap[k]? := by
  simp only [ChangeMaps.setBlock, Array.getElem?_setIfInBounds]; rw [if_neg (fun e => h e.symm)]
theorem Kp.blk {F : Nat → Prop} {w w' : World} (h : Kp F w w') {b : Nat} {o : Obj} (hb : w.heap[b]? = some o) (hF : ¬ F b) : w'.heap[b]? = some o := (h.block b (blk_lt hb) hF).trans hb

/-! ### lists of pairs -/
section
variable {K : Type} [DecidableEq K] {α : Type}
def get : List (K × α) → K → Option α
  | [], _ => none
  | (k, v) :: l, x => if x = k then some v else get l x
def put : List (K × α) → K → α → List (K × α)
  | [], x, v => [(x, v)]
  | (k, u) :: l, x, v => if x = k then (k, v) :: l else (k, u) :: put l x v
def del : List (K × α) → K → List (K × α)
  | [], _ => []
  | (k, u) :: l, x => if x = k then l else (k, u) :: del l x
theorem get_put (l : List (K × α)) (x y : K) (v : α) : get (put l x v) y = if y = x then some v else get l y := by
  induction l with
  | nil => simp [put, get]
  | cons p l ih =>
    obtain ⟨k, u⟩ := p
    by_cases h : x = k
    · subst h; simp only [put, if_true, get]; by_cases h2 : y = x <;> simp [h2]
    · simp only [put, if_neg h, get]
      by_cases h2 : y = k
      · subst h2; simp [Ne.symm h]
      · simp [h2, ih]
theorem put_keys (l : List (K × α)) (x : K) (v : α) : (put l x v).map (·.1) = if (get l x).isSome then l.map (·.1) else l.map (·.1) ++ [x] := by
  induction l with
  | nil => simp [put, get]
  | cons p l ih =>
    obtain ⟨k, u⟩ := p
    by_cases h : x = k
    · subst h; simp [put, get]
    · simp only [put, if_neg h, get, List.map_cons, ih]
      split <;> simp
theorem get_isSome {l : List (K × α)} {x : K} : (get l x).isSome = true ↔ x ∈ l.map (·.1) := by
  induction l with
  | nil => simp [get]
  | cons p l ih =>
    obtain ⟨k, u⟩ := p
    by_cases h : x = k
    · subst h; simp [get]
    · simp only [get, if_neg h, List.map_cons, List.mem_cons]
      rw [ih]
      simp [h]
theorem get_none {l : List (K × α)} {x : K} : get l x = none ↔ x ∉ l.map (·.1) := by
  rw [← get_isSome]; cases get l x <;> simp
theorem put_nodup {l : List (K × α)} (h : (l.map (·.1)).Nodup) (x : K) (v : α) : ((put l x v).map (·.1)).Nodup := by
  rw [put_keys]
  split
  · exact h
  · rename_i hx
    rw [List.nodup_append]
    refine ⟨h, by simp, ?_⟩
    intro a ha b hb
    have : b = x := by simpa using hb
    subst this
    rintro rfl
    exact hx (get_isSome.2 ha)
theorem del_keys (l : List (K × α)) (x : K) : (del l x).map (·.1) = (l.map (·.1)).erase x := by
  induction l with
  | nil => simp [del]
  | cons p l ih =>
    obtain ⟨k, u⟩ := p
    by_cases h : x = k
    · subst h; simp [del]
    · simp only [del, if_neg h, List.map_cons, ih]
      rw [List.erase_cons_tail (by simpa using Ne.symm h)]
theorem del_nodup {l : List (K × α)} (h : (l.map (·.1)).Nodup) (x : K) : ((del l x).map (·.1)).Nodup := by
  rw [del_keys]; exact h.erase x
theorem get_del {l : List (K × α)} (h : (l.map (·.1)).Nodup) (x y : K) : get (del l x) y = if y = x then none else get l y := by
  induction l with
  | nil => simp [del, get]
  | cons p l ih =>
    obtain ⟨k, u⟩ := p
    simp only [List.map_cons, List.nodup_cons] at h
    by_cases hk : x = k
    · subst hk
      simp only [del, if_true, get]
      by_cases h2 : y = x
      · subst h2; simp; exact get_none.2 h.1
      · simp [h2]
    · simp only [del, if_neg hk, get]
      by_cases h2 : y = k
      · subst h2; simp [Ne.symm hk]
      · simp [h2, ih h.2]
theorem mem_get {l : List (K × α)} (h : (l.map (·.1)).Nodup) {x : K} {v : α} : (x, v) ∈ l ↔ get l x = some v := by
  induction l with
  | nil => simp [get]
  | cons p l ih =>
    obtain ⟨k, u⟩ := p
    simp only [List.map_cons, List.nodup_cons] at h
    by_cases hk : x = k
    · subst hk
      simp only [get, if_true, List.mem_cons, Prod.mk.injEq, true_and, Option.some.injEq]
      constructor
      · rintro (rfl | h2); rfl; exact absurd (List.mem_map_of_mem (f := (·.1)) h2) h.1
      · rintro rfl; exact .inl rfl
    · simp only [get, if_neg hk, List.mem_cons, Prod.mk.injEq]
      rw [ih h.2]
      simp [hk]
end

/-! ### a map's entries -/
section
variable {K : Type} {α : Type} (kv : K → Value) (R : Value → α → Prop)
/-- The entries are these pairs, in this order. -/
def Ents : List MapEntry → List (K × α) → Prop
  | [], [] => True
  | e :: es, p :: l => e.key = kv p.1 ∧ R e.val p.2 ∧ Ents es l
  | _, _ => False
variable {kv R}
theorem Ents.imp {R' : Value → α → Prop} (hR : ∀ v a, R v a → R' v a) : ∀ {es : List MapEntry} {l : List (K × α)}, Ents kv R es l → Ents kv R' es l
  | [], [], _ => trivial
  | _ :: _, _ :: _, h => ⟨h.1, hR _ _ h.2.1, Ents.imp hR h.2.2⟩
theorem Ents.length : ∀ {es : List MapEntry} {l : List (K × α)}, Ents kv R es l → es.length = l.length
  | [], [], _ => rfl
  | _ :: _, _ :: _, h => by simp [Ents.length h.2.2]
theorem Ents.keys : ∀ {es : List MapEntry} {l : List (K × α)}, Ents kv R es l → es.map (·.key) = l.map (fun p => kv p.1)
  | [], [], _ => rfl
  | _ :: _, _ :: _, h => by simp [h.1, Ents.keys h.2.2]
theorem Ents.mem : ∀ {es : List MapEntry} {l : List (K × α)}, Ents kv R es l → ∀ e ∈ es, ∃ p ∈ l, e.key = kv p.1 ∧ R e.val p.2
  | [], [], _, _, he => by cases he
  | e :: es, p :: l, h, x, hx => by
    rcases List.mem_cons.1 hx with rfl | hx
    · exact ⟨p, by simp, h.1, h.2.1⟩
    · obtain ⟨q, hq, h1⟩ := Ents.mem h.2.2 x hx; exact ⟨q, by simp [hq], h1⟩
theorem Ents.at_ : ∀ {es : List MapEntry} {l : List (K × α)}, Ents kv R es l → ∀ (i : Nat) (e : MapEntry), es[i]? = some e → ∃ p : K × α, l[i]? = some p ∧ e.key = kv p.1 ∧ R e.val p.2
  | [], [], _, _, _, he => by simp at he
  | x :: es, p :: l, h, 0, e, he => by obtain rfl : x = e := by simpa using he
                                       exact ⟨p, rfl, h.1, h.2.1⟩
  | x :: es, p :: l, h, i + 1, e, he => by simpa using Ents.at_ h.2.2 i e (by simpa using he)

variable [DecidableEq K]
/-- Keys that are compared at once. -/
structure KeyNow (d : TypeDesc) (kv : K → Value) : Prop where
  same : ∀ a b, Instr.sameNow d (kv a) (kv b) = some (decide (a = b))
  bits : ∀ a, Instr.sameBits 10000 (kv a) (kv a) = true
  inj : ∀ a b, kv a = kv b → a = b
  plain : ∀ (P : Program) (k : TypeId), P.underlying k = some d → ∀ (e : Bool) (a : K) (w : World), (Instr.checkKey e 10000 k (kv a)).run P w = .ok () w

variable {d : TypeDesc}
theorem findNow_none (hk : KeyNow d kv) (x : K) : ∀ {es : List MapEntry} {l : List (K × α)} (_ : Ents kv R es l) (_ : get l x = none) (i : Nat), Instr.findNow d (kv x) es i = some none
  | [], [], _, _, _ => rfl
  | e :: es, p :: l, h, hg, i => by
    obtain ⟨k, u⟩ := p
    have h1 : e.key = kv k := h.1
    have hx : x ≠ k := by rintro rfl; simp [get] at hg
    simp only [get, if_neg hx] at hg
    simp only [Instr.findNow, h1, hk.same, decide_eq_false hx]
    exact findNow_none hk x h.2.2 hg (i + 1)
theorem findNow_some (hk : KeyNow d kv) (x : K) : ∀ {es : List MapEntry} {l : List (K × α)} (_ : Ents kv R es l) (v : α) (_ : get l x = some v) (i : Nat),
    ∃ j e, Instr.findNow d (kv x) es i = some (some (i + j, e.val)) ∧ es[j]? = some e ∧ e.key = kv x ∧ R e.val v ∧
      (∀ u, R u v → True) ∧ (∀ v' u, R u v' → Ents kv R (es.modify j fun e => { e with val := u }) (put l x v')) ∧ Ents kv R (es.eraseIdx j) (del l x)
  | [], [], _, _, hg, _ => by simp [get] at hg
  | e :: es, p :: l, h, v, hg, i => by
    obtain ⟨k, u⟩ := p
    have h1 : e.key = kv k := h.1
    by_cases hx : x = k
    · subst hx
      simp only [get, if_true, Option.some.injEq] at hg
      subst hg
      refine ⟨0, e, ?_, rfl, h1, h.2.1, fun _ _ => trivial, ?_, ?_⟩
      · simp [Instr.findNow, h1, hk.same]
      · intro v' u' hu
        simp only [List.modify_zero_cons, put, if_true]
        exact ⟨h1, hu, h.2.2⟩
      · simpa [del] using h.2.2
    · simp only [get, if_neg hx] at hg
      obtain ⟨j, e', h2, h3, h4, h5, _, h6, h7⟩ := findNow_some hk x h.2.2 v hg (i + 1)
      refine ⟨j + 1, e', ?_, by simpa using h3, h4, h5, fun _ _ => trivial, ?_, ?_⟩
      · simp only [Instr.findNow, h1, hk.same, decide_eq_false hx, h2]
        congr 3; omega
      · intro v' u' hu
        simp only [List.modify_succ_cons, put, if_neg hx]
        exact ⟨h1, h.2.1, h6 v' u' hu⟩
      · simp only [List.eraseIdx_cons_succ, del, if_neg hx]
        exact ⟨h1, h.2.1, h7⟩
theorem Ents.push : ∀ {es : List MapEntry} {l : List (K × α)} (_ : Ents kv R es l) (x : K) (_ : get l x = none) (v : α) (u : Value) (_ : R u v) (c : Nat), Ents kv R (es ++ [{ key := kv x, val := u, born := c }]) (put l x v)
  | [], [], _, _, _, _, _, hu, _ => ⟨rfl, hu, trivial⟩
  | e :: es, p :: l, h, x, hg, v, u, hu, c => by
    obtain ⟨k, a⟩ := p
    have hx : x ≠ k := by rintro rfl; simp [get] at hg
    simp only [get, if_neg hx] at hg
    simp only [List.cons_append, put, if_neg hx]
    exact ⟨h.1, h.2.1, Ents.push h.2.2 x hg v u hu c⟩
end
end Go.Proofs.YtggnohbfdlebiaaGreatDoor

/-
  A region that draws its order, one operation after the other: the step's slot is given by hand.
-/
namespace Go.Proofs.YtggnohbfdlebiaaGreatDoor
open Go

section
variable {P : Program} {ops : Array Oper} {Q : Exit → Act → World → Prop} {md : Region.Mode} {S : World → Prop}
/-- An operation that yields v in every world that meets S. -/
theorem take_yes {i : Nat} {oi : Oper} {v : Value} {fuel : Nat} {listed : Array Bool} {a : Act} {w : World} (d : Option Tmp) (hi : ops[i]? = some oi) (hd : oi.dst = d)
    (hs : Region.noSelect ops = true) (hf : Region.free md ops listed i = true) (hr : (Region.ready md ops listed).contains i = true)
    (hQ : ∀ c a w, Q (.panic c) (a.put d v) w → Q (.panic c) a w) (hy : YieldsIf P ops S oi v a) (hS : S w)
    (h : wpAnyH P md ops Q S fuel (listed.setIfInBounds i true) (a.put d v) w) : wpAnyH P md ops Q S (fuel + 1) listed a w := by
  subst hd; exact wpAnyH_take hi hs hf hr hQ hy hS h
/-- An operation whose guard says no. -/
theorem take_no {i : Nat} {oi : Oper} {fuel : Nat} {listed : Array Bool} {a : Act} {w : World} (d : Option Tmp) (hi : ops[i]? = some oi) (hd : oi.dst = d)
    (hs : Region.noSelect ops = true) (hf : Region.free md ops listed i = true) (hr : (Region.ready md ops listed).contains i = true)
    (hQ : ∀ c a w, Q (.panic c) (a.put d undef) w → Q (.panic c) a w) (hw : Region.wanted oi (yielded ops a.tmps) = false) (hS : S w)
    (h : wpAnyH P md ops Q S fuel (listed.setIfInBounds i true) (a.put d undef) w) : wpAnyH P md ops Q S (fuel + 1) listed a w := by
  subst hd; exact wpAnyH_take hi hs hf hr hQ (.inr ⟨hw, rfl⟩) hS h
end
end Go.Proofs.YtggnohbfdlebiaaGreatDoor

/-
  What the six cards share: the arguments stay; the world of the witness.
-/
namespace Go.Proofs.YtggnohbfdlebiaaGreatDoor
open Go.ChangeShapes Go.WideShapes Go.ChangeAt Go.RowKit

theorem own : ownKnob Tryz.prog.godebug = none := by kernel_rfl
theorem laidOut : laidOutB Tryz.prog = true := by kernel_rfl

/-- Arguments of types that can be read stay as they were where nothing that lay has turned. -/
theorem trodAll_stays {H : Type} {enc : TypeId × Value → H} {W W' : World} (hb : Below W.heap.size W W') : ∀ {ts : List TypeId} {vs : List Value} {ds : List (DataW H)} {ps : List MemPlace},
    (∀ t ∈ ts, Tryz.prog.readableRec t = true ∧ t < Tryz.prog.types.size) → DataW.TrodAll enc Tryz.prog W 0 (fun _ => true) true ts vs ds ps → (∀ x ∈ ps, x.block < W.heap.size) →
    DataW.TrodAll enc Tryz.prog W' 0 (fun b => decide (b < W.heap.size)) true ts vs ds ps
  | [], _, _, _, _, h, _ => by
    obtain ⟨rfl, rfl, rfl⟩ := trodAll_nil h
    exact trodAll_mk0
  | t :: ts, _, _, _, hr, h, hp => by
    obtain ⟨v0, vs0, d0, ds0, p0, q0, rfl, rfl, rfl, h0, r0⟩ := trodAll_cons h
    exact trodAll_cons_mk (Below.trod laidOut (hr t (by simp)).1 (hr t (by simp)).2 h0 hb fun x hx => hp x (by simp [hx])) (trodAll_stays hb (fun x hx => hr x (by simp [hx])) r0 fun x hx => hp x (by simp [hx]))

/-- A law that answers true and turns nothing that lay. -/
theorem law_post {H : Type} {enc : TypeId × Value → H} {f : Func} {s : ChangeSpec} {W W' : World} {args : Array Value} {ds : List (DataW H)} {before : List MemPlace} (hsv : s.vars = []) (hft : f.resultTypes = #[4])
    (hfn : (s.fn H (ds ++ [])).results = [.lit (.bool true)] ∧ (s.fn H (ds ++ [])).args = ds) (hfv : (s.fn H (ds ++ [])).vars = [])
    (hr : ∀ t ∈ f.params.toList, Tryz.prog.readableRec t = true ∧ t < Tryz.prog.types.size) (hW : DataW.Whole enc Tryz.prog f.params.toList s.vars false W args.toList ds [] before) (hk : Kp (fun _ => False) W W') :
    s.post enc Tryz.prog f false true false false W args (.bool true) W' := by
  have hW' := hW
  obtain ⟨p, q, hA, hV, hpq, _, _⟩ := hW
  rw [hsv] at hV
  obtain ⟨_, rfl⟩ := trodVars_none hV
  subst hpq
  have hlt : ∀ x ∈ p, x.block < W.heap.size := fun x hx => by simpa using hW'.lt x (by simp [hx])
  refine ⟨ds, [], p ++ [], [], p, [], hW', ?_, ?_, ?_, hk.below.frame _, fun h => by cases h⟩
  · rw [hft, hfn.1]; exact trodAll_mk1 (shut_bool Tryz.underlying4 true)
  · rw [hfn.2]; exact trodAll_stays hk.below hr hA hlt
  · rw [hsv, hfv]; rfl

theorem maxLen_eq : maxLen = 9223372036854775807 := rfl
theorem cells_u8 : Tryz.prog.cellsOf 5 = 1 := by kernel_rfl
set_option maxRecDepth 100000 in
/-- A slice of bytes, opened. -/
theorem open_bytes {H : Type} {enc : TypeId × Value → H} {W : World} {base : Nat} {v : Value} {d : DataW H} {ps : List MemPlace} (hv : Value.okWide Tryz.prog W .any base 33 v) (h : DataW.Trod enc Tryz.prog W 0 (fun _ => true) true 33 v d ps) :
    ∃ p len cap, v = .slice p len cap ∧ len ≤ cap ∧ len ≤ maxLen ∧ ∀ j, j < len → ∃ b o x, p = some ⟨b, o, none⟩ ∧ 0 ≤ x ∧ x ≤ 255 ∧ W.cell? ⟨b, o + j, none⟩ = some (.int .u8 x) := by
  obtain ⟨a0, l0, c0, rfl⟩ := okWide_slice Tryz.underlying33 hv
  obtain ⟨fuel, hf⟩ := h
  rcases open_ints Tryz.underlying33 Tryz.underlying5 cells_u8 hf with ⟨hcs, _⟩ | ⟨a, len, cap, zs, hcs, _, hl, hm, hz, _, hcell, hwz⟩
  · simp [Value.cells] at hcs
    obtain ⟨rfl, rfl, rfl⟩ := hcs
    exact ⟨none, 0, 0, rfl, Nat.le_refl _, Nat.zero_le _, fun j hj => absurd hj (Nat.not_lt_zero j)⟩
  · simp [Value.cells] at hcs
    obtain ⟨rfl, rfl, rfl⟩ := hcs
    simp only [if_true] at hz
    refine ⟨_, _, _, rfl, hl, Nat.le_trans hl hm, fun j hj => ?_⟩
    clear hm
    obtain ⟨b, o, rfl, hc⟩ := ints_at hcell (show 0 < zs.length by omega)
    have hj' : j < zs.length := by omega
    have hcj := hcell j hj'
    rw [Addr.add_lit] at hcj
    have hb := bounds_u8 (hwz (zs.getD j 0) (by rw [List.getD_eq_getElem?_getD, List.getElem?_eq_getElem hj']; exact List.getElem_mem hj'))
    exact ⟨b, o, _, rfl, hb.1, hb.2, hcj⟩

abbrev errS : ByteArray := { data := #[98, 121, 116, 101, 115, 46, 66, 117, 102, 102, 101, 114, 58, 32, 116, 111, 111, 32, 108, 97, 114, 103, 101] }
noncomputable def low : Nat := (World.holding Tryz.prog default ⟨#[], #[], []⟩).heap.size
noncomputable def laidWorld (os : Os) : World :=
  let w0 := World.holding Tryz.prog os ⟨#[.cells #[.string errS] 218], #[], []⟩
  { w0 with heap := w0.heap.modify 0 fun
      | .cells _ t frozen => .cells #[.iface 202 (.pointer (some ⟨low, 0, none⟩))] t frozen
      | o => o }
theorem laid_met (os : Os) (args : Array Value) : laidMet Tryz.prog [("bytes.ErrTooLarge", Rows.laid_bytes_ErrTooLarge)] ((laidWorld os).forCall (fun _ _ => 0) ⟨#[], args, []⟩).memory :=
  laidMet_of_run (ps := [.cell 0 0, .cell low 0]) 8 (by kernel_rfl) (by kernel_rfl) (by kernel_rfl)
end Go.Proofs.YtggnohbfdlebiaaGreatDoor

/-
  Plain words on a map's block: what a look-up, a store, a delete and len do to it, for keys that are compared at once (strings, whole numbers). No program stands in it.
-/
namespace Go.Proofs.YtggnohbfdlebiaaGreatDoor
open Go.RowKit Go.ChangeMaps

section
variable {K : Type} [DecidableEq K] {α : Type}
/-- These entries, this clock: they are the pairs of l, each key once. -/
structure EntsOk (kv : K → Value) (R : Value → α → Prop) (es : Array MapEntry) (clock : Nat) (l : List (K × α)) : Prop where
  ents : Ents kv R es.toList l
  keys : (l.map (·.1)).Nodup
  born : ∀ x ∈ es.toList, x.born < clock
  apart : (es.toList.map (·.born)).Nodup

variable {kv : K → Value} {R : Value → α → Prop} {es : Array MapEntry} {clock : Nat} {l : List (K × α)} {d : TypeDesc} {P : Program} {w : World} {m : Nat} {t k e : TypeId}

omit [DecidableEq K] in
theorem EntsOk.imp {R' : Value → α → Prop} (h : EntsOk kv R es clock l) (hR : ∀ v a, R v a → R' v a) : EntsOk kv R' es clock l :=
  ⟨h.ents.imp hR, h.keys, h.born, h.apart⟩
omit [DecidableEq K] in
theorem EntsOk.size (h : EntsOk kv R es clock l) : es.size = l.length := by simpa using h.ents.length

theorem run_getObj_map (hb : w.heap[m]? = some (.map es clock)) : (getObj m).run P w = .ok (.map es clock) w := by
  simp [getObj, Sem.run, hb]

theorem lookup_none (ht : P.underlying t = some (.map k e)) (hd : P.underlying k = some d) (hk : KeyNow d kv) (hb : w.heap[m]? = some (.map es clock)) (h : EntsOk kv R es clock l)
    {z : Value} (hz : (zeroValue e).run P w = .ok z w) {x : K} (hx : get l x = none) (c : Bool) :
    (Instr.lookup t (.map (some m)) (kv x) c).run P w = .ok (if c then .tuple #[z, .bool false] else z) w := by
  have h1 := findNow_none hk x h.ents hx 0
  have h2 := hk.plain P k hd es.isEmpty x w
  simp [Instr.lookup, run_underlying ht, run_getObj_map hb, h2, Instr.findKey, run_underlying hd, h1, hz]
theorem lookup_some (ht : P.underlying t = some (.map k e)) (hd : P.underlying k = some d) (hk : KeyNow d kv) (hb : w.heap[m]? = some (.map es clock)) (h : EntsOk kv R es clock l)
    {x : K} {v : α} (hx : get l x = some v) (c : Bool) :
    ∃ u, (Instr.lookup t (.map (some m)) (kv x) c).run P w = .ok (if c then .tuple #[u, .bool true] else u) w ∧ R u v := by
  obtain ⟨j, e', h1, _, _, h4, _⟩ := findNow_some hk x h.ents v hx 0
  have h2 := hk.plain P k hd es.isEmpty x w
  refine ⟨e'.val, ?_, h4⟩
  simp [Instr.lookup, run_underlying ht, run_getObj_map hb, h2, Instr.findKey, run_underlying hd, h1]
theorem run_setObj_map (hb : w.heap[m]? = some (.map es clock)) (o : Obj) : (setObj m o).run P w = .ok () (setBlock w m o) := by
  simp [setObj, Sem.run, hb, setBlock]
theorem lookup_nil (ht : P.underlying t = some (.map k e)) (hd : P.underlying k = some d) (hk : KeyNow d kv)
    {z : Value} (hz : (zeroValue e).run P w = .ok z w) (x : K) (c : Bool) :
    (Instr.lookup t (.map none) (kv x) c).run P w = .ok (if c then .tuple #[z, .bool false] else z) w := by
  have h2 := hk.plain P k hd true x w
  simp [Instr.lookup, run_underlying ht, h2, Instr.findKey, run_underlying hd, Instr.findNow, hz]
theorem update_run (ht : P.underlying t = some (.map k e)) (hd : P.underlying k = some d) (hk : KeyNow d kv) (hb : w.heap[m]? = some (.map es clock)) (h : EntsOk kv R es clock l)
    (x : K) (v : α) (u : Value) (hu : R u v) :
    ∃ es' clock', (Instr.mapUpdate t (.map (some m)) (kv x) u).run P w = .ok () (setBlock w m (.map es' clock')) ∧ EntsOk kv R es' clock' (put l x v) := by
  have h2 := hk.plain P k hd false x w
  cases hx : get l x with
  | none =>
    have h1 := findNow_none hk x h.ents hx 0
    refine ⟨es.push { key := kv x, val := u, born := clock }, clock + 1, ?_, ?_, put_nodup h.keys _ _, ?_, ?_⟩
    · simp [Instr.mapUpdate, run_underlying ht, run_getObj_map hb, h2, Instr.findKey, run_underlying hd, h1, run_setObj_map hb]
    · rw [Array.toList_push]; exact h.ents.push x hx v u hu clock
    · intro y hy
      rw [Array.toList_push] at hy
      rcases List.mem_append.1 hy with hy | hy
      · have := h.born y hy; omega
      · obtain rfl : y = _ := by simpa using hy
        simp
    · rw [Array.toList_push, List.map_append, List.nodup_append]
      refine ⟨h.apart, by simp, ?_⟩
      intro a ha b hb' hab
      obtain ⟨y, hy, rfl⟩ := List.mem_map.1 ha
      obtain rfl : b = clock := by simpa using hb'
      have := h.born y hy; omega
  | some v0 =>
    obtain ⟨j, e', h1, h3, h4, _, _, h6, _⟩ := findNow_some hk x h.ents v0 hx 0
    have hbits : Instr.sameBits 10000 e'.key (kv x) = true := by rw [h4]; exact hk.bits x
    have h3' : es[j]? = some e' := by simpa using h3
    have hmod : (es.modify j fun e => { e with key := kv x, val := u }).toList = es.toList.modify j fun e => { e with val := u } := by
      rw [Array.toList_modify]
      apply List.ext_getElem?
      intro i
      rw [List.getElem?_modify, List.getElem?_modify]
      by_cases hij : j = i
      · subst hij; simp [h3, ← h4]
      · simp [hij]
    refine ⟨es.modify j fun e => { e with key := kv x, val := u }, clock, ?_, ?_, put_nodup h.keys _ _, ?_, ?_⟩
    · simp [Instr.mapUpdate, run_underlying ht, run_getObj_map hb, h2, Instr.findKey, run_underlying hd, h1, h3', Instr.keyThatStays, hbits, run_setObj_map hb]
    · rw [hmod]; exact h6 v u hu
    · rw [hmod]
      intro y hy
      obtain ⟨i, hi⟩ := List.mem_iff_getElem?.1 hy
      rw [List.getElem?_modify] at hi
      cases hq : es.toList[i]? with
      | none => simp [hq] at hi
      | some q =>
        have hb2 := h.born q (List.mem_of_getElem? hq)
        rw [hq] at hi
        by_cases hij : j = i
        · simp [hij] at hi; subst hi; exact hb2
        · simp [hij] at hi; subst hi; exact hb2
    · rw [hmod]
      have : (es.toList.modify j fun e => { e with val := u }).map (·.born) = es.toList.map (·.born) := by
        apply List.ext_getElem?
        intro i
        simp only [List.getElem?_map, List.getElem?_modify]
        cases es.toList[i]? <;> simp
        split <;> rfl
      rw [this]; exact h.apart
theorem delete_run (ht : P.underlying t = some (.map k e)) (hd : P.underlying k = some d) (hk : KeyNow d kv) (hb : w.heap[m]? = some (.map es clock)) (h : EntsOk kv R es clock l) (x : K) :
    ∃ es', (∀ ty, (Builtin.delete_ #[t, k] ty #[.map (some m), kv x]).run P w = .ok (.tuple #[]) (setBlock w m (.map es' clock))) ∧ EntsOk kv R es' clock (del l x) := by
  have h2 := hk.plain P k hd es.isEmpty x w
  cases hx : get l x with
  | none =>
    have h1 := findNow_none hk x h.ents hx 0
    have hdel : del l x = l := by
      clear h h1 h2 hb
      induction l with
      | nil => rfl
      | cons p l ih =>
        obtain ⟨q, u⟩ := p
        have hne : x ≠ q := by rintro rfl; simp [get] at hx
        simp only [get, if_neg hne] at hx
        simp only [del, if_neg hne, ih hx]
    refine ⟨es, fun ty => ?_, by rw [hdel]; exact h⟩
    simp [Builtin.delete_, run_underlying ht, run_getObj_map hb, h2, Instr.findKey, run_underlying hd, h1, run_setObj_map hb]
  | some v0 =>
    obtain ⟨j, e', h1, h3, _, _, _, _, h7⟩ := findNow_some hk x h.ents v0 hx 0
    have he : (es.eraseIdxIfInBounds j).toList = es.toList.eraseIdx j := by simp
    refine ⟨es.eraseIdxIfInBounds j, ?_, ?_, del_nodup h.keys x, ?_, ?_⟩
    · intro ty
      simp [Builtin.delete_, run_underlying ht, run_getObj_map hb, h2, Instr.findKey, run_underlying hd, h1, run_setObj_map hb]
    · rw [he]; exact h7
    · rw [he]; intro y hy; exact h.born y ((List.eraseIdx_sublist _ _).subset hy)
    · rw [he]; exact h.apart.sublist ((List.eraseIdx_sublist _ _).map _)
omit [DecidableEq K] in
theorem len_run (ht : P.underlying t = some (.map k e)) (hb : w.heap[m]? = some (.map es clock)) (h : EntsOk kv R es clock l) (ty : TypeId) :
    (Builtin.len_ #[t] ty #[.map (some m)]).run P w = .ok (.int .i64 l.length) w := by
  simp [Builtin.len_, run_underlying ht, run_getObj_map hb, goInt, h.size]
end

theorem bytes_beq (a b : ByteArray) : (a == b) = decide (a = b) := by
  have h : (a == b) = (a.data == b.data) := rfl
  rw [h]
  by_cases e : a = b
  · subst e; simp
  · have : a.data ≠ b.data := fun h => e (by cases a; cases b; simpa using h)
    simp [e, this]
theorem sameBits_string (a : ByteArray) : ∀ n, Instr.sameBits n (.string a) (.string a) = true := fun n => by cases n <;> simp [Instr.sameBits, bytes_beq]
theorem sameBits_int (q : IntKind) (a : Int) : ∀ n, Instr.sameBits n (.int q a) (.int q a) = true := fun n => by cases n <;> simp [Instr.sameBits]
theorem checkKey_string (P : Program) (k : TypeId) (hk : P.underlying k = some .string) (e : Bool) (a : ByteArray) (w : World) : ∀ n, (Instr.checkKey e (n + 1) k (.string a)).run P w = .ok () w :=
  fun n => by simp [Instr.checkKey, run_underlying hk]
theorem checkKey_int (P : Program) (k : TypeId) (q : IntKind) (hk : P.underlying k = some (.int q)) (e : Bool) (a : Int) (w : World) : ∀ n, (Instr.checkKey e (n + 1) k (.int q a)).run P w = .ok () w :=
  fun n => by simp [Instr.checkKey, run_underlying hk]
theorem keyNow_string : KeyNow .string Value.string where
  same a b := by simp only [Instr.sameNow, bytes_beq]
  bits a := sameBits_string a _
  inj a b h := by simpa using h
  plain P k hk e a w := checkKey_string P k hk e a w 9999
theorem keyNow_int (q : IntKind) : KeyNow (.int q) (Value.int q) where
  same a b := by
    simp only [Instr.sameNow]
    by_cases h : a = b <;> simp [h]
  bits a := sameBits_int q a _
  inj a b h := by simpa using h
  plain P k hk e a w := checkKey_int P k q hk e a w 9999

/-- A cell is no part of a map's block. -/
theorem cell_put {w : World} {m : Nat} {es : Array MapEntry} {clock : Nat} (hm : w.heap[m]? = some (.map es clock)) (x : Obj) {b o : Nat} {v : Value} (h : w.cell? ⟨b, o, none⟩ = some v) : (setBlock w m x).cell? ⟨b, o, none⟩ = some v := by
  have hne : b ≠ m := by rintro rfl; simp [World.cell?, hm] at h
  exact (World.cell?_of_block (w := w) (blk_off x hne)).trans h
/-- append, its run being known. -/
theorem wpList_append_run {P : Program} {w w' : World} {ops : Array Oper} {rest : List Oper} {o : Oper} {a : Act} {Q : Exit → Act → World → Prop} (hgd : o.guard = none) (s x : Operand) (t tx : TypeId)
    (ho : o.op = .call { callee := .builtin .append, args := #[s, x], argTypes := #[t, tx] }) {vs vx v : Value} (hs : a.eval s = vs) (hx : a.eval x = vx)
    (hr : (Builtin.append_ #[t, tx] o.type #[vs, vx]).run P w = .ok v w') (h : wpList P ops Q rest (a.put o.dst v) w') : wpList P ops Q (o :: rest) a w :=
  wpList_plain hgd fun _ hK => by
    unfold Oper.wp execOp
    simp only [ho, resolve, invoke, builtin, Sem.run_bind, Sem.run_pure, Result.andThen_ok, List.map_toArray, List.map_cons, List.map_nil, hs, hx, hr]
    exact hK _ _ h
/-- delete, its run being known. -/
theorem wpList_delete_run {P : Program} {w w' : World} {ops : Array Oper} {rest : List Oper} {o : Oper} {a : Act} {Q : Exit → Act → World → Prop} (hgd : o.guard = none) (s x : Operand) (t tx : TypeId)
    (ho : o.op = .call { callee := .builtin .delete, args := #[s, x], argTypes := #[t, tx] }) {vs vx v : Value} (hs : a.eval s = vs) (hx : a.eval x = vx)
    (hr : (Builtin.delete_ #[t, tx] o.type #[vs, vx]).run P w = .ok v w') (h : wpList P ops Q rest (a.put o.dst v) w') : wpList P ops Q (o :: rest) a w :=
  wpList_plain hgd fun _ hK => by
    unfold Oper.wp execOp
    simp only [ho, resolve, invoke, builtin, Sem.run_bind, Sem.run_pure, Result.andThen_ok, List.map_toArray, List.map_cons, List.map_nil, hs, hx, hr]
    exact hK _ _ h
end Go.Proofs.YtggnohbfdlebiaaGreatDoor

/-
  Snapshots, plainly: a payload's sectors, and the payload out of them. No program stands in it.
-/
namespace Go.Proofs.YtggnohbfdlebiaaGreatDoor
open Go.RowKit Go.ChangeShapes

/-- One step of the sum over a bit; a byte; all. -/
def crcBit (c : Int) : Int := bits .xor .u32 (c / 2) (bits .and .u32 3988292384 (-bits .and .u32 c 1 % 4294967296))
def crcBits : Nat → Int → Int
  | 0, c => c
  | k + 1, c => crcBit (crcBits k c)
def crcByte (c b : Int) : Int := crcBits 8 (bits .xor .u32 c b)
def crcSum (bs : List Int) : Int := bs.foldl crcByte 4294967295
def crcF (bs : List Int) : Int := bits .xor .u32 IntKind.u32.max (crcSum bs)
theorem crcSum_succ (bs : List Int) (x : Int) : crcSum (bs ++ [x]) = crcByte (crcSum bs) x := by simp [crcSum]
theorem bits_u32 (op : BinOp) (x y : Int) : 0 ≤ bits op .u32 x y ∧ bits op .u32 x y ≤ 4294967295 := by
  exact bounds_u32 (wf_bits op .u32 x y)
theorem crcBits_range {c : Int} (h : 0 ≤ c ∧ c ≤ 4294967295) : ∀ k, 0 ≤ crcBits k c ∧ crcBits k c ≤ 4294967295
  | 0 => h
  | k + 1 => by rw [crcBits]; exact bits_u32 _ _ _
def tail4 (c : Int) : List Int := [c / 16777216 % 256, c / 65536 % 256, c / 256 % 256, c % 256]
def headF (m i parts : Nat) : List Int := [178, (m : Int), ((i / 256 % 256 : Nat) : Int), ((i % 256 : Nat) : Int), ((parts / 256 % 256 : Nat) : Int), ((parts % 256 : Nat) : Int), 0, 0]
def partOf (body : List Int) (i : Nat) : List Int := (body.drop (24 * i)).take 24
def secOne (body : List Int) (parts i : Nat) : List Int := headF (partOf body i).length i parts ++ partOf body i ++ List.replicate (24 - (partOf body i).length) 0
def partsN (n : Nat) : Nat := (n + 23) / 24
def cutN (body : List Int) (parts k : Nat) : List Int := (List.range k).flatMap (secOne body parts)
def bodyF (bs : List Int) : List Int := bs ++ tail4 (crcF bs)
def secF (bs : List Int) : List Int := cutN (bodyF bs) (partsN (bodyF bs).length) (partsN (bodyF bs).length)
theorem partOf_le (body : List Int) (i : Nat) : (partOf body i).length ≤ 24 := by unfold partOf; rw [List.length_take]; omega
theorem secOne_length (body : List Int) (parts i : Nat) : (secOne body parts i).length = 32 := by
  have := partOf_le body i
  simp only [secOne, headF, List.length_append, List.length_cons, List.length_nil, List.length_replicate]; omega
theorem cutN_succ (body : List Int) (parts k : Nat) : cutN body parts (k + 1) = cutN body parts k ++ secOne body parts k := by
  simp [cutN, List.range_succ]
theorem cutN_length (body : List Int) (parts k : Nat) : (cutN body parts k).length = 32 * k := by
  induction k with
  | zero => rfl
  | succ k ih => rw [cutN_succ, List.length_append, ih, secOne_length]; omega
theorem bodyF_length (bs : List Int) : (bodyF bs).length = bs.length + 4 := by simp [bodyF, tail4]
def chunkOf (p : List Int) (i : Nat) : List Int := (p.drop (32 * i)).take 32
theorem chunkOf_cut (body : List Int) (parts : Nat) : ∀ (k i : Nat), i < k → chunkOf (cutN body parts k) i = secOne body parts i
  | 0, i, h => absurd h (Nat.not_lt_zero i)
  | k + 1, i, h => by
    unfold chunkOf
    rw [cutN_succ, List.drop_append, cutN_length]
    by_cases hik : i < k
    · have h1 := chunkOf_cut body parts k i hik
      unfold chunkOf at h1
      rw [List.take_append_of_le_length (by rw [List.length_drop, cutN_length]; omega), h1]
    · obtain rfl : i = k := by omega
      rw [List.drop_eq_nil_of_le (by rw [cutN_length]; exact Nat.le_refl _), List.nil_append, Nat.sub_self, List.drop_zero, List.take_of_length_le (by rw [secOne_length]; exact Nat.le_refl _)]
/-- How much of a sector is the payload's; which. -/
def lenOf (ch : List Int) : Int := ch.getD 1 0
def bitOf (ch : List Int) : List Int := (ch.drop 8).take (lenOf ch).toNat
theorem lenOf_one (body : List Int) (parts i : Nat) : lenOf (secOne body parts i) = (partOf body i).length := rfl
theorem bitOf_one (body : List Int) (parts i : Nat) : bitOf (secOne body parts i) = partOf body i := by
  unfold bitOf
  rw [lenOf_one, Int.toNat_natCast]
  show ((headF _ i parts ++ partOf body i ++ List.replicate _ 0).drop 8).take _ = _
  rw [List.append_assoc, List.drop_append_of_le_length (by simp [headF]), show (headF (partOf body i).length i parts).drop 8 = [] from rfl, List.nil_append, List.take_left]
/-- The payload's bytes out of the first k sectors, if none says that it has more than 24. -/
def gatherN (p : List Int) : Nat → Option (List Int)
  | 0 => some []
  | k + 1 => (gatherN p k).bind fun b => if 24 < lenOf (chunkOf p k) then none else some (b ++ bitOf (chunkOf p k))
def payF (p : List Int) : Option (List Int) :=
  (gatherN p (p.length / 32)).bind fun b => if b.length < 5 ∨ 400004 < b.length then none else if secF (b.take (b.length - 4)) = p then some (b.take (b.length - 4)) else none
theorem gatherN_cut (body : List Int) (parts n : Nat) : ∀ k, k ≤ n → gatherN (cutN body parts n) k = some (body.take (24 * k))
  | 0, _ => rfl
  | k + 1, h => by
    rw [gatherN, gatherN_cut body parts n k (by omega), Option.bind_some, chunkOf_cut body parts n k (by omega), lenOf_one, if_neg (by have := partOf_le body k; omega), bitOf_one]
    rw [show 24 * (k + 1) = 24 * k + 24 by omega, List.take_add]
    rfl
theorem partsN_le (n : Nat) : n ≤ 24 * partsN n := by unfold partsN; omega
theorem secF_length (bs : List Int) : (secF bs).length = 32 * partsN (bs.length + 4) := by unfold secF; rw [cutN_length, bodyF_length]
/-- What was written is read. -/
theorem pay_sec {bs : List Int} (h1 : 1 ≤ bs.length) (h2 : bs.length ≤ 400000) : payF (secF bs) = some bs := by
  have hl := bodyF_length bs
  unfold payF
  rw [show (secF bs).length / 32 = partsN (bodyF bs).length by rw [secF_length, hl]; omega]
  rw [show gatherN (secF bs) (partsN (bodyF bs).length) = some (bodyF bs) by
    unfold secF; rw [gatherN_cut _ _ _ _ (Nat.le_refl _), List.take_of_length_le (partsN_le _)]]
  rw [Option.bind_some, hl, if_neg (by omega), show bs.length + 4 - 4 = bs.length by omega, show (bodyF bs).take bs.length = bs by unfold bodyF; rw [List.take_left], if_pos rfl]
/-- What is read was written. -/
theorem pay_some {p q : List Int} (h : payF p = some q) : secF q = p ∧ 1 ≤ q.length ∧ q.length ≤ 400000 := by
  unfold payF at h
  cases hg : gatherN p (p.length / 32) with
  | none => rw [hg] at h; cases h
  | some b =>
    rw [hg, Option.bind_some] at h
    split at h
    · cases h
    · split at h
      · rename_i h1 h2
        injection h with h
        subst h
        refine ⟨h2, ?_, ?_⟩ <;> rw [List.length_take] <;> omega
      · cases h
end Go.Proofs.YtggnohbfdlebiaaGreatDoor

/-
  The disk as plain data (St), what its operations do to it, and when a block of memory is such a disk (DiskAt).
-/
namespace Go.Proofs.YtggnohbfdlebiaaGreatDoor
open Go.RowKit Go.ChangeMaps

structure Sec where
  bytes : List Int
  synced : Bool
abbrev Nm := ByteArray
abbrev Files := List (Nm × List Sec)
inductive Hg where
  | noop
  | sync (n : Nm)
  | trunc (n : Nm) (k : Int)
  | rename (a b : Nm)
  | remove (n : Nm)
structure St where
  files : Files
  room : Int
  off : Bool
  armed : Int
  ops : Int
  hangs : Option Hg

def getF (fs : Files) (n : Nm) : List Sec := (get fs n).getD []
def syncAll (l : List Sec) : List Sec := l.map fun s => { s with synced := true }
def used (fs : Files) : Nat := (fs.map fun p => p.2.length).sum
/-- Is it a file's name? -/
def nameB (s : Nm) : Bool := s.data.toList.all (fun c => (decide (97 ≤ c.toNat) && decide (c.toNat ≤ 122)) || (decide (48 ≤ c.toNat) && decide (c.toNat ≤ 57))) && (decide (1 ≤ s.size) && decide (s.size ≤ 16))
def Hg.run : Hg → Files → Files
  | .noop, fs => fs
  | .sync n, fs => put fs n (syncAll (getF fs n))
  | .trunc n k, fs => put fs n (syncAll ((getF fs n).take k.toNat))
  | .rename a b, fs => put (del fs a) b (getF fs a)
  | .remove n, fs => del fs n
/-- May it be done to these files? -/
def Hg.okOn : Hg → Files → Prop
  | .noop, _ => True
  | .sync n, fs => nameB n = true ∧ (get fs n).isSome = true
  | .trunc n _, fs => nameB n = true ∧ (get fs n).isSome = true
  | .rename a b, fs => nameB b = true ∧ (get fs a).isSome = true
  | .remove _, _ => True
namespace St
def doE (S : St) : Int := if S.armed = 1 then 18 else 0
def doS (S : St) (h : Hg) : St :=
  if S.armed = 1 then { S with ops := wrap64 (S.ops + 1), armed := 0, off := true, hangs := some h }
  else { S with ops := wrap64 (S.ops + 1), armed := if S.armed = 0 then 0 else S.armed - 1, files := h.run S.files }
def check (S : St) (name : Nm) (there : Bool) : Int :=
  if nameB name = false then 1 else if there = true ∧ get S.files name = none then 7 else if S.off = true then 18 else 0
/-- What holds of every disk. -/
structure Ok (S : St) : Prop where
  room : 1 ≤ S.room ∧ S.room ≤ 65536
  used : (YtggnohbfdlebiaaGreatDoor.used S.files : Int) ≤ S.room
  armed : 0 ≤ S.armed ∧ S.armed ≤ 9223372036854775807
  hung : S.off = true → ∃ h, S.hangs = some h ∧ h.okOn S.files
  names : ∀ p ∈ S.files, nameB p.1 = true
  count : S.files.length ≤ 64
  secs : ∀ p ∈ S.files, ∀ s ∈ p.2, s.bytes.length = 32
end St

/-- A sector's cells. -/
def secCells (s : Sec) : List Value := s.bytes.map (Value.int .u8) ++ [.bool s.synced]
def fileCells (l : List Sec) : List Value := l.flatMap secCells

/-- v is a slice of these sectors. -/
def FileRep (w : World) (F : Nat → Prop) (v : Value) (l : List Sec) : Prop :=
  (∀ s ∈ l, s.bytes.length = 32) ∧ ∃ a c, v = .slice a l.length c ∧ l.length ≤ c ∧ c ≤ maxLen ∧
    (l ≠ [] → ∃ b cs, a = some ⟨b, 0, none⟩ ∧ F b ∧ w.heap[b]? = some (.cells cs 93 (0, 0)) ∧ cs.toList.take (33 * l.length) = fileCells l)
/-- A block of one cell. -/
def Box (w : World) (F : Nat → Prop) (b : Nat) (v : Value) (t : TypeId) : Prop := w.heap[b]? = some (.cells #[v] t (0, 0)) ∧ F b
/-- The operation at which the power went, as a function value. -/
def HangRep (w : World) (F : Nat → Prop) (d : Nat) (hv : Value) : Option Hg → Prop
  | none => hv = .nilFunc
  | some .noop => hv = .func (.func 42) #[] #[]
  | some (.sync n) => ∃ b1 b2, hv = .func (.func 69) #[] #[.pointer (some ⟨b1, 0, none⟩), .pointer (some ⟨b2, 0, none⟩)] ∧ Box w F b1 (.pointer (some ⟨d, 0, none⟩)) 24 ∧ Box w F b2 (.string n) 9
  | some (.trunc n k) => 0 ≤ k ∧ k ≤ 9223372036854775807 ∧ ∃ b1 b2 b3, hv = .func (.func 62) #[] #[.pointer (some ⟨b1, 0, none⟩), .pointer (some ⟨b2, 0, none⟩), .pointer (some ⟨b3, 0, none⟩)] ∧ Box w F b1 (.pointer (some ⟨d, 0, none⟩)) 24 ∧ Box w F b2 (.string n) 9 ∧ Box w F b3 (.int .i64 k) 3
  | some (.rename _ _) => False
  | some (.remove n) => ∃ b1 b2, hv = .func (.func 64) #[] #[.pointer (some ⟨b1, 0, none⟩), .pointer (some ⟨b2, 0, none⟩)] ∧ Box w F b1 (.pointer (some ⟨d, 0, none⟩)) 24 ∧ Box w F b2 (.string n) 9

/-- Block d is a disk: its map is block m. -/
structure DiskIs (w : World) (d m : Nat) (es : Array MapEntry) (clock : Nat) (hv : Value) (S : St) (F : Nat → Prop) : Prop where
  hd : w.heap[d]? = some (.cells #[.map (some m), .int .i64 S.room, .bool S.off, .int .i64 S.armed, .int .i64 S.ops, hv] 73 (0, 0))
  hm : w.heap[m]? = some (.map es clock)
  ents : EntsOk Value.string (FileRep w F) es clock S.files
  hang : HangRep w F d hv S.hangs
  fd : F d
  fm : F m
  ok : S.Ok
  flt : ∀ k, F k → k < w.heap.size
def DiskAt (w : World) (d : Nat) (S : St) (F : Nat → Prop) : Prop := ∃ m es clock hv, DiskIs w d m es clock hv S F

/-! ### what abides -/
theorem FileRep.move {w w' : World} {F F' : Nat → Prop} {v : Value} {l : List Sec} (h : FileRep w F v l) (hF : ∀ k, F k → F' k)
    (hk : ∀ k cs, F k → w.heap[k]? = some (.cells cs 93 (0, 0)) → w'.heap[k]? = some (.cells cs 93 (0, 0))) : FileRep w' F' v l := by
  obtain ⟨h1, a, c, h2, h3, h4, h5⟩ := h
  exact ⟨h1, a, c, h2, h3, h4, fun hl => let ⟨b, cs, k1, k2, k3, k4⟩ := h5 hl; ⟨b, cs, k1, hF _ k2, hk _ _ k2 k3, k4⟩⟩
theorem HangRep.move {w w' : World} {F F' : Nat → Prop} {d : Nat} {hv : Value} {o : Option Hg} (h : HangRep w F d hv o) (hF : ∀ k, F k → F' k)
    (hk : ∀ k v t, F k → w.heap[k]? = some (.cells #[v] t (0, 0)) → w'.heap[k]? = some (.cells #[v] t (0, 0))) : HangRep w' F' d hv o := by
  have hb : ∀ {b v t}, Box w F b v t → Box w' F' b v t := fun hb => ⟨hk _ _ _ hb.2 hb.1, hF _ hb.2⟩
  match o, h with
  | none, h => exact h
  | some .noop, h => exact h
  | some (.sync _), ⟨b1, b2, h1, h2, h3⟩ => exact ⟨b1, b2, h1, hb h2, hb h3⟩
  | some (.trunc _ _), ⟨k0, k1, b1, b2, b3, h1, h2, h3, h4⟩ => exact ⟨k0, k1, b1, b2, b3, h1, hb h2, hb h3, hb h4⟩
  | some (.rename _ _), h => exact h.elim
  | some (.remove _), ⟨b1, b2, h1, h2, h3⟩ => exact ⟨b1, b2, h1, hb h2, hb h3⟩
/-- Whatever turns none of the disk's blocks leaves it as it is. -/
theorem DiskIs.move {w w' : World} {d m : Nat} {es : Array MapEntry} {clock : Nat} {hv : Value} {S : St} {F F' : Nat → Prop} (h : DiskIs w d m es clock hv S F) (hF : ∀ k, F k → F' k)
    (hk : ∀ k o, F k → w.heap[k]? = some o → w'.heap[k]? = some o) (hl : ∀ k, F' k → k < w'.heap.size) : DiskIs w' d m es clock hv S F' :=
  ⟨hk _ _ h.fd h.hd, hk _ _ h.fm h.hm, h.ents.imp fun _ _ r => r.move hF fun k _ hf hb => hk k _ hf hb, h.hang.move hF fun k _ _ hf hb => hk k _ hf hb, hF _ h.fd, hF _ h.fm, h.ok, hl⟩
theorem DiskIs.kept {w w' : World} {d m : Nat} {es : Array MapEntry} {clock : Nat} {hv : Value} {S : St} {F G : Nat → Prop} (h : DiskIs w d m es clock hv S F) (hk : Kp G w w') (hG : ∀ k, F k → ¬ G k) : DiskIs w' d m es clock hv S F :=
  h.move (fun _ h => h) (fun k _ hf hb => hk.blk hb (hG k hf)) fun k hf => Nat.lt_of_lt_of_le (h.flt k hf) hk.size
theorem DiskAt.kept {w w' : World} {d : Nat} {S : St} {F G : Nat → Prop} (h : DiskAt w d S F) (hk : Kp G w w') (hG : ∀ k, F k → ¬ G k) : DiskAt w' d S F :=
  let ⟨m, es, clock, hv, h⟩ := h; ⟨m, es, clock, hv, h.kept hk hG⟩
/-- The disk's own block and its map have turned, and nothing else of it. -/
theorem DiskIs.turn {w w' : World} {d m : Nat} {es es' : Array MapEntry} {clock clock' : Nat} {hv hv' : Value} {S S' : St} {F F' : Nat → Prop} (h : DiskIs w d m es clock hv S F) (hF : ∀ k, F k → F' k)
    (hk : ∀ k o, k ≠ d → k ≠ m → w.heap[k]? = some o → w'.heap[k]? = some o)
    (hd : w'.heap[d]? = some (.cells #[.map (some m), .int .i64 S'.room, .bool S'.off, .int .i64 S'.armed, .int .i64 S'.ops, hv'] 73 (0, 0)))
    (hm : w'.heap[m]? = some (.map es' clock')) (he : EntsOk Value.string (FileRep w F') es' clock' S'.files) (hh : HangRep w F' d hv' S'.hangs) (ok : S'.Ok) (hl : ∀ k, F' k → k < w'.heap.size) : DiskIs w' d m es' clock' hv' S' F' := by
  have h1 : ∀ (k : Nat) (cs : Array Value), w.heap[k]? = some (.cells cs 93 (0, 0)) → w'.heap[k]? = some (.cells cs 93 (0, 0)) := by
    intro k cs hb
    refine hk k _ ?_ ?_ hb
    · rintro rfl; rw [h.hd] at hb; injection hb with hb; injection hb with _ hb _; cases hb
    · rintro rfl; rw [h.hm] at hb; cases hb
  have h2 : ∀ (k : Nat) (v : Value) (t : TypeId), w.heap[k]? = some (.cells #[v] t (0, 0)) → w'.heap[k]? = some (.cells #[v] t (0, 0)) := by
    intro k v t hb
    refine hk k _ ?_ ?_ hb
    · rintro rfl; rw [h.hd] at hb; injection hb with hb; injection hb with hb _ _; cases hb
    · rintro rfl; rw [h.hm] at hb; cases hb
  exact ⟨hd, hm, he.imp fun _ _ r => r.move (fun _ h => h) fun k cs _ hb => h1 k cs hb, hh.move (fun _ h => h) fun k v t _ hb => h2 k v t hb, hF _ h.fd, hF _ h.fm, ok, hl⟩
theorem DiskIs.ne {w : World} {d m : Nat} {es : Array MapEntry} {clock : Nat} {hv : Value} {S : St} {F : Nat → Prop} (h : DiskIs w d m es clock hv S F) : d ≠ m := by
  rintro rfl; have := h.hd; rw [h.hm] at this; cases this
theorem DiskIs.cells {w : World} {d m : Nat} {es : Array MapEntry} {clock : Nat} {hv : Value} {S : St} {F : Nat → Prop} (h : DiskIs w d m es clock hv S F) :
    w.cell? ⟨d, 0, none⟩ = some (.map (some m)) ∧ w.cell? ⟨d, 1, none⟩ = some (.int .i64 S.room) ∧ w.cell? ⟨d, 2, none⟩ = some (.bool S.off) ∧ w.cell? ⟨d, 3, none⟩ = some (.int .i64 S.armed) ∧
      w.cell? ⟨d, 4, none⟩ = some (.int .i64 S.ops) ∧ w.cell? ⟨d, 5, none⟩ = some hv ∧ ∀ i, w.frozen? ⟨d, i, none⟩ = false := by
  have := h.hd
  exact ⟨blk_cell this 0, blk_cell this 1, blk_cell this 2, blk_cell this 3, blk_cell this 4, blk_cell this 5, blk_free this⟩
end Go.Proofs.YtggnohbfdlebiaaGreatDoor

/-
  Plain words on a range over a map: the iterator's block, a step, the entry. No program stands in it.
-/
namespace Go.Proofs.YtggnohbfdlebiaaGreatDoor
open Go.RowKit Go.ChangeMaps

/-- Block r is a range over the map in block m: the entries 'done' have come, 'left' are still to come. -/
structure IterIs (w : World) (r m : Nat) (es : Array MapEntry) (clock : Nat) (done left : List MapEntry) : Prop where
  it : w.heap[r]? = some (.mapIter (some m) clock (done.map (·.born)).toArray clock)
  hm : w.heap[m]? = some (.map es clock)
  perm : (done ++ left).Perm es.toList
  born : ∀ x ∈ es.toList, x.born < clock
  apart : (es.toList.map (·.born)).Nodup

/-- How many are to come, read off memory. -/
def iterLeft (w : World) (r n : Nat) : Nat := match w.heap[r]? with | some (.mapIter _ _ seen _) => n - seen.size | _ => 0

variable {P : Program} {w : World} {r m : Nat} {es : Array MapEntry} {clock : Nat} {done left : List MapEntry}

theorem range_run {t k e : TypeId} (ht : P.underlying t = some (.map k e)) (hb : w.heap[m]? = some (.map es clock)) :
    (Instr.range t (.map (some m))).run P w = .ok (.pointer (some ⟨w.heap.size, 0, none⟩)) (w.alloc (.mapIter (some m) clock #[] clock)) := by
  simp [Instr.range, run_underlying ht, run_getObj_map hb, newObj, Sem.run]
theorem IterIs.start (hb : w.heap[m]? = some (.map es clock)) (h1 : ∀ x ∈ es.toList, x.born < clock) (h2 : (es.toList.map (·.born)).Nodup) :
    IterIs (w.alloc (.mapIter (some m) clock #[] clock)) w.heap.size m es clock [] es.toList :=
  ⟨by simpa using heap_alloc_new w _, blk_alloc _ hb, by simp, h1, h2⟩
theorem IterIs.left_eq (h : IterIs w r m es clock done left) : iterLeft w r es.size = left.length := by
  have := h.perm.length_eq
  simp [iterLeft, h.it] at this ⊢
  omega
theorem IterIs.move {w' : World} (h : IterIs w r m es clock done left) (hr : w'.heap[r]? = w.heap[r]?) (hm : w'.heap[m]? = w.heap[m]?) : IterIs w' r m es clock done left :=
  ⟨hr.trans h.it, hm.trans h.hm, h.perm, h.born, h.apart⟩
theorem run_getObj_iter {a : Option Nat} {b : Nat} {c : Array Nat} {d : Nat} (hb : w.heap[r]? = some (.mapIter a b c d)) : (getObj r).run P w = .ok (.mapIter a b c d) w := by
  simp [getObj, Sem.run, hb]
theorem run_setObj_iter {a : Option Nat} {b : Nat} {c : Array Nat} {d : Nat} (hb : w.heap[r]? = some (.mapIter a b c d)) (o : Obj) : (setObj r o).run P w = .ok () (setBlock w r o) := by
  simp [setObj, Sem.run, hb, setBlock]

theorem filter_done (h : IterIs w r m es clock done left) : (es.filter fun e => !(done.map (·.born)).toArray.contains e.born).toList.Perm left := by
  have hd : ((done ++ left).map (·.born)).Nodup := ((h.perm.map _).nodup_iff).2 h.apart
  rw [List.map_append, List.nodup_append] at hd
  rw [Array.toList_filter]
  refine (h.perm.symm.filter _).trans ?_
  rw [List.filter_append]
  have e1 : done.filter (fun e => !(done.map (·.born)).toArray.contains e.born) = [] := by
    rw [List.filter_eq_nil_iff]
    intro a ha
    simp
    exact ⟨a, ha, rfl⟩
  have e2 : left.filter (fun e => !(done.map (·.born)).toArray.contains e.born) = left := by
    rw [List.filter_eq_self]
    intro a ha
    simp
    intro x hx hxa
    exact hd.2.2 _ (List.mem_map_of_mem hx) _ (List.mem_map_of_mem ha) hxa
  rw [e1, e2]; simp
theorem next_over (h : IterIs w r m es clock done []) (ty : TypeId) : (Instr.next (.pointer (some ⟨r, 0, none⟩)) false ty).run P w = .ok (.tuple #[.bool false]) w := by
  have hf : (es.filter fun e => !(done.map (·.born)).toArray.contains e.born) = #[] := by
    have := (filter_done h).eq_nil
    simpa using this
  have hall : (!(done.map (·.born)).toArray.isEmpty && !es.isEmpty && es.all (fun e => decide (e.born ≥ clock))) = false := by
    cases hes : es.isEmpty with
    | true => simp
    | false =>
      have : es.all (fun e => decide (e.born ≥ clock)) = false := by
        rw [Array.all_eq_false]
        have h0 : 0 < es.size := by
          rw [Array.isEmpty_eq_false_iff] at hes; exact Array.size_pos_iff.2 hes
        refine ⟨0, h0, ?_⟩
        have := h.born es[0] (by simp)
        simp; omega
      simp [this]
  simp only [Instr.next, Sem.run_bind, run_getObj_iter h.it, Result.andThen_ok, run_getObj_map h.hm]
  simp only [hall, hf, Bool.false_eq_true, if_false]
  simp [choose, Sem.run, Question.forced]
theorem next_more (h : IterIs w r m es clock done left) (hl : left ≠ []) (hne : r ≠ m) :
    ∃ x left' n, left.Perm (x :: left') ∧ (∀ ty, (Instr.next (.pointer (some ⟨r, 0, none⟩)) false ty).run P w = .ok (.tuple #[.bool true, x.key, x.val]) (setBlock (w.drewN n) r (.mapIter (some m) clock ((done ++ [x]).map (·.born)).toArray clock))) ∧
      IterIs (setBlock (w.drewN n) r (.mapIter (some m) clock ((done ++ [x]).map (·.born)).toArray clock)) r m es clock (done ++ [x]) left' := by
  have hall : (!(done.map (·.born)).toArray.isEmpty && !es.isEmpty && es.all (fun e => decide (e.born ≥ clock))) = false := by
    cases hes : es.isEmpty with
    | true => simp
    | false =>
      have : es.all (fun e => decide (e.born ≥ clock)) = false := by
        rw [Array.all_eq_false]
        have h0 : 0 < es.size := by
          rw [Array.isEmpty_eq_false_iff] at hes; exact Array.size_pos_iff.2 hes
        refine ⟨0, h0, ?_⟩
        have := h.born es[0] (by simp)
        simp; omega
      simp [this]
  obtain ⟨L, hL⟩ : ∃ L, (es.filter fun e => !(done.map (·.born)).toArray.contains e.born) = L := ⟨_, rfl⟩
  have hp : L.toList.Perm left := by rw [← hL]; exact filter_done h
  have hmem : ∀ x ∈ L.toList, x.born < clock := fun x hx => h.born x (h.perm.mem_iff.1 (List.mem_append.2 (.inr (hp.mem_iff.1 hx))))
  have hold : (L.filter fun e => decide (e.born < clock)) = L := by
    rw [Array.filter_eq_self]; intro a ha; simpa using hmem a (by simpa using ha)
  have hnew : (L.filter fun e => decide (e.born ≥ clock)) = #[] := by
    rw [Array.filter_eq_empty_iff]; intro a ha; have := hmem a (by simpa using ha); simp; omega
  have hpos : 0 < L.size := by
    have := hp.length_eq
    cases left with
    | nil => exact absurd rfl hl
    | cons a b => simp at this; omega
  have hemp : L.isEmpty = false := by rw [Array.isEmpty_eq_false_iff]; exact Array.size_pos_iff.1 hpos
  -- the run, at whatever place is chosen
  have main : ∀ (j n : Nat) (hj : j < L.size), (choose (.mapNext L.size)).run P w = .ok j (w.drewN n) → ∃ x left' n, left.Perm (x :: left') ∧ (∀ ty, (Instr.next (.pointer (some ⟨r, 0, none⟩)) false ty).run P w = .ok (.tuple #[.bool true, x.key, x.val]) (setBlock (w.drewN n) r (.mapIter (some m) clock ((done ++ [x]).map (·.born)).toArray clock))) ∧
      IterIs (setBlock (w.drewN n) r (.mapIter (some m) clock ((done ++ [x]).map (·.born)).toArray clock)) r m es clock (done ++ [x]) left' := by
    intro j n hj hch
    have hxl : L[j] ∈ left := hp.mem_iff.1 (by simp)
    obtain ⟨s, t, hst⟩ := List.append_of_mem hxl
    have hperm : left.Perm (L[j] :: (s ++ t)) := by rw [hst]; exact List.perm_middle
    refine ⟨L[j], s ++ t, n, hperm, ?_, ?_⟩
    · intro ty
      have hit' : (w.drewN n).heap[r]? = some (.mapIter (some m) clock (done.map (·.born)).toArray clock) := h.it
      simp only [Instr.next, Sem.run_bind, run_getObj_iter h.it, Result.andThen_ok, run_getObj_map h.hm]
      simp only [hall, hL, hold, hnew, hemp, Bool.false_eq_true, if_false, Array.append_empty, Array.empty_append, Sem.run_bind, Array.size_map, hch, Result.andThen_ok, Array.getElem?_map, Array.getElem?_eq_getElem hj, Option.map_some]
      simp [run_setObj_iter hit']
    · have hit' : (w.drewN n).heap[r]? = some (.mapIter (some m) clock (done.map (·.born)).toArray clock) := h.it
      refine ⟨blk_put hit', (blk_off _ (Ne.symm hne)).trans h.hm, ?_, h.born, h.apart⟩
      refine List.Perm.trans ?_ h.perm
      rw [List.append_assoc]
      exact (List.Perm.append_left done hperm.symm)
  by_cases h1 : L.size ≤ 1
  · exact main 0 0 hpos (by simp [choose, Sem.run, Question.forced, h1, World.drewN])
  · exact main (w.tape w.drawn (.mapNext L.size) % L.size) 1 (Nat.mod_lt _ hpos) (by
      have hfo : (Question.mapNext L.size).forced = false := by simp [Question.forced, h1]
      simp only [choose, Sem.run, hfo, Bool.false_eq_true, if_false]; rfl)
theorem entry_run {x : MapEntry} (h : IterIs w r m es clock (done ++ [x]) left) : (Instr.entry (.pointer (some ⟨r, 0, none⟩))).run P w = .ok (.tuple #[x.key, x.val]) w := by
  have hx : x ∈ es.toList := h.perm.mem_iff.1 (by simp)
  have hfind : es.find? (fun e => e.born == x.born) = some x := by
    rw [← Array.find?_toList]
    have hnd := h.apart
    generalize es.toList = l at hx hnd
    induction l with
    | nil => cases hx
    | cons a l ih =>
      simp only [List.map_cons, List.nodup_cons] at hnd
      rcases List.mem_cons.1 hx with rfl | hx
      · simp
      · have : a.born ≠ x.born := fun e => hnd.1 (e ▸ List.mem_map_of_mem hx)
        rw [List.find?_cons_of_neg (by simpa using this)]
        exact ih hx hnd.2
  have hit := h.it
  simp only [List.map_append, List.map_cons, List.map_nil] at hit
  simp [Instr.entry, run_getObj_iter hit, run_getObj_map h.hm, hfind]
end Go.Proofs.YtggnohbfdlebiaaGreatDoor

/-
  Plain words on structs and arrays inside a block: a load, a store, a copy, whatever the place. No program stands in it.
-/
namespace Go.Proofs.YtggnohbfdlebiaaGreatDoor
open Go.RowKit Go.ChangeMaps

variable {P : Program}

theorem addr_add (g off j : Nat) : (⟨g, off, none⟩ : Addr).add j = ⟨g, off + j, none⟩ := by
  unfold Addr.add
  split
  · rename_i h; subst h; rfl
  · rfl
theorem isAgg_run {ty : TypeId} {d : TypeDesc} (hu : P.underlying ty = some d) (hd : (match d with | .struct _ | .array _ _ => true | _ => false) = true) (w : World) : (isAgg ty).run P w = .ok true w := by
  cases d <;> simp_all [isAgg, run_underlying hu]
theorem load_agg_run {ty : TypeId} {w : World} {g off : Nat} (cs : Array Value) (hc : ∀ j v, cs.toList[j]? = some v → w.cell? ⟨g, off + j, none⟩ = some v)
    (ha : ∀ w, (isAgg ty).run P w = .ok true w) (hi : (P.info? ty).map (·.size) = some cs.size) : (loadVar ty ⟨g, off, none⟩).run P w = .ok (.agg cs) w := by
  obtain ⟨i, hi1, hi2⟩ := Option.map_eq_some_iff.1 hi
  have hl := run_loadCells_list (P := P) w ⟨g, off, none⟩ cs.toList (fun j v hj => by rw [addr_add]; exact hc j v hj)
  simp only [Array.length_toList, Array.toArray_toList] at hl
  simp [loadVar, ha, sizeOf, typeInfo, hi1, hi2, hl]
theorem wpList_load_agg {ops : Array Oper} {rest : List Oper} {o : Oper} {a : Act} {w : World} {Q : Exit → Act → World → Prop} (hgd : o.guard = none) (ty : TypeId) (x : Operand) (ho : o.op = .load ty x)
    {g off : Nat} (hx : a.eval x = .pointer (some ⟨g, off, none⟩)) (cs : Array Value) (hc : ∀ j v, cs.toList[j]? = some v → w.cell? ⟨g, off + j, none⟩ = some v)
    (ha : ∀ w, (isAgg ty).run P w = .ok true w) (hi : (P.info? ty).map (·.size) = some cs.size)
    (h : wpList P ops Q rest (a.put o.dst (.agg cs)) w) : wpList P ops Q (o :: rest) a w :=
  wpList_plain hgd fun _ hK => by
    unfold Oper.wp execOp
    simp only [ho, hx, Instr.loadAt, Instr.sureAddr, Sem.run_bind, Sem.run_pure, Result.andThen_ok, load_agg_run cs hc ha hi]
    exact hK _ _ h

/-- These cells, laid over a row from a place on. -/
def splice (cur : Array Value) (off : Nat) (vs : List Value) : Array Value := (cur.toList.take off ++ vs ++ cur.toList.drop (off + vs.length)).toArray
theorem splice_get (cur : Array Value) (off : Nat) (vs : List Value) (h : off + vs.length ≤ cur.size) (j : Nat) :
    (splice cur off vs)[j]? = if off ≤ j ∧ j < off + vs.length then vs[j - off]? else cur[j]? := by
  unfold splice
  rw [List.getElem?_toArray, List.append_assoc]
  have hl : (cur.toList.take off).length = off := by simp; omega
  by_cases h1 : j < off
  · rw [List.getElem?_append_left (by omega), if_neg (by omega), List.getElem?_take, if_pos h1]; simp
  · rw [List.getElem?_append_right (by omega), hl]
    by_cases h2 : j < off + vs.length
    · rw [List.getElem?_append_left (by omega), if_pos ⟨by omega, h2⟩]
    · rw [List.getElem?_append_right (by omega), if_neg (by omega), List.getElem?_drop]
      simp only [Array.getElem?_toList]
      congr 1; omega
theorem splice_size (cur : Array Value) (off : Nat) (vs : List Value) (h : off + vs.length ≤ cur.size) : (splice cur off vs).size = cur.size := by
  unfold splice; simp; omega
theorem storeCells_run {w : World} {g off : Nat} {t : TypeId} {cur : Array Value} (hg : w.heap[g]? = some (.cells cur t (0, 0))) (vs : List Value) (hl : off + vs.length ≤ cur.size) (h1 : ∀ v ∈ vs, v.oneCell' = true) :
    (storeCells ⟨g, off, none⟩ vs).run P w = .ok () (w.setRow g (splice cur off vs)) := by
  simpa [splice] using run_storeCells_at P g off t vs 0 cur w hg (by simpa using hl) h1
theorem wpList_store_agg {ops : Array Oper} {rest : List Oper} {o : Oper} {a : Act} {w : World} {Q : Exit → Act → World → Prop} (hgd : o.guard = none) (ty : TypeId) (x y : Operand) (ho : o.op = .store ty x y)
    {g off : Nat} {t : TypeId} {cur cells : Array Value} (hx : a.eval x = .pointer (some ⟨g, off, none⟩)) (hy : a.eval y = .agg cells) (hg : w.heap[g]? = some (.cells cur t (0, 0)))
    (hi : (P.info? ty).map (·.size) = some cells.size) (hl : off + cells.size ≤ cur.size) (h1 : ∀ v ∈ cells.toList, v.oneCell' = true)
    (h : wpList P ops Q rest (a.put o.dst undef) (w.setRow g (splice cur off cells.toList))) : wpList P ops Q (o :: rest) a w :=
  wpList_plain hgd fun _ hK => by
    obtain ⟨i, hi1, hi2⟩ := Option.map_eq_some_iff.1 hi
    have hs := storeCells_run (P := P) hg cells.toList (by simpa using hl) h1
    unfold Oper.wp execOp
    simp only [ho, hx, hy, Instr.storeAt, Instr.sureAddr, Sem.run_bind, Sem.run_pure, Result.andThen_ok]
    have hsv : (storeVar ty ⟨g, off, none⟩ (.agg cells)).run P w = .ok () (w.setRow g (splice cur off cells.toList)) := by
      simp [storeVar, sizeOf, typeInfo, hi1, Value.cells, ← hi2, hs]
    simp only [hsv, Result.andThen_ok]
    exact hK _ _ h

/-- copy, its run being known. -/
theorem wpList_copy_run {w w' : World} {ops : Array Oper} {rest : List Oper} {o : Oper} {a : Act} {Q : Exit → Act → World → Prop} (hgd : o.guard = none) (s x : Operand) (t tx : TypeId)
    (ho : o.op = .call { callee := .builtin .copy, args := #[s, x], argTypes := #[t, tx] }) {vs vx v : Value} (hs : a.eval s = vs) (hx : a.eval x = vx)
    (hr : (Builtin.copy_ #[t, tx] o.type #[vs, vx]).run P w = .ok v w') (h : wpList P ops Q rest (a.put o.dst v) w') : wpList P ops Q (o :: rest) a w :=
  wpList_plain hgd fun _ hK => by
    unfold Oper.wp execOp
    simp only [ho, resolve, invoke, builtin, Sem.run_bind, Sem.run_pure, Result.andThen_ok, List.map_toArray, List.map_cons, List.map_nil, hs, hx, hr]
    exact hK _ _ h
end Go.Proofs.YtggnohbfdlebiaaGreatDoor

/-
  Records, plainly: a record's sectors, and what is read out of them. No program stands in it.
-/
namespace Go.Proofs.YtggnohbfdlebiaaGreatDoor
open Go.RowKit Go.ChangeShapes

/-- Four bytes, the highest first. -/
def num4 (n : Nat) : List Int := [((n / 16777216 % 256 : Nat) : Int), ((n / 65536 % 256 : Nat) : Int), ((n / 256 % 256 : Nat) : Int), ((n % 256 : Nat) : Int)]
def lheadF (m n i parts : Nat) : List Int := 177 :: (m : Int) :: (num4 n ++ [(i : Int), (parts : Int)])
def lsecOne (n : Nat) (body : List Int) (parts i : Nat) : List Int := lheadF (partOf body i).length n i parts ++ partOf body i ++ List.replicate (24 - (partOf body i).length) 0
def lcutN (n : Nat) (body : List Int) (parts k : Nat) : List Int := (List.range k).flatMap (lsecOne n body parts)
def lbodyF (p link : List Int) : List Int := p ++ tail4 (crcF p) ++ link
def lsecF (n : Nat) (p link : List Int) : List Int := lcutN n (lbodyF p link) (partsN (lbodyF p link).length) (partsN (lbodyF p link).length)
theorem lsecOne_length (n : Nat) (body : List Int) (parts i : Nat) : (lsecOne n body parts i).length = 32 := by
  have := partOf_le body i
  simp only [lsecOne, lheadF, num4, List.length_append, List.length_cons, List.length_nil, List.length_replicate]; omega
theorem lcutN_succ (n : Nat) (body : List Int) (parts k : Nat) : lcutN n body parts (k + 1) = lcutN n body parts k ++ lsecOne n body parts k := by
  simp [lcutN, List.range_succ]
theorem lcutN_length (n : Nat) (body : List Int) (parts k : Nat) : (lcutN n body parts k).length = 32 * k := by
  induction k with
  | zero => rfl
  | succ k ih => rw [lcutN_succ, List.length_append, ih, lsecOne_length]; omega
theorem lbodyF_length (p : List Int) {link : List Int} (h : link.length = 32) : (lbodyF p link).length = p.length + 36 := by simp [lbodyF, tail4, h]
theorem lchunk_cut (n : Nat) (body : List Int) (parts : Nat) : ∀ (k i : Nat), i < k → chunkOf (lcutN n body parts k) i = lsecOne n body parts i
  | 0, i, h => absurd h (Nat.not_lt_zero i)
  | k + 1, i, h => by
    unfold chunkOf
    rw [lcutN_succ, List.drop_append, lcutN_length]
    by_cases hik : i < k
    · have h1 := lchunk_cut n body parts k i hik
      unfold chunkOf at h1
      rw [List.take_append_of_le_length (by rw [List.length_drop, lcutN_length]; omega), h1]
    · obtain rfl : i = k := by omega
      rw [List.drop_eq_nil_of_le (by rw [lcutN_length]; exact Nat.le_refl _), List.nil_append, Nat.sub_self, List.drop_zero, List.take_of_length_le (by rw [lsecOne_length]; exact Nat.le_refl _)]
/-- The first i sectors of p are a record's. -/
structure Front (p : List Int) (n : Nat) (body : List Int) (i : Nat) : Prop where
  len : 32 * i ≤ p.length
  own : ∀ j, j < i → chunkOf p j = lsecOne n body (partsN body.length) j
/-- Here a record is broken off: no sector more, or one without the mark. -/
def Broken (p : List Int) (i : Nat) : Prop := p.length < 32 * (i + 1) ∨ (chunkOf p i).head? ≠ some 177
theorem chunk_append {a b : List Int} {k i : Nat} (ha : a.length = 32 * k) (h : i < k) : chunkOf (a ++ b) i = chunkOf a i := by
  unfold chunkOf
  rw [List.drop_append, List.take_append_of_le_length (by rw [List.length_drop]; omega)]
theorem chunk_behind {a b : List Int} {k i : Nat} (ha : a.length = 32 * k) : chunkOf (a ++ b) (k + i) = chunkOf b i := by
  unfold chunkOf
  rw [List.drop_append, List.drop_eq_nil_of_le (by omega), ha, List.nil_append]
  congr 2; omega
theorem Front.whole (n : Nat) (p link b : List Int) : Front (lsecF n p link ++ b) n (lbodyF p link) (partsN (lbodyF p link).length) := by
  have hl : (lsecF n p link).length = 32 * partsN (lbodyF p link).length := lcutN_length _ _ _ _
  refine ⟨by rw [List.length_append, hl]; omega, fun j hj => ?_⟩
  rw [chunk_append hl hj]
  exact lchunk_cut n _ _ _ j hj
theorem lsecF_length (n : Nat) (p : List Int) {link : List Int} (h : link.length = 32) : (lsecF n p link).length = 32 * partsN (p.length + 36) := by
  unfold lsecF; rw [lcutN_length, lbodyF_length p h]
end Go.Proofs.YtggnohbfdlebiaaGreatDoor

/-
  A file's sectors as cells: what append does to them; the words for a list that is made safe sector by sector.
-/
namespace Go.Proofs.YtggnohbfdlebiaaGreatDoor
open Go.RowKit Go.ChangeMaps

theorem secCells_length {s : Sec} (h : s.bytes.length = 32) : (secCells s).length = 33 := by simp [secCells, h]
theorem fileCells_length : ∀ {l : List Sec} (_ : ∀ s ∈ l, s.bytes.length = 32), (fileCells l).length = 33 * l.length
  | [], _ => rfl
  | s :: l, h => by
    have := fileCells_length (l := l) fun x hx => h x (by simp [hx])
    simp only [fileCells, List.flatMap_cons, List.length_append, List.length_cons] at this ⊢
    rw [secCells_length (h s (by simp)), this]; omega
theorem fileCells_append (a b : List Sec) : fileCells (a ++ b) = fileCells a ++ fileCells b := by simp [fileCells]
theorem oneCell_file {l : List Sec} : ∀ u ∈ fileCells l, u.oneCell' = true := by
  intro u hu
  simp only [fileCells, secCells, List.mem_flatMap, List.mem_append, List.mem_map, List.mem_singleton] at hu
  obtain ⟨s, _, ⟨x, _, rfl⟩ | rfl⟩ := hu <;> rfl

def setSync (s : Sec) : Sec := { s with synced := true }
/-- The first k are safe. -/
def syncN (k : Nat) (l : List Sec) : List Sec := (l.take k).map setSync ++ l.drop k
theorem syncN_zero (l : List Sec) : syncN 0 l = l := by simp [syncN]
theorem syncN_all (l : List Sec) : syncN l.length l = syncAll l := by simp [syncN, syncAll, setSync]
theorem syncN_length (k : Nat) (l : List Sec) : (syncN k l).length = l.length := by simp [syncN]; omega
theorem setSync_len {l : List Sec} (h : ∀ s ∈ l, s.bytes.length = 32) (k : Nat) : ∀ s ∈ syncN k l, s.bytes.length = 32 := by
  intro s hs
  simp only [syncN, List.mem_append, List.mem_map] at hs
  obtain ⟨x, hx, rfl⟩ | hs := hs
  · exact h x (List.mem_of_mem_take hx)
  · exact h s (List.mem_of_mem_drop hs)
theorem syncN_cells {l : List Sec} (h : ∀ s ∈ l, s.bytes.length = 32) {k : Nat} (hk : k < l.length) :
    (fileCells (syncN k l)).set (k * 33 + 32) (.bool true) = fileCells (syncN (k + 1) l) := by
  have h1 : syncN k l = (l.take k).map setSync ++ (l[k] :: l.drop (k + 1)) := by rw [syncN, List.drop_eq_getElem_cons hk]
  have h2 : syncN (k + 1) l = (l.take k).map setSync ++ (setSync l[k] :: l.drop (k + 1)) := by
    rw [syncN, List.take_succ_eq_append_getElem hk, List.map_append, List.append_assoc]; rfl
  rw [h1, h2, fileCells_append, fileCells_append]
  have hl : (fileCells ((l.take k).map setSync)).length = k * 33 := by
    rw [fileCells_length]
    · simp; rw [Nat.min_eq_left (by omega)]; omega
    · intro s hs
      obtain ⟨x, hx, rfl⟩ := List.mem_map.1 hs
      exact h x (List.mem_of_mem_take hx)
  rw [List.set_append_right _ _ (by omega), hl]
  congr 1
  have h3 : k * 33 + 32 - k * 33 = 32 := by omega
  rw [h3]
  have hb := h l[k] (List.getElem_mem hk)
  simp only [fileCells, List.flatMap_cons]
  rw [List.set_append_left _ _ (by rw [secCells_length hb]; omega)]
  congr 1
  simp only [secCells, setSync]
  rw [List.set_append_right _ _ (by simp [hb])]
  simp [hb]
theorem syncN_cell {l : List Sec} (h : ∀ s ∈ l, s.bytes.length = 32) {k j : Nat} (hk : k < l.length) : ∃ b, (fileCells (syncN j l))[k * 33 + 32]? = some (.bool b) := by
  obtain ⟨L, hL⟩ : ∃ L, syncN j l = L := ⟨_, rfl⟩
  have hlen : k < L.length := by rw [← hL, syncN_length]; exact hk
  have hs : ∀ s ∈ L, s.bytes.length = 32 := by rw [← hL]; exact setSync_len h j
  rw [hL]
  have h1 : L = L.take k ++ (L[k] :: L.drop (k + 1)) := by rw [← List.drop_eq_getElem_cons hlen, List.take_append_drop]
  have hl : (fileCells (L.take k)).length = k * 33 := by
    rw [fileCells_length fun s hx => hs s (List.mem_of_mem_take hx)]
    simp; rw [Nat.min_eq_left (by omega)]; omega
  have hb := hs L[k] (List.getElem_mem hlen)
  obtain ⟨s, hsk⟩ : ∃ s, L[k] = s := ⟨_, rfl⟩
  rw [hsk] at h1 hb
  refine ⟨s.synced, ?_⟩
  rw [h1, fileCells_append, List.getElem?_append_right (by omega), hl]
  have h3 : k * 33 + 32 - k * 33 = 32 := by omega
  rw [h3]
  simp only [fileCells, List.flatMap_cons]
  rw [List.getElem?_append_left (by rw [secCells_length]; omega; simpa using hb)]
  simp only [secCells]
  rw [List.getElem?_append_right (by simp; omega)]
  simp [hb]

/-! ### append on sectors -/
theorem toArr (a : List Value) (z : Array Value) : a.toArray ++ z = (a ++ z.toList).toArray := by apply Array.ext'; simp
theorem toArr2 (a b : List Value) (z : Array Value) : a.toArray ++ b.toArray ++ z = (a ++ b ++ z.toList).toArray := by apply Array.ext'; simp
theorem info_sec : (Tryz.prog.info? 93).map (fun i => (i.size, i.bytes)) = some (33, 33) := by kernel_rfl
theorem info_sec_zero : ∃ i z, Tryz.prog.info? 93 = some i ∧ i.zero = some z ∧ i.size = 33 ∧ i.bytes = 33 ∧ z.cells.size = 33 := by
  have h : (Tryz.prog.info? 93).map (fun i => (i.zero.map fun z => z.cells.size, i.size, i.bytes)) = some (some 33, 33, 33) := by kernel_rfl
  obtain ⟨i, hi, he⟩ := Option.map_eq_some_iff.1 h
  simp only [Prod.mk.injEq, Option.map_eq_some_iff] at he
  obtain ⟨⟨z, hz, hs⟩, h1, h2⟩ := he
  exact ⟨i, z, hi, hz, h1, h2, hs⟩
theorem slice_type : Tryz.prog.underlying 87 = some (.slice 93) := by kernel_rfl

theorem FileRep.holds {w : World} {F : Nat → Prop} {v : Value} {l : List Sec} (h : FileRep w F v l) (hl : l ≠ []) :
    ∃ b c, v = .slice (some ⟨b, 0, none⟩) l.length c ∧ F b ∧ (∀ j u, (fileCells l)[j]? = some u → w.cell? ((⟨b, 0, none⟩ : Addr).add j) = some u) ∧ (∀ j u, (fileCells l)[j]? = some u → w.cell? ⟨b, j, none⟩ = some u) ∧ l.length ≤ c := by
  obtain ⟨h0, a, c, rfl, h2, _, h3⟩ := h
  obtain ⟨b, cs, rfl, hF, hb, ht⟩ := h3 hl
  have key : ∀ j u, (fileCells l)[j]? = some u → w.cell? ⟨b, j, none⟩ = some u := by
    intro j u hu
    rw [blk_cell hb, ← ht] at *
    rw [List.getElem?_take] at hu
    split at hu
    · simpa using hu
    · cases hu
  refine ⟨b, c, rfl, hF, ?_, key, h2⟩
  intro j u hu
  rw [Addr.add_lit, Nat.zero_add]
  exact key j u hu
theorem fileRep_nil (w : World) (F : Nat → Prop) : FileRep w F (.slice none 0 0) [] := ⟨by simp, none, 0, rfl, by simp, by simp [maxLen], by simp⟩
theorem FileRep.lt {w : World} {F : Nat → Prop} {v : Value} {l : List Sec} (h : FileRep w F v l) : FileRep w (fun k => F k ∧ k < w.heap.size) v l :=
  let ⟨h1, a, c, h2, h3, h4, h5⟩ := h
  ⟨h1, a, c, h2, h3, h4, fun hl => let ⟨b, cs, k1, k2, k3, k4⟩ := h5 hl; ⟨b, cs, k1, ⟨k2, blk_lt k3⟩, k3, k4⟩⟩
theorem FileRep.mono {w : World} {F F' : Nat → Prop} {v : Value} {l : List Sec} (h : FileRep w F v l) (hF : ∀ k, F k → F' k) : FileRep w F' v l := h.move hF fun _ _ _ h => h
theorem FileRep.kept {w w' : World} {F G : Nat → Prop} {v : Value} {l : List Sec} (h : FileRep w F v l) (hk : Kp G w w') (hG : ∀ k, F k → ¬ G k) : FileRep w' F v l :=
  h.move (fun _ h => h) fun k _ hf hb => hk.blk hb (hG k hf)
/-- A new row of sectors. -/
theorem fileRep_new (w : World) {l : List Sec} (hs : ∀ s ∈ l, s.bytes.length = 32) (c : Nat) (hc : l.length ≤ c) (hm : c ≤ maxLen) (rest : List Value) :
    FileRep (w.alloc (.cells (fileCells l ++ rest).toArray 93)) (fun k => w.heap.size ≤ k) (.slice (some ⟨w.heap.size, 0, none⟩) l.length c) l :=
  ⟨hs, _, c, rfl, hc, hm, fun _ => ⟨w.heap.size, _, rfl, Nat.le_refl _, heap_alloc_new w _, by
    rw [← fileCells_length hs]; simp⟩⟩
/-- append onto a slice that is full. -/
theorem append_secs {w : World} {F G : Nat → Prop} {v x : Value} {a b : List Sec} (hv : FileRep w F v a) (hfull : ∀ p n c, v = .slice p n c → c = n) (hx : FileRep w G x b) (hn : a.length + b.length ≤ 1000000) (ty : TypeId) :
    ∃ v' w', (Builtin.append_ #[87, 87] ty #[v, x]).run Tryz.prog w = .ok v' w' ∧ FileRep w' (fun k => F k ∨ w.heap.size ≤ k) v' (a ++ b) ∧ Kp (fun _ => False) w w' := by
  obtain ⟨i, z, hi, hz, hsz, hby, hzs⟩ := info_sec_zero
  have hs : ∀ s ∈ a ++ b, s.bytes.length = 32 := by
    intro s h; rcases List.mem_append.1 h with h | h
    · exact hv.1 s h
    · exact hx.1 s h
  by_cases hb : b = []
  · subst hb
    obtain ⟨_, q, c2, rfl, _, _, _⟩ := hx
    have hv' := hv
    obtain ⟨_, p, c, rfl, hle, _, _⟩ := hv'
    refine ⟨.slice p a.length c, w, ?_, by simpa using hv.mono fun _ h => .inl h, Kp.refl _ _⟩
    have hf : (Builtin.firstCells i.size 0 (.slice q 0 c2)).run Tryz.prog w = .ok #[] w := by
      cases q with
      | none => simp [Builtin.firstCells]
      | some q => simp [Builtin.firstCells, loadCells, loadCellsFrom]
    cases p with
    | none => simp [Builtin.append_, run_underlying slice_type, sizeOf, typeInfo, hi, Builtin.lenOf, hle, hf]
    | some p => simp [Builtin.append_, run_underlying slice_type, sizeOf, typeInfo, hi, Builtin.lenOf, hle, hf, storeCells]
  · obtain ⟨bx, cx, rfl, _, hnews, _, _⟩ := hx.holds hb
    have hbl : 0 < b.length := List.length_pos_iff.2 hb
    by_cases ha : a = []
    · subst ha
      obtain ⟨_, p, c, rfl, hle, _, _⟩ := hv
      have hc0 := hfull _ _ _ rfl
      simp only [List.length_nil] at hc0
      subst hc0
      simp only [List.nil_append, List.length_nil, Nat.zero_add] at *
      have hfit : Builtin.nextslicecap b.length 0 * i.bytes ≤ 281474976710656 := by rw [nextslicecap_zero hbl, hby]; omega
      have hcap := grownCap_ge w b.length 0 93
      have hcm := grownCap_le_maxLen w b.length 0 93 (by unfold maxLen; omega)
      have hnew := fileRep_new w.drew hx.1 _ hcap hcm (Builtin.zeroCells z.cells (grownCap w b.length 0 93 - b.length)).toList
      refine ⟨_, _, ?_, hnew.mono fun _ h => .inr h, (Kp.refl _ _).drew.alloc _⟩
      cases p with
      | none =>
        have := run_append_nil (P := Tryz.prog) w 87 ty 93 i z slice_type hi hz ⟨bx, 0, none⟩ b.length cx (fileCells b) (by rw [fileCells_length hx.1, hsz]; omega) hnews hbl (by omega) (by rw [hby]; omega)
        rw [this, toArr]; rfl
      | some p =>
        have := run_append_grow (P := Tryz.prog) w 87 ty 93 i z slice_type hi hz p 0 0 [] (by simp) (by simp) ⟨bx, 0, none⟩ b.length cx (fileCells b) (by rw [fileCells_length hx.1, hsz]; omega) hnews (by omega) (by omega) (by simpa using hfit)
        simp only [Nat.zero_add] at this
        rw [this, toArr2]; rfl
    · obtain ⟨bv, cv, rfl, _, holds, _, _⟩ := hv.holds ha
      have hc0 := hfull _ _ _ rfl
      subst hc0
      have hfit : Builtin.nextslicecap (a.length + b.length) a.length * i.bytes ≤ 281474976710656 := growslice_fits (by omega) (by rw [hby]; omega)
      have hcap := grownCap_ge w (a.length + b.length) a.length 93
      have hcm := grownCap_le_maxLen w (a.length + b.length) a.length 93 (by unfold maxLen; omega)
      have hnew := fileRep_new w.drew hs _ (by simpa using hcap) hcm (Builtin.zeroCells z.cells (grownCap w (a.length + b.length) a.length 93 - (a.length + b.length))).toList
      rw [List.length_append] at hnew
      refine ⟨_, _, ?_, hnew.mono fun _ h => .inr h, (Kp.refl _ _).drew.alloc _⟩
      have := run_append_grow (P := Tryz.prog) w 87 ty 93 i z slice_type hi hz ⟨bv, 0, none⟩ a.length a.length (fileCells a) (by rw [fileCells_length hv.1, hsz]; omega) holds ⟨bx, 0, none⟩ b.length cx (fileCells b) (by rw [fileCells_length hx.1, hsz]; omega) hnews (by omega) (by omega) hfit
      rw [this, toArr2, ← fileCells_append]; rfl
end Go.Proofs.YtggnohbfdlebiaaGreatDoor

/-
  The disk's small methods: named, check, On, Ops, Size, New, Arm.
-/
namespace Go.Proofs.YtggnohbfdlebiaaGreatDoor
open Go.RowKit Go.ChangeMaps

theorem ret_int {k : IntKind} {a b : Int} (h : a = b) : Ending.returned (.int k a) = .returned (.int k b) := by rw [h]
theorem ret_bool {a b : Bool} (h : a = b) : Ending.returned (.bool a) = .returned (.bool b) := by rw [h]
/-- A letter or a figure. -/
def okc (c : Nat) : Bool := (decide (97 ≤ c) && decide (c ≤ 122)) || (decide (48 ≤ c) && decide (c ≤ 57))

theorem On_any (d : Nat) (off : Bool) (w : World) (h : w.cell? ⟨d, 2, none⟩ = some (.bool off)) :
    Calls Tryz.prog 25 #[.pointer (some ⟨d, 0, none⟩)] w fun e w' => e = .returned (.bool (!off)) ∧ w = w' := by
  go_enter Tryz.func25, Tryz.ntmps25
  go_wp2
  go_ret
  exact ⟨rfl, rfl⟩
theorem On_nil (w : World) : Calls Tryz.prog 25 #[.pointer none] w fun e w' => e = .returned (.bool false) ∧ w = w' := by
  go_enter Tryz.func25, Tryz.ntmps25
  go_wp2
  go_ret
  exact ⟨rfl, rfl⟩
theorem Ops_any (d : Nat) (n : Int) (w : World) (h : w.cell? ⟨d, 4, none⟩ = some (.int .i64 n)) :
    Calls Tryz.prog 18 #[.pointer (some ⟨d, 0, none⟩)] w fun e w' => e = .returned (.int .i64 n) ∧ w = w' := by
  go_enter Tryz.func18, Tryz.ntmps18
  go_wp2
  go_ret
  exact ⟨rfl, rfl⟩
theorem Ops_nil (w : World) : Calls Tryz.prog 18 #[.pointer none] w fun e w' => e = .returned (.int .i64 0) ∧ w = w' := by
  go_enter Tryz.func18, Tryz.ntmps18
  go_wp2
  go_ret
  exact ⟨rfl, rfl⟩

theorem nameB_of (s : ByteArray) (h : ∀ i (hi : i < s.size), okc s[i].toNat = true) (h1 : 1 ≤ s.size) (h2 : s.size ≤ 16) : nameB s = true := by
  unfold nameB
  simp only [Bool.and_eq_true, decide_eq_true_eq]
  refine ⟨?_, h1, h2⟩
  rw [List.all_eq_true]
  intro c hc
  obtain ⟨i, hi, rfl⟩ := List.getElem_of_mem hc
  exact h i (by simpa using hi)
theorem nameB_at {s : ByteArray} (h : nameB s = true) (i : Nat) (hi : i < s.size) : okc s[i].toNat = true := by
  unfold nameB at h
  simp only [Bool.and_eq_true] at h
  have := List.all_eq_true.1 h.1 s[i] (by
    have : s[i] = s.data.toList[i]'(by simpa using hi) := by simp; rfl
    rw [this]; exact List.getElem_mem _)
  exact this
theorem nameB_size {s : ByteArray} (h : nameB s = true) : 1 ≤ s.size ∧ s.size ≤ 16 := by
  unfold nameB at h
  simp only [Bool.and_eq_true, decide_eq_true_eq] at h
  exact h.2

set_option maxHeartbeats 800000 in
theorem named_any (s : ByteArray) (w : World) (hs : s.size ≤ maxLen) : Calls Tryz.prog 70 #[.string s] w fun e w' => e = .returned (.bool (nameB s)) ∧ w = w' := by
  unfold maxLen at hs
  go_enter Tryz.func70, Tryz.ntmps70
  go_wp2
  go_loop [6] (fun i => ∃ k : Nat, k ≤ s.size ∧ i = .int .i64 k ∧ ∀ j (hj : j < s.size), j < k → okc s[j].toNat = true) (fun i => s.size - (intOf i).toNat)
  case atStart => exact ⟨0, Nat.zero_le _, rfl, by intro j _ h; omega⟩
  case round =>
    obtain ⟨k, hk, rfl, hall⟩ := hrel
    have HA := Lib.hid hall
    clear hall
    by_cases hlt : k < s.size
    · by_cases h1 : (s[k].toNat : Int) < 97
      · by_cases h2 : (s[k].toNat : Int) < 48
        · have hno : nameB s = false := by
            cases hb : nameB s with
            | false => rfl
            | true => have := nameB_at hb k hlt; simp [okc] at this; omega
          have HN := Lib.hid hno
          clear hno
          go_wp2
          go_ret
          exact ⟨ret_bool HN.out.symm, rfl⟩
        · by_cases h3 : (57 : Int) < s[k].toNat
          · have hno : nameB s = false := by
              cases hb : nameB s with
              | false => rfl
              | true => have := nameB_at hb k hlt; simp [okc] at this; omega
            have HN := Lib.hid hno
            clear hno
            go_wp2
            go_ret
            exact ⟨ret_bool HN.out.symm, rfl⟩
          · go_wp2
            go_round
            case rel => exact ⟨k + 1, by omega, by go_num, by
              intro j hj hjk
              by_cases e : j = k
              · subst e; simp [okc]; omega
              · exact HA.out j hj (by omega)⟩
            case measure => simp [intOf]; omega
      · by_cases h2 : (122 : Int) < s[k].toNat
        · have hno : nameB s = false := by
            cases hb : nameB s with
            | false => rfl
            | true => have := nameB_at hb k hlt; simp [okc] at this; omega
          have HN := Lib.hid hno
          clear hno
          have h3 : ¬ (s[k].toNat : Int) < 48 := by omega
          have h4 : (57 : Int) < s[k].toNat := by omega
          go_wp2
          go_ret
          exact ⟨ret_bool HN.out.symm, rfl⟩
        · go_wp2
          go_round
          case rel => exact ⟨k + 1, by omega, by go_num, by
            intro j hj hjk
            by_cases e : j = k
            · subst e; simp [okc]; omega
            · exact HA.out j hj (by omega)⟩
          case measure => simp [intOf]; omega
    · by_cases h1 : 1 ≤ s.size
      · by_cases h2 : s.size ≤ 16
        · have hn := nameB_of s (fun i hi => HA.out i hi (by omega)) h1 h2
          have HN := Lib.hid hn
          clear hn
          go_wp2
          go_ret
          exact ⟨ret_bool (by rw [HN.out]; simp; omega), rfl⟩
        · have hn : nameB s = false := by unfold nameB; simp [h2]
          have HN := Lib.hid hn
          clear hn
          go_wp2
          go_ret
          exact ⟨ret_bool (by rw [HN.out]; simp; omega), rfl⟩
      · have hn : nameB s = false := by unfold nameB; simp; omega
        have HN := Lib.hid hn
        clear hn
        go_wp2
        go_ret
        exact ⟨ret_bool HN.out.symm, rfl⟩

theorem zero_file (w : World) : (zeroValue 87).run Tryz.prog w = .ok (.slice none 0 0) w := by kernel_rfl
theorem map_type : Tryz.prog.underlying 71 = some (.map 9 87) := by kernel_rfl
theorem key_type : Tryz.prog.underlying 9 = some .string := by kernel_rfl

theorem look_none {w : World} {d m : Nat} {es : Array MapEntry} {clock : Nat} {hv : Value} {S : St} {F : Nat → Prop} (h : DiskIs w d m es clock hv S F) {x : Nm} (hx : get S.files x = none) (c : Bool) :
    (Instr.lookup 71 (.map (some m)) (.string x) c).run Tryz.prog w = .ok (if c then .tuple #[.slice none 0 0, .bool false] else .slice none 0 0) w :=
  lookup_none map_type key_type keyNow_string h.hm h.ents (zero_file w) hx c
theorem look_some {w : World} {d m : Nat} {es : Array MapEntry} {clock : Nat} {hv : Value} {S : St} {F : Nat → Prop} (h : DiskIs w d m es clock hv S F) {x : Nm} {l : List Sec} (hx : get S.files x = some l) (c : Bool) :
    ∃ u, (Instr.lookup 71 (.map (some m)) (.string x) c).run Tryz.prog w = .ok (if c then .tuple #[u, .bool true] else u) w ∧ FileRep w F u l :=
  lookup_some map_type key_type keyNow_string h.hm h.ents hx c

set_option maxHeartbeats 800000 in
/-- check, of a disk that there is. -/
theorem check_any {w : World} {d m : Nat} {es : Array MapEntry} {clock : Nat} {hv : Value} {S : St} {F : Nat → Prop} (h : DiskIs w d m es clock hv S F) (name : Nm) (hs : name.size ≤ maxLen) (there : Bool) :
    Calls Tryz.prog 38 #[.pointer (some ⟨d, 0, none⟩), .string name, .bool there] w fun e w' => e = .returned (.int .i64 (S.check name there)) ∧ w = w' := by
  obtain ⟨c0, _, c2, _⟩ := h.cells
  have hn := named_any name w hs
  cases hb : nameB name with
  | false =>
    have HC : Hid (S.check name there = 1) := by unfold St.check Hid; simp [hb]
    rw [hb] at hn
    clear hb h
    go_enter Tryz.func38, Tryz.ntmps38
    go_wp2_with (go_at_call 70; refine hn.mono ?_; rintro e w' ⟨rfl, rfl⟩)
    go_ret
    exact ⟨ret_int HC.out.symm, rfl⟩
  | true =>
    rw [hb] at hn
    cases hg : get S.files name with
    | none =>
      have hl := look_none h hg true
      simp only [if_true] at hl
      cases there with
      | true =>
        have HC : Hid (S.check name true = 7) := by unfold St.check Hid; simp [hb, hg]
        clear hb h hg
        go_enter Tryz.func38, Tryz.ntmps38
        go_wp2_with (go_at_call 70; refine hn.mono ?_; rintro e w' ⟨rfl, rfl⟩)
        go_ret
        exact ⟨ret_int HC.out.symm, rfl⟩
      | false =>
        cases ho : S.off with
        | true =>
          rw [ho] at c2
          have HC : Hid (S.check name false = 18) := by unfold St.check Hid; simp [hb, ho]
          clear hb h hg ho
          go_enter Tryz.func38, Tryz.ntmps38
          go_wp2_with (go_at_call 70; refine hn.mono ?_; rintro e w' ⟨rfl, rfl⟩)
          go_ret
          exact ⟨ret_int HC.out.symm, rfl⟩
        | false =>
          rw [ho] at c2
          have HC : Hid (S.check name false = 0) := by unfold St.check Hid; simp [hb, ho]
          clear hb h hg ho
          go_enter Tryz.func38, Tryz.ntmps38
          go_wp2_with (go_at_call 70; refine hn.mono ?_; rintro e w' ⟨rfl, rfl⟩)
          go_ret
          exact ⟨ret_int HC.out.symm, rfl⟩
    | some l =>
      obtain ⟨u, hl, _⟩ := look_some h hg true
      simp only [if_true] at hl
      cases ho : S.off with
      | true =>
        rw [ho] at c2
        have HC : Hid (S.check name there = 18) := by unfold St.check Hid; simp [hb, ho, hg]
        clear hb h hg ho
        cases there <;>
        · go_enter Tryz.func38, Tryz.ntmps38
          go_wp2_with (go_at_call 70; refine hn.mono ?_; rintro e w' ⟨rfl, rfl⟩)
          go_ret
          exact ⟨ret_int HC.out.symm, rfl⟩
      | false =>
        rw [ho] at c2
        have HC : Hid (S.check name there = 0) := by unfold St.check Hid; simp [hb, ho, hg]
        clear hb h hg ho
        cases there <;>
        · go_enter Tryz.func38, Tryz.ntmps38
          go_wp2_with (go_at_call 70; refine hn.mono ?_; rintro e w' ⟨rfl, rfl⟩)
          go_ret
          exact ⟨ret_int HC.out.symm, rfl⟩
/-- check, of no disk. -/
theorem check_nil (name : Nm) (hs : name.size ≤ maxLen) (there : Bool) (w : World) :
    Calls Tryz.prog 38 #[.pointer none, .string name, .bool there] w fun e w' => e = .returned (.int .i64 (if nameB name = true then 7 else 1)) ∧ w = w' := by
  have hn := named_any name w hs
  cases hb : nameB name <;>
  · rw [hb] at hn
    clear hb
    go_enter Tryz.func38, Tryz.ntmps38
    go_wp2_with (go_at_call 70; refine hn.mono ?_; rintro e w' ⟨rfl, rfl⟩)
    go_ret
    exact ⟨rfl, rfl⟩
end Go.Proofs.YtggnohbfdlebiaaGreatDoor

/-
  used: how many sectors there are, in whatever order the map is ranged over.
-/
namespace Go.Proofs.YtggnohbfdlebiaaGreatDoor
open Go.RowKit Go.ChangeMaps

def lenV : Value → Nat | .slice _ n _ => n | _ => 0
def lens (l : List MapEntry) : Nat := (l.map fun e => lenV e.val).sum
theorem lens_snoc (l : List MapEntry) (x : MapEntry) : lens (l ++ [x]) = lens l + lenV x.val := by simp [lens]
theorem lens_perm {l l' : List MapEntry} (h : l.Perm l') : lens l = lens l' := (h.map _).sum_nat
theorem lens_ents {w : World} {F : Nat → Prop} : ∀ {es : List MapEntry} {fs : Files}, Ents Value.string (FileRep w F) es fs → lens es = used fs
  | [], [], _ => rfl
  | e :: es, f :: fs, h => by
    obtain ⟨_, a, c, hv, _⟩ := h.2.1
    have := lens_ents h.2.2
    simp only [lens, used, List.map_cons, List.sum_cons] at this ⊢
    rw [this, hv]; rfl
theorem range_at {w : World} {m : Nat} {es : Array MapEntry} {clock : Nat} (hb : w.heap[m]? = some (.map es clock)) :
    (Instr.range 71 (.map (some m))).run Tryz.prog w = .ok (.pointer (some ⟨w.heap.size, 0, none⟩)) (w.alloc (.mapIter (some m) clock #[] clock)) := range_run map_type hb

set_option maxHeartbeats 1000000 in
theorem used_any {w : World} {d m : Nat} {es : Array MapEntry} {clock : Nat} {hv : Value} {S : St} {F : Nat → Prop} (h : DiskIs w d m es clock hv S F) :
    Calls Tryz.prog 39 #[.pointer (some ⟨d, 0, none⟩)] w fun e w' => e = .returned (.int .i64 (used S.files)) ∧ Kp (fun _ => False) w w' := by
  obtain ⟨c0, _⟩ := h.cells
  have hr := range_at h.hm
  have hst := IterIs.start h.hm h.ents.born h.ents.apart
  have hsum : lens es.toList = used S.files := lens_ents h.ents.ents
  have hub : used S.files ≤ 65536 := by have := h.ok.used; have := h.ok.room; omega
  have hmlt := blk_lt h.hm
  have HS := Lib.hid hsum
  clear hsum
  go_enter Tryz.func39, Tryz.ntmps39
  go_wp2
  go_loopw [3] (fun n wr => ∃ done left, IterIs wr w.heap.size m es clock done left ∧ n = .int .i64 (lens done) ∧ Kp (fun _ => False) w wr) (fun _ wr => iterLeft wr w.heap.size es.size)
  case atStart => exact ⟨[], es.toList, hst, rfl, (Kp.refl _ _).alloc _⟩
  case round =>
    obtain ⟨done, left, hit, rfl, hkp⟩ := hrel
    by_cases hl : left = []
    · subst hl
      have hnx := next_over (P := Tryz.prog) hit
      have hend : Hid (lens done = used S.files) := by
        have := lens_perm hit.perm; rw [List.append_nil] at this; exact this.trans HS.out
      go_wp2
      go_ret
      exact ⟨ret_int (by rw [hend.out]), hkp⟩
    · obtain ⟨x, left', n, hp, hnx, hit'⟩ := next_more (P := Tryz.prog) hit hl (by omega)
      obtain ⟨p, hpm, hkey, _, a, c, hval, _⟩ := h.ents.ents.mem x (hit'.perm.mem_iff.1 (by simp))
      have hk2 : Kp (fun _ => False) w (setBlock (wr.drewN n) w.heap.size (.mapIter (some m) clock ((done ++ [x]).map (·.born)).toArray clock)) := (hkp.drewN n).setObj (.inr (Nat.le_refl _)) _
      have hlt : iterLeft (setBlock (wr.drewN n) w.heap.size (.mapIter (some m) clock ((done ++ [x]).map (·.born)).toArray clock)) w.heap.size es.size < iterLeft wr w.heap.size es.size := by
        rw [hit.left_eq, hit'.left_eq]; have := hp.length_eq; simp at this; omega
      have hln : lens (done ++ [x]) = lens done + p.2.length := by rw [lens_snoc, hval]; rfl
      have hle : lens done + p.2.length ≤ used S.files := by
        rw [← hln, ← HS.out, ← lens_perm hit'.perm]; simp [lens]
      generalize setBlock (wr.drewN n) w.heap.size (.mapIter (some m) clock ((done ++ [x]).map (·.born)).toArray clock) = w2 at *
      have hen := entry_run (P := Tryz.prog) hit'
      rw [hval] at hen hnx
      have HL := Lib.hid hln
      clear hln hval hkey hpm hp hl
      go_wp2
      go_roundw
      case rel => exact ⟨done ++ [x], left', hit', by rw [HL.out]; go_num, hk2⟩
      case measure => exact hlt
end Go.Proofs.YtggnohbfdlebiaaGreatDoor

/-
  slices.Clip and slices.Clone at a file's sectors; synced; the closures of the disk's operations.
-/
namespace Go.Proofs.YtggnohbfdlebiaaGreatDoor
open Go.RowKit Go.ChangeMaps

theorem Clip_any (p : Option Addr) (n c : Nat) (hn : n ≤ c) (_ : c ≤ maxLen) (w : World) :
    Calls Tryz.prog 43 #[.slice p n c] w fun e w' => e = .returned (.slice p n n) ∧ w = w' := by
  have hs : ∀ w, (Instr.slice 87 (.slice p n c) none (some (.int .i64 n)) (some (.int .i64 n))).run Tryz.prog w = .ok (.slice p n n) w := by
    intro w
    obtain ⟨i, z, hi, _⟩ := info_sec_zero
    have h1 : ¬ ((n : Int) < 0) := by omega
    cases p with
    | none => simp [Instr.slice, run_underlying slice_type, Instr.sliceBounds, Instr.sliceBound, asIntOf, hn, sizeOf, typeInfo, hi]
    | some a => simp [Instr.slice, run_underlying slice_type, Instr.sliceBounds, Instr.sliceBound, asIntOf, hn, sizeOf, typeInfo, hi, Addr.add]
  go_enter Tryz.func43, Tryz.ntmps43
  go_wp2
  go_ret
  exact ⟨rfl, rfl⟩

/-- Handed back: a slice in new memory, of these sectors. -/
def NewFile (w : World) (l : List Sec) (e : Ending) (w' : World) : Prop := ∃ v, e = .returned v ∧ FileRep w' (fun k => w.heap.size ≤ k) v l ∧ Kp (fun _ => False) w w'

theorem Clone_any {w : World} {F : Nat → Prop} {v : Value} {l : List Sec} (h : FileRep w F v l) (hl : l.length ≤ 1000000) :
    Calls Tryz.prog 58 #[v] w (NewFile w l) := by
  have h' := h
  obtain ⟨h0, p, c, rfl, hle, hcm, hb⟩ := h'
  have hq : (binOp .eql 87 (.slice p l.length c) (.slice none 0 0)).run Tryz.prog w = .ok (.bool p.isNone) w := Lib.run_eql_slice_nil w _ _ _ _ _ _ _ slice_type
  have HL := Lib.hid hl
  clear hl
  cases p with
  | none =>
    have hl0 : l = [] := by
      cases l with
      | nil => rfl
      | cons a l => obtain ⟨_, _, hn, _⟩ := hb (by simp); cases hn
    subst hl0
    simp only [List.length_nil, Option.isNone] at hq
    simp only [List.length_nil]
    clear hcm hb h h0 hle
    go_enter Tryz.func58, Tryz.ntmps58
    go_wp2
    go_ret
    exact ⟨_, rfl, fileRep_nil _ _, Kp.refl _ _⟩
  | some p =>
    simp only [Option.isNone] at hq
    have hbs : (Instr.buildSlice 87 0 #[]).run Tryz.prog w = .ok (.slice (some ⟨w.heap.size, 0, none⟩) 0 0) (w.alloc (.cells #[] 93)) := by kernel_rfl
    have h1 : FileRep (w.alloc (.cells #[] 93)) (fun _ => False) (.slice (some ⟨w.heap.size, 0, none⟩) 0 0) [] := ⟨by simp, _, 0, rfl, by simp, by simp [maxLen], by simp⟩
    have h2 : FileRep (w.alloc (.cells #[] 93)) F (.slice (some p) l.length c) l := h.kept ((Kp.refl (fun _ => False) w).alloc _) (fun _ _ h => h)
    clear hcm hb
    obtain ⟨v', w', hap, hv', hk⟩ := append_secs h1 (by rintro _ _ _ ⟨⟩; rfl) h2 (by simpa using HL.out) 87
    clear h1 h2 h h0 hle
    go_enter Tryz.func58, Tryz.ntmps58
    go_wp2_with (at_builtin; refine wpList_append_run rfl _ _ _ _ rfl rfl rfl hap ?_)
    go_ret
    refine ⟨_, rfl, ?_, ((Kp.refl (fun _ => False) w).alloc _).trans hk⟩
    rw [List.nil_append] at hv'
    refine hv'.mono ?_
    intro k hk; simp at hk; omega

set_option maxHeartbeats 800000 in
theorem synced_any {w : World} {F : Nat → Prop} {v : Value} {l : List Sec} (h : FileRep w F v l) (hl : l.length ≤ 1000000) :
    Calls Tryz.prog 63 #[v] w (NewFile w (syncAll l)) := by
  have hcl := Clone_any h hl
  have HL := Lib.hid hl
  clear h hl
  go_enter Tryz.func63, Tryz.ntmps63
  go_wp2_with fail
  refine hcl.mono ?_
  rintro e w1 ⟨v', rfl, hf, hk⟩
  obtain ⟨h0, p, c, hv, hle, hcm, hb⟩ := hf
  rw [hv]
  clear hv
  by_cases hne : l = []
  · subst hne
    go_wp2
    go_loopw [8] (fun i wr => i = .int .i64 0 ∧ wr = w1) (fun _ _ => 0)
    case atStart => exact ⟨rfl, rfl⟩
    case round =>
      obtain ⟨rfl, rfl⟩ := hrel
      go_wp2
      go_ret
      exact ⟨_, rfl, ⟨by simp [syncAll], p, c, rfl, Nat.zero_le _, hcm, fun h => absurd rfl h⟩, hk⟩
  · obtain ⟨b, cs, rfl, hbw, hblk, htake⟩ := hb hne
    have hpos : 0 < l.length := List.length_pos_iff.2 hne
    have hlm : l.length ≤ 1000000 := HL.out
    clear hb
    go_wp2
    go_loopw [8] (fun i wr => ∃ k : Nat, k ≤ l.length ∧ i = .int .i64 k ∧ (∃ cs, wr.heap[b]? = some (.cells cs 93 (0, 0)) ∧ cs.toList.take (33 * l.length) = fileCells (syncN k l)) ∧ Kp (fun k => w.heap.size ≤ k) w wr) (fun i _ => l.length - (intOf i).toNat)
    case atStart => exact ⟨0, Nat.zero_le _, rfl, ⟨cs, hblk, by rw [syncN_zero]; exact htake⟩, hk.mono (fun _ h => h.elim)⟩
    case round =>
      obtain ⟨k, hk1, rfl, ⟨ds, hds, htk⟩, hkp⟩ := hrel
      clear hblk htake cs
      by_cases hlt : k < l.length
      · obtain ⟨q, hq⟩ := syncN_cell h0 (j := k) hlt
        have hcell : wr.cell? ⟨b, k * 33 + 32, none⟩ = some (.bool q) := by
          rw [blk_cell hds]
          rw [← htk, List.getElem?_take, if_pos (by omega)] at hq
          simpa using hq
        have hfree := blk_free hds
        have hnext := syncN_cells h0 hlt
        have HN : Hid (∃ cs, (wr.setCell ⟨b, k * 33 + 32, none⟩ (.bool true)).heap[b]? = some (.cells cs 93 (0, 0)) ∧ cs.toList.take (33 * l.length) = fileCells (syncN (k + 1) l)) := by
          refine ⟨_, blk_set hds _ _, ?_⟩
          rw [Array.toList_setIfInBounds, List.take_set, htk, hnext]
        clear hnext htk hq hds
        go_wp2
        go_roundw
        case rel => exact ⟨k + 1, by omega, by go_num, HN.out, hkp.setCell (.inr hbw) _⟩
        case measure => simp [intOf]; omega
      · obtain rfl : k = l.length := by omega
        rw [syncN_all] at htk
        have HT := Lib.hid htk
        clear htk hlt
        go_wp2
        go_ret
        have hsl : (syncAll l).length = l.length := by simp [syncAll]
        refine ⟨.slice (some ⟨b, 0, none⟩) l.length c, rfl, ⟨?_, some ⟨b, 0, none⟩, c, ?_, ?_, hcm, fun _ => ⟨b, ds, rfl, hbw, hds, ?_⟩⟩, ?_⟩
        · intro s hs; rw [← syncN_all] at hs; exact setSync_len h0 _ s hs
        · rw [hsl]
        · rw [hsl]; exact hle
        · rw [hsl]; exact HT.out
        · exact hkp.mono' (fun k hk => .inr hk)
end Go.Proofs.YtggnohbfdlebiaaGreatDoor

/-
  Lists of one-cell elements in memory: append onto a slice of no room; Twin, SameBytes, fate.
-/
namespace Go.Proofs.YtggnohbfdlebiaaGreatDoor
open Go.RowKit Go.ChangeMaps

/-- These values lie there, outside F. -/
def CellsAt (w : World) (F : Nat → Prop) (v : Value) (vs : List Value) : Prop :=
  ∃ p c, v = .slice p vs.length c ∧ vs.length ≤ c ∧ ∀ (j : Nat) x, vs[j]? = some x → ∃ b o, p = some ⟨b, o, none⟩ ∧ ¬ F b ∧ w.cell? ⟨b, o + j, none⟩ = some x
theorem CellsAt.kept {w w' : World} {F F' : Nat → Prop} {v : Value} {vs : List Value} (h : CellsAt w F v vs) (hk : Kp F w w') (hF : ∀ k, F' k → F k ∨ w.heap.size ≤ k) : CellsAt w' F' v vs := by
  obtain ⟨p, c, rfl, hc, h⟩ := h
  refine ⟨p, c, rfl, hc, fun j x hj => ?_⟩
  obtain ⟨b, o, e, hb, hx⟩ := h j x hj
  refine ⟨b, o, e, fun h' => ?_, hk.cell hx hb⟩
  rcases hF b h' with h1 | h1
  · exact hb h1
  · have : b < w.heap.size := block_lt_of_cell hx
    omega
theorem CellsAt.mono {w : World} {F F' : Nat → Prop} {v : Value} {vs : List Value} (h : CellsAt w F v vs) (hF : ∀ k, F' k → F k) : CellsAt w F' v vs := by
  obtain ⟨p, c, rfl, hc, h⟩ := h
  exact ⟨p, c, rfl, hc, fun j x hj => let ⟨b, o, e, hb, hx⟩ := h j x hj; ⟨b, o, e, fun h' => hb (hF b h'), hx⟩⟩
/-- All of them lie in one block. -/
theorem CellsAt.holds {w : World} {F : Nat → Prop} {p : Option Addr} {n c : Nat} {vs : List Value} (h : CellsAt w F (.slice p n c) vs) :
    n = vs.length ∧ vs.length ≤ c ∧ ∃ b off, (n ≠ 0 → p = some ⟨b, off, none⟩) ∧ ∀ (j : Nat) x, vs[j]? = some x → w.cell? ⟨b, off + j, none⟩ = some x := by
  obtain ⟨p', c', e, hc, h⟩ := h
  injection e with e1 e2 e3
  subst e1 e2 e3
  refine ⟨rfl, hc, ?_⟩
  cases vs with
  | nil => exact ⟨0, 0, fun h => absurd rfl h, fun j v hj => by simp at hj⟩
  | cons x vs =>
    obtain ⟨b, o, e, _, _⟩ := h 0 x rfl
    refine ⟨b, o, fun _ => e, fun j v hj => ?_⟩
    obtain ⟨b', o', e', _, hc'⟩ := h j v hj
    rw [e] at e'
    injection e' with e'
    injection e' with e1 e2 _
    subst e1 e2
    exact hc'
theorem CellsAt.take {w : World} {F : Nat → Prop} {p : Option Addr} {n c : Nat} {vs : List Value} (h : CellsAt w F (.slice p n c) vs) {k : Nat} (hk : k ≤ n) : CellsAt w F (.slice p k c) (vs.take k) := by
  obtain ⟨p', c', e, hc, h⟩ := h
  injection e with e1 e2 e3
  subst e1 e2 e3
  have hl : (vs.take k).length = k := by rw [List.length_take]; omega
  refine ⟨p, c, by rw [hl], by omega, fun j x hj => ?_⟩
  rw [List.getElem?_take] at hj
  split at hj
  · exact h j x hj
  · cases hj

theorem info_u8 : ∃ i z, Tryz.prog.info? 5 = some i ∧ i.zero = some z ∧ i.size = 1 ∧ i.bytes = 1 ∧ z.cells.size = 1 := by
  have h : (Tryz.prog.info? 5).map (fun i => (i.zero.map fun z => z.cells.size, i.size, i.bytes)) = some (some 1, 1, 1) := by kernel_rfl
  obtain ⟨i, hi, he⟩ := Option.map_eq_some_iff.1 h
  simp only [Prod.mk.injEq, Option.map_eq_some_iff] at he
  obtain ⟨⟨z, hz, hs⟩, h1, h2⟩ := he
  exact ⟨i, z, hi, hz, h1, h2, hs⟩
theorem info_bool : ∃ i z, Tryz.prog.info? 4 = some i ∧ i.zero = some z ∧ i.size = 1 ∧ i.bytes = 1 ∧ z.cells.size = 1 := by
  have h : (Tryz.prog.info? 4).map (fun i => (i.zero.map fun z => z.cells.size, i.size, i.bytes)) = some (some 1, 1, 1) := by kernel_rfl
  obtain ⟨i, hi, he⟩ := Option.map_eq_some_iff.1 h
  simp only [Prod.mk.injEq, Option.map_eq_some_iff] at he
  obtain ⟨⟨z, hz, hs⟩, h1, h2⟩ := he
  exact ⟨i, z, hi, hz, h1, h2, hs⟩
theorem alloc_size' (w : World) (o : Obj) : (w.alloc o).heap.size = w.heap.size + 1 := by simp
set_option maxRecDepth 100000 in
/-- append of one-cell elements onto an empty slice without room. -/
theorem append_new {t e : TypeId} {i : TypeInfo} {z : Value} (ht : Tryz.prog.underlying t = some (.slice e)) (hi : Tryz.prog.info? e = some i) (hz : i.zero = some z) (h1 : i.size = 1) (hb : i.bytes = 1)
    {w : World} {F : Nat → Prop} {x : Value} {vs : List Value} (hx : CellsAt w F x vs) (hn : vs.length ≤ 140737488351232) (b0 : Nat) (hb0 : b0 < w.heap.size) (ty : TypeId) :
    ∃ g c w', (Builtin.append_ #[t, t] ty #[.slice (some ⟨b0, 0, none⟩) 0 0, x]).run Tryz.prog w = .ok (.slice (some ⟨g, 0, none⟩) vs.length c) w' ∧ vs.length ≤ c ∧ (g = b0 ∨ g = w.heap.size) ∧ g < w'.heap.size ∧
      (∀ (j : Nat) x, vs[j]? = some x → w'.cell? ⟨g, 0 + j, none⟩ = some x) ∧ Kp (fun _ => False) w w' := by
  obtain ⟨p, c, rfl, hc, h⟩ := hx
  cases vs with
  | nil =>
    refine ⟨b0, 0, w, ?_, Nat.le_refl _, .inl rfl, hb0, fun j x hj => by simp at hj, Kp.refl _ _⟩
    have hf : (Builtin.firstCells i.size 0 (.slice p 0 c)).run Tryz.prog w = .ok #[] w := by
      cases p with
      | none => simp [Builtin.firstCells]
      | some q => simp [Builtin.firstCells, loadCells, loadCellsFrom]
    simp [Builtin.append_, run_underlying ht, sizeOf, typeInfo, hi, Builtin.lenOf, hf, storeCells]
  | cons v vs =>
    obtain ⟨n, hvn⟩ : ∃ n, (v :: vs).length = n := ⟨_, rfl⟩
    have hpos : 0 < n := by rw [← hvn]; simp
    obtain ⟨bb, o, rfl, _, _⟩ := h 0 v rfl
    have hnews : ∀ (j : Nat) x, (v :: vs)[j]? = some x → w.cell? ((⟨bb, o, none⟩ : Addr).add j) = some x := by
      intro j x hj
      obtain ⟨b', o', e', _, hc'⟩ := h j x hj
      injection e' with e'
      injection e' with e1 e2 _
      subst e1 e2
      rw [Addr.add_lit]; exact hc'
    rw [hvn] at hn hc ⊢
    have hd : (w.drew).heap.size = w.heap.size := rfl
    have hfit : Builtin.nextslicecap (0 + n) 0 * i.bytes ≤ 281474976710656 := by rw [Nat.zero_add, nextslicecap_zero hpos, hb]; omega
    have hcap := grownCap_ge w n 0 e
    have hrun := run_append_grow (P := Tryz.prog) w t ty e i z ht hi hz ⟨b0, 0, none⟩ 0 0 [] (by simp) (by simp) ⟨bb, o, none⟩ n c (v :: vs) (by rw [hvn, h1]; omega) hnews (by omega) (by omega) hfit
    simp only [Nat.zero_add] at hrun
    rw [toArr2] at hrun
    refine ⟨w.heap.size, _, _, hrun, hcap, .inr rfl, by rw [alloc_size', hd]; omega, fun j x hj => ?_, (Kp.refl _ _).drew.alloc _⟩
    have hh : (w.drew.alloc (.cells ([] ++ (v :: vs) ++ (Builtin.zeroCells z.cells (grownCap w n 0 e - n)).toList).toArray e)).heap[w.heap.size]? = some (.cells ([] ++ (v :: vs) ++ (Builtin.zeroCells z.cells (grownCap w n 0 e - n)).toList).toArray e (0, 0)) := heap_alloc_new w.drew _
    rw [Nat.zero_add, blk_cell hh]
    have hlt := (List.getElem?_eq_some_iff.1 hj).1
    rw [List.getElem?_toArray, List.nil_append, List.getElem?_append_left hlt]
    exact hj

/-- A copy in new memory. -/
def NewRow (w : World) (vs : List Value) (v : Value) (w' : World) : Prop :=
  ∃ g c, v = .slice (some ⟨g, 0, none⟩) vs.length c ∧ vs.length ≤ c ∧ w.heap.size ≤ g ∧ g < w'.heap.size ∧ (∀ (j : Nat) x, vs[j]? = some x → w'.cell? ⟨g, 0 + j, none⟩ = some x) ∧ Kp (fun _ => False) w w'
theorem Twin_any {w : World} {F : Nat → Prop} {v : Value} {vs : List Value} (h : CellsAt w F v vs) (hl : vs.length ≤ 140737488351232) :
    Calls Tryz.prog 14 #[v] w fun e w' => ∃ u, e = .returned u ∧ NewRow w vs u w' := by
  obtain ⟨i, z, hi, hz, h1, hb, _⟩ := info_u8
  have h2 : CellsAt (w.alloc (.cells #[] 5)) (fun k => F k ∧ k < w.heap.size) v vs := (h.mono fun _ h => h.1).kept ((Kp.refl _ w).alloc _) fun _ h => .inl h
  obtain ⟨g, c, w', hap, hc, hg, hgs, hx, hk⟩ := append_new (t := 33) (by kernel_rfl) hi hz h1 hb h2 hl w.heap.size (by simp) 33
  have HC := Lib.hid hx
  have HK := Lib.hid hk
  have HG := Lib.hid hg
  have HS := Lib.hid hgs
  clear h h2 hx hk hi hz hl hg hgs
  go_enter Tryz.func14, Tryz.ntmps14
  go_wp2_with (at_builtin; refine wpList_append_run rfl _ _ _ _ rfl rfl rfl hap ?_)
  go_ret
  refine ⟨_, rfl, g, c, rfl, hc, ?_, HS.out, HC.out, ((Kp.refl (fun _ => False) w).alloc _).trans HK.out⟩
  have h := HG.out
  rw [alloc_size'] at h
  omega

theorem u8_inj {a b : List Int} : a.map (Value.int .u8) = b.map (Value.int .u8) ↔ a = b := ⟨fun h => List.map_inj_right (f := Value.int .u8) (fun x y e => by injection e) |>.1 h, fun h => by rw [h]⟩
set_option maxHeartbeats 2000000 in
set_option maxRecDepth 100000 in
theorem SameBytes_any {w : World} {F G : Nat → Prop} {v1 v2 : Value} {a b : List Int} (h1 : CellsAt w F v1 (a.map (Value.int .u8))) (h2 : CellsAt w G v2 (b.map (Value.int .u8))) (ha : a.length ≤ 140737488351232) :
    Calls Tryz.prog 21 #[v1, v2] w fun e w' => e = .returned (.bool (decide (a = b))) ∧ Kp (fun _ => False) w w' := by
  obtain ⟨p1, c1, rfl, -, H1⟩ := h1
  obtain ⟨p2, c2, rfl, -, H2⟩ := h2
  rw [List.length_map, List.length_map]
  have H1 := Lib.hid H1
  have H2 := Lib.hid H2
  by_cases hl : a.length = b.length
  · obtain ⟨n, hn⟩ : ∃ n, a.length = n := ⟨_, rfl⟩
    have hbn : b.length = n := by omega
    rw [hn, hbn]
    rw [hn] at ha
    have HN := Lib.hid hn
    have HB := Lib.hid hbn
    clear hl hn hbn
    go_enter Tryz.func21, Tryz.ntmps21
    go_wp2
    go_loopw [13] (fun vi wr => ∃ i : Nat, i ≤ n ∧ vi = .int .i64 i ∧ Kp (fun _ => False) w wr ∧ a.take i = b.take i) (fun i _ => n - (intOf i).toNat)
    case atStart => exact ⟨0, Nat.zero_le _, rfl, Kp.refl _ _, by simp⟩
    case round =>
      obtain ⟨i, hi, rfl, hkp, hpre⟩ := hrel
      have HK := Lib.hid hkp
      have HP := Lib.hid hpre
      by_cases hlt : i < n
      · have hai : i < a.length := by rw [HN.out]; exact hlt
        have hbi : i < b.length := by rw [HB.out]; exact hlt
        obtain ⟨b1, o1, rfl, -, hc1⟩ := H1.out i (.int .u8 a[i]) (by rw [List.getElem?_map, List.getElem?_eq_getElem hai]; rfl)
        obtain ⟨b2, o2, rfl, -, hc2⟩ := H2.out i (.int .u8 b[i]) (by rw [List.getElem?_map, List.getElem?_eq_getElem hbi]; rfl)
        have hr1 := hkp.cell hc1 id
        have hr2 := hkp.cell hc2 id
        obtain ⟨x, hx⟩ : ∃ x, a[i] = x := ⟨_, rfl⟩
        obtain ⟨y, hy⟩ : ∃ y, b[i] = y := ⟨_, rfl⟩
        rw [hx] at hr1
        rw [hy] at hr2
        have HA : Hid (a[i]? = some x) := by rw [List.getElem?_eq_getElem hai, hx]; rfl
        have HY : Hid (b[i]? = some y) := by rw [List.getElem?_eq_getElem hbi, hy]; rfl
        clear hx hy hc1 hc2 hai hbi hkp hpre
        by_cases hxy : x = y
        · subst hxy
          go_wp2
          go_quiet (fail)
          go_wp2
          go_roundw
          case rel =>
            refine ⟨i + 1, by omega, by go_num, ?_, ?_⟩
            · exact HK.out.trans ((Kp.refl _ _).drewN _)
            · rw [List.take_add_one, List.take_add_one, HP.out, HA.out, HY.out]
          case measure => simp [intOf]; omega
        · go_wp2
          go_quiet (fail)
          go_wp2
          go_ret
          refine ⟨?_, HK.out.trans ((Kp.refl _ _).drewN _)⟩
          have : a ≠ b := by
            rintro rfl
            have h1 := HA.out
            rw [HY.out] at h1
            injection h1 with h1
            exact hxy h1.symm
          exact congrArg (fun x => Ending.returned (.bool x)) (decide_eq_false this).symm
      · go_wp2
        go_ret
        refine ⟨?_, HK.out⟩
        have : a = b := by
          have h := HP.out
          rw [List.take_of_length_le (by rw [HN.out]; omega), List.take_of_length_le (by rw [HB.out]; omega)] at h
          exact h
        exact congrArg (fun x => Ending.returned (.bool x)) (decide_eq_true this).symm
  · obtain ⟨n, hn⟩ : ∃ n, a.length = n := ⟨_, rfl⟩
    obtain ⟨m, hm⟩ : ∃ m, b.length = m := ⟨_, rfl⟩
    rw [hn, hm]
    rw [hn] at ha hl
    rw [hm] at hl
    have hne : a ≠ b := by
      rintro rfl
      exact hl (hn.symm.trans hm)
    have HN := Lib.hid hne
    clear hn hm hne
    go_enter Tryz.func21, Tryz.ntmps21
    go_wp2
    go_ret
    refine ⟨?_, Kp.refl _ _⟩
    exact congrArg (fun x => Ending.returned (.bool x)) (decide_eq_false HN.out).symm
theorem oper_append2 {P : Program} {o : Oper} {a : Act} {w w' : World} {K : Act → World → Prop} {Q : Exit → Act → World → Prop} (s x : Operand) (t tx : TypeId)
    (ho : o.op = .call { callee := .builtin .append, args := #[s, x], argTypes := #[t, tx] }) {vs vx v : Value} (hs : a.eval s = vs) (hx : a.eval x = vx)
    (hr : (Builtin.append_ #[t, tx] o.type #[vs, vx]).run P w = .ok v w') (h : K (a.put o.dst v) w') : Oper.wp P o a w K Q := by
  unfold Oper.wp execOp
  simp only [ho, resolve, invoke, builtin, Sem.run_bind, Sem.run_pure, Result.andThen_ok, List.map_toArray, List.map_cons, List.map_nil, hs, hx, hr]
  exact h
theorem oper_store_agg {P : Program} {o : Oper} {a : Act} {w : World} {K : Act → World → Prop} {Q : Exit → Act → World → Prop} (ty : TypeId) (x y : Operand) (ho : o.op = .store ty x y)
    {g off : Nat} {t : TypeId} {cur cells : Array Value} (hx : a.eval x = .pointer (some ⟨g, off, none⟩)) (hy : a.eval y = .agg cells) (hg : w.heap[g]? = some (.cells cur t (0, 0)))
    (hi : (P.info? ty).map (·.size) = some cells.size) (hl : off + cells.size ≤ cur.size) (h1 : ∀ v ∈ cells.toList, v.oneCell' = true)
    (h : K (a.put o.dst undef) (w.setRow g (splice cur off cells.toList))) : Oper.wp P o a w K Q := by
  obtain ⟨i, hi1, hi2⟩ := Option.map_eq_some_iff.1 hi
  have hs := storeCells_run (P := P) hg cells.toList (by simpa using hl) h1
  unfold Oper.wp execOp
  simp only [ho, hx, hy, Instr.storeAt, Instr.sureAddr, Sem.run_bind, Sem.run_pure, Result.andThen_ok]
  have hsv : (storeVar ty ⟨g, off, none⟩ (.agg cells)).run P w = .ok () (w.setRow g (splice cur off cells.toList)) := by
    simp [storeVar, sizeOf, typeInfo, hi1, Value.cells, ← hi2, hs]
  simp only [hsv, Result.andThen_ok]
  exact h
/-- A fate of its own: the list of bools lies in new memory. -/
def FateRow (w : World) (dn : Bool) (L : List Bool) (e : Ending) (w' : World) : Prop :=
  ∃ g c, e = .returned (.agg #[.bool dn, .slice (some ⟨g, 0, none⟩) L.length c]) ∧ L.length ≤ c ∧ w.heap.size ≤ g ∧ g < w'.heap.size ∧
    (∀ (j : Nat) x, (L.map Value.bool)[j]? = some x → w'.cell? ⟨g, 0 + j, none⟩ = some x) ∧ Kp (fun _ => False) w w'
set_option maxHeartbeats 2000000 in
set_option maxRecDepth 100000 in
theorem fate_any {w : World} {F : Nat → Prop} {dn : Bool} {p : Option Addr} {c : Nat} {L : List Bool} (h : CellsAt w F (.slice p L.length c) (L.map Value.bool)) (hl : L.length ≤ 140737488351232) :
    Calls Tryz.prog 28 #[.agg #[.bool dn, .slice p L.length c]] w (FateRow w dn L) := by
  obtain ⟨i, z, hi, hz, h1, hb, _⟩ := info_bool
  obtain ⟨w3, hw3⟩ : ∃ w3, w3 = (((w.alloc (.cells #[.bool dn, .slice p L.length c] 61)).alloc (.cells #[.bool false, .slice none 0 0] 67)).alloc (.cells #[] 4)).drew := ⟨_, rfl⟩
  have k3 : Kp (fun _ => False) w w3 := by rw [hw3]; exact ((((Kp.refl _ w).alloc _).alloc _).alloc _).drew
  have s3 : w3.heap.size = w.heap.size + 1 + 1 + 1 := by rw [hw3]; simp only [World.drew]; rw [alloc_size', alloc_size', alloc_size']
  have hx : CellsAt w3 (fun k => F k ∧ k < w.heap.size) (.slice p L.length c) (L.map Value.bool) := (h.mono fun _ h => h.1).kept (k3.mono fun _ h => h.elim) fun _ h => .inl h
  obtain ⟨g, c2, w', hap, hc, hg, hgs, hcl, hk⟩ := append_new (t := 59) (by kernel_rfl) hi hz h1 hb hx (by simpa using hl) (w.heap.size + 1 + 1) (by omega) 59
  rw [List.length_map] at hap hc
  have e0 : w3.cell? ⟨w.heap.size, 0, none⟩ = some (.bool dn) := by rw [hw3]; exact (blk_cell (blk_drew (blk_alloc _ (blk_alloc _ (heap_alloc_new w _)))) 0)
  have e1 : w3.cell? ⟨w.heap.size, 1, none⟩ = some (.slice p L.length c) := by rw [hw3]; exact (blk_cell (blk_drew (blk_alloc _ (blk_alloc _ (heap_alloc_new w _)))) 1)
  have d0 : ((w.alloc (.cells #[.bool dn, .slice p L.length c] 61)).alloc (.cells #[.bool false, .slice none 0 0] 67)).drew.cell? ⟨w.heap.size, 0, none⟩ = some (.bool dn) := (blk_cell (blk_drew (blk_alloc _ (heap_alloc_new w _))) 0)
  have d1 : ((w.alloc (.cells #[.bool dn, .slice p L.length c] 61)).alloc (.cells #[.bool false, .slice none 0 0] 67)).drew.cell? ⟨w.heap.size, 1, none⟩ = some (.slice p L.length c) := (blk_cell (blk_drew (blk_alloc _ (heap_alloc_new w _))) 1)
  have f0 := hk.cell e0 id
  have f1 := hk.cell e1 id
  have r3 : w3.heap[w.heap.size + 1]? = some (.cells #[.bool false, .slice none 0 0] 67 (0, 0)) := by
    have hs : (w.alloc (.cells #[.bool dn, .slice p L.length c] 61)).heap.size = w.heap.size + 1 := alloc_size' _ _
    rw [hw3, ← hs]
    exact blk_drew (blk_alloc _ (heap_alloc_new _ _))
  have r4 := hk.blk r3 id
  obtain ⟨w5, hw5⟩ : ∃ w5, w5 = w'.setRow (w.heap.size + 1) (splice #[.bool false, .slice none 0 0] 0 (#[.bool dn, .slice (some ⟨g, 0, none⟩) L.length c2] : Array Value).toList) := ⟨_, rfl⟩
  have r5 : w5.heap[w.heap.size + 1]? = some (.cells #[.bool dn, .slice (some ⟨g, 0, none⟩) L.length c2] 67 (0, 0)) := by rw [hw5]; exact setRow_heap _ _ _ _ _ _ r4
  have q0 := blk_cell r5 0
  have q1 := blk_cell r5 1
  simp only [List.getElem?_toArray, List.getElem?_cons_zero, List.getElem?_cons_succ] at q0 q1
  have k5 : Kp (fun k => k = w.heap.size + 1) w' w5 := by
    rw [hw5]; exact ⟨rfl, rfl, rfl, by simp, fun k _ hk => by simp only [World.setRow, Array.getElem?_modify]; rw [if_neg (Ne.symm hk)]⟩
  have g0 := k5.cell f0 (by omega)
  have g1 := k5.cell f1 (by omega)
  have HC := Lib.hid hcl
  have HK := Lib.hid (k3.trans hk)
  have HG := Lib.hid hg
  have HS := Lib.hid hgs
  have S3 := Lib.hid s3
  rw [hw3] at e0 e1 hap
  clear hcl hk hg hgs s3 k3 hx r3 h hi hz h1 hb hl hw3
  go_enter Tryz.func28, Tryz.ntmps28
  go_wp2
  refine wp_region_held_drew (S := (fun w' => w'.cell? ⟨w.heap.size, 0, none⟩ = some (.bool dn) ∧ w'.cell? ⟨w.heap.size, 1, none⟩ = some (.slice p L.length c))) (by kernel_rfl) ⟨d0, d1⟩ (fun hHeld => ?_)
  refine take_yes (i := 0) (v := ?_) (some 3) rfl rfl (by kernel_rfl) (by kernel_rfl) (by kernel_rfl) (fun _ _ _ h => h) (Or.inl ⟨by rfl, ?_⟩) (by assumption) ?_
  rotate_left
  · (intro w hSw; (try dsimp only at hSw); go_simp <;> (try with_reducible rfl))
  (try simp only [Act.put, List.setIfInBounds_toArray, List.set_cons_zero, List.set_cons_succ])
  refine take_yes (i := 1) (v := ?_) (some 4) rfl rfl (by kernel_rfl) (by kernel_rfl) (by kernel_rfl) (fun _ _ _ h => h) (Or.inl ⟨by rfl, ?_⟩) (by assumption) ?_
  rotate_left
  · (intro w hSw; (try dsimp only at hSw); go_simp <;> (try with_reducible rfl))
  (try simp only [Act.put, List.setIfInBounds_toArray, List.set_cons_zero, List.set_cons_succ])
  refine take_yes (i := 3) (v := ?_) (some 6) rfl rfl (by kernel_rfl) (by kernel_rfl) (by kernel_rfl) (fun _ _ _ h => h) (Or.inl ⟨by rfl, ?_⟩) (by assumption) ?_
  rotate_left
  · (intro w hSw; (try dsimp only at hSw); go_simp <;> (try with_reducible rfl))
  (try simp only [Act.put, List.setIfInBounds_toArray, List.set_cons_zero, List.set_cons_succ])
  refine take_yes (i := 4) (v := ?_) (some 7) rfl rfl (by kernel_rfl) (by kernel_rfl) (by kernel_rfl) (fun _ _ _ h => h) (Or.inl ⟨by rfl, ?_⟩) (by assumption) ?_
  rotate_left
  · (intro w hSw; (try dsimp only at hSw); go_simp <;> (try with_reducible rfl))
  (try simp only [Act.put, List.setIfInBounds_toArray, List.set_cons_zero, List.set_cons_succ])
  refine wpAnyH_ready (rs := [2]) (by kernel_rfl) (by simp) ?_
  refine AllReadyH.cons (o := _) rfl (fun K hK => ?_) AllReadyH.nil
  go_simp
  skip
  refine hK.out _ _ ⟨e0, e1⟩ (fun hHeld => ?_)
  clear hK K
  (try simp only [Act.put, List.setIfInBounds_toArray, List.set_cons_zero, List.set_cons_succ])
  refine wpAnyH_ready (rs := [5]) (by kernel_rfl) (by simp) ?_
  refine AllReadyH.cons (o := _) rfl (fun K hK => ?_) AllReadyH.nil
  skip
  refine oper_append2 _ _ _ _ rfl rfl rfl hap ?_
  change K (Act.put _ (some 8) _) _
  refine hK.out _ _ ⟨f0, f1⟩ (fun hHeld => ?_)
  clear hK K
  (try simp only [Act.put, List.setIfInBounds_toArray, List.set_cons_zero, List.set_cons_succ])
  refine take_yes (i := 6) (v := ?_) (some 9) rfl rfl (by kernel_rfl) (by kernel_rfl) (by kernel_rfl) (fun _ _ _ h => h) (Or.inl ⟨by rfl, ?_⟩) (by assumption) ?_
  rotate_left
  · (intro w hSw; (try dsimp only at hSw); go_simp <;> (try with_reducible rfl))
  (try simp only [Act.put, List.setIfInBounds_toArray, List.set_cons_zero, List.set_cons_succ])
  refine wpAnyH_ready (rs := [7]) (by kernel_rfl) (by simp) ?_
  refine AllReadyH.cons (o := _) rfl (fun K hK => ?_) AllReadyH.nil
  skip
  refine oper_store_agg 67 _ _ rfl rfl rfl r4 (by kernel_rfl) (Nat.le_refl _) (by intro v hv; rcases List.mem_cons.1 hv with rfl | hv; rfl; rcases List.mem_cons.1 hv with rfl | hv; rfl; cases hv) ?_
  rw [← hw5]
  change K (Act.put _ none _) _
  refine hK.out _ _ ⟨g0, g1⟩ (fun hHeld => ?_)
  clear hK K
  (try simp only [Act.put])
  refine wpAnyH_done (by kernel_rfl) ?_ _
  clear r4 hw5 f0 f1 e0 e1 d0 d1 hap
  go_wp2
  refine bodyPost_ret (results_cell_row (P := Tryz.prog) rfl _ _ (w.heap.size + 1) _ _ _ _ rfl r5 Tryz.underlying67 rfl (by kernel_rfl)) rfl ?_
  have h := HG.out
  rw [S3.out] at h
  refine ⟨g, c2, rfl, hc, by omega, Nat.lt_of_lt_of_le HS.out k5.size, fun j x hj => ?_, HK.out.trans' k5 fun i h => by right; omega⟩
  exact k5.cell (HC.out j x hj) (by omega)
end Go.Proofs.YtggnohbfdlebiaaGreatDoor

/-
  The closures of the disk's operations: what each does to the disk.
-/
namespace Go.Proofs.YtggnohbfdlebiaaGreatDoor
open Go.RowKit Go.ChangeMaps

theorem Box.cell {w : World} {F : Nat → Prop} {b : Nat} {v : Value} {t : TypeId} (h : Box w F b v t) : w.cell? ⟨b, 0, none⟩ = some v := cell_of_one h.1

/-- The call hands back nothing, and leaves the disk as S' has it; of what was there only the disk's own blocks may have turned. -/
def Leaves (w : World) (d : Nat) (S' : St) (F : Nat → Prop) (e : Ending) (w' : World) : Prop :=
  e = .returned (.tuple #[]) ∧ ∃ F', DiskAt w' d S' F' ∧ (∀ k, F' k → F k ∨ w.heap.size ≤ k) ∧ Kp F w w'

theorem used_put (fs : Files) (n : Nm) (l : List Sec) : used (put fs n l) + (getF fs n).length = used fs + l.length := by
  induction fs with
  | nil => simp [used, put, getF, get]
  | cons p fs ih =>
    obtain ⟨k, u⟩ := p
    simp only [getF] at ih
    by_cases h : n = k
    · subst h; simp [used, put, getF, get]; omega
    · simp only [put, if_neg h, used, List.map_cons, List.sum_cons, getF, get] at ih ⊢
      omega
theorem used_del (fs : Files) (n : Nm) : used (del fs n) + (getF fs n).length = used fs := by
  induction fs with
  | nil => simp [used, del, getF, get]
  | cons p fs ih =>
    obtain ⟨k, u⟩ := p
    simp only [getF] at ih
    by_cases h : n = k
    · subst h; simp [used, del, getF, get]; omega
    · simp only [del, if_neg h, used, List.map_cons, List.sum_cons, getF, get] at ih ⊢
      omega
theorem mem_put {α : Type} (fs : List (Nm × α)) (n : Nm) (l : α) : ∀ p ∈ put fs n l, p = (n, l) ∨ p ∈ fs := by
  induction fs with
  | nil => simp [put]
  | cons q fs ih =>
    obtain ⟨k, u⟩ := q
    by_cases h : n = k
    · subst h; intro p hp; simp only [put, if_true, List.mem_cons] at hp ⊢; rcases hp with h | h <;> simp [h]
    · intro p hp
      simp only [put, if_neg h, List.mem_cons] at hp ⊢
      rcases hp with rfl | hp
      · simp
      · rcases ih p hp with h | h <;> simp [h]
theorem mem_del {α : Type} (fs : List (Nm × α)) (n : Nm) : ∀ p ∈ del fs n, p ∈ fs := by
  induction fs with
  | nil => simp [del]
  | cons q fs ih =>
    obtain ⟨k, u⟩ := q
    by_cases h : n = k
    · subst h; intro p hp; simp only [del, if_true] at hp; simp [hp]
    · intro p hp
      simp only [del, if_neg h, List.mem_cons] at hp ⊢
      rcases hp with rfl | hp
      · simp
      · simp [ih p hp]
theorem getF_mem {fs : Files} {n : Nm} : ∀ s ∈ getF fs n, ∃ p ∈ fs, s ∈ p.2 := by
  induction fs with
  | nil => simp [getF, get]
  | cons q fs ih =>
    obtain ⟨k, u⟩ := q
    by_cases h : n = k
    · subst h; intro s hs; simp only [getF, get, if_true, Option.getD_some] at hs; exact ⟨(n, u), by simp, hs⟩
    · intro s hs
      simp only [getF, get, if_neg h] at hs ih
      obtain ⟨p, hp, h1⟩ := ih s hs
      exact ⟨p, by simp [hp], h1⟩
theorem getF_le (fs : Files) (n : Nm) : (getF fs n).length ≤ used fs := by have := used_del fs n; omega
theorem length_put_le {α : Type} (fs : List (Nm × α)) (n : Nm) (l : α) (h : (get fs n).isSome) : (put fs n l).length = fs.length := by
  have := put_keys fs n l
  rw [if_pos h] at this
  simpa using congrArg List.length this
theorem length_del {α : Type} (fs : List (Nm × α)) (n : Nm) : (del fs n).length ≤ fs.length := by
  induction fs with
  | nil => simp [del]
  | cons q fs ih =>
    obtain ⟨k, u⟩ := q
    by_cases h : n = k
    · subst h; simp [del]
    · simp only [del, if_neg h, List.length_cons]; omega

theorem DiskIs.drew {w : World} {d m : Nat} {es : Array MapEntry} {clock : Nat} {hv : Value} {S : St} {F : Nat → Prop} (h : DiskIs w d m es clock hv S F) : DiskIs w.drew d m es clock hv S F := h.move (fun _ h => h) (fun _ _ _ h => h) h.flt
theorem Box.drew {w : World} {F : Nat → Prop} {b : Nat} {v : Value} {t : TypeId} (h : Box w F b v t) : Box w.drew F b v t := h

/-- Only the map's entries have turned. -/
theorem DiskIs.files {w w' : World} {d m : Nat} {es es' : Array MapEntry} {clock clock' : Nat} {hv : Value} {S : St} {F F' : Nat → Prop} {fs : Files} (h : DiskIs w d m es clock hv S F) (hF : ∀ k, F k → F' k)
    (hk : ∀ k o, k ≠ m → w.heap[k]? = some o → w'.heap[k]? = some o) (hm : w'.heap[m]? = some (.map es' clock')) (he : EntsOk Value.string (FileRep w F') es' clock' fs) (ok : St.Ok { S with files := fs }) (hl : ∀ k, F' k → k < w'.heap.size) :
    DiskAt w' d { S with files := fs } F' :=
  ⟨m, es', clock', hv, h.turn hF (fun k o _ h2 hb => hk k o h2 hb) (hk d _ h.ne h.hd) hm he (h.hang.move hF fun _ _ _ _ h => h) ok hl⟩

theorem length_del_of {α : Type} {fs : List (Nm × α)} {n : Nm} (h : (get fs n).isSome = true) : (del fs n).length + 1 = fs.length := by
  induction fs with
  | nil => simp [get] at h
  | cons q fs ih =>
    obtain ⟨k, u⟩ := q
    by_cases e : n = k
    · subst e; simp [del]
    · simp only [get, if_neg e] at h
      simp only [del, if_neg e, List.length_cons, ih h]
theorem length_put_le1 {α : Type} (fs : List (Nm × α)) (n : Nm) (l : α) : (put fs n l).length ≤ fs.length + 1 := by
  have := congrArg List.length (put_keys fs n l)
  split at this <;> simp at this <;> omega
theorem run_count {h : Hg} {fs : Files} (hh : h.okOn fs) : (h.run fs).length ≤ fs.length := by
  cases h with
  | noop => exact Nat.le_refl _
  | sync n => exact Nat.le_of_eq (length_put_le _ _ _ hh.2)
  | trunc n k => exact Nat.le_of_eq (length_put_le _ _ _ hh.2)
  | rename a b => have := length_del_of hh.2; have := length_put_le1 (del fs a) b (getF fs a); simp only [Hg.run]; omega
  | remove n => exact length_del _ _
theorem run_names {h : Hg} {fs : Files} (hn : ∀ p ∈ fs, nameB p.1 = true) (hh : h.okOn fs) : ∀ p ∈ h.run fs, nameB p.1 = true := by
  intro p hp
  cases h with
  | noop => exact hn p hp
  | sync n => rcases mem_put _ _ _ p hp with rfl | hp; exact hh.1; exact hn p hp
  | trunc n k => rcases mem_put _ _ _ p hp with rfl | hp; exact hh.1; exact hn p hp
  | rename a b => rcases mem_put _ _ _ p hp with rfl | hp; exact hh.1; exact hn p (mem_del _ _ p hp)
  | remove n => exact hn p (mem_del _ _ p hp)
theorem run_used (h : Hg) (fs : Files) : used (h.run fs) ≤ used fs := by
  cases h with
  | noop => exact Nat.le_refl _
  | sync n => have := used_put fs n (syncAll (getF fs n)); simp [syncAll] at this; simp only [Hg.run]; simp [syncAll]; omega
  | trunc n k => have := used_put fs n (syncAll ((getF fs n).take k.toNat)); simp [syncAll] at this; simp only [Hg.run]; simp [syncAll]; omega
  | rename a b => have h1 := used_put (del fs a) b (getF fs a); have h2 := used_del fs a; simp only [Hg.run]; omega
  | remove n => have := used_del fs n; simp only [Hg.run]; omega
theorem run_secs {h : Hg} {fs : Files} (hs : ∀ p ∈ fs, ∀ s ∈ p.2, s.bytes.length = 32) : ∀ p ∈ h.run fs, ∀ s ∈ p.2, s.bytes.length = 32 := by
  have hg : ∀ n, ∀ s ∈ getF fs n, s.bytes.length = 32 := fun n s hm => let ⟨p, hp, h1⟩ := getF_mem s hm; hs p hp s h1
  intro p hp s hm
  cases h with
  | noop => exact hs p hp s hm
  | sync n =>
    rcases mem_put _ _ _ p hp with rfl | hp
    · obtain ⟨x, hx, rfl⟩ := List.mem_map.1 hm; exact hg n x hx
    · exact hs p hp s hm
  | trunc n k =>
    rcases mem_put _ _ _ p hp with rfl | hp
    · obtain ⟨x, hx, rfl⟩ := List.mem_map.1 hm; exact hg n x (List.mem_of_mem_take hx)
    · exact hs p hp s hm
  | rename a b =>
    rcases mem_put _ _ _ p hp with rfl | hp
    · exact hg a s hm
    · exact hs p (mem_del _ _ p hp) s hm
  | remove n => exact hs p (mem_del _ _ p hp) s hm
theorem run_ok {h : Hg} {S : St} (ok : S.Ok) (hoff : S.off = false) (hh : h.okOn S.files) : St.Ok { S with files := h.run S.files } :=
  ⟨ok.room, by have := run_used h S.files; have := ok.used; show ((used (h.run S.files) : Nat) : Int) ≤ S.room; omega, ok.armed, (fun h => by rw [hoff] at h; cases h), run_names ok.names hh, Nat.le_trans (run_count hh) ok.count, run_secs ok.secs⟩

set_option maxRecDepth 100000 in
set_option maxHeartbeats 1000000 in
theorem Remove1_any {w : World} {d m : Nat} {es : Array MapEntry} {clock : Nat} {hv : Value} {S : St} {F : Nat → Prop} (h : DiskIs w d m es clock hv S F) (hoff : S.off = false) {b1 b2 : Nat} {n : Nm}
    (h1 : Box w F b1 (.pointer (some ⟨d, 0, none⟩)) 24) (h2 : Box w F b2 (.string n) 9) :
    Calls Tryz.prog 64 #[.pointer (some ⟨b1, 0, none⟩), .pointer (some ⟨b2, 0, none⟩)] w (Leaves w d { S with files := (Hg.remove n).run S.files } F) := by
  obtain ⟨c0, _⟩ := h.cells
  have d1 := h1.cell
  have d2 := h2.cell
  have h' := h.drew
  obtain ⟨es', hdel, hents⟩ := delete_run (P := Tryz.prog) (w := w.drew) map_type key_type keyNow_string h'.hm h'.ents n
  have HD := Lib.hid hdel
  have hfin : Leaves w d { S with files := (Hg.remove n).run S.files } F (.returned (.tuple #[])) (setBlock w.drew m (.map es' clock)) :=
    ⟨rfl, F, h'.files (fun _ h => h) (fun k o hk hb => (blk_off _ hk).trans hb) (blk_put h'.hm) hents
      (run_ok h.ok hoff trivial) (fun k hk => by have := h.flt k hk; simpa [setBlock] using this), fun _ h => .inl h, (Kp.refl F w).drew.setObj (.inl h.fm) _⟩
  clear h h1 h2 hents h' hdel hoff
  go_enter Tryz.func64, Tryz.ntmps64
  go_still_tail 5, (by kernel_rfl)
  change wpList _ _ _ _ _ w.drew
  refine wpList_delete_run rfl _ _ _ _ rfl rfl rfl (HD.out _) ?_
  go_wp2
  go_end0
  exact hfin

end Go.Proofs.YtggnohbfdlebiaaGreatDoor

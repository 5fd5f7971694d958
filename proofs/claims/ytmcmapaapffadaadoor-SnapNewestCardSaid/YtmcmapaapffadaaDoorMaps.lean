/-
  Plain words on a map's block: what a look-up, a store, a delete and len do to it, for keys that are compared at once (strings, whole numbers). No program stands in it.
-/
import Derived.Test.YtmcmapaapffadaaDoorCore
namespace Go.Proofs.YtmcmapaapffadaaDoor
open Go.RowKit Go.ChangeMaps

section
variable {K : Type} [DecidableEq K] {α : Type}
/-- These entries, this clock: they are the pairs of l, each key once. -/
structure EntsOk (kv : K → Value) (R : Value → α → Prop) (es : Array MapEntry) (clock : Nat) (l : List (K × α)) : Prop where
  ents : Ents kv R es.toList l
  keys : (l.map (·.1)).Nodup
  born : ∀ x ∈ es.toList, x.born < clock
  apart : (es.toList.map (·.born)).Nodup

variable {kv : K → Value} {R : Value → α → Prop} {es : Array MapEntry} {clock : Nat} {l : List (K × α)} {d : TypeDesc} {P : Program} {w : World} {m : Nat} {t k e : TypeId}

omit [DecidableEq K] in
theorem EntsOk.imp {R' : Value → α → Prop} (h : EntsOk kv R es clock l) (hR : ∀ v a, R v a → R' v a) : EntsOk kv R' es clock l :=
  ⟨h.ents.imp hR, h.keys, h.born, h.apart⟩
omit [DecidableEq K] in
theorem EntsOk.size (h : EntsOk kv R es clock l) : es.size = l.length := by simpa using h.ents.length

theorem run_getObj_map (hb : w.heap[m]? = some (.map es clock)) : (getObj m).run P w = .ok (.map es clock) w := by
  simp [getObj, Sem.run, hb]

theorem lookup_none (ht : P.underlying t = some (.map k e)) (hd : P.underlying k = some d) (hk : KeyNow d kv) (hb : w.heap[m]? = some (.map es clock)) (h : EntsOk kv R es clock l)
    {z : Value} (hz : (zeroValue e).run P w = .ok z w) {x : K} (hx : get l x = none) (c : Bool) :
    (Instr.lookup t (.map (some m)) (kv x) c).run P w = .ok (if c then .tuple #[z, .bool false] else z) w := by
  have h1 := findNow_none hk x h.ents hx 0
  have h2 := hk.plain P k hd es.isEmpty x w
  simp [Instr.lookup, run_underlying ht, run_getObj_map hb, h2, Instr.findKey, run_underlying hd, h1, hz]
theorem lookup_some (ht : P.underlying t = some (.map k e)) (hd : P.underlying k = some d) (hk : KeyNow d kv) (hb : w.heap[m]? = some (.map es clock)) (h : EntsOk kv R es clock l)
    {x : K} {v : α} (hx : get l x = some v) (c : Bool) :
    ∃ u, (Instr.lookup t (.map (some m)) (kv x) c).run P w = .ok (if c then .tuple #[u, .bool true] else u) w ∧ R u v := by
  obtain ⟨j, e', h1, _, _, h4, _⟩ := findNow_some hk x h.ents v hx 0
  have h2 := hk.plain P k hd es.isEmpty x w
  refine ⟨e'.val, ?_, h4⟩
  simp [Instr.lookup, run_underlying ht, run_getObj_map hb, h2, Instr.findKey, run_underlying hd, h1]
theorem run_setObj_map (hb : w.heap[m]? = some (.map es clock)) (o : Obj) : (setObj m o).run P w = .ok () (setBlock w m o) := by
  simp [setObj, Sem.run, hb, setBlock]
theorem lookup_nil (ht : P.underlying t = some (.map k e)) (hd : P.underlying k = some d) (hk : KeyNow d kv)
    {z : Value} (hz : (zeroValue e).run P w = .ok z w) (x : K) (c : Bool) :
    (Instr.lookup t (.map none) (kv x) c).run P w = .ok (if c then .tuple #[z, .bool false] else z) w := by
  have h2 := hk.plain P k hd true x w
  simp [Instr.lookup, run_underlying ht, h2, Instr.findKey, run_underlying hd, Instr.findNow, hz]
theorem update_run (ht : P.underlying t = some (.map k e)) (hd : P.underlying k = some d) (hk : KeyNow d kv) (hb : w.heap[m]? = some (.map es clock)) (h : EntsOk kv R es clock l)
    (x : K) (v : α) (u : Value) (hu : R u v) :
    ∃ es' clock', (Instr.mapUpdate t (.map (some m)) (kv x) u).run P w = .ok () (setBlock w m (.map es' clock')) ∧ EntsOk kv R es' clock' (put l x v) := by
  have h2 := hk.plain P k hd false x w
  cases hx : get l x with
  | none =>
    have h1 := findNow_none hk x h.ents hx 0
    refine ⟨es.push { key := kv x, val := u, born := clock }, clock + 1, ?_, ?_, put_nodup h.keys _ _, ?_, ?_⟩
    · simp [Instr.mapUpdate, run_underlying ht, run_getObj_map hb, h2, Instr.findKey, run_underlying hd, h1, run_setObj_map hb]
    · rw [Array.toList_push]; exact h.ents.push x hx v u hu clock
    · intro y hy
      rw [Array.toList_push] at hy
      rcases List.mem_append.1 hy with hy | hy
      · have := h.born y hy; omega
      · obtain rfl : y = _ := by simpa using hy
        simp
    · rw [Array.toList_push, List.map_append, List.nodup_append]
      refine ⟨h.apart, by simp, ?_⟩
      intro a ha b hb' hab
      obtain ⟨y, hy, rfl⟩ := List.mem_map.1 ha
      obtain rfl : b = clock := by simpa using hb'
      have := h.born y hy; omega
  | some v0 =>
    obtain ⟨j, e', h1, h3, h4, _, _, h6, _⟩ := findNow_some hk x h.ents v0 hx 0
    have hbits : Instr.sameBits 10000 e'.key (kv x) = true := by rw [h4]; exact hk.bits x
    have h3' : es[j]? = some e' := by simpa using h3
    have hmod : (es.modify j fun e => { e with key := kv x, val := u }).toList = es.toList.modify j fun e => { e with val := u } := by
      rw [Array.toList_modify]
      apply List.ext_getElem?
      intro i
      rw [List.getElem?_modify, List.getElem?_modify]
      by_cases hij : j = i
      · subst hij; simp [h3, ← h4]
      · simp [hij]
    refine ⟨es.modify j fun e => { e with key := kv x, val := u }, clock, ?_, ?_, put_nodup h.keys _ _, ?_, ?_⟩
    · simp [Instr.mapUpdate, run_underlying ht, run_getObj_map hb, h2, Instr.findKey, run_underlying hd, h1, h3', Instr.keyThatStays, hbits, run_setObj_map hb]
    · rw [hmod]; exact h6 v u hu
    · rw [hmod]
      intro y hy
      obtain ⟨i, hi⟩ := List.mem_iff_getElem?.1 hy
      rw [List.getElem?_modify] at hi
      cases hq : es.toList[i]? with
      | none => simp [hq] at hi
      | some q =>
        have hb2 := h.born q (List.mem_of_getElem? hq)
        rw [hq] at hi
        by_cases hij : j = i
        · simp [hij] at hi; subst hi; exact hb2
        · simp [hij] at hi; subst hi; exact hb2
    · rw [hmod]
      have : (es.toList.modify j fun e => { e with val := u }).map (·.born) = es.toList.map (·.born) := by
        apply List.ext_getElem?
        intro i
        simp only [List.getElem?_map, List.getElem?_modify]
        cases es.toList[i]? <;> simp
        split <;> rfl
      rw [this]; exact h.apart
theorem delete_run (ht : P.underlying t = some (.map k e)) (hd : P.underlying k = some d) (hk : KeyNow d kv) (hb : w.heap[m]? = some (.map es clock)) (h : EntsOk kv R es clock l) (x : K) :
    ∃ es', (∀ ty, (Builtin.delete_ #[t, k] ty #[.map (some m), kv x]).run P w = .ok (.tuple #[]) (setBlock w m (.map es' clock))) ∧ EntsOk kv R es' clock (del l x) := by
  have h2 := hk.plain P k hd es.isEmpty x w
  cases hx : get l x with
  | none =>
    have h1 := findNow_none hk x h.ents hx 0
    have hdel : del l x = l := by
      clear h h1 h2 hb
      induction l with
      | nil => rfl
      | cons p l ih =>
        obtain ⟨q, u⟩ := p
        have hne : x ≠ q := by rintro rfl; simp [get] at hx
        simp only [get, if_neg hne] at hx
        simp only [del, if_neg hne, ih hx]
    refine ⟨es, fun ty => ?_, by rw [hdel]; exact h⟩
    simp [Builtin.delete_, run_underlying ht, run_getObj_map hb, h2, Instr.findKey, run_underlying hd, h1, run_setObj_map hb]
  | some v0 =>
    obtain ⟨j, e', h1, h3, _, _, _, _, h7⟩ := findNow_some hk x h.ents v0 hx 0
    have he : (es.eraseIdxIfInBounds j).toList = es.toList.eraseIdx j := by simp
    refine ⟨es.eraseIdxIfInBounds j, ?_, ?_, del_nodup h.keys x, ?_, ?_⟩
    · intro ty
      simp [Builtin.delete_, run_underlying ht, run_getObj_map hb, h2, Instr.findKey, run_underlying hd, h1, run_setObj_map hb]
    · rw [he]; exact h7
    · rw [he]; intro y hy; exact h.born y ((List.eraseIdx_sublist _ _).subset hy)
    · rw [he]; exact h.apart.sublist ((List.eraseIdx_sublist _ _).map _)
omit [DecidableEq K] in
theorem len_run (ht : P.underlying t = some (.map k e)) (hb : w.heap[m]? = some (.map es clock)) (h : EntsOk kv R es clock l) (ty : TypeId) :
    (Builtin.len_ #[t] ty #[.map (some m)]).run P w = .ok (.int .i64 l.length) w := by
  simp [Builtin.len_, run_underlying ht, run_getObj_map hb, goInt, h.size]
end

theorem bytes_beq (a b : ByteArray) : (a == b) = decide (a = b) := by
  have h : (a == b) = (a.data == b.data) := rfl
  rw [h]
  by_cases e : a = b
  · subst e; simp
  · have : a.data ≠ b.data := fun h => e (by cases a; cases b; simpa using h)
    simp [e, this]
theorem sameBits_string (a : ByteArray) : ∀ n, Instr.sameBits n (.string a) (.string a) = true := fun n => by cases n <;> simp [Instr.sameBits, bytes_beq]
theorem sameBits_int (q : IntKind) (a : Int) : ∀ n, Instr.sameBits n (.int q a) (.int q a) = true := fun n => by cases n <;> simp [Instr.sameBits]
theorem checkKey_string (P : Program) (k : TypeId) (hk : P.underlying k = some .string) (e : Bool) (a : ByteArray) (w : World) : ∀ n, (Instr.checkKey e (n + 1) k (.string a)).run P w = .ok () w :=
  fun n => by simp [Instr.checkKey, run_underlying hk]
theorem checkKey_int (P : Program) (k : TypeId) (q : IntKind) (hk : P.underlying k = some (.int q)) (e : Bool) (a : Int) (w : World) : ∀ n, (Instr.checkKey e (n + 1) k (.int q a)).run P w = .ok () w :=
  fun n => by simp [Instr.checkKey, run_underlying hk]
theorem keyNow_string : KeyNow .string Value.string where
  same a b := by simp only [Instr.sameNow, bytes_beq]
  bits a := sameBits_string a _
  inj a b h := by simpa using h
  plain P k hk e a w := checkKey_string P k hk e a w 9999
theorem keyNow_int (q : IntKind) : KeyNow (.int q) (Value.int q) where
  same a b := by
    simp only [Instr.sameNow]
    by_cases h : a = b <;> simp [h]
  bits a := sameBits_int q a _
  inj a b h := by simpa using h
  plain P k hk e a w := checkKey_int P k q hk e a w 9999

/-- A cell is no part of a map's block. -/
theorem cell_put {w : World} {m : Nat} {es : Array MapEntry} {clock : Nat} (hm : w.heap[m]? = some (.map es clock)) (x : Obj) {b o : Nat} {v : Value} (h : w.cell? ⟨b, o, none⟩ = some v) : (setBlock w m x).cell? ⟨b, o, none⟩ = some v := by
  have hne : b ≠ m := by rintro rfl; simp [World.cell?, hm] at h
  exact (World.cell?_of_block (w := w) (blk_off x hne)).trans h
/-- append, its run being known. -/
theorem wpList_append_run {P : Program} {w w' : World} {ops : Array Oper} {rest : List Oper} {o : Oper} {a : Act} {Q : Exit → Act → World → Prop} (hgd : o.guard = none) (s x : Operand) (t tx : TypeId)
    (ho : o.op = .call { callee := .builtin .append, args := #[s, x], argTypes := #[t, tx] }) {vs vx v : Value} (hs : a.eval s = vs) (hx : a.eval x = vx)
    (hr : (Builtin.append_ #[t, tx] o.type #[vs, vx]).run P w = .ok v w') (h : wpList P ops Q rest (a.put o.dst v) w') : wpList P ops Q (o :: rest) a w :=
  wpList_plain hgd fun _ hK => by
    unfold Oper.wp execOp
    simp only [ho, resolve, invoke, builtin, Sem.run_bind, Sem.run_pure, Result.andThen_ok, List.map_toArray, List.map_cons, List.map_nil, hs, hx, hr]
    exact hK _ _ h
/-- delete, its run being known. -/
theorem wpList_delete_run {P : Program} {w w' : World} {ops : Array Oper} {rest : List Oper} {o : Oper} {a : Act} {Q : Exit → Act → World → Prop} (hgd : o.guard = none) (s x : Operand) (t tx : TypeId)
    (ho : o.op = .call { callee := .builtin .delete, args := #[s, x], argTypes := #[t, tx] }) {vs vx v : Value} (hs : a.eval s = vs) (hx : a.eval x = vx)
    (hr : (Builtin.delete_ #[t, tx] o.type #[vs, vx]).run P w = .ok v w') (h : wpList P ops Q rest (a.put o.dst v) w') : wpList P ops Q (o :: rest) a w :=
  wpList_plain hgd fun _ hK => by
    unfold Oper.wp execOp
    simp only [ho, resolve, invoke, builtin, Sem.run_bind, Sem.run_pure, Result.andThen_ok, List.map_toArray, List.map_cons, List.map_nil, hs, hx, hr]
    exact hK _ _ h
end Go.Proofs.YtmcmapaapffadaaDoor

/-
  Plain words on structs and arrays inside a block: a load, a store, a copy, whatever the place. No program stands in it.
-/
import Derived.Test.YtmcmapaapffadaaDoorMaps
import Derived.Laws.CopyRow
import Derived.Laws.Tables
namespace Go.Proofs.YtmcmapaapffadaaDoor
open Go.RowKit Go.ChangeMaps

variable {P : Program}

theorem addr_add (g off j : Nat) : (⟨g, off, none⟩ : Addr).add j = ⟨g, off + j, none⟩ := by
  unfold Addr.add
  split
  · rename_i h; subst h; rfl
  · rfl
theorem isAgg_run {ty : TypeId} {d : TypeDesc} (hu : P.underlying ty = some d) (hd : (match d with | .struct _ | .array _ _ => true | _ => false) = true) (w : World) : (isAgg ty).run P w = .ok true w := by
  cases d <;> simp_all [isAgg, run_underlying hu]
theorem load_agg_run {ty : TypeId} {w : World} {g off : Nat} (cs : Array Value) (hc : ∀ j v, cs.toList[j]? = some v → w.cell? ⟨g, off + j, none⟩ = some v)
    (ha : ∀ w, (isAgg ty).run P w = .ok true w) (hi : (P.info? ty).map (·.size) = some cs.size) : (loadVar ty ⟨g, off, none⟩).run P w = .ok (.agg cs) w := by
  obtain ⟨i, hi1, hi2⟩ := Option.map_eq_some_iff.1 hi
  have hl := run_loadCells_list (P := P) w ⟨g, off, none⟩ cs.toList (fun j v hj => by rw [addr_add]; exact hc j v hj)
  simp only [Array.length_toList, Array.toArray_toList] at hl
  simp [loadVar, ha, sizeOf, typeInfo, hi1, hi2, hl]
theorem wpList_load_agg {ops : Array Oper} {rest : List Oper} {o : Oper} {a : Act} {w : World} {Q : Exit → Act → World → Prop} (hgd : o.guard = none) (ty : TypeId) (x : Operand) (ho : o.op = .load ty x)
    {g off : Nat} (hx : a.eval x = .pointer (some ⟨g, off, none⟩)) (cs : Array Value) (hc : ∀ j v, cs.toList[j]? = some v → w.cell? ⟨g, off + j, none⟩ = some v)
    (ha : ∀ w, (isAgg ty).run P w = .ok true w) (hi : (P.info? ty).map (·.size) = some cs.size)
    (h : wpList P ops Q rest (a.put o.dst (.agg cs)) w) : wpList P ops Q (o :: rest) a w :=
  wpList_plain hgd fun _ hK => by
    unfold Oper.wp execOp
    simp only [ho, hx, Instr.loadAt, Instr.sureAddr, Sem.run_bind, Sem.run_pure, Result.andThen_ok, load_agg_run cs hc ha hi]
    exact hK _ _ h

/-- These cells, laid over a row from a place on. -/
def splice (cur : Array Value) (off : Nat) (vs : List Value) : Array Value := (cur.toList.take off ++ vs ++ cur.toList.drop (off + vs.length)).toArray
theorem splice_get (cur : Array Value) (off : Nat) (vs : List Value) (h : off + vs.length ≤ cur.size) (j : Nat) :
    (splice cur off vs)[j]? = if off ≤ j ∧ j < off + vs.length then vs[j - off]? else cur[j]? := by
  unfold splice
  rw [List.getElem?_toArray, List.append_assoc]
  have hl : (cur.toList.take off).length = off := by simp; omega
  by_cases h1 : j < off
  · rw [List.getElem?_append_left (by omega), if_neg (by omega), List.getElem?_take, if_pos h1]; simp
  · rw [List.getElem?_append_right (by omega), hl]
    by_cases h2 : j < off + vs.length
    · rw [List.getElem?_append_left (by omega), if_pos ⟨by omega, h2⟩]
    · rw [List.getElem?_append_right (by omega), if_neg (by omega), List.getElem?_drop]
      simp only [Array.getElem?_toList]
      congr 1; omega
theorem splice_size (cur : Array Value) (off : Nat) (vs : List Value) (h : off + vs.length ≤ cur.size) : (splice cur off vs).size = cur.size := by
  unfold splice; simp; omega
theorem storeCells_run {w : World} {g off : Nat} {t : TypeId} {cur : Array Value} (hg : w.heap[g]? = some (.cells cur t (0, 0))) (vs : List Value) (hl : off + vs.length ≤ cur.size) (h1 : ∀ v ∈ vs, v.oneCell' = true) :
    (storeCells ⟨g, off, none⟩ vs).run P w = .ok () (w.setRow g (splice cur off vs)) := by
  simpa [splice] using run_storeCells_at P g off t vs 0 cur w hg (by simpa using hl) h1
theorem wpList_store_agg {ops : Array Oper} {rest : List Oper} {o : Oper} {a : Act} {w : World} {Q : Exit → Act → World → Prop} (hgd : o.guard = none) (ty : TypeId) (x y : Operand) (ho : o.op = .store ty x y)
    {g off : Nat} {t : TypeId} {cur cells : Array Value} (hx : a.eval x = .pointer (some ⟨g, off, none⟩)) (hy : a.eval y = .agg cells) (hg : w.heap[g]? = some (.cells cur t (0, 0)))
    (hi : (P.info? ty).map (·.size) = some cells.size) (hl : off + cells.size ≤ cur.size) (h1 : ∀ v ∈ cells.toList, v.oneCell' = true)
    (h : wpList P ops Q rest (a.put o.dst undef) (w.setRow g (splice cur off cells.toList))) : wpList P ops Q (o :: rest) a w :=
  wpList_plain hgd fun _ hK => by
    obtain ⟨i, hi1, hi2⟩ := Option.map_eq_some_iff.1 hi
    have hs := storeCells_run (P := P) hg cells.toList (by simpa using hl) h1
    unfold Oper.wp execOp
    simp only [ho, hx, hy, Instr.storeAt, Instr.sureAddr, Sem.run_bind, Sem.run_pure, Result.andThen_ok]
    have hsv : (storeVar ty ⟨g, off, none⟩ (.agg cells)).run P w = .ok () (w.setRow g (splice cur off cells.toList)) := by
      simp [storeVar, sizeOf, typeInfo, hi1, Value.cells, ← hi2, hs]
    simp only [hsv, Result.andThen_ok]
    exact hK _ _ h

/-- copy, its run being known. -/
theorem wpList_copy_run {w w' : World} {ops : Array Oper} {rest : List Oper} {o : Oper} {a : Act} {Q : Exit → Act → World → Prop} (hgd : o.guard = none) (s x : Operand) (t tx : TypeId)
    (ho : o.op = .call { callee := .builtin .copy, args := #[s, x], argTypes := #[t, tx] }) {vs vx v : Value} (hs : a.eval s = vs) (hx : a.eval x = vx)
    (hr : (Builtin.copy_ #[t, tx] o.type #[vs, vx]).run P w = .ok v w') (h : wpList P ops Q rest (a.put o.dst v) w') : wpList P ops Q (o :: rest) a w :=
  wpList_plain hgd fun _ hK => by
    unfold Oper.wp execOp
    simp only [ho, resolve, invoke, builtin, Sem.run_bind, Sem.run_pure, Result.andThen_ok, List.map_toArray, List.map_cons, List.map_nil, hs, hx, hr]
    exact hK _ _ h
end Go.Proofs.YtmcmapaapffadaaDoor

/-
  Plain words on a range over a map: the iterator's block, a step, the entry. No program stands in it.
-/
import Derived.Test.YtmcmapaapffadaaDoorMaps
namespace Go.Proofs.YtmcmapaapffadaaDoor
open Go.RowKit Go.ChangeMaps

/-- Block r is a range over the map in block m: the entries 'done' have come, 'left' are still to come. -/
structure IterIs (w : World) (r m : Nat) (es : Array MapEntry) (clock : Nat) (done left : List MapEntry) : Prop where
  it : w.heap[r]? = some (.mapIter (some m) clock (done.map (·.born)).toArray clock)
  hm : w.heap[m]? = some (.map es clock)
  perm : (done ++ left).Perm es.toList
  born : ∀ x ∈ es.toList, x.born < clock
  apart : (es.toList.map (·.born)).Nodup

/-- How many are to come, read off memory. -/
def iterLeft (w : World) (r n : Nat) : Nat := match w.heap[r]? with | some (.mapIter _ _ seen _) => n - seen.size | _ => 0

variable {P : Program} {w : World} {r m : Nat} {es : Array MapEntry} {clock : Nat} {done left : List MapEntry}

theorem range_run {t k e : TypeId} (ht : P.underlying t = some (.map k e)) (hb : w.heap[m]? = some (.map es clock)) :
    (Instr.range t (.map (some m))).run P w = .ok (.pointer (some ⟨w.heap.size, 0, none⟩)) (w.alloc (.mapIter (some m) clock #[] clock)) := by
  simp [Instr.range, run_underlying ht, run_getObj_map hb, newObj, Sem.run]
theorem IterIs.start (hb : w.heap[m]? = some (.map es clock)) (h1 : ∀ x ∈ es.toList, x.born < clock) (h2 : (es.toList.map (·.born)).Nodup) :
    IterIs (w.alloc (.mapIter (some m) clock #[] clock)) w.heap.size m es clock [] es.toList :=
  ⟨by simpa using heap_alloc_new w _, blk_alloc _ hb, by simp, h1, h2⟩
theorem IterIs.left_eq (h : IterIs w r m es clock done left) : iterLeft w r es.size = left.length := by
  have := h.perm.length_eq
  simp [iterLeft, h.it] at this ⊢
  omega
theorem IterIs.move {w' : World} (h : IterIs w r m es clock done left) (hr : w'.heap[r]? = w.heap[r]?) (hm : w'.heap[m]? = w.heap[m]?) : IterIs w' r m es clock done left :=
  ⟨hr.trans h.it, hm.trans h.hm, h.perm, h.born, h.apart⟩
theorem run_getObj_iter {a : Option Nat} {b : Nat} {c : Array Nat} {d : Nat} (hb : w.heap[r]? = some (.mapIter a b c d)) : (getObj r).run P w = .ok (.mapIter a b c d) w := by
  simp [getObj, Sem.run, hb]
theorem run_setObj_iter {a : Option Nat} {b : Nat} {c : Array Nat} {d : Nat} (hb : w.heap[r]? = some (.mapIter a b c d)) (o : Obj) : (setObj r o).run P w = .ok () (setBlock w r o) := by
  simp [setObj, Sem.run, hb, setBlock]

theorem filter_done (h : IterIs w r m es clock done left) : (es.filter fun e => !(done.map (·.born)).toArray.contains e.born).toList.Perm left := by
  have hd : ((done ++ left).map (·.born)).Nodup := ((h.perm.map _).nodup_iff).2 h.apart
  rw [List.map_append, List.nodup_append] at hd
  rw [Array.toList_filter]
  refine (h.perm.symm.filter _).trans ?_
  rw [List.filter_append]
  have e1 : done.filter (fun e => !(done.map (·.born)).toArray.contains e.born) = [] := by
    rw [List.filter_eq_nil_iff]
    intro a ha
    simp
    exact ⟨a, ha, rfl⟩
  have e2 : left.filter (fun e => !(done.map (·.born)).toArray.contains e.born) = left := by
    rw [List.filter_eq_self]
    intro a ha
    simp
    intro x hx hxa
    exact hd.2.2 _ (List.mem_map_of_mem hx) _ (List.mem_map_of_mem ha) hxa
  rw [e1, e2]; simp
theorem next_over (h : IterIs w r m es clock done []) (ty : TypeId) : (Instr.next (.pointer (some ⟨r, 0, none⟩)) false ty).run P w = .ok (.tuple #[.bool false]) w := by
  have hf : (es.filter fun e => !(done.map (·.born)).toArray.contains e.born) = #[] := by
    have := (filter_done h).eq_nil
    simpa using this
  have hall : (!(done.map (·.born)).toArray.isEmpty && !es.isEmpty && es.all (fun e => decide (e.born ≥ clock))) = false := by
    cases hes : es.isEmpty with
    | true => simp
    | false =>
      have : es.all (fun e => decide (e.born ≥ clock)) = false := by
        rw [Array.all_eq_false]
        have h0 : 0 < es.size := by
          rw [Array.isEmpty_eq_false_iff] at hes; exact Array.size_pos_iff.2 hes
        refine ⟨0, h0, ?_⟩
        have := h.born es[0] (by simp)
        simp; omega
      simp [this]
  simp only [Instr.next, Sem.run_bind, run_getObj_iter h.it, Result.andThen_ok, run_getObj_map h.hm]
  simp only [hall, hf, Bool.false_eq_true, if_false]
  simp [choose, Sem.run, Question.forced]
theorem next_more (h : IterIs w r m es clock done left) (hl : left ≠ []) (hne : r ≠ m) :
    ∃ x left' n, left.Perm (x :: left') ∧ (∀ ty, (Instr.next (.pointer (some ⟨r, 0, none⟩)) false ty).run P w = .ok (.tuple #[.bool true, x.key, x.val]) (setBlock (w.drewN n) r (.mapIter (some m) clock ((done ++ [x]).map (·.born)).toArray clock))) ∧
      IterIs (setBlock (w.drewN n) r (.mapIter (some m) clock ((done ++ [x]).map (·.born)).toArray clock)) r m es clock (done ++ [x]) left' := by
  have hall : (!(done.map (·.born)).toArray.isEmpty && !es.isEmpty && es.all (fun e => decide (e.born ≥ clock))) = false := by
    cases hes : es.isEmpty with
    | true => simp
    | false =>
      have : es.all (fun e => decide (e.born ≥ clock)) = false := by
        rw [Array.all_eq_false]
        have h0 : 0 < es.size := by
          rw [Array.isEmpty_eq_false_iff] at hes; exact Array.size_pos_iff.2 hes
        refine ⟨0, h0, ?_⟩
        have := h.born es[0] (by simp)
        simp; omega
      simp [this]
  obtain ⟨L, hL⟩ : ∃ L, (es.filter fun e => !(done.map (·.born)).toArray.contains e.born) = L := ⟨_, rfl⟩
  have hp : L.toList.Perm left := by rw [← hL]; exact filter_done h
  have hmem : ∀ x ∈ L.toList, x.born < clock := fun x hx => h.born x (h.perm.mem_iff.1 (List.mem_append.2 (.inr (hp.mem_iff.1 hx))))
  have hold : (L.filter fun e => decide (e.born < clock)) = L := by
    rw [Array.filter_eq_self]; intro a ha; simpa using hmem a (by simpa using ha)
  have hnew : (L.filter fun e => decide (e.born ≥ clock)) = #[] := by
    rw [Array.filter_eq_empty_iff]; intro a ha; have := hmem a (by simpa using ha); simp; omega
  have hpos : 0 < L.size := by
    have := hp.length_eq
    cases left with
    | nil => exact absurd rfl hl
    | cons a b => simp at this; omega
  have hemp : L.isEmpty = false := by rw [Array.isEmpty_eq_false_iff]; exact Array.size_pos_iff.1 hpos
  -- the run, at whatever place is chosen
  have main : ∀ (j n : Nat) (hj : j < L.size), (choose (.mapNext L.size)).run P w = .ok j (w.drewN n) → ∃ x left' n, left.Perm (x :: left') ∧ (∀ ty, (Instr.next (.pointer (some ⟨r, 0, none⟩)) false ty).run P w = .ok (.tuple #[.bool true, x.key, x.val]) (setBlock (w.drewN n) r (.mapIter (some m) clock ((done ++ [x]).map (·.born)).toArray clock))) ∧
      IterIs (setBlock (w.drewN n) r (.mapIter (some m) clock ((done ++ [x]).map (·.born)).toArray clock)) r m es clock (done ++ [x]) left' := by
    intro j n hj hch
    have hxl : L[j] ∈ left := hp.mem_iff.1 (by simp)
    obtain ⟨s, t, hst⟩ := List.append_of_mem hxl
    have hperm : left.Perm (L[j] :: (s ++ t)) := by rw [hst]; exact List.perm_middle
    refine ⟨L[j], s ++ t, n, hperm, ?_, ?_⟩
    · intro ty
      have hit' : (w.drewN n).heap[r]? = some (.mapIter (some m) clock (done.map (·.born)).toArray clock) := h.it
      simp only [Instr.next, Sem.run_bind, run_getObj_iter h.it, Result.andThen_ok, run_getObj_map h.hm]
      simp only [hall, hL, hold, hnew, hemp, Bool.false_eq_true, if_false, Array.append_empty, Array.empty_append, Sem.run_bind, Array.size_map, hch, Result.andThen_ok, Array.getElem?_map, Array.getElem?_eq_getElem hj, Option.map_some]
      simp [run_setObj_iter hit']
    · have hit' : (w.drewN n).heap[r]? = some (.mapIter (some m) clock (done.map (·.born)).toArray clock) := h.it
      refine ⟨blk_put hit', (blk_off _ (Ne.symm hne)).trans h.hm, ?_, h.born, h.apart⟩
      refine List.Perm.trans ?_ h.perm
      rw [List.append_assoc]
      exact (List.Perm.append_left done hperm.symm)
  by_cases h1 : L.size ≤ 1
  · exact main 0 0 hpos (by simp [choose, Sem.run, Question.forced, h1, World.drewN])
  · exact main (w.tape w.drawn (.mapNext L.size) % L.size) 1 (Nat.mod_lt _ hpos) (by
      have hfo : (Question.mapNext L.size).forced = false := by simp [Question.forced, h1]
      simp only [choose, Sem.run, hfo, Bool.false_eq_true, if_false]; rfl)
theorem entry_run {x : MapEntry} (h : IterIs w r m es clock (done ++ [x]) left) : (Instr.entry (.pointer (some ⟨r, 0, none⟩))).run P w = .ok (.tuple #[x.key, x.val]) w := by
  have hx : x ∈ es.toList := h.perm.mem_iff.1 (by simp)
  have hfind : es.find? (fun e => e.born == x.born) = some x := by
    rw [← Array.find?_toList]
    have hnd := h.apart
    generalize es.toList = l at hx hnd
    induction l with
    | nil => cases hx
    | cons a l ih =>
      simp only [List.map_cons, List.nodup_cons] at hnd
      rcases List.mem_cons.1 hx with rfl | hx
      · simp
      · have : a.born ≠ x.born := fun e => hnd.1 (e ▸ List.mem_map_of_mem hx)
        rw [List.find?_cons_of_neg (by simpa using this)]
        exact ih hx hnd.2
  have hit := h.it
  simp only [List.map_append, List.map_cons, List.map_nil] at hit
  simp [Instr.entry, run_getObj_iter hit, run_getObj_map h.hm, hfind]
end Go.Proofs.YtmcmapaapffadaaDoor

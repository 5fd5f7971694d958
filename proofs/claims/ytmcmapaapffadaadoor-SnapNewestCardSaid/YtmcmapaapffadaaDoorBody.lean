/-
  Words for the round of Append's loop: laws inside a fence; a chunk becomes a sector.
-/
import Derived.Test.YtmcmapaapffadaaDoorAppA
namespace Go.Proofs.YtmcmapaapffadaaDoor
open Go.RowKit Go.Shelf Go.ChangeMaps

section
variable {F : Fence} {n : Nat} {P : Program} {ops : Array Oper} {rest : List Oper} {o : Oper} {a : Act} {w w' : World} {Q : Exit → Act → World → Prop}
/-- An operation that yields v, inside a fence. -/
theorem wpListIn_value (hg : o.guard = none) (hab : o.about P w a.eval = none) (hnd : ∀ c, o.op ≠ .defer c) {v : Value} (hr : (execOp a.eval o).run P w = .ok (.value v) w')
    (h : wpListIn F n P ops Q rest (a.put o.dst v) w') : wpListIn F n P ops Q (o :: rest) a w := by
  refine wpListIn_plain hg fun K hK => ?_
  unfold Oper.wpIn
  refine ⟨?_, ?_⟩
  · rw [hab]; simp
  · rw [Oper.semAt_plain F _ _ hnd, hr]
    exact hK _ _ h
theorem wpListIn_load_agg (hg : o.guard = none) (ty : TypeId) (x : Operand) (ho : o.op = .load ty x)
    {g off : Nat} (hx : a.eval x = .pointer (some ⟨g, off, none⟩)) (cs : Array Value) (hc : ∀ j v, cs.toList[j]? = some v → w.cell? ⟨g, off + j, none⟩ = some v)
    (ha : ∀ w, (isAgg ty).run P w = .ok true w) (hi : (P.info? ty).map (·.size) = some cs.size)
    (h : wpListIn F n P ops Q rest (a.put o.dst (.agg cs)) w) : wpListIn F n P ops Q (o :: rest) a w := by
  refine wpListIn_value hg (by simp [Oper.about, ho]) (fun c hc' => by rw [ho] at hc'; cases hc') ?_ h
  simp only [execOp, ho, hx, Instr.loadAt, Instr.sureAddr, Sem.run_bind, Sem.run_pure, Result.andThen_ok, load_agg_run cs hc ha hi]
theorem wpListIn_copy_run (hg : o.guard = none) (s x : Operand) (t tx : TypeId)
    (ho : o.op = .call { callee := .builtin .copy, args := #[s, x], argTypes := #[t, tx] }) {vs vx v : Value} (hs : a.eval s = vs) (hx : a.eval x = vx)
    (hr : (Builtin.copy_ #[t, tx] o.type #[vs, vx]).run P w = .ok v w') (h : wpListIn F n P ops Q rest (a.put o.dst v) w') : wpListIn F n P ops Q (o :: rest) a w := by
  refine wpListIn_value hg (by simp [Oper.about, ho, resolve, Target.leads, Sem.run_pure]) (fun c hc' => by rw [ho] at hc'; cases hc') ?_ h
  simp only [execOp, ho, resolve, invoke, builtin, Sem.run_bind, Sem.run_pure, Result.andThen_ok, List.map_toArray, List.map_cons, List.map_nil, hs, hx, hr]
theorem wpListIn_buildSlice_run (hg : o.guard = none) (t : TypeId) (len i : Nat) (x : Operand) (ho : o.op = .buildSlice t len #[(i, x)]) {vx v : Value} (hx : a.eval x = vx)
    (hr : (Instr.buildSlice t len #[(i, vx)]).run P w = .ok v w') (h : wpListIn F n P ops Q rest (a.put o.dst v) w') : wpListIn F n P ops Q (o :: rest) a w := by
  refine wpListIn_value hg (by simp [Oper.about, ho]) (fun c hc' => by rw [ho] at hc'; cases hc') ?_ h
  simp only [execOp, ho, List.map_toArray, List.map_cons, List.map_nil, hx, hr, Sem.run_bind, Sem.run_pure, Result.andThen_ok]
end

theorem fold_set (l : List Value) : ∀ (k : Nat) (acc : Array Value), k + l.length ≤ acc.size →
    (l.zipIdx k).foldl (fun cs (p : Value × Nat) => cs.setIfInBounds (0 + p.2) p.1) acc = splice acc k l := by
  induction l with
  | nil => intro k acc h; unfold splice; simp
  | cons v l ih =>
    intro k acc h
    simp only [List.length_cons] at h
    simp only [List.zipIdx_cons, List.foldl_cons, Nat.zero_add] at ih ⊢
    rw [ih (k + 1) _ (by simp; omega)]
    apply Array.ext_getElem?
    intro i
    rw [splice_get _ _ _ (by simp; omega), splice_get _ _ _ (by simp; omega), Array.getElem?_setIfInBounds]
    simp only [List.length_cons]
    by_cases h1 : i = k
    · subst h1
      rw [if_neg (by omega), if_pos rfl, if_pos (by omega), if_pos (by omega)]; simp
    · by_cases h2 : k + 1 ≤ i ∧ i < k + 1 + l.length
      · rw [if_pos h2, if_pos (by omega), show i - k = (i - (k + 1)) + 1 from by omega]; simp
      · rw [if_neg h2, if_neg (by omega), if_neg (by omega)]
theorem splice_all (cur cells : Array Value) (h : cur.size = cells.size) : splice cur 0 cells.toList = cells := by
  apply Array.ext_getElem?
  intro i
  rw [splice_get _ _ _ (by simp; omega)]
  by_cases h1 : i < cells.size
  · rw [if_pos (by simp; omega)]; simp
  · rw [if_neg (by simp; omega), Array.getElem?_eq_none (by omega), Array.getElem?_eq_none (by omega)]
set_option maxRecDepth 10000 in
theorem build_one {w : World} (cs : Array Value) (hcs : cs.size = 33) :
    (Instr.buildSlice 75 1 #[(0, .agg cs)]).run Tryd.prog w = .ok (.slice (some ⟨w.heap.size, 0, none⟩) 1 1) (w.alloc (.cells cs 79)) := by
  obtain ⟨i, z, hi, hz, hsz, hby, hzs⟩ := info_sec_zero
  have hf : Instr.fill (fun i => some (i * 33, 33)) ((Array.range 33).map fun i => z.cells[i % 33]!) [(0, .agg cs)] = some cs := by
    generalize z.cells = zc
    have hfold := fold_set cs.toList 0 ((Array.range 33).map fun i => zc[i % 33]!) (by simp [hcs])
    rw [splice_all _ _ (by simp [hcs])] at hfold
    simp only [Instr.fill, Value.cells, hcs, Nat.zero_mul, Array.size_map, Array.size_range, ne_eq, not_true_eq_false, decide_false, Nat.zero_add, gt_iff_lt, Nat.lt_irrefl, Bool.or_self, Bool.false_eq_true, if_false]
    congr 1
    rw [← Array.foldl_toList, Array.toList_zipIdx]
    simpa only [Nat.zero_add] using hfold
  simp [Instr.buildSlice, run_underlying slice_type, sizeOf, typeInfo, hi, hsz, zeroValue, hz, hzs, hf, newRow]

/-- The sector of number j. -/
def secAt (bs : List Int) (j : Nat) : Sec := ⟨(bs.drop (32 * j)).take 32 ++ List.replicate (32 - ((bs.drop (32 * j)).take 32).length) 0, false⟩
theorem secAt_len (bs : List Int) (j : Nat) : (secAt bs j).bytes.length = 32 := by
  simp only [secAt, List.length_append, List.length_replicate, List.length_take]; omega
/-- A new sector's cells. -/
def zeros33 : Array Value := #[.int .u8 0, .int .u8 0, .int .u8 0, .int .u8 0, .int .u8 0, .int .u8 0, .int .u8 0, .int .u8 0, .int .u8 0, .int .u8 0, .int .u8 0, .int .u8 0, .int .u8 0, .int .u8 0, .int .u8 0, .int .u8 0, .int .u8 0, .int .u8 0, .int .u8 0, .int .u8 0, .int .u8 0, .int .u8 0, .int .u8 0, .int .u8 0, .int .u8 0, .int .u8 0, .int .u8 0, .int .u8 0, .int .u8 0, .int .u8 0, .int .u8 0, .int .u8 0, .bool false]
theorem zeros33_eq : zeros33.toList = List.replicate 32 (Value.int .u8 0) ++ [.bool false] := rfl
theorem splice_secAt (bs : List Int) (j : Nat) : splice zeros33 0 (byteVals ((bs.drop (32 * j)).take 32)) = (secCells (secAt bs j)).toArray := by
  unfold splice
  rw [zeros33_eq]
  congr 1
  have hl : ((bs.drop (32 * j)).take 32).length ≤ 32 := by rw [List.length_take]; omega
  simp only [secAt]
  generalize (bs.drop (32 * j)).take 32 = l at hl
  simp only [List.take_zero, List.nil_append, Nat.zero_add, secCells, byteVals, List.length_map]
  rw [List.drop_append_of_le_length (by simp; omega), List.drop_replicate]
  simp only [List.map_append, List.map_replicate, List.append_assoc]
theorem copy_run {w : World} {s b off e cap : Nat} {cur : Array Value} (hs : w.heap[s]? = some (.cells cur 79 (0, 0))) (hcur : cur.size = 33) (vs : List Int) (hv : vs.length = e) (he : e ≤ 32)
    (hsrc : ∀ j v, (byteVals vs)[j]? = some v → w.cell? ⟨b, off + j, none⟩ = some v) (ty : TypeId) :
    (Builtin.copy_ #[22, 22] ty #[.slice (some ⟨s, 0, none⟩) 32 32, .slice (some ⟨b, off, none⟩) e cap]).run Tryd.prog w = .ok (.int .i64 e) (w.setRow s (splice cur 0 (byteVals vs))) := by
  have hu : Tryd.prog.underlying 22 = some (.slice 5) := by kernel_rfl
  have hi0 : (Tryd.prog.info? 5).map (·.size) = some 1 := by kernel_rfl
  obtain ⟨i, hi, hi1⟩ := Option.map_eq_some_iff.1 hi0
  have hl := run_loadCells_list (P := Tryd.prog) w ⟨b, off, none⟩ (byteVals vs) (fun j v hj => by rw [addr_add]; exact hsrc j v hj)
  have hlen : (byteVals vs).length = e := by simp [byteVals, hv]
  rw [hlen] at hl
  have hst := storeCells_run (P := Tryd.prog) hs (off := 0) (byteVals vs) (by rw [hlen, hcur]; omega) (by intro v hv; obtain ⟨_, _, rfl⟩ := List.mem_map.1 hv; rfl)
  have hmin : Nat.min e 32 = e := Nat.min_eq_left he
  simp [Builtin.copy_, run_underlying hu, Builtin.lenOf, hmin, Builtin.firstCells, sizeOf, typeInfo, hi, hi1, hl, hst, goInt]

/-- A row of sectors that the call owns, as a file. -/
theorem fileRep_row {w : World} {base : Nat} {v : Value} {l : List Sec} (hs : ∀ s ∈ l, s.bytes.length = 32) (h : w.ownsRow base 79 33 v l.length (fileCells l)) : FileRep w (fun k => base ≤ k) v l := by
  obtain ⟨_, ⟨rfl, h0⟩ | ⟨g, cap, cur, rfl, hb, hg, hn, hm, _, ht⟩⟩ := h
  · have : l = [] := List.eq_nil_of_length_eq_zero h0
    subst this
    exact fileRep_nil w _
  · refine ⟨hs, _, cap, rfl, hn, hm, fun _ => ⟨g, cur, rfl, hb, hg, ?_⟩⟩
    rw [Nat.mul_comm]; exact ht
/-- What Append leaves. -/
def St.appS (S : St) (name : Nm) (bs : List Int) : St :=
  { S.doS .noop with files := put S.files name (getF S.files name ++ (List.range (nsec bs.length)).map (secAt bs)) }
theorem doS_files (S : St) : (S.doS .noop).files = S.files := by unfold St.doS; split <;> rfl
theorem doS_room (S : St) (h : Hg) : (S.doS h).room = S.room := by unfold St.doS; split <;> rfl
theorem appS_ok {S : St} {name : Nm} {bs : List Int} (ok : S.Ok) (ok1 : (S.doS .noop).Ok) (hoff : S.off = false) (hn : nameB name = true) (hA : ¬ S.fullA name bs.length) (hB : ¬ S.fullB name) : (S.appS name bs).Ok := by
  have hu := used_put S.files name (getF S.files name ++ (List.range (nsec bs.length)).map (secAt bs))
  simp only [List.length_append, List.length_map, List.length_range] at hu
  unfold St.fullA at hA
  refine ⟨ok1.room, ?_, ok1.armed, ?_, ?_, ?_, ?_⟩
  · show ((used (put S.files name _) : Nat) : Int) ≤ (S.doS .noop).room
    rw [doS_room]; omega
  · intro ho
    have hr : (S.doS .noop).off = true := ho
    unfold St.doS at hr
    split at hr
    · exact ⟨.noop, by show (S.doS .noop).hangs = _; unfold St.doS; rw [if_pos ‹_›], trivial⟩
    · exact absurd (hr : S.off = true) (by rw [hoff]; simp)
  · intro p hp
    rcases mem_put _ _ _ p hp with rfl | hp
    · exact hn
    · exact ok.names p hp
  · show (put S.files name _).length ≤ 64
    cases hg : get S.files name with
    | some l => rw [length_put_le _ _ _ (by rw [hg]; rfl)]; exact ok.count
    | none =>
      have h1 := length_put_le1 S.files name (getF S.files name ++ (List.range (nsec bs.length)).map (secAt bs))
      have h2 : S.files.length ≠ 64 := fun e => hB ⟨hg, e⟩
      have := ok.count; omega
  · intro p hp s hs
    rcases mem_put _ _ _ p hp with rfl | hp
    · rcases List.mem_append.1 hs with hs | hs
      · obtain ⟨q, hq, h1⟩ := getF_mem s hs; exact ok.secs q hq s h1
      · obtain ⟨j, _, rfl⟩ := List.mem_map.1 hs; exact secAt_len bs j
    · exact ok.secs p hp s hs
end Go.Proofs.YtmcmapaapffadaaDoor

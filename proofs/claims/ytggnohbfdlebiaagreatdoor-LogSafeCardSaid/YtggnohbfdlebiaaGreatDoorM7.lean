/-
  Merged of my texts, in order: Body, Save, Fate.
-/
import Derived.Test.YtggnohbfdlebiaaGreatDoorM6
import Derived.RangeFuncBox
/-
  Words for the round of Append's loop: laws inside a fence; a chunk becomes a sector.
-/
namespace Go.Proofs.YtggnohbfdlebiaaGreatDoor
open Go.RowKit Go.Shelf Go.ChangeMaps

section
variable {F : Fence} {n : Nat} {P : Program} {ops : Array Oper} {rest : List Oper} {o : Oper} {a : Act} {w w' : World} {Q : Exit → Act → World → Prop}
/-- An operation that yields v, inside a fence. -/
theorem wpListIn_value (hg : o.guard = none) (hab : o.about P w a.eval = none) (hnd : ∀ c, o.op ≠ .defer c) {v : Value} (hr : (execOp a.eval o).run P w = .ok (.value v) w')
    (h : wpListIn F n P ops Q rest (a.put o.dst v) w') : wpListIn F n P ops Q (o :: rest) a w := by
  refine wpListIn_plain hg fun K hK => ?_
  unfold Oper.wpIn
  refine ⟨?_, ?_⟩
  · rw [hab]; simp
  · rw [Oper.semAt_plain F _ _ hnd, hr]
    exact hK _ _ h
theorem wpListIn_load_agg (hg : o.guard = none) (ty : TypeId) (x : Operand) (ho : o.op = .load ty x)
    {g off : Nat} (hx : a.eval x = .pointer (some ⟨g, off, none⟩)) (cs : Array Value) (hc : ∀ j v, cs.toList[j]? = some v → w.cell? ⟨g, off + j, none⟩ = some v)
    (ha : ∀ w, (isAgg ty).run P w = .ok true w) (hi : (P.info? ty).map (·.size) = some cs.size)
    (h : wpListIn F n P ops Q rest (a.put o.dst (.agg cs)) w) : wpListIn F n P ops Q (o :: rest) a w := by
  refine wpListIn_value hg (by simp [Oper.about, ho]) (fun c hc' => by rw [ho] at hc'; cases hc') ?_ h
  simp only [execOp, ho, hx, Instr.loadAt, Instr.sureAddr, Sem.run_bind, Sem.run_pure, Result.andThen_ok, load_agg_run cs hc ha hi]
theorem wpListIn_copy_run (hg : o.guard = none) (s x : Operand) (t tx : TypeId)
    (ho : o.op = .call { callee := .builtin .copy, args := #[s, x], argTypes := #[t, tx] }) {vs vx v : Value} (hs : a.eval s = vs) (hx : a.eval x = vx)
    (hr : (Builtin.copy_ #[t, tx] o.type #[vs, vx]).run P w = .ok v w') (h : wpListIn F n P ops Q rest (a.put o.dst v) w') : wpListIn F n P ops Q (o :: rest) a w := by
  refine wpListIn_value hg (by simp [Oper.about, ho, resolve, Target.leads, Sem.run_pure]) (fun c hc' => by rw [ho] at hc'; cases hc') ?_ h
  simp only [execOp, ho, resolve, invoke, builtin, Sem.run_bind, Sem.run_pure, Result.andThen_ok, List.map_toArray, List.map_cons, List.map_nil, hs, hx, hr]
theorem wpListIn_buildSlice_run (hg : o.guard = none) (t : TypeId) (len i : Nat) (x : Operand) (ho : o.op = .buildSlice t len #[(i, x)]) {vx v : Value} (hx : a.eval x = vx)
    (hr : (Instr.buildSlice t len #[(i, vx)]).run P w = .ok v w') (h : wpListIn F n P ops Q rest (a.put o.dst v) w') : wpListIn F n P ops Q (o :: rest) a w := by
  refine wpListIn_value hg (by simp [Oper.about, ho]) (fun c hc' => by rw [ho] at hc'; cases hc') ?_ h
  simp only [execOp, ho, List.map_toArray, List.map_cons, List.map_nil, hx, hr, Sem.run_bind, Sem.run_pure, Result.andThen_ok]
end

theorem fold_set (l : List Value) : ∀ (k : Nat) (acc : Array Value), k + l.length ≤ acc.size →
    (l.zipIdx k).foldl (fun cs (p : Value × Nat) => cs.setIfInBounds (0 + p.2) p.1) acc = splice acc k l := by
  induction l with
  | nil => intro k acc h; unfold splice; simp
  | cons v l ih =>
    intro k acc h
    simp only [List.length_cons] at h
    simp only [List.zipIdx_cons, List.foldl_cons, Nat.zero_add] at ih ⊢
    rw [ih (k + 1) _ (by simp; omega)]
    apply Array.ext_getElem?
    intro i
    rw [splice_get _ _ _ (by simp; omega), splice_get _ _ _ (by simp; omega), Array.getElem?_setIfInBounds]
    simp only [List.length_cons]
    by_cases h1 : i = k
    · subst h1
      rw [if_neg (by omega), if_pos rfl, if_pos (by omega), if_pos (by omega)]; simp
    · by_cases h2 : k + 1 ≤ i ∧ i < k + 1 + l.length
      · rw [if_pos h2, if_pos (by omega), show i - k = (i - (k + 1)) + 1 from by omega]; simp
      · rw [if_neg h2, if_neg (by omega), if_neg (by omega)]
theorem splice_all (cur cells : Array Value) (h : cur.size = cells.size) : splice cur 0 cells.toList = cells := by
  apply Array.ext_getElem?
  intro i
  rw [splice_get _ _ _ (by simp; omega)]
  by_cases h1 : i < cells.size
  · rw [if_pos (by simp; omega)]; simp
  · rw [if_neg (by simp; omega), Array.getElem?_eq_none (by omega), Array.getElem?_eq_none (by omega)]
set_option maxRecDepth 10000 in
theorem build_one {w : World} (cs : Array Value) (hcs : cs.size = 33) :
    (Instr.buildSlice 87 1 #[(0, .agg cs)]).run Tryz.prog w = .ok (.slice (some ⟨w.heap.size, 0, none⟩) 1 1) (w.alloc (.cells cs 93)) := by
  obtain ⟨i, z, hi, hz, hsz, hby, hzs⟩ := info_sec_zero
  have hf : Instr.fill (fun i => some (i * 33, 33)) ((Array.range 33).map fun i => z.cells[i % 33]!) [(0, .agg cs)] = some cs := by
    generalize z.cells = zc
    have hfold := fold_set cs.toList 0 ((Array.range 33).map fun i => zc[i % 33]!) (by simp [hcs])
    rw [splice_all _ _ (by simp [hcs])] at hfold
    simp only [Instr.fill, Value.cells, hcs, Nat.zero_mul, Array.size_map, Array.size_range, ne_eq, not_true_eq_false, decide_false, Nat.zero_add, gt_iff_lt, Nat.lt_irrefl, Bool.or_self, Bool.false_eq_true, if_false]
    congr 1
    rw [← Array.foldl_toList, Array.toList_zipIdx]
    simpa only [Nat.zero_add] using hfold
  simp [Instr.buildSlice, run_underlying slice_type, sizeOf, typeInfo, hi, hsz, zeroValue, hz, hzs, hf, newRow]

/-- The sector of number j. -/
def secAt (bs : List Int) (j : Nat) : Sec := ⟨(bs.drop (32 * j)).take 32 ++ List.replicate (32 - ((bs.drop (32 * j)).take 32).length) 0, false⟩
theorem secAt_len (bs : List Int) (j : Nat) : (secAt bs j).bytes.length = 32 := by
  simp only [secAt, List.length_append, List.length_replicate, List.length_take]; omega
/-- A new sector's cells. -/
def zeros33 : Array Value := #[.int .u8 0, .int .u8 0, .int .u8 0, .int .u8 0, .int .u8 0, .int .u8 0, .int .u8 0, .int .u8 0, .int .u8 0, .int .u8 0, .int .u8 0, .int .u8 0, .int .u8 0, .int .u8 0, .int .u8 0, .int .u8 0, .int .u8 0, .int .u8 0, .int .u8 0, .int .u8 0, .int .u8 0, .int .u8 0, .int .u8 0, .int .u8 0, .int .u8 0, .int .u8 0, .int .u8 0, .int .u8 0, .int .u8 0, .int .u8 0, .int .u8 0, .int .u8 0, .bool false]
theorem zeros33_eq : zeros33.toList = List.replicate 32 (Value.int .u8 0) ++ [.bool false] := rfl
theorem splice_secAt (bs : List Int) (j : Nat) : splice zeros33 0 (byteVals ((bs.drop (32 * j)).take 32)) = (secCells (secAt bs j)).toArray := by
  unfold splice
  rw [zeros33_eq]
  congr 1
  have hl : ((bs.drop (32 * j)).take 32).length ≤ 32 := by rw [List.length_take]; omega
  simp only [secAt]
  generalize (bs.drop (32 * j)).take 32 = l at hl
  simp only [List.take_zero, List.nil_append, Nat.zero_add, secCells, byteVals, List.length_map]
  rw [List.drop_append_of_le_length (by simp; omega), List.drop_replicate]
  simp only [List.map_append, List.map_replicate, List.append_assoc]
theorem copy_run {w : World} {s b off e cap : Nat} {cur : Array Value} (hs : w.heap[s]? = some (.cells cur 93 (0, 0))) (hcur : cur.size = 33) (vs : List Int) (hv : vs.length = e) (he : e ≤ 32)
    (hsrc : ∀ j v, (byteVals vs)[j]? = some v → w.cell? ⟨b, off + j, none⟩ = some v) (ty : TypeId) :
    (Builtin.copy_ #[33, 33] ty #[.slice (some ⟨s, 0, none⟩) 32 32, .slice (some ⟨b, off, none⟩) e cap]).run Tryz.prog w = .ok (.int .i64 e) (w.setRow s (splice cur 0 (byteVals vs))) := by
  have hu : Tryz.prog.underlying 33 = some (.slice 5) := by kernel_rfl
  have hi0 : (Tryz.prog.info? 5).map (·.size) = some 1 := by kernel_rfl
  obtain ⟨i, hi, hi1⟩ := Option.map_eq_some_iff.1 hi0
  have hl := run_loadCells_list (P := Tryz.prog) w ⟨b, off, none⟩ (byteVals vs) (fun j v hj => by rw [addr_add]; exact hsrc j v hj)
  have hlen : (byteVals vs).length = e := by simp [byteVals, hv]
  rw [hlen] at hl
  have hst := storeCells_run (P := Tryz.prog) hs (off := 0) (byteVals vs) (by rw [hlen, hcur]; omega) (by intro v hv; obtain ⟨_, _, rfl⟩ := List.mem_map.1 hv; rfl)
  have hmin : Nat.min e 32 = e := Nat.min_eq_left he
  simp [Builtin.copy_, run_underlying hu, Builtin.lenOf, hmin, Builtin.firstCells, sizeOf, typeInfo, hi, hi1, hl, hst, goInt]

/-- A row of sectors that the call owns, as a file. -/
theorem fileRep_row {w : World} {base : Nat} {v : Value} {l : List Sec} (hs : ∀ s ∈ l, s.bytes.length = 32) (h : w.ownsRow base 93 33 v l.length (fileCells l)) : FileRep w (fun k => base ≤ k) v l := by
  obtain ⟨_, ⟨rfl, h0⟩ | ⟨g, cap, cur, rfl, hb, hg, hn, hm, _, ht⟩⟩ := h
  · have : l = [] := List.eq_nil_of_length_eq_zero h0
    subst this
    exact fileRep_nil w _
  · refine ⟨hs, _, cap, rfl, hn, hm, fun _ => ⟨g, cur, rfl, hb, hg, ?_⟩⟩
    rw [Nat.mul_comm]; exact ht
/-- What Append leaves. -/
def St.appS (S : St) (name : Nm) (bs : List Int) : St :=
  { S.doS .noop with files := put S.files name (getF S.files name ++ (List.range (nsec bs.length)).map (secAt bs)) }
theorem doS_files (S : St) : (S.doS .noop).files = S.files := by unfold St.doS; split <;> rfl
theorem doS_room (S : St) (h : Hg) : (S.doS h).room = S.room := by unfold St.doS; split <;> rfl
theorem appS_ok {S : St} {name : Nm} {bs : List Int} (ok : S.Ok) (ok1 : (S.doS .noop).Ok) (hoff : S.off = false) (hn : nameB name = true) (hA : ¬ S.fullA name bs.length) (hB : ¬ S.fullB name) : (S.appS name bs).Ok := by
  have hu := used_put S.files name (getF S.files name ++ (List.range (nsec bs.length)).map (secAt bs))
  simp only [List.length_append, List.length_map, List.length_range] at hu
  unfold St.fullA at hA
  refine ⟨ok1.room, ?_, ok1.armed, ?_, ?_, ?_, ?_⟩
  · show ((used (put S.files name _) : Nat) : Int) ≤ (S.doS .noop).room
    rw [doS_room]; omega
  · intro ho
    have hr : (S.doS .noop).off = true := ho
    unfold St.doS at hr
    split at hr
    · exact ⟨.noop, by show (S.doS .noop).hangs = _; unfold St.doS; rw [if_pos ‹_›], trivial⟩
    · exact absurd (hr : S.off = true) (by rw [hoff]; simp)
  · intro p hp
    rcases mem_put _ _ _ p hp with rfl | hp
    · exact hn
    · exact ok.names p hp
  · show (put S.files name _).length ≤ 64
    cases hg : get S.files name with
    | some l => rw [length_put_le _ _ _ (by rw [hg]; rfl)]; exact ok.count
    | none =>
      have h1 := length_put_le1 S.files name (getF S.files name ++ (List.range (nsec bs.length)).map (secAt bs))
      have h2 : S.files.length ≠ 64 := fun e => hB ⟨hg, e⟩
      have := ok.count; omega
  · intro p hp s hs
    rcases mem_put _ _ _ p hp with rfl | hp
    · rcases List.mem_append.1 hs with hs | hs
      · obtain ⟨q, hq, h1⟩ := getF_mem s hs; exact ok.secs q hq s h1
      · obtain ⟨j, _, rfl⟩ := List.mem_map.1 hs; exact secAt_len bs j
    · exact ok.secs p hp s hs
end Go.Proofs.YtggnohbfdlebiaaGreatDoor

/-
  What Append's last step does: the new sectors, behind the old ones; do with nothing to do; a row built in a loop.
-/
namespace Go.Proofs.YtggnohbfdlebiaaGreatDoor
open Go.RowKit Go.Shelf Go.ChangeMaps

theorem do_noop_all {w : World} {d m : Nat} {es : Array MapEntry} {clock : Nat} {hv : Value} {S : St} {F : Nat → Prop} (h : DiskIs w d m es clock hv S F) (hoff : S.off = false) :
    Calls Tryz.prog 41 #[.pointer (some ⟨d, 0, none⟩), .func (.func 42) #[] #[]] w (Does w d S.doE (S.doS .noop) F) := by
  by_cases h1 : S.armed = 1
  · exact do_goes h hoff (hg := .noop) rfl trivial h1 ⟨_, _, rfl⟩
  · exact do_noop h hoff trivial h1

/-- The bytes that came in lie there. -/
def Holds8 (w : World) (b off : Nat) (bs : List Int) : Prop := ∀ j v, (byteVals bs)[j]? = some v → w.cell? ⟨b, off + j, none⟩ = some v

/-- append, its run being known, where the operation stands by itself. -/
theorem oper_append {P : Program} {o : Oper} {a : Act} {w w' : World} {K : Act → World → Prop} {Q : Exit → Act → World → Prop} (s x : Operand) (t tx : TypeId)
    (ho : o.op = .call { callee := .builtin .append, args := #[s, x], argTypes := #[t, tx] }) {vs vx v : Value} (hs : a.eval s = vs) (hx : a.eval x = vx)
    (hr : (Builtin.append_ #[t, tx] o.type #[vs, vx]).run P w = .ok v w') (h : K (a.put o.dst v) w') : Oper.wp P o a w K Q := by
  unfold Oper.wp execOp
  simp only [ho, resolve, invoke, builtin, Sem.run_bind, Sem.run_pure, Result.andThen_ok, List.map_toArray, List.map_cons, List.map_nil, hs, hx, hr]
  exact h

/-- The old sectors, clipped; the new ones behind; the map. -/
theorem save_any {w : World} {d m : Nat} {es : Array MapEntry} {clock : Nat} {hv : Value} {S S' : St} {F G : Nat → Prop} {x : Value} {news : List Sec} (h : DiskIs w d m es clock hv S F) (name : Nm)
    (hS : S' = { S with files := put S.files name (getF S.files name ++ news) }) (ok : S'.Ok) (hx : FileRep w G x news) (hn : (getF S.files name).length + news.length ≤ 1000000) :
    ∃ p n c, n ≤ c ∧ c ≤ maxLen ∧ (Instr.lookup 71 (.map (some m)) (.string name) false).run Tryz.prog w = .ok (.slice p n c) w ∧
      ∃ v' w4, (Builtin.append_ #[87, 87] 87 #[.slice p n n, x]).run Tryz.prog w = .ok v' w4 ∧ Kp (fun _ => False) w w4 ∧
        ∃ es2 clock2, (Instr.mapUpdate 71 (.map (some m)) (.string name) v').run Tryz.prog w4 = .ok () (setBlock w4 m (.map es2 clock2)) ∧
          ∃ F', DiskAt (setBlock w4 m (.map es2 clock2)) d S' F' ∧ (∀ k, F' k → F k ∨ w.heap.size ≤ k) ∧ Kp F w (setBlock w4 m (.map es2 clock2)) := by
  subst hS
  obtain ⟨u, hl, hu⟩ : ∃ u, (Instr.lookup 71 (.map (some m)) (.string name) false).run Tryz.prog w = .ok u w ∧ FileRep w F u (getF S.files name) := by
    cases hg : get S.files name with
    | none => exact ⟨_, look_none h hg false, by simpa [getF, hg] using fileRep_nil w F⟩
    | some l => obtain ⟨u, h1, h2⟩ := look_some h hg false; exact ⟨u, h1, by simpa [getF, hg] using h2⟩
  obtain ⟨old, hold⟩ : ∃ old, getF S.files name = old := ⟨_, rfl⟩
  rw [hold] at hu hn ok ⊢
  have hu' := hu
  obtain ⟨h0, p, c, rfl, hle, hcm, hb⟩ := hu'
  refine ⟨p, old.length, c, hle, hcm, hl, ?_⟩
  have hcl : old.length ≤ maxLen := Nat.le_trans hle hcm
  have hclip : FileRep w F (.slice p old.length old.length) old := ⟨h0, p, old.length, rfl, Nat.le_refl old.length, hcl, hb⟩
  obtain ⟨v', w4, hrun, hvv, hk⟩ := append_secs hclip (fun p' n' c' e => (Value.slice.inj e).2.2.symm.trans (Value.slice.inj e).2.1) hx hn 87
  refine ⟨v', w4, hrun, hk, ?_⟩
  have h1' := h.kept hk (fun _ _ h => h)
  obtain ⟨es2, clock2, hup, hents2⟩ := update_run (P := Tryz.prog) (R := FileRep w4 (fun k => F k ∨ (w.heap.size ≤ k ∧ k < w4.heap.size))) map_type key_type keyNow_string h1'.hm (h1'.ents.imp fun _ _ hr => hr.mono fun _ h => .inl h) name (old ++ news) v'
    (hvv.lt.mono fun k h => h.1.imp id fun h1 => ⟨h1, h.2⟩)
  refine ⟨es2, clock2, hup, fun k => F k ∨ (w.heap.size ≤ k ∧ k < w4.heap.size), ?_, fun k hk => hk.imp id (·.1), ?_⟩
  · have hd := (h1'.files (F' := fun k => F k ∨ (w.heap.size ≤ k ∧ k < w4.heap.size)) (w' := setBlock w4 m (.map es2 clock2)) (fun _ h => .inl h) (fun k o hk hb => (blk_off _ hk).trans hb) (blk_put h1'.hm) hents2 ok ?_)
    · exact hd
    · intro k hk'
      have := hk.size
      simp only [setBlock, Array.size_setIfInBounds]
      rcases hk' with hk' | hk'
      · exact Nat.lt_of_lt_of_le (h.flt k hk') hk.size
      · exact hk'.2
  · exact (hk.mono fun _ h => h.elim).setObj (.inl h.fm) _

/-- What lies behind one round of the loop that collects sectors. -/
theorem round_own {W w' : World} {n0 L Bs Bn k m : Nat} {v v' x1 x2 : Value} {xs ys : List Value} {A B : Obj} (hv : Boxed W L 87 v) (hrow : W.ownsRow n0 93 33 v k xs) (h1 : Boxed W Bs 33 x1) (h2 : Boxed W Bn 3 x2)
    (hn : n0 ≤ W.heap.size) (hL : n0 ≤ L) (hs : Bs ≠ L) (hn2 : Bn ≠ L) (hown : w'.ownsRow n0 93 33 v' m ys) (hg : ((W.alloc A).alloc B).grownBy w' v.ownBlock) :
    Boxed w' L 87 v ∧ Boxed (w'.setCell ⟨L, 0, none⟩ v') L 87 v' ∧ (w'.setCell ⟨L, 0, none⟩ v').ownsRow n0 93 33 v' m ys ∧ KeepsOthers W (w'.setCell ⟨L, 0, none⟩ v') ∧ Below n0 W (w'.setCell ⟨L, 0, none⟩ v') ∧
      Boxed (w'.setCell ⟨L, 0, none⟩ v') Bs 33 x1 ∧ Boxed (w'.setCell ⟨L, 0, none⟩ v') Bn 3 x2 := by
  have hra := (hrow.alloc A).alloc B
  obtain ⟨a1, a2, a3, a4, a5⟩ := (hv.alloc A).appended (by decide) (hrow.alloc A) (by simp; omega) hL hown hg
  exact ⟨a1, a2, a3, (KeepsOthers.alloc W A).trans a4, ((Below.refl n0 W).alloc hn A).trans a5,
    ((((h1.alloc A).alloc B).kept hg (((h1.alloc A).alloc B).not_row (by decide) hra)).other hs _), ((((h2.alloc A).alloc B).kept hg (((h2.alloc A).alloc B).not_row (by decide) hra)).other hn2 _)⟩
theorem two_of_boxed {W W' : World} {A B : Nat} {t1 t2 : TypeId} {x1 x2 : Value} (h1 : Boxed W A t1 x1) (h2 : Boxed W B t2 x2) (k1 : Boxed W' A t1 x1) (k2 : Boxed W' B t2 x2) : Two A B W W' := ⟨k1.trans h1.symm, k2.trans h2.symm⟩
theorem two_putObj {A B n0 : Nat} (hA : A < n0) (hB : B < n0) (W : World) (l : Nat) (o o' : Obj) (hl : n0 ≤ l) (_ : W.heap[l]? = some o) (_ : o.isCells = false) (_ : o.isWalk = false) : Two A B W (W.putObj l o') :=
  ⟨World.putObj_heap_other (by omega), World.putObj_heap_other (by omega)⟩
theorem cells_new (w : World) (cs : Array Value) (t : TypeId) : ∀ j v, cs.toList[j]? = some v → (w.alloc (.cells cs t)).cell? ⟨w.heap.size, 0 + j, none⟩ = some v := by
  intro j v hj
  rw [blk_cell (heap_alloc_new w _), Nat.zero_add]
  simpa using hj
theorem chunk_bytes {bs : List Int} {len : Nat} (h : bs.length = len) (x : Nat) : ((bs.drop (32 * x)).take 32).length = min 32 (len - 32 * x) := by
  rw [List.length_take, List.length_drop, h]
theorem chunk_src {w W : World} {n0 b off x : Nat} {bs : List Int} (hs : Holds8 w b off bs) (hB : Below n0 w W) (hn : w.heap.size ≤ n0) (A : Obj) : ∀ j v, (byteVals ((bs.drop (32 * x)).take 32))[j]? = some v → (W.alloc A).cell? ⟨b, off + 32 * x + j, none⟩ = some v := by
  intro j v hj
  have hj' : (byteVals bs)[32 * x + j]? = some v := by
    simp only [byteVals, List.getElem?_map, List.getElem?_take, List.getElem?_drop] at hj ⊢
    split at hj
    · exact hj
    · cases hj
  have hc := hs _ _ hj'
  have hlt := block_lt_of_cell hc
  have h1 : W.cell? ⟨b, off + (32 * x + j), none⟩ = some v := (World.cell?_of_block (w := w) (hB.block b (Nat.lt_of_lt_of_le hlt hn))).trans hc
  rw [← Nat.add_assoc] at h1
  exact (World.cell?_of_block (w := W) (alloc_old' W A b (block_lt_of_cell h1))).trans h1
theorem kp_putObj (w : World) (D : Nat) (o : Obj) : Kp (fun k => k = D) w (w.putObj D o) := ⟨rfl, rfl, rfl, by simp, fun _ _ hk => World.putObj_heap_other hk⟩
/-- The loop's own list of deferred calls is taken away at the end. -/
theorem append_fin {w w1 W w3 w5 : World} {F F3 F5 : Nat → Prop} {d D : Nat} {S' : St} (n : Int) (hF : ∀ k, F k → k < w.heap.size) (hk1 : Kp (fun _ => False) w w1) (hB : Below w1.heap.size w1 W) (hk3 : Kp F W w3)
    (hF3 : ∀ k, F3 k → F k ∨ W.heap.size ≤ k) (hD : w1.heap.size ≤ D) (hK : W.heap[D]? = some (.deferred (some []))) (hd : DiskAt w5 d S' F5) (hF5 : ∀ k, F5 k → F3 k ∨ w3.heap.size ≤ k) (hk5 : Kp F3 w3 w5) :
    w5.heap[D]? = some (.deferred (some [])) ∧ Does w d n S' F (.returned (.int .i64 n)) (w5.putObj D (.deferred none)) := by
  have hDW := blk_lt hK
  have s1 := hk1.size
  have s2 := hB.size
  have s3 := hk3.size
  have hFD : ¬ F D := fun h => by have := hF D h; omega
  have hF3D : ¬ F3 D := fun h => by rcases hF3 D h with h | h; exact hFD h; omega
  have hF5D : ∀ k, F5 k → ¬ k = D := by
    rintro k h rfl
    rcases hF5 k h with h | h
    · exact hF3D h
    · omega
  refine ⟨hk5.blk (hk3.blk hK hFD) hF3D, rfl, F5, hd.kept (kp_putObj w5 D _) hF5D, ?_, ?_⟩
  · intro k h
    rcases hF5 k h with h | h
    · rcases hF3 k h with h | h
      · exact .inl h
      · right; omega
    · right; omega
  · have h1 : Kp F w W := (hk1.mono fun _ h => h.elim).trans (Kp.of_below F hB)
    have h2 : Kp F w w5 := (h1.trans hk3).trans' hk5 fun i h => by
      rcases hF3 i h with h | h
      · exact .inl h
      · right; omega
    exact h2.trans' (kp_putObj w5 D _) fun i h => by right; omega
end Go.Proofs.YtggnohbfdlebiaaGreatDoor

/-
  Restart: what it does to the sectors, plainly; the call of the operation at which the power went; the steps of its inner loop.
-/
namespace Go.Proofs.YtggnohbfdlebiaaGreatDoor
open Go.RowKit Go.Shelf Go.ChangeMaps

/-! ### plain -/
def zeroSec : Sec := ⟨List.replicate 32 0, false⟩
/-- A sector behind a crash: number i of those that were not safe. -/
def fateSec (K : List Bool) (i : Nat) (s : Sec) : Sec := if s.synced = true ∨ K.getD i false = true then setSync s else setSync zeroSec
def fateN (K : List Bool) : Nat → List Sec → List Sec
  | _, [] => []
  | i, s :: l => fateSec K i s :: fateN K (if s.synced = true then i else i + 1) l
/-- How many are not safe. -/
def uns (l : List Sec) : Nat := (l.filter fun s => !s.synced).length
def fateStep (K : List Bool) (p : Nat × Files) (n : Nm) : Nat × Files := (p.1 + uns (getF p.2 n), put p.2 n (fateN K p.1 (getF p.2 n)))
def fateFold (K : List Bool) (ns : List Nm) (fs : Files) : Nat × Files := ns.foldl (fateStep K) (0, fs)
theorem fateFold_step (K : List Bool) {ns : List Nm} {k : Nat} (hk : k < ns.length) (fs : Files) : fateFold K (ns.take (k + 1)) fs = fateStep K (fateFold K (ns.take k) fs) ns[k] := by
  unfold fateFold
  rw [List.take_succ_eq_append_getElem hk, List.foldl_append]; rfl
theorem put_keys_same {α : Type} {l : List (Nm × α)} {x : Nm} {v : α} (h : (get l x).isSome = true) : (put l x v).map (·.1) = l.map (·.1) := by rw [put_keys, if_pos h]
theorem fateFold_keys (K : List Bool) : ∀ (ns : List Nm) (p : Nat × Files), (∀ n ∈ ns, n ∈ p.2.map (·.1)) → (ns.foldl (fateStep K) p).2.map (·.1) = p.2.map (·.1)
  | [], _, _ => rfl
  | n :: ns, p, h => by
    have hk : (fateStep K p n).2.map (·.1) = p.2.map (·.1) := put_keys_same (get_isSome.2 (h n (by simp)))
    rw [List.foldl_cons, fateFold_keys K ns _ (fun x hx => by rw [hk]; exact h x (by simp [hx])), hk]
theorem uns_append (a b : List Sec) : uns (a ++ b) = uns a + uns b := by simp [uns]
theorem uns_one (s : Sec) : uns [s] = if s.synced = true then 0 else 1 := by cases h : s.synced <;> simp [uns, h]
theorem uns_le (a : List Sec) : uns a ≤ a.length := List.length_filter_le _ _
theorem fateN_append (K : List Bool) (a b : List Sec) : ∀ i, fateN K i (a ++ b) = fateN K i a ++ fateN K (i + uns a) b := by
  induction a with
  | nil => intro i; simp [fateN, uns]
  | cons s a ih =>
    intro i
    have h1 : uns (s :: a) = uns [s] + uns a := uns_append [s] a
    simp only [List.cons_append, fateN, ih, h1, uns_one]
    cases s.synced <;> simp [Nat.add_assoc]
theorem fateN_length (K : List Bool) (l : List Sec) : ∀ i, (fateN K i l).length = l.length := by
  induction l with
  | nil => intro i; rfl
  | cons s l ih => intro i; simp [fateN, ih]
theorem fateSec_len {K : List Bool} {i : Nat} {s : Sec} (h : s.bytes.length = 32) : (fateSec K i s).bytes.length = 32 := by
  unfold fateSec; split <;> simp [setSync, zeroSec, h]
theorem fateN_len {K : List Bool} {l : List Sec} (h : ∀ s ∈ l, s.bytes.length = 32) : ∀ i, ∀ s ∈ fateN K i l, s.bytes.length = 32 := by
  induction l with
  | nil => intro i s hs; simp [fateN] at hs
  | cons x l ih =>
    intro i s hs
    simp only [fateN, List.mem_cons] at hs
    rcases hs with rfl | hs
    · exact fateSec_len (h x (by simp))
    · exact ih (fun s hs => h s (by simp [hs])) _ s hs
/-- One sector more. -/
theorem fateN_step (K : List Bool) {l : List Sec} {k : Nat} (hk : k < l.length) (i : Nat) :
    fateN K i (l.take (k + 1)) = fateN K i (l.take k) ++ [fateSec K (i + uns (l.take k)) l[k]] := by
  rw [List.take_succ_eq_append_getElem hk, fateN_append]; rfl
theorem uns_step {l : List Sec} {k : Nat} (hk : k < l.length) : uns (l.take (k + 1)) = uns (l.take k) + if l[k].synced = true then 0 else 1 := by
  rw [List.take_succ_eq_append_getElem hk, uns_append, uns_one]

/-! ### a row of sectors in memory -/
def RowIs (w : World) (g : Nat) (l : List Sec) : Prop := ∃ cur, w.heap[g]? = some (.cells cur 93 (0, 0)) ∧ cur.toList.take (33 * l.length) = fileCells l
theorem rowIs_split (A B : List Sec) (s : Sec) : fileCells (A ++ s :: B) = fileCells A ++ (secCells s ++ fileCells B) := by
  rw [fileCells_append]; rfl
theorem RowIs.cell {w : World} {g k : Nat} {A B : List Sec} {s : Sec} (h : RowIs w g (A ++ s :: B)) (hA : ∀ x ∈ A, x.bytes.length = 32) (hs : s.bytes.length = 32) (hk : A.length = k) :
    w.cell? ⟨g, k * 33 + 32, none⟩ = some (.bool s.synced) := by
  obtain ⟨cur, hg, ht⟩ := h
  rw [blk_cell hg]
  have hl := fileCells_length hA
  have h1 : (fileCells (A ++ s :: B))[k * 33 + 32]? = some (.bool s.synced) := by
    rw [rowIs_split, List.getElem?_append_right (by omega), hl, show k * 33 + 32 - 33 * A.length = 32 by omega,
      List.getElem?_append_left (by rw [secCells_length hs]; omega)]
    simp only [secCells]
    rw [List.getElem?_append_right (by simp; omega)]
    simp [hs]
  rw [← ht, List.getElem?_take] at h1
  split at h1
  · simpa using h1
  · cases h1
theorem RowIs.free {w : World} {g : Nat} {l : List Sec} (h : RowIs w g l) (i : Nat) : w.frozen? ⟨g, i, none⟩ = false := by
  obtain ⟨cur, hg, _⟩ := h; exact blk_free hg i
theorem RowIs.sync {w : World} {g k : Nat} {A B : List Sec} {s : Sec} (h : RowIs w g (A ++ s :: B)) (hA : ∀ x ∈ A, x.bytes.length = 32) (hs : s.bytes.length = 32) (hk : A.length = k) :
    RowIs (w.setCell ⟨g, k * 33 + 32, none⟩ (.bool true)) g (A ++ setSync s :: B) := by
  obtain ⟨cur, hg, ht⟩ := h
  refine ⟨_, blk_set hg _ _, ?_⟩
  have hl := fileCells_length hA
  have e : (A ++ setSync s :: B).length = (A ++ s :: B).length := by simp
  rw [e, Array.toList_setIfInBounds, List.take_set, ht, rowIs_split, rowIs_split, List.set_append_right _ _ (by omega), hl, show k * 33 + 32 - 33 * A.length = 32 by omega]
  congr 1
  rw [List.set_append_left _ _ (by rw [secCells_length hs]; omega)]
  congr 1
  simp only [secCells, setSync]
  rw [List.set_append_right _ _ (by simp [hs])]
  simp [hs]
theorem get_mid {α : Type} {a x b : List α} {k : Nat} (ha : a.length = k * 33) (hx : x.length = 33) (j : Nat) :
    (a ++ (x ++ b))[j]? = if j < k * 33 then a[j]? else if j < k * 33 + 33 then x[j - k * 33]? else b[j - k * 33 - 33]? := by
  by_cases h1 : j < k * 33
  · rw [if_pos h1, List.getElem?_append_left (by omega)]
  · rw [if_neg h1, List.getElem?_append_right (by omega), ha]
    by_cases h2 : j < k * 33 + 33
    · rw [if_pos h2, List.getElem?_append_left (by omega)]
    · rw [if_neg h2, List.getElem?_append_right (by omega), hx]
theorem zeros33_cells : zeros33.toList = secCells zeroSec := rfl
theorem RowIs.zero {w : World} {g k : Nat} {A B : List Sec} {s : Sec} (h : RowIs w g (A ++ s :: B)) (hA : ∀ x ∈ A, x.bytes.length = 32) (hs : s.bytes.length = 32) (hB : ∀ x ∈ B, x.bytes.length = 32) (hk : A.length = k) :
    ∃ cur, w.heap[g]? = some (.cells cur 93 (0, 0)) ∧ k * 33 + 33 ≤ cur.size ∧ (splice cur (k * 33) zeros33.toList).toList.take (33 * (A ++ s :: B).length) = fileCells (A ++ zeroSec :: B) := by
  obtain ⟨cur, hg, ht⟩ := h
  have hl := fileCells_length hA
  have hz := secCells_length (s := zeroSec) rfl
  have hall : (fileCells (A ++ s :: B)).length = 33 * (A ++ s :: B).length := fileCells_length (by
    intro x hx
    rcases List.mem_append.1 hx with h | h
    · exact hA x h
    · rcases List.mem_cons.1 h with rfl | h
      · exact hs
      · exact hB x h)
  have hsz : 33 * (A ++ s :: B).length ≤ cur.size := by
    have := congrArg List.length ht
    rw [hall, List.length_take, Array.length_toList (xs := cur)] at this; omega
  have hn : (A ++ s :: B).length = k + 1 + B.length := by simp [hk]; omega
  refine ⟨cur, hg, by omega, ?_⟩
  apply List.ext_getElem?
  intro j
  have hc : ∀ j, j < 33 * (A ++ s :: B).length → cur[j]? = (fileCells (A ++ s :: B))[j]? := fun j hj => by
    rw [← ht, List.getElem?_take, if_pos hj]; simp
  by_cases hj : j < 33 * (A ++ s :: B).length
  · rw [List.getElem?_take, if_pos hj, Array.getElem?_toList, splice_get _ _ _ (by rw [zeros33_cells, hz]; omega), hc j hj, rowIs_split, rowIs_split, zeros33_cells, hz, get_mid (k := k) (by omega) (secCells_length hs), get_mid (k := k) (by omega) hz]
    by_cases h1 : j < k * 33
    · rw [if_neg (by omega), if_pos h1, if_pos h1]
    · by_cases h2 : j < k * 33 + 33
      · rw [if_pos (by omega), if_neg h1, if_pos h2]
      · rw [if_neg (by omega), if_neg h1, if_neg h2, if_neg h1, if_neg h2]
  · rw [List.getElem?_take, if_neg hj]
    refine (List.getElem?_eq_none ?_).symm
    rw [fileCells_length]
    · simp only [List.length_append, List.length_cons] at hj ⊢; omega
    · intro x hx
      rcases List.mem_append.1 hx with h | h
      · exact hA x h
      · rcases List.mem_cons.1 h with rfl | h
        · rfl
        · exact hB x h
theorem oneCell_zeros : ∀ v ∈ zeros33.toList, v.oneCell' = true := by
  intro v hv; rw [zeros33_cells] at hv; exact oneCell_file (l := [zeroSec]) v (by simpa [fileCells] using hv)
/-- A new sector, stored over one of the row's. -/
theorem wpList_zero_sec {ops : Array Oper} {rest : List Oper} {o : Oper} {a : Act} {w : World} {Q : Exit → Act → World → Prop} (hgd : o.guard = none) (x y : Operand) (ho : o.op = .store 93 x y)
    {g k : Nat} {A B : List Sec} {s : Sec} (hx : a.eval x = .pointer (some ⟨g, k * 33, none⟩)) (hy : a.eval y = .agg zeros33) (hr : RowIs w g (A ++ s :: B)) (hA : ∀ x ∈ A, x.bytes.length = 32) (hs : s.bytes.length = 32) (hB : ∀ x ∈ B, x.bytes.length = 32) (hk : A.length = k)
    (h : ∀ w', RowIs w' g (A ++ zeroSec :: B) → Kp (fun i => i = g) w w' → wpList Tryz.prog ops Q rest (a.put o.dst undef) w') : wpList Tryz.prog ops Q (o :: rest) a w := by
  obtain ⟨cur, hg, hsz, hcut⟩ := hr.zero hA hs hB hk
  have h33 : zeros33.size = 33 := rfl
  refine wpList_store_agg hgd 93 x y ho hx hy hg (by rw [h33]; exact size_sec) (by rw [h33]; omega) oneCell_zeros (h _ ⟨splice cur (k * 33) zeros33.toList, ?_, ?_⟩ ?_)
  · exact setRow_heap w g cur _ _ _ hg
  · rw [show (A ++ zeroSec :: B).length = (A ++ s :: B).length by simp]; exact hcut
  · refine ⟨rfl, rfl, rfl, ?_, ?_⟩
    · simp [World.setRow]
    · intro i hi hne
      show (w.heap.modify g _)[i]? = w.heap[i]?
      rw [Array.getElem?_modify, if_neg (fun e => hne e.symm)]
/-- Where a file is put in the place of itself, sector by sector. -/
theorem put_fate_ok {S : St} (ok : S.Ok) (hoff : S.off = false) {n : Nm} (hg : (get S.files n).isSome = true) (K : List Bool) (i : Nat) : St.Ok { S with files := put S.files n (fateN K i (getF S.files n)) } := by
  have hu := used_put S.files n (fateN K i (getF S.files n))
  rw [fateN_length] at hu
  refine ⟨ok.room, by have := ok.used; show ((used (put S.files n _) : Nat) : Int) ≤ S.room; omega, ok.armed, (fun h => by rw [hoff] at h; cases h), ?_, ?_, ?_⟩
  · intro p hp
    rcases mem_put _ _ _ p hp with rfl | hp
    · obtain ⟨x, hx⟩ := Option.isSome_iff_exists.1 hg
      have := get_isSome.1 hg
      obtain ⟨q, hq, rfl⟩ := List.mem_map.1 this
      exact ok.names q hq
    · exact ok.names p hp
  · show (put S.files n _).length ≤ 64
    rw [length_put_le _ _ _ hg]; exact ok.count
  · intro p hp s hs
    rcases mem_put _ _ _ p hp with rfl | hp
    · exact fateN_len (fun s hs => by obtain ⟨q, hq, h1⟩ := getF_mem s hs; exact ok.secs q hq s h1) _ s hs
    · exact ok.secs p hp s hs
/-- A file's new value goes into the map. -/
theorem put_any {w : World} {d m : Nat} {es : Array MapEntry} {clock : Nat} {hv : Value} {S : St} {F G : Nat → Prop} (h : DiskIs w d m es clock hv S F) (n : Nm) (l : List Sec) (v : Value) (hx : FileRep w G v l) (ok : St.Ok { S with files := put S.files n l }) :
    ∃ es2 clock2, (Instr.mapUpdate 71 (.map (some m)) (.string n) v).run Tryz.prog w = .ok () (setBlock w m (.map es2 clock2)) ∧
      DiskAt (setBlock w m (.map es2 clock2)) d { S with files := put S.files n l } (fun k => F k ∨ (G k ∧ k < w.heap.size)) ∧ Kp F w (setBlock w m (.map es2 clock2)) := by
  obtain ⟨es2, clock2, hup, hents2⟩ := update_run (P := Tryz.prog) (R := FileRep w (fun k => F k ∨ (G k ∧ k < w.heap.size))) map_type key_type keyNow_string h.hm (h.ents.imp fun _ _ hr => hr.mono fun _ h => .inl h) n l v (hx.lt.mono fun _ h => .inr h)
  refine ⟨es2, clock2, hup, h.files (fun _ h => .inl h) (fun k o hk hb => (blk_off _ hk).trans hb) (blk_put h.hm) hents2 ok ?_, (Kp.refl F w).setObj (.inl h.fm) _⟩
  intro k hk
  simp only [setBlock, Array.size_setIfInBounds]
  rcases hk with hk | hk
  · exact h.flt k hk
  · exact hk.2
/-- The power is on again; of the operation at which it went nothing yet. -/
def St.wake (S : St) : St := { S with off := false, armed := 0 }
theorem DiskIs.wake {w : World} {d m : Nat} {es : Array MapEntry} {clock : Nat} {hv : Value} {S : St} {F : Nat → Prop} (h : DiskIs w d m es clock hv S F) :
    DiskIs ((w.setCell ⟨d, 2, none⟩ (.bool false)).setCell ⟨d, 3, none⟩ (.int .i64 0)) d m es clock hv S.wake F :=
  h.turn (fun _ h => h) (fun k o h1 _ hb => (blk_far _ h1).trans ((blk_far _ h1).trans hb)) (by rw [blk_set (blk_set h.hd _ _) _ _]; rfl) ((blk_far _ h.ne.symm).trans ((blk_far _ h.ne.symm).trans h.hm)) h.ents h.hang
    ⟨h.ok.room, h.ok.used, by simp [St.wake], by simp [St.wake], h.ok.names, h.ok.count, h.ok.secs⟩ (fun k hk => by simpa using h.flt k hk)

/-- The operation at which the power went, done after all. -/
theorem wpList_hang {ops : Array Oper} {rest : List Oper} {o : Oper} {a : Act} {w : World} {Q : Exit → Act → World → Prop} (hgd : o.guard = none) (x : Operand) (ho : o.op = .call { callee := .value x, args := #[], argTypes := #[] })
    {d m : Nat} {es : Array MapEntry} {clock : Nat} {hv : Value} {S : St} {F : Nat → Prop} (h : DiskIs w d m es clock hv S F) (hx : a.eval x = hv) (hoff : S.off = false) {g : Hg} (hg : S.hangs = some g) (hok : g.okOn S.files)
    (hK : ∀ w', Leaves w d { S with files := g.run S.files } F (.returned (.tuple #[])) w' → wpList Tryz.prog ops Q rest (a.put o.dst (.tuple #[])) w') : wpList Tryz.prog ops Q (o :: rest) a w := by
  have hh := h.hang
  rw [hg] at hh
  have key : ∀ (f : FuncId) (caps : Array Value), hv = .func (.func f) #[] caps → (callFunc f caps).run Tryz.prog w = .ok (.enter f caps) w → Calls Tryz.prog f caps w (Leaves w d { S with files := g.run S.files } F) → wpList Tryz.prog ops Q (o :: rest) a w := by
    intro f caps hf he hc
    refine wpList_plain hgd fun K hK' => ?_
    unfold Oper.wp execOp
    rw [hf] at hx
    simp only [ho, resolve, hx, Deferred.ofValue, invoke, Sem.run_bind, Sem.run_pure, Result.andThen_ok, List.map_toArray, List.map_nil, Array.append_empty, Array.empty_append, he]
    refine hc.mono ?_
    rintro e w' hl
    have he' := hl.1
    subst he'
    exact hK' _ _ (hK w' hl)
  cases g with
  | noop => exact key _ _ hh (enters_of Tryz.func42 (by kernel_rfl) rfl _ _) (Append1_any h hoff)
  | sync n => obtain ⟨b1, b2, e, k1, k2⟩ := hh; exact key _ _ e (enters_of Tryz.func69 (by kernel_rfl) rfl _ _) (Sync1_any h hoff hok k1 k2)
  | trunc n k =>
    obtain ⟨q0, q1, b1, b2, b3, e, k1, k2, k3⟩ := hh
    obtain ⟨k, rfl⟩ := Int.eq_ofNat_of_zero_le q0
    exact key _ _ e (enters_of Tryz.func62 (by kernel_rfl) rfl _ _) (Truncate1_any h hoff hok k1 k2 k3)
  | rename y z => exact hh.elim
  | remove n => obtain ⟨b1, b2, e, k1, k2⟩ := hh; exact key _ _ e (enters_of Tryz.func64 (by kernel_rfl) rfl _ _) (Remove1_any h hoff k1 k2)
end Go.Proofs.YtggnohbfdlebiaaGreatDoor

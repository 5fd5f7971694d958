/-
  What Append's last step does: the new sectors, behind the old ones; do with nothing to do; a row built in a loop.
-/
import Derived.Test.YtmcmapaapffadaaDoorBody
import Derived.RangeFuncBox
namespace Go.Proofs.YtmcmapaapffadaaDoor
open Go.RowKit Go.Shelf Go.ChangeMaps

theorem do_noop_all {w : World} {d m : Nat} {es : Array MapEntry} {clock : Nat} {hv : Value} {S : St} {F : Nat → Prop} (h : DiskIs w d m es clock hv S F) (hoff : S.off = false) :
    Calls Tryd.prog 51 #[.pointer (some ⟨d, 0, none⟩), .func (.func 54) #[] #[]] w (Does w d S.doE (S.doS .noop) F) := by
  by_cases h1 : S.armed = 1
  · exact do_goes h hoff (hg := .noop) rfl trivial h1 ⟨_, _, rfl⟩
  · exact do_noop h hoff trivial h1

/-- The bytes that came in lie there. -/
def Holds8 (w : World) (b off : Nat) (bs : List Int) : Prop := ∀ j v, (byteVals bs)[j]? = some v → w.cell? ⟨b, off + j, none⟩ = some v

/-- append, its run being known, where the operation stands by itself. -/
theorem oper_append {P : Program} {o : Oper} {a : Act} {w w' : World} {K : Act → World → Prop} {Q : Exit → Act → World → Prop} (s x : Operand) (t tx : TypeId)
    (ho : o.op = .call { callee := .builtin .append, args := #[s, x], argTypes := #[t, tx] }) {vs vx v : Value} (hs : a.eval s = vs) (hx : a.eval x = vx)
    (hr : (Builtin.append_ #[t, tx] o.type #[vs, vx]).run P w = .ok v w') (h : K (a.put o.dst v) w') : Oper.wp P o a w K Q := by
  unfold Oper.wp execOp
  simp only [ho, resolve, invoke, builtin, Sem.run_bind, Sem.run_pure, Result.andThen_ok, List.map_toArray, List.map_cons, List.map_nil, hs, hx, hr]
  exact h

/-- The old sectors, clipped; the new ones behind; the map. -/
theorem save_any {w : World} {d m : Nat} {es : Array MapEntry} {clock : Nat} {hv : Value} {S S' : St} {F G : Nat → Prop} {x : Value} {news : List Sec} (h : DiskIs w d m es clock hv S F) (name : Nm)
    (hS : S' = { S with files := put S.files name (getF S.files name ++ news) }) (ok : S'.Ok) (hx : FileRep w G x news) (hn : (getF S.files name).length + news.length ≤ 1000000) :
    ∃ p n c, n ≤ c ∧ c ≤ maxLen ∧ (Instr.lookup 72 (.map (some m)) (.string name) false).run Tryd.prog w = .ok (.slice p n c) w ∧
      ∃ v' w4, (Builtin.append_ #[75, 75] 75 #[.slice p n n, x]).run Tryd.prog w = .ok v' w4 ∧ Kp (fun _ => False) w w4 ∧
        ∃ es2 clock2, (Instr.mapUpdate 72 (.map (some m)) (.string name) v').run Tryd.prog w4 = .ok () (setBlock w4 m (.map es2 clock2)) ∧
          ∃ F', DiskAt (setBlock w4 m (.map es2 clock2)) d S' F' ∧ (∀ k, F' k → F k ∨ w.heap.size ≤ k) ∧ Kp F w (setBlock w4 m (.map es2 clock2)) := by
  subst hS
  obtain ⟨u, hl, hu⟩ : ∃ u, (Instr.lookup 72 (.map (some m)) (.string name) false).run Tryd.prog w = .ok u w ∧ FileRep w F u (getF S.files name) := by
    cases hg : get S.files name with
    | none => exact ⟨_, look_none h hg false, by simpa [getF, hg] using fileRep_nil w F⟩
    | some l => obtain ⟨u, h1, h2⟩ := look_some h hg false; exact ⟨u, h1, by simpa [getF, hg] using h2⟩
  obtain ⟨old, hold⟩ : ∃ old, getF S.files name = old := ⟨_, rfl⟩
  rw [hold] at hu hn ok ⊢
  have hu' := hu
  obtain ⟨h0, p, c, rfl, hle, hcm, hb⟩ := hu'
  refine ⟨p, old.length, c, hle, hcm, hl, ?_⟩
  have hcl : old.length ≤ maxLen := Nat.le_trans hle hcm
  have hclip : FileRep w F (.slice p old.length old.length) old := ⟨h0, p, old.length, rfl, Nat.le_refl old.length, hcl, hb⟩
  obtain ⟨v', w4, hrun, hvv, hk⟩ := append_secs hclip (fun p' n' c' e => (Value.slice.inj e).2.2.symm.trans (Value.slice.inj e).2.1) hx hn 75
  refine ⟨v', w4, hrun, hk, ?_⟩
  have h1' := h.kept hk (fun _ _ h => h)
  obtain ⟨es2, clock2, hup, hents2⟩ := update_run (P := Tryd.prog) (R := FileRep w4 (fun k => F k ∨ (w.heap.size ≤ k ∧ k < w4.heap.size))) map_type key_type keyNow_string h1'.hm (h1'.ents.imp fun _ _ hr => hr.mono fun _ h => .inl h) name (old ++ news) v'
    (hvv.lt.mono fun k h => h.1.imp id fun h1 => ⟨h1, h.2⟩)
  refine ⟨es2, clock2, hup, fun k => F k ∨ (w.heap.size ≤ k ∧ k < w4.heap.size), ?_, fun k hk => hk.imp id (·.1), ?_⟩
  · have hd := (h1'.files (F' := fun k => F k ∨ (w.heap.size ≤ k ∧ k < w4.heap.size)) (w' := setBlock w4 m (.map es2 clock2)) (fun _ h => .inl h) (fun k o hk hb => (blk_off _ hk).trans hb) (blk_put h1'.hm) hents2 ok ?_)
    · exact hd
    · intro k hk'
      have := hk.size
      simp only [setBlock, Array.size_setIfInBounds]
      rcases hk' with hk' | hk'
      · exact Nat.lt_of_lt_of_le (h.flt k hk') hk.size
      · exact hk'.2
  · exact (hk.mono fun _ h => h.elim).setObj (.inl h.fm) _

/-- What lies behind one round of the loop that collects sectors. -/
theorem round_own {W w' : World} {n0 L Bs Bn k m : Nat} {v v' x1 x2 : Value} {xs ys : List Value} {A B : Obj} (hv : Boxed W L 75 v) (hrow : W.ownsRow n0 79 33 v k xs) (h1 : Boxed W Bs 22 x1) (h2 : Boxed W Bn 3 x2)
    (hn : n0 ≤ W.heap.size) (hL : n0 ≤ L) (hs : Bs ≠ L) (hn2 : Bn ≠ L) (hown : w'.ownsRow n0 79 33 v' m ys) (hg : ((W.alloc A).alloc B).grownBy w' v.ownBlock) :
    Boxed w' L 75 v ∧ Boxed (w'.setCell ⟨L, 0, none⟩ v') L 75 v' ∧ (w'.setCell ⟨L, 0, none⟩ v').ownsRow n0 79 33 v' m ys ∧ KeepsOthers W (w'.setCell ⟨L, 0, none⟩ v') ∧ Below n0 W (w'.setCell ⟨L, 0, none⟩ v') ∧
      Boxed (w'.setCell ⟨L, 0, none⟩ v') Bs 22 x1 ∧ Boxed (w'.setCell ⟨L, 0, none⟩ v') Bn 3 x2 := by
  have hra := (hrow.alloc A).alloc B
  obtain ⟨a1, a2, a3, a4, a5⟩ := (hv.alloc A).appended (by decide) (hrow.alloc A) (by simp; omega) hL hown hg
  exact ⟨a1, a2, a3, (KeepsOthers.alloc W A).trans a4, ((Below.refl n0 W).alloc hn A).trans a5,
    ((((h1.alloc A).alloc B).kept hg (((h1.alloc A).alloc B).not_row (by decide) hra)).other hs _), ((((h2.alloc A).alloc B).kept hg (((h2.alloc A).alloc B).not_row (by decide) hra)).other hn2 _)⟩
theorem two_of_boxed {W W' : World} {A B : Nat} {t1 t2 : TypeId} {x1 x2 : Value} (h1 : Boxed W A t1 x1) (h2 : Boxed W B t2 x2) (k1 : Boxed W' A t1 x1) (k2 : Boxed W' B t2 x2) : Two A B W W' := ⟨k1.trans h1.symm, k2.trans h2.symm⟩
theorem two_putObj {A B n0 : Nat} (hA : A < n0) (hB : B < n0) (W : World) (l : Nat) (o o' : Obj) (hl : n0 ≤ l) (_ : W.heap[l]? = some o) (_ : o.isCells = false) (_ : o.isWalk = false) : Two A B W (W.putObj l o') :=
  ⟨World.putObj_heap_other (by omega), World.putObj_heap_other (by omega)⟩
theorem cells_new (w : World) (cs : Array Value) (t : TypeId) : ∀ j v, cs.toList[j]? = some v → (w.alloc (.cells cs t)).cell? ⟨w.heap.size, 0 + j, none⟩ = some v := by
  intro j v hj
  rw [blk_cell (heap_alloc_new w _), Nat.zero_add]
  simpa using hj
theorem chunk_bytes {bs : List Int} {len : Nat} (h : bs.length = len) (x : Nat) : ((bs.drop (32 * x)).take 32).length = min 32 (len - 32 * x) := by
  rw [List.length_take, List.length_drop, h]
theorem chunk_src {w W : World} {n0 b off x : Nat} {bs : List Int} (hs : Holds8 w b off bs) (hB : Below n0 w W) (hn : w.heap.size ≤ n0) (A : Obj) : ∀ j v, (byteVals ((bs.drop (32 * x)).take 32))[j]? = some v → (W.alloc A).cell? ⟨b, off + 32 * x + j, none⟩ = some v := by
  intro j v hj
  have hj' : (byteVals bs)[32 * x + j]? = some v := by
    simp only [byteVals, List.getElem?_map, List.getElem?_take, List.getElem?_drop] at hj ⊢
    split at hj
    · exact hj
    · cases hj
  have hc := hs _ _ hj'
  have hlt := block_lt_of_cell hc
  have h1 : W.cell? ⟨b, off + (32 * x + j), none⟩ = some v := (World.cell?_of_block (w := w) (hB.block b (Nat.lt_of_lt_of_le hlt hn))).trans hc
  rw [← Nat.add_assoc] at h1
  exact (World.cell?_of_block (w := W) (alloc_old' W A b (block_lt_of_cell h1))).trans h1
theorem kp_putObj (w : World) (D : Nat) (o : Obj) : Kp (fun k => k = D) w (w.putObj D o) := ⟨rfl, rfl, rfl, by simp, fun _ _ hk => World.putObj_heap_other hk⟩
/-- The loop's own list of deferred calls is taken away at the end. -/
theorem append_fin {w w1 W w3 w5 : World} {F F3 F5 : Nat → Prop} {d D : Nat} {S' : St} (n : Int) (hF : ∀ k, F k → k < w.heap.size) (hk1 : Kp (fun _ => False) w w1) (hB : Below w1.heap.size w1 W) (hk3 : Kp F W w3)
    (hF3 : ∀ k, F3 k → F k ∨ W.heap.size ≤ k) (hD : w1.heap.size ≤ D) (hK : W.heap[D]? = some (.deferred (some []))) (hd : DiskAt w5 d S' F5) (hF5 : ∀ k, F5 k → F3 k ∨ w3.heap.size ≤ k) (hk5 : Kp F3 w3 w5) :
    w5.heap[D]? = some (.deferred (some [])) ∧ Does w d n S' F (.returned (.int .i64 n)) (w5.putObj D (.deferred none)) := by
  have hDW := blk_lt hK
  have s1 := hk1.size
  have s2 := hB.size
  have s3 := hk3.size
  have hFD : ¬ F D := fun h => by have := hF D h; omega
  have hF3D : ¬ F3 D := fun h => by rcases hF3 D h with h | h; exact hFD h; omega
  have hF5D : ∀ k, F5 k → ¬ k = D := by
    rintro k h rfl
    rcases hF5 k h with h | h
    · exact hF3D h
    · omega
  refine ⟨hk5.blk (hk3.blk hK hFD) hF3D, rfl, F5, hd.kept (kp_putObj w5 D _) hF5D, ?_, ?_⟩
  · intro k h
    rcases hF5 k h with h | h
    · rcases hF3 k h with h | h
      · exact .inl h
      · right; omega
    · right; omega
  · have h1 : Kp F w W := (hk1.mono fun _ h => h.elim).trans (Kp.of_below F hB)
    have h2 : Kp F w w5 := (h1.trans hk3).trans' hk5 fun i h => by
      rcases hF3 i h with h | h
      · exact .inl h
      · right; omega
    exact h2.trans' (kp_putObj w5 D _) fun i h => by right; omega
end Go.Proofs.YtmcmapaapffadaaDoor

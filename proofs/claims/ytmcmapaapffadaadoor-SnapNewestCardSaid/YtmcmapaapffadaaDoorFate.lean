/-
  Restart: what it does to the sectors, plainly; the call of the operation at which the power went; the steps of its inner loop.
-/
import Derived.Test.YtmcmapaapffadaaDoorSave
namespace Go.Proofs.YtmcmapaapffadaaDoor
open Go.RowKit Go.Shelf Go.ChangeMaps

/-! ### plain -/
def zeroSec : Sec := ⟨List.replicate 32 0, false⟩
/-- A sector behind a crash: number i of those that were not safe. -/
def fateSec (K : List Bool) (i : Nat) (s : Sec) : Sec := if s.synced = true ∨ K.getD i false = true then setSync s else setSync zeroSec
def fateN (K : List Bool) : Nat → List Sec → List Sec
  | _, [] => []
  | i, s :: l => fateSec K i s :: fateN K (if s.synced = true then i else i + 1) l
/-- How many are not safe. -/
def uns (l : List Sec) : Nat := (l.filter fun s => !s.synced).length
def fateStep (K : List Bool) (p : Nat × Files) (n : Nm) : Nat × Files := (p.1 + uns (getF p.2 n), put p.2 n (fateN K p.1 (getF p.2 n)))
def fateFold (K : List Bool) (ns : List Nm) (fs : Files) : Nat × Files := ns.foldl (fateStep K) (0, fs)
theorem fateFold_step (K : List Bool) {ns : List Nm} {k : Nat} (hk : k < ns.length) (fs : Files) : fateFold K (ns.take (k + 1)) fs = fateStep K (fateFold K (ns.take k) fs) ns[k] := by
  unfold fateFold
  rw [List.take_succ_eq_append_getElem hk, List.foldl_append]; rfl
theorem put_keys_same {α : Type} {l : List (Nm × α)} {x : Nm} {v : α} (h : (get l x).isSome = true) : (put l x v).map (·.1) = l.map (·.1) := by rw [put_keys, if_pos h]
theorem fateFold_keys (K : List Bool) : ∀ (ns : List Nm) (p : Nat × Files), (∀ n ∈ ns, n ∈ p.2.map (·.1)) → (ns.foldl (fateStep K) p).2.map (·.1) = p.2.map (·.1)
  | [], _, _ => rfl
  | n :: ns, p, h => by
    have hk : (fateStep K p n).2.map (·.1) = p.2.map (·.1) := put_keys_same (get_isSome.2 (h n (by simp)))
    rw [List.foldl_cons, fateFold_keys K ns _ (fun x hx => by rw [hk]; exact h x (by simp [hx])), hk]
theorem uns_append (a b : List Sec) : uns (a ++ b) = uns a + uns b := by simp [uns]
theorem uns_one (s : Sec) : uns [s] = if s.synced = true then 0 else 1 := by cases h : s.synced <;> simp [uns, h]
theorem uns_le (a : List Sec) : uns a ≤ a.length := List.length_filter_le _ _
theorem fateN_append (K : List Bool) (a b : List Sec) : ∀ i, fateN K i (a ++ b) = fateN K i a ++ fateN K (i + uns a) b := by
  induction a with
  | nil => intro i; simp [fateN, uns]
  | cons s a ih =>
    intro i
    have h1 : uns (s :: a) = uns [s] + uns a := uns_append [s] a
    simp only [List.cons_append, fateN, ih, h1, uns_one]
    cases s.synced <;> simp [Nat.add_assoc]
theorem fateN_length (K : List Bool) (l : List Sec) : ∀ i, (fateN K i l).length = l.length := by
  induction l with
  | nil => intro i; rfl
  | cons s l ih => intro i; simp [fateN, ih]
theorem fateSec_len {K : List Bool} {i : Nat} {s : Sec} (h : s.bytes.length = 32) : (fateSec K i s).bytes.length = 32 := by
  unfold fateSec; split <;> simp [setSync, zeroSec, h]
theorem fateN_len {K : List Bool} {l : List Sec} (h : ∀ s ∈ l, s.bytes.length = 32) : ∀ i, ∀ s ∈ fateN K i l, s.bytes.length = 32 := by
  induction l with
  | nil => intro i s hs; simp [fateN] at hs
  | cons x l ih =>
    intro i s hs
    simp only [fateN, List.mem_cons] at hs
    rcases hs with rfl | hs
    · exact fateSec_len (h x (by simp))
    · exact ih (fun s hs => h s (by simp [hs])) _ s hs
/-- One sector more. -/
theorem fateN_step (K : List Bool) {l : List Sec} {k : Nat} (hk : k < l.length) (i : Nat) :
    fateN K i (l.take (k + 1)) = fateN K i (l.take k) ++ [fateSec K (i + uns (l.take k)) l[k]] := by
  rw [List.take_succ_eq_append_getElem hk, fateN_append]; rfl
theorem uns_step {l : List Sec} {k : Nat} (hk : k < l.length) : uns (l.take (k + 1)) = uns (l.take k) + if l[k].synced = true then 0 else 1 := by
  rw [List.take_succ_eq_append_getElem hk, uns_append, uns_one]

/-! ### a row of sectors in memory -/
def RowIs (w : World) (g : Nat) (l : List Sec) : Prop := ∃ cur, w.heap[g]? = some (.cells cur 79 (0, 0)) ∧ cur.toList.take (33 * l.length) = fileCells l
theorem rowIs_split (A B : List Sec) (s : Sec) : fileCells (A ++ s :: B) = fileCells A ++ (secCells s ++ fileCells B) := by
  rw [fileCells_append]; rfl
theorem RowIs.cell {w : World} {g k : Nat} {A B : List Sec} {s : Sec} (h : RowIs w g (A ++ s :: B)) (hA : ∀ x ∈ A, x.bytes.length = 32) (hs : s.bytes.length = 32) (hk : A.length = k) :
    w.cell? ⟨g, k * 33 + 32, none⟩ = some (.bool s.synced) := by
  obtain ⟨cur, hg, ht⟩ := h
  rw [blk_cell hg]
  have hl := fileCells_length hA
  have h1 : (fileCells (A ++ s :: B))[k * 33 + 32]? = some (.bool s.synced) := by
    rw [rowIs_split, List.getElem?_append_right (by omega), hl, show k * 33 + 32 - 33 * A.length = 32 by omega,
      List.getElem?_append_left (by rw [secCells_length hs]; omega)]
    simp only [secCells]
    rw [List.getElem?_append_right (by simp; omega)]
    simp [hs]
  rw [← ht, List.getElem?_take] at h1
  split at h1
  · simpa using h1
  · cases h1
theorem RowIs.free {w : World} {g : Nat} {l : List Sec} (h : RowIs w g l) (i : Nat) : w.frozen? ⟨g, i, none⟩ = false := by
  obtain ⟨cur, hg, _⟩ := h; exact blk_free hg i
theorem RowIs.sync {w : World} {g k : Nat} {A B : List Sec} {s : Sec} (h : RowIs w g (A ++ s :: B)) (hA : ∀ x ∈ A, x.bytes.length = 32) (hs : s.bytes.length = 32) (hk : A.length = k) :
    RowIs (w.setCell ⟨g, k * 33 + 32, none⟩ (.bool true)) g (A ++ setSync s :: B) := by
  obtain ⟨cur, hg, ht⟩ := h
  refine ⟨_, blk_set hg _ _, ?_⟩
  have hl := fileCells_length hA
  have e : (A ++ setSync s :: B).length = (A ++ s :: B).length := by simp
  rw [e, Array.toList_setIfInBounds, List.take_set, ht, rowIs_split, rowIs_split, List.set_append_right _ _ (by omega), hl, show k * 33 + 32 - 33 * A.length = 32 by omega]
  congr 1
  rw [List.set_append_left _ _ (by rw [secCells_length hs]; omega)]
  congr 1
  simp only [secCells, setSync]
  rw [List.set_append_right _ _ (by simp [hs])]
  simp [hs]
theorem get_mid {α : Type} {a x b : List α} {k : Nat} (ha : a.length = k * 33) (hx : x.length = 33) (j : Nat) :
    (a ++ (x ++ b))[j]? = if j < k * 33 then a[j]? else if j < k * 33 + 33 then x[j - k * 33]? else b[j - k * 33 - 33]? := by
  by_cases h1 : j < k * 33
  · rw [if_pos h1, List.getElem?_append_left (by omega)]
  · rw [if_neg h1, List.getElem?_append_right (by omega), ha]
    by_cases h2 : j < k * 33 + 33
    · rw [if_pos h2, List.getElem?_append_left (by omega)]
    · rw [if_neg h2, List.getElem?_append_right (by omega), hx]
theorem zeros33_cells : zeros33.toList = secCells zeroSec := rfl
theorem RowIs.zero {w : World} {g k : Nat} {A B : List Sec} {s : Sec} (h : RowIs w g (A ++ s :: B)) (hA : ∀ x ∈ A, x.bytes.length = 32) (hs : s.bytes.length = 32) (hB : ∀ x ∈ B, x.bytes.length = 32) (hk : A.length = k) :
    ∃ cur, w.heap[g]? = some (.cells cur 79 (0, 0)) ∧ k * 33 + 33 ≤ cur.size ∧ (splice cur (k * 33) zeros33.toList).toList.take (33 * (A ++ s :: B).length) = fileCells (A ++ zeroSec :: B) := by
  obtain ⟨cur, hg, ht⟩ := h
  have hl := fileCells_length hA
  have hz := secCells_length (s := zeroSec) rfl
  have hall : (fileCells (A ++ s :: B)).length = 33 * (A ++ s :: B).length := fileCells_length (by
    intro x hx
    rcases List.mem_append.1 hx with h | h
    · exact hA x h
    · rcases List.mem_cons.1 h with rfl | h
      · exact hs
      · exact hB x h)
  have hsz : 33 * (A ++ s :: B).length ≤ cur.size := by
    have := congrArg List.length ht
    rw [hall, List.length_take, Array.length_toList (xs := cur)] at this; omega
  have hn : (A ++ s :: B).length = k + 1 + B.length := by simp [hk]; omega
  refine ⟨cur, hg, by omega, ?_⟩
  apply List.ext_getElem?
  intro j
  have hc : ∀ j, j < 33 * (A ++ s :: B).length → cur[j]? = (fileCells (A ++ s :: B))[j]? := fun j hj => by
    rw [← ht, List.getElem?_take, if_pos hj]; simp
  by_cases hj : j < 33 * (A ++ s :: B).length
  · rw [List.getElem?_take, if_pos hj, Array.getElem?_toList, splice_get _ _ _ (by rw [zeros33_cells, hz]; omega), hc j hj, rowIs_split, rowIs_split, zeros33_cells, hz, get_mid (k := k) (by omega) (secCells_length hs), get_mid (k := k) (by omega) hz]
    by_cases h1 : j < k * 33
    · rw [if_neg (by omega), if_pos h1, if_pos h1]
    · by_cases h2 : j < k * 33 + 33
      · rw [if_pos (by omega), if_neg h1, if_pos h2]
      · rw [if_neg (by omega), if_neg h1, if_neg h2, if_neg h1, if_neg h2]
  · rw [List.getElem?_take, if_neg hj]
    refine (List.getElem?_eq_none ?_).symm
    rw [fileCells_length]
    · simp only [List.length_append, List.length_cons] at hj ⊢; omega
    · intro x hx
      rcases List.mem_append.1 hx with h | h
      · exact hA x h
      · rcases List.mem_cons.1 h with rfl | h
        · rfl
        · exact hB x h
theorem oneCell_zeros : ∀ v ∈ zeros33.toList, v.oneCell' = true := by
  intro v hv; rw [zeros33_cells] at hv; exact oneCell_file (l := [zeroSec]) v (by simpa [fileCells] using hv)
/-- A new sector, stored over one of the row's. -/
theorem wpList_zero_sec {ops : Array Oper} {rest : List Oper} {o : Oper} {a : Act} {w : World} {Q : Exit → Act → World → Prop} (hgd : o.guard = none) (x y : Operand) (ho : o.op = .store 79 x y)
    {g k : Nat} {A B : List Sec} {s : Sec} (hx : a.eval x = .pointer (some ⟨g, k * 33, none⟩)) (hy : a.eval y = .agg zeros33) (hr : RowIs w g (A ++ s :: B)) (hA : ∀ x ∈ A, x.bytes.length = 32) (hs : s.bytes.length = 32) (hB : ∀ x ∈ B, x.bytes.length = 32) (hk : A.length = k)
    (h : ∀ w', RowIs w' g (A ++ zeroSec :: B) → Kp (fun i => i = g) w w' → wpList Tryd.prog ops Q rest (a.put o.dst undef) w') : wpList Tryd.prog ops Q (o :: rest) a w := by
  obtain ⟨cur, hg, hsz, hcut⟩ := hr.zero hA hs hB hk
  have h33 : zeros33.size = 33 := rfl
  refine wpList_store_agg hgd 79 x y ho hx hy hg (by rw [h33]; exact size_sec) (by rw [h33]; omega) oneCell_zeros (h _ ⟨splice cur (k * 33) zeros33.toList, ?_, ?_⟩ ?_)
  · exact setRow_heap w g cur _ _ _ hg
  · rw [show (A ++ zeroSec :: B).length = (A ++ s :: B).length by simp]; exact hcut
  · refine ⟨rfl, rfl, rfl, ?_, ?_⟩
    · simp [World.setRow]
    · intro i hi hne
      show (w.heap.modify g _)[i]? = w.heap[i]?
      rw [Array.getElem?_modify, if_neg (fun e => hne e.symm)]
/-- Where a file is put in the place of itself, sector by sector. -/
theorem put_fate_ok {S : St} (ok : S.Ok) (hoff : S.off = false) {n : Nm} (hg : (get S.files n).isSome = true) (K : List Bool) (i : Nat) : St.Ok { S with files := put S.files n (fateN K i (getF S.files n)) } := by
  have hu := used_put S.files n (fateN K i (getF S.files n))
  rw [fateN_length] at hu
  refine ⟨ok.room, by have := ok.used; show ((used (put S.files n _) : Nat) : Int) ≤ S.room; omega, ok.armed, (fun h => by rw [hoff] at h; cases h), ?_, ?_, ?_⟩
  · intro p hp
    rcases mem_put _ _ _ p hp with rfl | hp
    · obtain ⟨x, hx⟩ := Option.isSome_iff_exists.1 hg
      have := get_isSome.1 hg
      obtain ⟨q, hq, rfl⟩ := List.mem_map.1 this
      exact ok.names q hq
    · exact ok.names p hp
  · show (put S.files n _).length ≤ 64
    rw [length_put_le _ _ _ hg]; exact ok.count
  · intro p hp s hs
    rcases mem_put _ _ _ p hp with rfl | hp
    · exact fateN_len (fun s hs => by obtain ⟨q, hq, h1⟩ := getF_mem s hs; exact ok.secs q hq s h1) _ s hs
    · exact ok.secs p hp s hs
/-- A file's new value goes into the map. -/
theorem put_any {w : World} {d m : Nat} {es : Array MapEntry} {clock : Nat} {hv : Value} {S : St} {F G : Nat → Prop} (h : DiskIs w d m es clock hv S F) (n : Nm) (l : List Sec) (v : Value) (hx : FileRep w G v l) (ok : St.Ok { S with files := put S.files n l }) :
    ∃ es2 clock2, (Instr.mapUpdate 72 (.map (some m)) (.string n) v).run Tryd.prog w = .ok () (setBlock w m (.map es2 clock2)) ∧
      DiskAt (setBlock w m (.map es2 clock2)) d { S with files := put S.files n l } (fun k => F k ∨ (G k ∧ k < w.heap.size)) ∧ Kp F w (setBlock w m (.map es2 clock2)) := by
  obtain ⟨es2, clock2, hup, hents2⟩ := update_run (P := Tryd.prog) (R := FileRep w (fun k => F k ∨ (G k ∧ k < w.heap.size))) map_type key_type keyNow_string h.hm (h.ents.imp fun _ _ hr => hr.mono fun _ h => .inl h) n l v (hx.lt.mono fun _ h => .inr h)
  refine ⟨es2, clock2, hup, h.files (fun _ h => .inl h) (fun k o hk hb => (blk_off _ hk).trans hb) (blk_put h.hm) hents2 ok ?_, (Kp.refl F w).setObj (.inl h.fm) _⟩
  intro k hk
  simp only [setBlock, Array.size_setIfInBounds]
  rcases hk with hk | hk
  · exact h.flt k hk
  · exact hk.2
/-- The power is on again; of the operation at which it went nothing yet. -/
def St.wake (S : St) : St := { S with off := false, armed := 0 }
theorem DiskIs.wake {w : World} {d m : Nat} {es : Array MapEntry} {clock : Nat} {hv : Value} {S : St} {F : Nat → Prop} (h : DiskIs w d m es clock hv S F) :
    DiskIs ((w.setCell ⟨d, 2, none⟩ (.bool false)).setCell ⟨d, 3, none⟩ (.int .i64 0)) d m es clock hv S.wake F :=
  h.turn (fun _ h => h) (fun k o h1 _ hb => (blk_far _ h1).trans ((blk_far _ h1).trans hb)) (by rw [blk_set (blk_set h.hd _ _) _ _]; rfl) ((blk_far _ h.ne.symm).trans ((blk_far _ h.ne.symm).trans h.hm)) h.ents h.hang
    ⟨h.ok.room, h.ok.used, by simp [St.wake], by simp [St.wake], h.ok.names, h.ok.count, h.ok.secs⟩ (fun k hk => by simpa using h.flt k hk)

/-- The operation at which the power went, done after all. -/
theorem wpList_hang {ops : Array Oper} {rest : List Oper} {o : Oper} {a : Act} {w : World} {Q : Exit → Act → World → Prop} (hgd : o.guard = none) (x : Operand) (ho : o.op = .call { callee := .value x, args := #[], argTypes := #[] })
    {d m : Nat} {es : Array MapEntry} {clock : Nat} {hv : Value} {S : St} {F : Nat → Prop} (h : DiskIs w d m es clock hv S F) (hx : a.eval x = hv) (hoff : S.off = false) {g : Hg} (hg : S.hangs = some g) (hok : g.okOn S.files)
    (hK : ∀ w', Leaves w d { S with files := g.run S.files } F (.returned (.tuple #[])) w' → wpList Tryd.prog ops Q rest (a.put o.dst (.tuple #[])) w') : wpList Tryd.prog ops Q (o :: rest) a w := by
  have hh := h.hang
  rw [hg] at hh
  have key : ∀ (f : FuncId) (caps : Array Value), hv = .func (.func f) #[] caps → (callFunc f caps).run Tryd.prog w = .ok (.enter f caps) w → Calls Tryd.prog f caps w (Leaves w d { S with files := g.run S.files } F) → wpList Tryd.prog ops Q (o :: rest) a w := by
    intro f caps hf he hc
    refine wpList_plain hgd fun K hK' => ?_
    unfold Oper.wp execOp
    rw [hf] at hx
    simp only [ho, resolve, hx, Deferred.ofValue, invoke, Sem.run_bind, Sem.run_pure, Result.andThen_ok, List.map_toArray, List.map_nil, Array.append_empty, Array.empty_append, he]
    refine hc.mono ?_
    rintro e w' hl
    have he' := hl.1
    subst he'
    exact hK' _ _ (hK w' hl)
  cases g with
  | noop => exact key _ _ hh (enters_of Tryd.func54 (by kernel_rfl) rfl _ _) (Append1_any h hoff)
  | sync n => obtain ⟨b1, b2, e, k1, k2⟩ := hh; exact key _ _ e (enters_of Tryd.func58 (by kernel_rfl) rfl _ _) (Sync1_any h hoff hok k1 k2)
  | trunc n k => exact hh.elim
  | rename y z => obtain ⟨b1, b2, b3, e, k1, k2, k3⟩ := hh; exact key _ _ e (enters_of Tryd.func61 (by kernel_rfl) rfl _ _) (Rename1_any h hoff hok k1 k2 k3)
  | remove n => obtain ⟨b1, b2, e, k1, k2⟩ := hh; exact key _ _ e (enters_of Tryd.func52 (by kernel_rfl) rfl _ _) (Remove1_any h hoff k1 k2)
end Go.Proofs.YtmcmapaapffadaaDoor

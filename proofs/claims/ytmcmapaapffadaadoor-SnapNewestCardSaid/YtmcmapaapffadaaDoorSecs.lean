/-
  A file's sectors as cells: what append does to them; the words for a list that is made safe sector by sector.
-/
import Derived.Test.YtmcmapaapffadaaDoorDk
namespace Go.Proofs.YtmcmapaapffadaaDoor
open Go.RowKit Go.ChangeMaps

theorem secCells_length {s : Sec} (h : s.bytes.length = 32) : (secCells s).length = 33 := by simp [secCells, h]
theorem fileCells_length : ∀ {l : List Sec} (_ : ∀ s ∈ l, s.bytes.length = 32), (fileCells l).length = 33 * l.length
  | [], _ => rfl
  | s :: l, h => by
    have := fileCells_length (l := l) fun x hx => h x (by simp [hx])
    simp only [fileCells, List.flatMap_cons, List.length_append, List.length_cons] at this ⊢
    rw [secCells_length (h s (by simp)), this]; omega
theorem fileCells_append (a b : List Sec) : fileCells (a ++ b) = fileCells a ++ fileCells b := by simp [fileCells]
theorem oneCell_file {l : List Sec} : ∀ u ∈ fileCells l, u.oneCell' = true := by
  intro u hu
  simp only [fileCells, secCells, List.mem_flatMap, List.mem_append, List.mem_map, List.mem_singleton] at hu
  obtain ⟨s, _, ⟨x, _, rfl⟩ | rfl⟩ := hu <;> rfl

def setSync (s : Sec) : Sec := { s with synced := true }
/-- The first k are safe. -/
def syncN (k : Nat) (l : List Sec) : List Sec := (l.take k).map setSync ++ l.drop k
theorem syncN_zero (l : List Sec) : syncN 0 l = l := by simp [syncN]
theorem syncN_all (l : List Sec) : syncN l.length l = syncAll l := by simp [syncN, syncAll, setSync]
theorem syncN_length (k : Nat) (l : List Sec) : (syncN k l).length = l.length := by simp [syncN]; omega
theorem setSync_len {l : List Sec} (h : ∀ s ∈ l, s.bytes.length = 32) (k : Nat) : ∀ s ∈ syncN k l, s.bytes.length = 32 := by
  intro s hs
  simp only [syncN, List.mem_append, List.mem_map] at hs
  obtain ⟨x, hx, rfl⟩ | hs := hs
  · exact h x (List.mem_of_mem_take hx)
  · exact h s (List.mem_of_mem_drop hs)
theorem syncN_cells {l : List Sec} (h : ∀ s ∈ l, s.bytes.length = 32) {k : Nat} (hk : k < l.length) :
    (fileCells (syncN k l)).set (k * 33 + 32) (.bool true) = fileCells (syncN (k + 1) l) := by
  have h1 : syncN k l = (l.take k).map setSync ++ (l[k] :: l.drop (k + 1)) := by rw [syncN, List.drop_eq_getElem_cons hk]
  have h2 : syncN (k + 1) l = (l.take k).map setSync ++ (setSync l[k] :: l.drop (k + 1)) := by
    rw [syncN, List.take_succ_eq_append_getElem hk, List.map_append, List.append_assoc]; rfl
  rw [h1, h2, fileCells_append, fileCells_append]
  have hl : (fileCells ((l.take k).map setSync)).length = k * 33 := by
    rw [fileCells_length]
    · simp; rw [Nat.min_eq_left (by omega)]; omega
    · intro s hs
      obtain ⟨x, hx, rfl⟩ := List.mem_map.1 hs
      exact h x (List.mem_of_mem_take hx)
  rw [List.set_append_right _ _ (by omega), hl]
  congr 1
  have h3 : k * 33 + 32 - k * 33 = 32 := by omega
  rw [h3]
  have hb := h l[k] (List.getElem_mem hk)
  simp only [fileCells, List.flatMap_cons]
  rw [List.set_append_left _ _ (by rw [secCells_length hb]; omega)]
  congr 1
  simp only [secCells, setSync]
  rw [List.set_append_right _ _ (by simp [hb])]
  simp [hb]
theorem syncN_cell {l : List Sec} (h : ∀ s ∈ l, s.bytes.length = 32) {k j : Nat} (hk : k < l.length) : ∃ b, (fileCells (syncN j l))[k * 33 + 32]? = some (.bool b) := by
  obtain ⟨L, hL⟩ : ∃ L, syncN j l = L := ⟨_, rfl⟩
  have hlen : k < L.length := by rw [← hL, syncN_length]; exact hk
  have hs : ∀ s ∈ L, s.bytes.length = 32 := by rw [← hL]; exact setSync_len h j
  rw [hL]
  have h1 : L = L.take k ++ (L[k] :: L.drop (k + 1)) := by rw [← List.drop_eq_getElem_cons hlen, List.take_append_drop]
  have hl : (fileCells (L.take k)).length = k * 33 := by
    rw [fileCells_length fun s hx => hs s (List.mem_of_mem_take hx)]
    simp; rw [Nat.min_eq_left (by omega)]; omega
  have hb := hs L[k] (List.getElem_mem hlen)
  obtain ⟨s, hsk⟩ : ∃ s, L[k] = s := ⟨_, rfl⟩
  rw [hsk] at h1 hb
  refine ⟨s.synced, ?_⟩
  rw [h1, fileCells_append, List.getElem?_append_right (by omega), hl]
  have h3 : k * 33 + 32 - k * 33 = 32 := by omega
  rw [h3]
  simp only [fileCells, List.flatMap_cons]
  rw [List.getElem?_append_left (by rw [secCells_length]; omega; simpa using hb)]
  simp only [secCells]
  rw [List.getElem?_append_right (by simp; omega)]
  simp [hb]

/-! ### append on sectors -/
theorem toArr (a : List Value) (z : Array Value) : a.toArray ++ z = (a ++ z.toList).toArray := by apply Array.ext'; simp
theorem toArr2 (a b : List Value) (z : Array Value) : a.toArray ++ b.toArray ++ z = (a ++ b ++ z.toList).toArray := by apply Array.ext'; simp
theorem info_sec : (Tryd.prog.info? 79).map (fun i => (i.size, i.bytes)) = some (33, 33) := by kernel_rfl
theorem info_sec_zero : ∃ i z, Tryd.prog.info? 79 = some i ∧ i.zero = some z ∧ i.size = 33 ∧ i.bytes = 33 ∧ z.cells.size = 33 := by
  have h : (Tryd.prog.info? 79).map (fun i => (i.zero.map fun z => z.cells.size, i.size, i.bytes)) = some (some 33, 33, 33) := by kernel_rfl
  obtain ⟨i, hi, he⟩ := Option.map_eq_some_iff.1 h
  simp only [Prod.mk.injEq, Option.map_eq_some_iff] at he
  obtain ⟨⟨z, hz, hs⟩, h1, h2⟩ := he
  exact ⟨i, z, hi, hz, h1, h2, hs⟩
theorem slice_type : Tryd.prog.underlying 75 = some (.slice 79) := by kernel_rfl

theorem FileRep.holds {w : World} {F : Nat → Prop} {v : Value} {l : List Sec} (h : FileRep w F v l) (hl : l ≠ []) :
    ∃ b c, v = .slice (some ⟨b, 0, none⟩) l.length c ∧ F b ∧ (∀ j u, (fileCells l)[j]? = some u → w.cell? ((⟨b, 0, none⟩ : Addr).add j) = some u) ∧ (∀ j u, (fileCells l)[j]? = some u → w.cell? ⟨b, j, none⟩ = some u) ∧ l.length ≤ c := by
  obtain ⟨h0, a, c, rfl, h2, _, h3⟩ := h
  obtain ⟨b, cs, rfl, hF, hb, ht⟩ := h3 hl
  have key : ∀ j u, (fileCells l)[j]? = some u → w.cell? ⟨b, j, none⟩ = some u := by
    intro j u hu
    rw [blk_cell hb, ← ht] at *
    rw [List.getElem?_take] at hu
    split at hu
    · simpa using hu
    · cases hu
  refine ⟨b, c, rfl, hF, ?_, key, h2⟩
  intro j u hu
  rw [Addr.add_lit, Nat.zero_add]
  exact key j u hu
theorem fileRep_nil (w : World) (F : Nat → Prop) : FileRep w F (.slice none 0 0) [] := ⟨by simp, none, 0, rfl, by simp, by simp [maxLen], by simp⟩
theorem FileRep.lt {w : World} {F : Nat → Prop} {v : Value} {l : List Sec} (h : FileRep w F v l) : FileRep w (fun k => F k ∧ k < w.heap.size) v l :=
  let ⟨h1, a, c, h2, h3, h4, h5⟩ := h
  ⟨h1, a, c, h2, h3, h4, fun hl => let ⟨b, cs, k1, k2, k3, k4⟩ := h5 hl; ⟨b, cs, k1, ⟨k2, blk_lt k3⟩, k3, k4⟩⟩
theorem FileRep.mono {w : World} {F F' : Nat → Prop} {v : Value} {l : List Sec} (h : FileRep w F v l) (hF : ∀ k, F k → F' k) : FileRep w F' v l := h.move hF fun _ _ _ h => h
theorem FileRep.kept {w w' : World} {F G : Nat → Prop} {v : Value} {l : List Sec} (h : FileRep w F v l) (hk : Kp G w w') (hG : ∀ k, F k → ¬ G k) : FileRep w' F v l :=
  h.move (fun _ h => h) fun k _ hf hb => hk.blk hb (hG k hf)
/-- A new row of sectors. -/
theorem fileRep_new (w : World) {l : List Sec} (hs : ∀ s ∈ l, s.bytes.length = 32) (c : Nat) (hc : l.length ≤ c) (hm : c ≤ maxLen) (rest : List Value) :
    FileRep (w.alloc (.cells (fileCells l ++ rest).toArray 79)) (fun k => w.heap.size ≤ k) (.slice (some ⟨w.heap.size, 0, none⟩) l.length c) l :=
  ⟨hs, _, c, rfl, hc, hm, fun _ => ⟨w.heap.size, _, rfl, Nat.le_refl _, heap_alloc_new w _, by
    rw [← fileCells_length hs]; simp⟩⟩
/-- append onto a slice that is full. -/
theorem append_secs {w : World} {F G : Nat → Prop} {v x : Value} {a b : List Sec} (hv : FileRep w F v a) (hfull : ∀ p n c, v = .slice p n c → c = n) (hx : FileRep w G x b) (hn : a.length + b.length ≤ 1000000) (ty : TypeId) :
    ∃ v' w', (Builtin.append_ #[75, 75] ty #[v, x]).run Tryd.prog w = .ok v' w' ∧ FileRep w' (fun k => F k ∨ w.heap.size ≤ k) v' (a ++ b) ∧ Kp (fun _ => False) w w' := by
  obtain ⟨i, z, hi, hz, hsz, hby, hzs⟩ := info_sec_zero
  have hs : ∀ s ∈ a ++ b, s.bytes.length = 32 := by
    intro s h; rcases List.mem_append.1 h with h | h
    · exact hv.1 s h
    · exact hx.1 s h
  by_cases hb : b = []
  · subst hb
    obtain ⟨_, q, c2, rfl, _, _, _⟩ := hx
    have hv' := hv
    obtain ⟨_, p, c, rfl, hle, _, _⟩ := hv'
    refine ⟨.slice p a.length c, w, ?_, by simpa using hv.mono fun _ h => .inl h, Kp.refl _ _⟩
    have hf : (Builtin.firstCells i.size 0 (.slice q 0 c2)).run Tryd.prog w = .ok #[] w := by
      cases q with
      | none => simp [Builtin.firstCells]
      | some q => simp [Builtin.firstCells, loadCells, loadCellsFrom]
    cases p with
    | none => simp [Builtin.append_, run_underlying slice_type, sizeOf, typeInfo, hi, Builtin.lenOf, hle, hf]
    | some p => simp [Builtin.append_, run_underlying slice_type, sizeOf, typeInfo, hi, Builtin.lenOf, hle, hf, storeCells]
  · obtain ⟨bx, cx, rfl, _, hnews, _, _⟩ := hx.holds hb
    have hbl : 0 < b.length := List.length_pos_iff.2 hb
    by_cases ha : a = []
    · subst ha
      obtain ⟨_, p, c, rfl, hle, _, _⟩ := hv
      have hc0 := hfull _ _ _ rfl
      simp only [List.length_nil] at hc0
      subst hc0
      simp only [List.nil_append, List.length_nil, Nat.zero_add] at *
      have hfit : Builtin.nextslicecap b.length 0 * i.bytes ≤ 281474976710656 := by rw [nextslicecap_zero hbl, hby]; omega
      have hcap := grownCap_ge w b.length 0 79
      have hcm := grownCap_le_maxLen w b.length 0 79 (by unfold maxLen; omega)
      have hnew := fileRep_new w.drew hx.1 _ hcap hcm (Builtin.zeroCells z.cells (grownCap w b.length 0 79 - b.length)).toList
      refine ⟨_, _, ?_, hnew.mono fun _ h => .inr h, (Kp.refl _ _).drew.alloc _⟩
      cases p with
      | none =>
        have := run_append_nil (P := Tryd.prog) w 75 ty 79 i z slice_type hi hz ⟨bx, 0, none⟩ b.length cx (fileCells b) (by rw [fileCells_length hx.1, hsz]; omega) hnews hbl (by omega) (by rw [hby]; omega)
        rw [this, toArr]; rfl
      | some p =>
        have := run_append_grow (P := Tryd.prog) w 75 ty 79 i z slice_type hi hz p 0 0 [] (by simp) (by simp) ⟨bx, 0, none⟩ b.length cx (fileCells b) (by rw [fileCells_length hx.1, hsz]; omega) hnews (by omega) (by omega) (by simpa using hfit)
        simp only [Nat.zero_add] at this
        rw [this, toArr2]; rfl
    · obtain ⟨bv, cv, rfl, _, holds, _, _⟩ := hv.holds ha
      have hc0 := hfull _ _ _ rfl
      subst hc0
      have hfit : Builtin.nextslicecap (a.length + b.length) a.length * i.bytes ≤ 281474976710656 := growslice_fits (by omega) (by rw [hby]; omega)
      have hcap := grownCap_ge w (a.length + b.length) a.length 79
      have hcm := grownCap_le_maxLen w (a.length + b.length) a.length 79 (by unfold maxLen; omega)
      have hnew := fileRep_new w.drew hs _ (by simpa using hcap) hcm (Builtin.zeroCells z.cells (grownCap w (a.length + b.length) a.length 79 - (a.length + b.length))).toList
      rw [List.length_append] at hnew
      refine ⟨_, _, ?_, hnew.mono fun _ h => .inr h, (Kp.refl _ _).drew.alloc _⟩
      have := run_append_grow (P := Tryd.prog) w 75 ty 79 i z slice_type hi hz ⟨bv, 0, none⟩ a.length a.length (fileCells a) (by rw [fileCells_length hv.1, hsz]; omega) holds ⟨bx, 0, none⟩ b.length cx (fileCells b) (by rw [fileCells_length hx.1, hsz]; omega) hnews (by omega) (by omega) hfit
      rw [this, toArr2, ← fileCells_append]; rfl
end Go.Proofs.YtmcmapaapffadaaDoor

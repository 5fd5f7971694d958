/-
  Read: all bytes of a file, in new memory.
-/
import Derived.Test.YtmcmapaapffadaaDoorWalkH
import Derived.Test.YtmcmapaapffadaaDoorAggs
namespace Go.Proofs.YtmcmapaapffadaaDoor
open Go.RowKit Go.ChangeMaps

def bytesOf (l : List Sec) : List Int := l.flatMap (·.bytes)
theorem bytesOf_length : ∀ {l : List Sec} (_ : ∀ s ∈ l, s.bytes.length = 32), (bytesOf l).length = 32 * l.length
  | [], _ => rfl
  | s :: l, h => by
    have := bytesOf_length (l := l) fun x hx => h x (by simp [hx])
    simp only [bytesOf, List.flatMap_cons, List.length_append, List.length_cons] at this ⊢
    rw [h s (by simp), this]; omega
def byteVals (l : List Int) : List Value := l.map (Value.int .u8)
/-- Handed back: bytes in new memory, and no error. -/
def NewBytes (w : World) (bs : List Int) (e : Ending) (w' : World) : Prop :=
  ∃ v, e = .returned (.tuple #[v, .int .i64 0]) ∧ w'.ownsRow w.heap.size 5 1 v bs.length (byteVals bs) ∧ Kp (fun _ => False) w w'

theorem setRow_new (w : World) (old cs : Array Value) (t : TypeId) : (w.alloc (.cells old t)).setRow w.heap.size cs = w.alloc (.cells cs t) := by
  unfold World.setRow World.alloc
  congr 1
  apply Array.ext_getElem?
  intro i
  rw [Array.getElem?_modify]
  by_cases h : w.heap.size = i
  · subst h; simp
  · rw [if_neg h, Array.getElem?_push, Array.getElem?_push, if_neg (Ne.symm h), if_neg (Ne.symm h)]
theorem secCells_at {w : World} {b : Nat} {l : List Sec} (hs : ∀ s ∈ l, s.bytes.length = 32) (hc : ∀ j u, (fileCells l)[j]? = some u → w.cell? ⟨b, j, none⟩ = some u) {k : Nat} (hk : k < l.length) :
    ∀ j v, (secCells l[k])[j]? = some v → w.cell? ⟨b, k * 33 + j, none⟩ = some v := by
  intro j v hj
  refine hc _ _ ?_
  have h1 : l = l.take k ++ (l[k] :: l.drop (k + 1)) := by rw [← List.drop_eq_getElem_cons hk, List.take_append_drop]
  obtain ⟨s, hsk⟩ : ∃ s, l[k] = s := ⟨_, rfl⟩
  rw [hsk] at h1 hj
  have hl : (fileCells (l.take k)).length = k * 33 := by
    rw [fileCells_length fun s hx => hs s (List.mem_of_mem_take hx)]
    simp; rw [Nat.min_eq_left (by omega)]; omega
  have hjl : j < (secCells s).length := (List.getElem?_eq_some_iff.1 hj).1
  rw [h1, fileCells_append, List.getElem?_append_right (by omega), hl, show k * 33 + j - k * 33 = j from by omega]
  simp only [fileCells, List.flatMap_cons]
  rw [List.getElem?_append_left hjl]
  exact hj
theorem size_sec : (Tryd.prog.info? 79).map (·.size) = some 33 := by kernel_rfl
theorem agg_sec (w : World) : (isAgg 79).run Tryd.prog w = .ok true w := by kernel_rfl
theorem bytesOf_snoc {l : List Sec} {k : Nat} (hk : k < l.length) : bytesOf (l.take (k + 1)) = bytesOf (l.take k) ++ l[k].bytes := by
  rw [List.take_succ_eq_append_getElem hk]; simp only [bytesOf, List.flatMap_append, List.flatMap_cons, List.flatMap_nil, List.append_nil]

theorem Read_err {w : World} {d m : Nat} {es : Array MapEntry} {clock : Nat} {hv : Value} {S : St} {F : Nat → Prop} (h : DiskIs w d m es clock hv S F) (n : Nm) (hs : n.size ≤ maxLen) (h0 : S.check n true ≠ 0) :
    Calls Tryd.prog 21 #[.pointer (some ⟨d, 0, none⟩), .string n] w fun e w' => e = .returned (.tuple #[.slice none 0 0, .int .i64 (S.check n true)]) ∧ w = w' := by
  have hc := check_any h n hs true
  have hne : (S.check n true != 0) = true := by simpa using h0
  have hne2 : (!S.check n true == 0) = true := by simpa using h0
  clear h
  generalize S.check n true = c at *
  go_enter Tryd.func21, Tryd.ntmps21
  go_wp2_with (go_at_call 43; refine hc.mono ?_; rintro e w' ⟨rfl, rfl⟩)
  go_ret2
  exact ⟨rfl, rfl⟩

set_option maxRecDepth 10000 in
set_option maxHeartbeats 2000000 in
theorem Read_ok {w : World} {d m : Nat} {es : Array MapEntry} {clock : Nat} {hv : Value} {S : St} {F : Nat → Prop} (h : DiskIs w d m es clock hv S F) (n : Nm) (hs : n.size ≤ maxLen) (h0 : S.check n true = 0) :
    Calls Tryd.prog 21 #[.pointer (some ⟨d, 0, none⟩), .string n] w (NewBytes w (bytesOf (getF S.files n))) := by
  have hc := check_any h n hs true
  obtain ⟨_, hg, hoff⟩ := check_zero h0
  obtain ⟨l, hl⟩ := Option.isSome_iff_exists.1 hg
  have hgl : getF S.files n = l := by simp [getF, hl]
  have hlen : l.length ≤ 65536 := by have e1 := getF_le S.files n; have e2 := h.ok.used; have e3 := h.ok.room; rw [hgl] at e1; omega
  rw [hgl]
  have h1 := h.kept ((Kp.refl (fun _ => False) w).alloc (.cells #[.slice none 0 0, .int .i64 0, .int .i8 0] 84)) (fun _ _ h => h)
  obtain ⟨u, hlk, hu⟩ := look_some h1 hl false
  simp only [Bool.false_eq_true, if_false] at hlk
  have hu0 := hu
  obtain ⟨hs0, p, c, rfl, hle, hcm, hb⟩ := hu0
  have c0 := h.cells.1
  have hdlt := blk_lt h.hd
  have hb0 := Lib.fresh_isBuffer 84 5 w
  rw [h0] at hc
  have HB := Lib.hid hb0
  have HL := Lib.hid hlen
  have HU := Lib.hid hu
  have hFlt : ∀ b, F b → b < w.heap.size := h.flt
  have HF := Lib.hid hFlt
  have HC := Lib.hid hcm
  clear hFlt h h1 hg hoff hl hgl hb hb0 hlen hu h0 hcm
  go_enter Tryd.func21, Tryd.ntmps21
  go_wp2_with (go_at_call 43; refine hc.mono ?_; rintro e w' ⟨rfl, rfl⟩)
  go_loopw [23] (fun i wr => ∃ k : Nat, k ≤ l.length ∧ i = .int .i64 k ∧ Lib.IsBuffer 84 5 w.heap.size w.heap.size (byteVals (bytesOf (l.take k))) wr ∧ Below w.heap.size w wr) (fun i _ => l.length - (intOf i).toNat)
  case atStart => exact ⟨0, Nat.zero_le _, rfl, HB.out, (Below.refl _ w).alloc (Nat.le_refl _) _⟩
  case round =>
    obtain ⟨k, hk, rfl, hbuf, hbw⟩ := hrel
    by_cases hlt : k < l.length
    · have hne : l ≠ [] := by rintro rfl; simp at hlt
      obtain ⟨b, c', hbv, hF, _, hcells, _⟩ := HU.out.holds hne
      have hbc : p = some ⟨b, 0, none⟩ := by injection hbv
      subst hbc
      obtain ⟨s, hsk⟩ : ∃ s, l[k] = s := ⟨_, rfl⟩
      have hat := secCells_at hs0 hcells hlt
      rw [hsk] at hat
      have hss : s.bytes.length = 32 := by rw [← hsk]; exact hs0 _ (List.getElem_mem hlt)
      have hbsn := bytesOf_snoc hlt
      rw [hsk] at hbsn
      have hold : ∀ j v, (secCells s)[j]? = some v → w.cell? ⟨b, k * 33 + j, none⟩ = some v := by
        intro j v hj
        have h1 := hat j v hj
        have h2 := World.block_lt_of_cell? _ _ h1
        have hF' := HF.out b hF
        rw [World.cell?_alloc_lt _ _ _ hF'] at h1
        exact h1
      have hcw : ∀ j v, (secCells s).toArray.toList[j]? = some v → wr.cell? ⟨b, k * 33 + j, none⟩ = some v := fun j v hj => cell_later hbw (hold j v (by simpa using hj))
      have hs33 : (secCells s).toArray.size = 33 := by simpa using secCells_length hss
      have hi33 : (Tryd.prog.info? 79).map (·.size) = some (secCells s).toArray.size := by rw [hs33]; exact size_sec
      have h1c : (secCells s).toArray.all (·.oneCell') = true := by
        rw [Array.all_eq_true]
        intro i hi
        have := oneCell_file (l := [s]) (secCells s).toArray[i] (by simp [fileCells])
        exact this
      have hbuf2 : Lib.IsBuffer 84 5 w.heap.size w.heap.size (byteVals (bytesOf (l.take k))) (wr.alloc (.cells (secCells s).toArray 79)) := by
        obtain ⟨hB, v, lr, hh, hrow, hne⟩ := hbuf
        exact ⟨hB, v, lr, blk_alloc _ hh, hrow.alloc _, hne⟩
      have hsz := hbw.size
      have hbw2 : Below w.heap.size w (wr.alloc (.cells (secCells s).toArray 79)) := hbw.alloc hsz _
      have hbb : (byteVals (bytesOf (l.take k))).length + 32 ≤ 140737488355328 := by
        have e1 := bytesOf_length (l := l.take k) fun s hs => hs0 s (List.mem_of_mem_take hs)
        have e2 := HL.out
        have e3 : (l.take k).length ≤ l.length := by rw [List.length_take]; omega
        simp only [byteVals, List.length_map]; omega
      have hsrc : ∀ j v, (byteVals s.bytes)[j]? = some v → (wr.alloc (.cells (secCells s).toArray 79)).cell? ((⟨wr.heap.size, 0, none⟩ : Addr).add j) = some v := by
        intro j v hj
        rw [addr_add, Nat.zero_add, blk_cell (heap_alloc_new wr _)]
        have hj2 : j < (byteVals s.bytes).length := (List.getElem?_eq_some_iff.1 hj).1
        simp only [List.getElem?_toArray, secCells]
        rw [List.getElem?_append_left (by simpa [byteVals] using hj2)]
        exact hj
      have hwr := Tryd.Buffer_Write_any w.heap.size w.heap.size _ (byteVals s.bytes) ⟨wr.heap.size, 0, none⟩ 32 32 _ hbuf2 hbw2.size (by intro v hv; obtain ⟨_, _, rfl⟩ := List.mem_map.1 hv; rfl) (by simp [byteVals, hss]) (by have := Lib.IsBuffer.lt hbuf; simp; omega) hsrc (by intro v hv; obtain ⟨_, _, rfl⟩ := List.mem_map.1 hv; rfl) hbb
      have holdz : ∀ old : Array Value, old.size = 33 → old.size = (secCells s).toArray.size := fun old ho => ho.trans hs33.symm
      have HZ := Lib.hid holdz
      have hl9 : l.length ≤ 9223372036854775807 := by have := HL.out; omega
      have HN := Lib.hid hbsn
      clear holdz
      clear hbv hF hcells hat hss hbsn hold hsk hs33 hbuf hbuf2 hbb hsrc
      go_wp2_with (first
        | (refine wpList_load_agg rfl 79 _ rfl rfl (secCells s).toArray hcw agg_sec hi33 ?_)
        | (refine wpList_store_row rfl 79 _ _ rfl wr.heap.size (secCells s).toArray rfl rfl 79 _ (heap_alloc_new wr _) hi33 (HZ.out _ rfl) h1c ?_; rw [setRow_new])
        | (go_at_call 44; refine hwr.mono ?_; rintro e w2 ⟨rfl, hb2, hk2, _⟩))
      go_roundw
      case rel => exact ⟨k + 1, by omega, by go_num, by rw [HN.out]; simpa [byteVals] using hb2, hbw2.trans (hk2.mono (Nat.le_refl _))⟩
      case measure => simp [intOf]; omega
    · obtain rfl : k = l.length := by omega
      rw [List.take_length] at hbuf
      have hby := Tryd.Buffer_Bytes w.heap.size w.heap.size _ wr hbuf
      go_wp2_with (go_at_call 45; refine hby.mono ?_; rintro e w' ⟨v, rfl, hrow, q, rfl⟩)
      go_ret2
      exact ⟨v, rfl, by simpa [byteVals] using hrow, Kp.of_below _ hbw |>.drewN q⟩
end Go.Proofs.YtmcmapaapffadaaDoor

/-
  Names, New, Arm, Size.
-/
import Derived.Test.YtmcmapaapffadaaDoorWalkG
import Derived.Test.YtmcmapaapffadaaDoorIter
namespace Go.Proofs.YtmcmapaapffadaaDoor
open Go.RowKit Go.ChangeMaps Go.Maps Go.Sort Go.Shelf
open Go.WideElems (Fit rd rg rd_mk rg_of)

/-- The names, in order. -/
def namesOf (fs : Files) : List (List UInt8) := (fs.map fun p => p.1.data.toList).mergeSort (fun x y => decide (x ≤ y))

/-- Whatever the elements are, they read as nothing. -/
def noElem : Value → Option (DataW Unit × List MemPlace) := fun _ => some (.nil, [])
set_option maxRecDepth 10000 in
theorem rd_no {F : Nat → Prop} {w : World} {e : MapEntry} {p : Nm × List Sec} (hk : e.key = .string p.1) (_ : FileRep w F e.val p.2) (hn : p.1.size ≤ maxLen) : rd Tryd.prog 9 noElem e = some (.string p.1.data.toList, .nil) := by
  obtain ⟨key, val, born⟩ := e
  simp only at hk
  subst hk
  exact rd_mk (yv := (DataW.nil, [])) (WideMaps.keyOf_string_mk key_type hn) rfl
set_option maxRecDepth 10000 in
theorem rg_all {w : World} {F : Nat → Prop} : ∀ {l : List MapEntry} {fs : Files}, Ents Value.string (FileRep w F) l fs → (∀ p ∈ fs, p.1.size ≤ maxLen) → l.map (rg Tryd.prog 9 noElem) = fs.map (fun p => (Lit.string p.1.data.toList, DataW.nil))
  | [], [], _, _ => rfl
  | e :: l, p :: fs, h, hn => by
    rw [List.map_cons, List.map_cons, rg_all h.2.2 fun q hq => hn q (by simp [hq]), rg_of (rd_no h.1 h.2.1 (hn p (by simp)))]
set_option maxRecDepth 10000 in
theorem ownsNames {w : World} {d m : Nat} {es : Array MapEntry} {clock : Nat} {hv : Value} {S : St} {F : Nat → Prop} (h : DiskIs w d m es clock hv S F) :
    ∃ D0, w.ownsMap Tryd.prog 9 noElem m 64 D0 ∧ Maps.size D0 ≤ 64 ∧ (strKeys D0).Perm (S.files.map fun p => p.1.data.toList) := by
  have hn : ∀ p ∈ S.files, p.1.size ≤ maxLen := fun p hp => by have := (nameB_size (h.ok.names p hp)).2; unfold maxLen; omega
  have hsz : es.size ≤ 64 := by rw [h.ents.size]; exact h.ok.count
  have hrd : ∀ x ∈ es.toList, ∃ p ∈ S.files, rd Tryd.prog 9 noElem x = some (.string p.1.data.toList, .nil) := fun x hx => by
    obtain ⟨p, hp, h1, h2⟩ := h.ents.ents.mem x hx
    exact ⟨p, hp, rd_no h1 h2 (hn p hp)⟩
  have hkeys : es.toList.map (·.key) = S.files.map (fun p => Value.string p.1) := h.ents.ents.keys
  have hfit : Fit Tryd.prog 9 noElem es clock := by
    refine ⟨by unfold maxLen; omega, ⟨h.ents.born, h.ents.apart, ?_⟩, fun x hx => let ⟨p, _, hp⟩ := hrd x hx; ⟨_, hp⟩⟩
    rw [hkeys]
    have := h.ents.keys
    rw [show (S.files.map fun p => Value.string p.1) = (S.files.map (·.1)).map Value.string from by simp]
    exact List.Pairwise.map Value.string (fun a b hab e => hab (by simpa using e)) this
  have hrg := rg_all h.ents.ents hn
  refine ⟨_, ⟨es, clock, h.hm, hfit, hsz, rfl⟩, ?_, ?_⟩
  · rw [hrg]
    simp only [Maps.size]
    rw [(WideShapes.sorted_perm _).length_eq]
    simpa using h.ok.count
  · rw [hrg]
    simp only [strKeys]
    refine ((WideShapes.sorted_perm _).map _).trans ?_
    rw [List.map_map]
    exact List.Perm.refl _

/-- Handed back: the names in order, in new memory. -/
def NewNames (w : World) (ns : List (List UInt8)) (e : Ending) (w' : World) : Prop :=
  ∃ v, e = .returned v ∧ w'.ownsRow w.heap.size 9 1 v ns.length (ns.map Go.Proofs.encStr) ∧ (v = .slice none 0 0 ↔ ns = []) ∧ Below w.heap.size w w'

set_option maxHeartbeats 1000000 in
theorem Names_on {w : World} {d m : Nat} {es : Array MapEntry} {clock : Nat} {hv : Value} {S : St} {F : Nat → Prop} (h : DiskIs w d m es clock hv S F) (hoff : S.off = false) :
    Calls Tryd.prog 25 #[.pointer (some ⟨d, 0, none⟩)] w (NewNames w (namesOf S.files)) := by
  obtain ⟨D0, hown, hsz, hperm⟩ := ownsNames h
  obtain ⟨c0, _, c2, _⟩ := h.cells
  rw [hoff] at c2
  have HP := Lib.hid hperm
  have hmax : Maps.size D0 ≤ maxLen := by unfold maxLen; omega
  have hbytes : Maps.size D0 * 16 ≤ 140737488355328 := by omega
  clear h hperm hoff hsz
  refine (callsIn_wide (n := 6)).1 ?_
  have hfK : Fence.wide.fn 50 := trivial
  have hfS : Fence.wide.fn 49 := trivial
  refine callsIn_of_wp Tryd.func25 rfl trivial ?_ rfl
  simp only [Tryd.ntmps25, List.size_toArray, List.length_cons, List.length_nil, Nat.reduceAdd, Nat.reduceSub, Array.replicate_succ, Array.replicate_zero, List.push_toArray, List.append_toArray, List.nil_append, List.cons_append]
  gi_wp2_with (first
    | (gi_at_call 50; refine (Tryd.maps_Keys_50 _ _).mono ?_; rintro e w' ⟨rfl, rfl⟩)
    | (gi_at_call 49; refine (Tryd.slices_Sorted_keys_49_50 m 64 D0 noElem w hown hmax hbytes).mono ?_; rintro e w' ⟨v, ss, rfl, hS, hrow, hnil, hb⟩))
  go_ret
  have hm : namesOf _ = ss.mergeSort (fun x y => decide (x ≤ y)) := (mergeSort_of_perm (hS.trans HP.out)).symm
  have hl : (namesOf S.files).length = ss.length := by rw [hm, List.length_mergeSort]
  refine ⟨v, rfl, ?_, ?_, ((Below.refl _ w).alloc (Nat.le_refl _) _).trans (hb.mono (by simp))⟩
  · rw [hl, hm]; exact ownsRow_base_a hrow (by simp)
  · rw [hnil]
    constructor
    · rintro rfl; rw [hm]; simp
    · intro h0; rw [h0] at hl; exact List.eq_nil_of_length_eq_zero hl.symm
theorem Names_off {w : World} {d m : Nat} {es : Array MapEntry} {clock : Nat} {hv : Value} {S : St} {F : Nat → Prop} (h : DiskIs w d m es clock hv S F) (hoff : S.off = true) :
    Calls Tryd.prog 25 #[.pointer (some ⟨d, 0, none⟩)] w fun e w' => e = .returned (.slice none 0 0) ∧ w = w' := by
  obtain ⟨_, _, c2, _⟩ := h.cells
  rw [hoff] at c2
  clear h hoff
  go_enter Tryd.func25, Tryd.ntmps25
  go_wp2
  go_ret
  exact ⟨rfl, rfl⟩
theorem Names_nil (w : World) : Calls Tryd.prog 25 #[.pointer none] w fun e w' => e = .returned (.slice none 0 0) ∧ w = w' := by
  go_enter Tryd.func25, Tryd.ntmps25
  go_wp2
  go_ret
  exact ⟨rfl, rfl⟩

/-- A disk without files. -/
def St.new (room : Int) : St := { files := [], room, off := false, armed := 0, ops := 0, hangs := none }
theorem New_bad (n : Int) (h : n < 1 ∨ 65536 < n) (w : World) : Calls Tryd.prog 13 #[.int .i64 n] w fun e w' => e = .returned (.tuple #[.pointer none, .int .i64 1]) ∧ w = w' := by
  by_cases h1 : n < 1
  · clear h
    go_enter Tryd.func13, Tryd.ntmps13
    go_wp2
    go_ret2
    exact ⟨rfl, rfl⟩
  · have h2 : 65536 < n := by omega
    clear h
    go_enter Tryd.func13, Tryd.ntmps13
    go_wp2
    go_ret2
    exact ⟨rfl, rfl⟩
def NewDisk (w : World) (n : Int) (e : Ending) (w' : World) : Prop :=
  ∃ d F, e = .returned (.tuple #[.pointer (some ⟨d, 0, none⟩), .int .i64 0]) ∧ w.heap.size ≤ d ∧ DiskAt w' d (St.new n) F ∧ (∀ k, F k → w.heap.size ≤ k) ∧ Kp (fun _ => False) w w'
theorem New_any (n : Int) (h1 : 1 ≤ n) (h2 : n ≤ 65536) (w : World) : Calls Tryd.prog 13 #[.int .i64 n] w (NewDisk w n) := by
  have hmm := @run_makeMap Tryd.prog
  have HF : Hid (NewDisk w n (.returned (.tuple #[.pointer (some ⟨w.heap.size + 1, 0, none⟩), .int .i64 0])) ((w.alloc (.map #[] 0)).alloc (.cells #[.map (some w.heap.size), .int .i64 n, .bool false, .int .i64 0, .int .i64 0, .nilFunc] 74))) := by
    refine ⟨w.heap.size + 1, fun k => w.heap.size ≤ k ∧ k < w.heap.size + 2, rfl, by omega, ⟨w.heap.size, #[], 0, .nilFunc, ?_⟩, fun k hk => hk.1, ((Kp.refl _ w).alloc _).alloc _⟩
    refine ⟨by simpa [St.new] using heap_alloc_new (w.alloc (.map #[] 0)) (.cells #[.map (some w.heap.size), .int .i64 n, .bool false, .int .i64 0, .int .i64 0, .nilFunc] 74), blk_alloc _ (heap_alloc_new w _), ⟨trivial, by simp [St.new], by simp, by simp⟩, rfl, ⟨by omega, by omega⟩, ⟨by omega, by omega⟩, ?_, fun k hk => by simp; omega⟩
    exact ⟨⟨h1, h2⟩, by simp [St.new, used]; omega, by simp [St.new], by simp [St.new], by simp [St.new], by simp [St.new], by simp [St.new]⟩
  go_enter Tryd.func13, Tryd.ntmps13
  go_wp2
  go_ret2
  exact HF.out

/-- Arm. -/
theorem Arm_neg (d : Nat) (n : Int) (h : n < 0) (w : World) : Calls Tryd.prog 16 #[.pointer (some ⟨d, 0, none⟩), .int .i64 n] w fun e w' => e = .returned (.int .i64 1) ∧ w = w' := by
  go_enter Tryd.func16, Tryd.ntmps16
  go_wp2
  go_ret
  exact ⟨rfl, rfl⟩
theorem Arm_nil (n : Int) (w : World) : Calls Tryd.prog 16 #[.pointer none, .int .i64 n] w fun e w' => e = .returned (.int .i64 (if n < 0 then 1 else 7)) ∧ w = w' := by
  by_cases h : n < 0
  · go_enter Tryd.func16, Tryd.ntmps16
    go_wp2
    go_ret
    exact ⟨by simp, rfl⟩
  · go_enter Tryd.func16, Tryd.ntmps16
    go_wp2
    go_ret
    exact ⟨by simp, rfl⟩
theorem Arm_off {w : World} {d m : Nat} {es : Array MapEntry} {clock : Nat} {hv : Value} {S : St} {F : Nat → Prop} (h : DiskIs w d m es clock hv S F) (hoff : S.off = true) (n : Int) (hn : 0 ≤ n) :
    Calls Tryd.prog 16 #[.pointer (some ⟨d, 0, none⟩), .int .i64 n] w fun e w' => e = .returned (.int .i64 18) ∧ w = w' := by
  obtain ⟨_, _, c2, _⟩ := h.cells
  rw [hoff] at c2
  clear h hoff
  go_enter Tryd.func16, Tryd.ntmps16
  go_wp2
  go_ret
  exact ⟨rfl, rfl⟩
theorem Arm_on {w : World} {d m : Nat} {es : Array MapEntry} {clock : Nat} {hv : Value} {S : St} {F : Nat → Prop} (h : DiskIs w d m es clock hv S F) (hoff : S.off = false) (n : Int) (hn : 0 ≤ n ∧ n ≤ 9223372036854775807) :
    Calls Tryd.prog 16 #[.pointer (some ⟨d, 0, none⟩), .int .i64 n] w (Does w d 0 { S with armed := n } F) := by
  obtain ⟨_, _, c2, c3, _, _, fz⟩ := h.cells
  rw [hoff] at c2
  have HF : Hid (Does w d 0 { S with armed := n } F (.returned (.int .i64 0)) (w.setCell ⟨d, 3, none⟩ (.int .i64 n))) :=
    ⟨rfl, F, ⟨m, es, clock, hv, h.arm n hn⟩, fun _ h => .inl h, (Kp.refl F w).setCell (.inl h.fd) _⟩
  obtain ⟨h0, _⟩ := hn
  clear h hoff
  go_enter Tryd.func16, Tryd.ntmps16
  go_wp2
  go_ret
  exact HF.out

/-- Size: how many sectors, or the error. -/
def St.sizeOf (S : St) (n : Nm) : Int := if S.check n true = 0 then (getF S.files n).length else 0
end Go.Proofs.YtmcmapaapffadaaDoor

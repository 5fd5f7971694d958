/-
  Merged of my texts, in order: WalkG, WalkH, WalkI.
-/
import Derived.Test.YtggnohbfdlebiaaGreatDoorM1
import Derived.Test.YtggnohbfdlebiaaGreatDoorM3
import Derived.Test.YtggnohbfdlebiaaGreatDoorIter
/-
  Sync, Truncate, Rename, Remove, of a disk that there is.
-/
namespace Go.Proofs.YtggnohbfdlebiaaGreatDoor
open Go.RowKit Go.ChangeMaps

/-- What an operation on files answers, behind its check; what it leaves. -/
def St.opE (S : St) (c : Int) : Int := if c = 0 then S.doE else c
def St.opS (S : St) (c : Int) (hg : Hg) : St := if c = 0 then S.doS hg else S
theorem check_zero {S : St} {n : Nm} (h : S.check n true = 0) : nameB n = true ∧ (get S.files n).isSome = true ∧ S.off = false := by
  unfold St.check at h
  cases hb : nameB n with
  | false => simp [hb] at h
  | true =>
    cases hg : get S.files n with
    | none => simp [hb, hg] at h
    | some l =>
      cases ho : S.off with
      | true => simp [hb, hg, ho] at h
      | false => exact ⟨rfl, rfl, rfl⟩
theorem Does.back {w w2 : World} {d : Nat} {n : Int} {S' : St} {F : Nat → Prop} {e : Ending} {w' : World} (h : Does w2 d n S' (fun k => F k ∨ (w.heap.size ≤ k ∧ k < w2.heap.size)) e w') (hk : Kp (fun _ => False) w w2) : Does w d n S' F e w' := by
  obtain ⟨he, F', h1, h2, h3⟩ := h
  refine ⟨he, F', h1, fun k hk' => ?_, (hk.mono fun _ h => h.elim).trans' h3 fun _ h => h.imp id (·.1)⟩
  rcases h2 k hk' with h | h
  · exact h.imp id (·.1)
  · exact .inr (Nat.le_trans hk.size h)
theorem DiskIs.wide {w w2 : World} {d m : Nat} {es : Array MapEntry} {clock : Nat} {hv : Value} {S : St} {F : Nat → Prop} (h : DiskIs w d m es clock hv S F) (hk : Kp (fun _ => False) w w2) :
    DiskIs w2 d m es clock hv S (fun k => F k ∨ (w.heap.size ≤ k ∧ k < w2.heap.size)) := h.move (fun _ h => .inl h) (fun _ _ _ hb => hk.blk hb id) fun k hf => by
    rcases hf with hf | hf
    · exact Nat.lt_of_lt_of_le (h.flt k hf) hk.size
    · exact hf.2

theorem do_sync_all {w : World} {d m : Nat} {es : Array MapEntry} {clock : Nat} {hv : Value} {S : St} {F : Nat → Prop} {b1 b2 : Nat} {n : Nm} (h : DiskIs w d m es clock hv S F) (hoff : S.off = false) (hok : (Hg.sync n).okOn S.files) (k1 : Box w F b1 (.pointer (some ⟨d, 0, none⟩)) 24) (k2 : Box w F b2 (.string n) 9) :
    Calls Tryz.prog 41 #[.pointer (some ⟨d, 0, none⟩), .func (.func 69) #[] #[.pointer (some ⟨b1, 0, none⟩), .pointer (some ⟨b2, 0, none⟩)]] w (Does w d S.doE (S.doS (Hg.sync n)) F) := by
  by_cases h1 : S.armed = 1
  · exact do_goes h hoff ⟨b1, b2, rfl, k1, k2⟩ hok h1 ⟨_, _, rfl⟩
  · exact do_sync h hoff hok k1 k2 h1

set_option maxHeartbeats 1600000 in
theorem Sync_any {w : World} {d m : Nat} {es : Array MapEntry} {clock : Nat} {hv : Value} {S : St} {F : Nat → Prop} (h : DiskIs w d m es clock hv S F) (n : Nm) (hs : n.size ≤ maxLen) :
    Calls Tryz.prog 37 #[.pointer (some ⟨d, 0, none⟩), .string n] w (Does w d (S.opE (S.check n true)) (S.opS (S.check n true) (Hg.sync n)) F) := by
  have hkw : Kp (fun _ => False) w ((w.alloc (.cells #[.pointer (some ⟨d, 0, none⟩)] 24)).alloc (.cells #[.string n] 9)) := (((Kp.refl _ w).alloc _).alloc _)
  have h2 := h.wide hkw
  have hc := check_any h2 n hs true
  by_cases h0 : S.check n true = 0
  · obtain ⟨hn, hg, hoff⟩ := check_zero h0
    rw [h0] at hc
    have hd := do_sync_all h2 hoff ⟨hn, hg⟩ (b1 := w.heap.size) (b2 := w.heap.size + 1) ⟨(blk_alloc _ (by simpa using heap_alloc_new (w) (.cells #[.pointer (some ⟨d, 0, none⟩)] 24))), .inr ⟨by omega, by simp; try omega⟩⟩ ⟨(by simpa using heap_alloc_new (w.alloc (.cells #[.pointer (some ⟨d, 0, none⟩)] 24)) (.cells #[.string n] 9)), .inr ⟨by omega, by simp; try omega⟩⟩
    have HF : Hid (∀ e w', Does ((w.alloc (.cells #[.pointer (some ⟨d, 0, none⟩)] 24)).alloc (.cells #[.string n] 9)) d S.doE (S.doS (Hg.sync n)) (fun j => F j ∨ (w.heap.size ≤ j ∧ j < ((w.alloc (.cells #[.pointer (some ⟨d, 0, none⟩)] 24)).alloc (.cells #[.string n] 9)).heap.size)) e w' → Does w d (S.opE (S.check n true)) (S.opS (S.check n true) (Hg.sync n)) F e w') := by
      intro e w' hd
      have hd' := hd.back hkw
      simpa only [St.opE, St.opS, h0, if_true] using hd'
    clear h h2 hkw hn hg hoff h0
    go_enter Tryz.func37, Tryz.ntmps37
    go_wp2_with (first | (go_at_call 38; refine hc.mono ?_; rintro e w' ⟨rfl, rfl⟩) | (go_at_call 41; refine hd.mono ?_; rintro e w' hl; have HL := HF.out e w' hl; obtain ⟨rfl, _⟩ := hl))
    go_ret
    exact HL
  · have hne : (S.check n true != 0) = true := by simpa using h0
    have hne2 : (!S.check n true == 0) = true := by simpa using h0
    have HF : Hid (Does w d (S.opE (S.check n true)) (S.opS (S.check n true) (Hg.sync n)) F (.returned (.int .i64 (S.check n true))) ((w.alloc (.cells #[.pointer (some ⟨d, 0, none⟩)] 24)).alloc (.cells #[.string n] 9))) := by
      refine ⟨by simp only [St.opE, if_neg h0], F, ⟨m, es, clock, hv, ?_⟩, fun _ h => .inl h, hkw.mono fun _ h => h.elim⟩
      simp only [St.opS, if_neg h0]
      exact h.kept hkw fun _ _ h => h
    clear h h2 hkw
    generalize S.check n true = c at *
    go_enter Tryz.func37, Tryz.ntmps37
    go_wp2_with (first | (go_at_call 38; refine hc.mono ?_; rintro e w' ⟨rfl, rfl⟩))
    go_ret
    exact HF.out

theorem do_remove_all {w : World} {d m : Nat} {es : Array MapEntry} {clock : Nat} {hv : Value} {S : St} {F : Nat → Prop} {b1 b2 : Nat} {n : Nm} (h : DiskIs w d m es clock hv S F) (hoff : S.off = false) (hok : (Hg.remove n).okOn S.files) (k1 : Box w F b1 (.pointer (some ⟨d, 0, none⟩)) 24) (k2 : Box w F b2 (.string n) 9) :
    Calls Tryz.prog 41 #[.pointer (some ⟨d, 0, none⟩), .func (.func 64) #[] #[.pointer (some ⟨b1, 0, none⟩), .pointer (some ⟨b2, 0, none⟩)]] w (Does w d S.doE (S.doS (Hg.remove n)) F) := by
  by_cases h1 : S.armed = 1
  · exact do_goes h hoff ⟨b1, b2, rfl, k1, k2⟩ hok h1 ⟨_, _, rfl⟩
  · exact do_remove h hoff hok k1 k2 h1

set_option maxHeartbeats 1600000 in
theorem Remove_any {w : World} {d m : Nat} {es : Array MapEntry} {clock : Nat} {hv : Value} {S : St} {F : Nat → Prop} (h : DiskIs w d m es clock hv S F) (n : Nm) (hs : n.size ≤ maxLen) :
    Calls Tryz.prog 33 #[.pointer (some ⟨d, 0, none⟩), .string n] w (Does w d (S.opE (S.check n true)) (S.opS (S.check n true) (Hg.remove n)) F) := by
  have hkw : Kp (fun _ => False) w ((w.alloc (.cells #[.pointer (some ⟨d, 0, none⟩)] 24)).alloc (.cells #[.string n] 9)) := (((Kp.refl _ w).alloc _).alloc _)
  have h2 := h.wide hkw
  have hc := check_any h2 n hs true
  by_cases h0 : S.check n true = 0
  · obtain ⟨hn, hg, hoff⟩ := check_zero h0
    rw [h0] at hc
    have hd := do_remove_all h2 hoff trivial (b1 := w.heap.size) (b2 := w.heap.size + 1) ⟨(blk_alloc _ (by simpa using heap_alloc_new (w) (.cells #[.pointer (some ⟨d, 0, none⟩)] 24))), .inr ⟨by omega, by simp; try omega⟩⟩ ⟨(by simpa using heap_alloc_new (w.alloc (.cells #[.pointer (some ⟨d, 0, none⟩)] 24)) (.cells #[.string n] 9)), .inr ⟨by omega, by simp; try omega⟩⟩
    have HF : Hid (∀ e w', Does ((w.alloc (.cells #[.pointer (some ⟨d, 0, none⟩)] 24)).alloc (.cells #[.string n] 9)) d S.doE (S.doS (Hg.remove n)) (fun j => F j ∨ (w.heap.size ≤ j ∧ j < ((w.alloc (.cells #[.pointer (some ⟨d, 0, none⟩)] 24)).alloc (.cells #[.string n] 9)).heap.size)) e w' → Does w d (S.opE (S.check n true)) (S.opS (S.check n true) (Hg.remove n)) F e w') := by
      intro e w' hd
      have hd' := hd.back hkw
      simpa only [St.opE, St.opS, h0, if_true] using hd'
    clear h h2 hkw hn hg hoff h0
    go_enter Tryz.func33, Tryz.ntmps33
    go_wp2_with (first | (go_at_call 38; refine hc.mono ?_; rintro e w' ⟨rfl, rfl⟩) | (go_at_call 41; refine hd.mono ?_; rintro e w' hl; have HL := HF.out e w' hl; obtain ⟨rfl, _⟩ := hl))
    go_ret
    exact HL
  · have hne : (S.check n true != 0) = true := by simpa using h0
    have hne2 : (!S.check n true == 0) = true := by simpa using h0
    have HF : Hid (Does w d (S.opE (S.check n true)) (S.opS (S.check n true) (Hg.remove n)) F (.returned (.int .i64 (S.check n true))) ((w.alloc (.cells #[.pointer (some ⟨d, 0, none⟩)] 24)).alloc (.cells #[.string n] 9))) := by
      refine ⟨by simp only [St.opE, if_neg h0], F, ⟨m, es, clock, hv, ?_⟩, fun _ h => .inl h, hkw.mono fun _ h => h.elim⟩
      simp only [St.opS, if_neg h0]
      exact h.kept hkw fun _ _ h => h
    clear h h2 hkw
    generalize S.check n true = c at *
    go_enter Tryz.func33, Tryz.ntmps33
    go_wp2_with (first | (go_at_call 38; refine hc.mono ?_; rintro e w' ⟨rfl, rfl⟩))
    go_ret
    exact HF.out

theorem do_trunc_all {w : World} {d m : Nat} {es : Array MapEntry} {clock : Nat} {hv : Value} {S : St} {F : Nat → Prop} {b1 b2 b3 : Nat} {n : Nm} {k : Nat} (h : DiskIs w d m es clock hv S F) (hoff : S.off = false) (hok : (Hg.trunc n (k : Int)).okOn S.files) (k1 : Box w F b1 (.pointer (some ⟨d, 0, none⟩)) 24) (k2 : Box w F b2 (.string n) 9) (k3 : Box w F b3 (.int .i64 (k : Int)) 3) (hkm : k ≤ 9223372036854775807) :
    Calls Tryz.prog 41 #[.pointer (some ⟨d, 0, none⟩), .func (.func 62) #[] #[.pointer (some ⟨b1, 0, none⟩), .pointer (some ⟨b2, 0, none⟩), .pointer (some ⟨b3, 0, none⟩)]] w (Does w d S.doE (S.doS (Hg.trunc n (k : Int))) F) := by
  by_cases h1 : S.armed = 1
  · exact do_goes h hoff ⟨by omega, by omega, b1, b2, b3, rfl, k1, k2, k3⟩ hok h1 ⟨_, _, rfl⟩
  · exact do_trunc h hoff hok k1 k2 k3 h1

set_option maxHeartbeats 1600000 in
theorem Truncate_any {w : World} {d m : Nat} {es : Array MapEntry} {clock : Nat} {hv : Value} {S : St} {F : Nat → Prop} (h : DiskIs w d m es clock hv S F) (n : Nm) (hs : n.size ≤ maxLen) (k : Nat) (hkm : k ≤ 9223372036854775807) :
    Calls Tryz.prog 32 #[.pointer (some ⟨d, 0, none⟩), .string n, .int .i64 (k : Int)] w (Does w d (S.opE (S.check n true)) (S.opS (S.check n true) (Hg.trunc n (k : Int))) F) := by
  have hkw : Kp (fun _ => False) w (((w.alloc (.cells #[.pointer (some ⟨d, 0, none⟩)] 24)).alloc (.cells #[.string n] 9)).alloc (.cells #[.int .i64 (k : Int)] 3)) := ((((Kp.refl _ w).alloc _).alloc _).alloc _)
  have h2 := h.wide hkw
  have hc := check_any h2 n hs true
  by_cases h0 : S.check n true = 0
  · obtain ⟨hn, hg, hoff⟩ := check_zero h0
    rw [h0] at hc
    have hd := do_trunc_all (hkm := hkm) h2 hoff ⟨hn, hg⟩ (b1 := w.heap.size) (b2 := w.heap.size + 1) (b3 := w.heap.size + 2) ⟨(blk_alloc _ (blk_alloc _ (by simpa using heap_alloc_new (w) (.cells #[.pointer (some ⟨d, 0, none⟩)] 24)))), .inr ⟨by omega, by simp; try omega⟩⟩ ⟨(blk_alloc _ (by simpa using heap_alloc_new (w.alloc (.cells #[.pointer (some ⟨d, 0, none⟩)] 24)) (.cells #[.string n] 9))), .inr ⟨by omega, by simp; try omega⟩⟩ ⟨(by simpa using heap_alloc_new ((w.alloc (.cells #[.pointer (some ⟨d, 0, none⟩)] 24)).alloc (.cells #[.string n] 9)) (.cells #[.int .i64 (k : Int)] 3)), .inr ⟨by omega, by simp; try omega⟩⟩
    have HF : Hid (∀ e w', Does (((w.alloc (.cells #[.pointer (some ⟨d, 0, none⟩)] 24)).alloc (.cells #[.string n] 9)).alloc (.cells #[.int .i64 (k : Int)] 3)) d S.doE (S.doS (Hg.trunc n (k : Int))) (fun j => F j ∨ (w.heap.size ≤ j ∧ j < (((w.alloc (.cells #[.pointer (some ⟨d, 0, none⟩)] 24)).alloc (.cells #[.string n] 9)).alloc (.cells #[.int .i64 (k : Int)] 3)).heap.size)) e w' → Does w d (S.opE (S.check n true)) (S.opS (S.check n true) (Hg.trunc n (k : Int))) F e w') := by
      intro e w' hd
      have hd' := hd.back hkw
      simpa only [St.opE, St.opS, h0, if_true] using hd'
    clear h h2 hkw hn hg hoff h0
    go_enter Tryz.func32, Tryz.ntmps32
    go_wp2_with (first | (go_at_call 38; refine hc.mono ?_; rintro e w' ⟨rfl, rfl⟩) | (go_at_call 41; refine hd.mono ?_; rintro e w' hl; have HL := HF.out e w' hl; obtain ⟨rfl, _⟩ := hl))
    go_ret
    exact HL
  · have hne : (S.check n true != 0) = true := by simpa using h0
    have hne2 : (!S.check n true == 0) = true := by simpa using h0
    have HF : Hid (Does w d (S.opE (S.check n true)) (S.opS (S.check n true) (Hg.trunc n (k : Int))) F (.returned (.int .i64 (S.check n true))) (((w.alloc (.cells #[.pointer (some ⟨d, 0, none⟩)] 24)).alloc (.cells #[.string n] 9)).alloc (.cells #[.int .i64 (k : Int)] 3))) := by
      refine ⟨by simp only [St.opE, if_neg h0], F, ⟨m, es, clock, hv, ?_⟩, fun _ h => .inl h, hkw.mono fun _ h => h.elim⟩
      simp only [St.opS, if_neg h0]
      exact h.kept hkw fun _ _ h => h
    clear h h2 hkw
    generalize S.check n true = c at *
    go_enter Tryz.func32, Tryz.ntmps32
    go_wp2_with (first | (go_at_call 38; refine hc.mono ?_; rintro e w' ⟨rfl, rfl⟩))
    go_ret
    exact HF.out

set_option maxHeartbeats 800000 in
theorem Truncate_neg {w : World} {d m : Nat} {es : Array MapEntry} {clock : Nat} {hv : Value} {S : St} {F : Nat → Prop} (h : DiskIs w d m es clock hv S F) (n : Nm) (k : Int) (hk : k < 0) :
    Calls Tryz.prog 32 #[.pointer (some ⟨d, 0, none⟩), .string n, .int .i64 k] w (Does w d 1 S F) := by
  have HF : Hid (Does w d 1 S F (.returned (.int .i64 1)) (((w.alloc (.cells #[.pointer (some ⟨d, 0, none⟩)] 24)).alloc (.cells #[.string n] 9)).alloc (.cells #[.int .i64 k] 3))) :=
    ⟨rfl, F, ⟨m, es, clock, hv, h.kept ((((Kp.refl (fun _ => False) w).alloc _).alloc _).alloc _) fun _ _ h => h⟩, fun _ h => .inl h, (((Kp.refl F w).alloc _).alloc _).alloc _⟩
  clear h
  go_enter Tryz.func32, Tryz.ntmps32
  go_wp2
  go_ret
  exact HF.out
end Go.Proofs.YtggnohbfdlebiaaGreatDoor

/-
  Names, New, Arm, Size.
-/
namespace Go.Proofs.YtggnohbfdlebiaaGreatDoor
open Go.RowKit Go.ChangeMaps Go.Maps Go.Sort Go.Shelf
open Go.WideElems (Fit rd rg rd_mk rg_of)

/-- The names, in order. -/
def namesOf (fs : Files) : List (List UInt8) := (fs.map fun p => p.1.data.toList).mergeSort (fun x y => decide (x ≤ y))

/-- Whatever the elements are, they read as nothing. -/
def noElem : Value → Option (DataW Unit × List MemPlace) := fun _ => some (.nil, [])
set_option maxRecDepth 10000 in
theorem rd_no {F : Nat → Prop} {w : World} {e : MapEntry} {p : Nm × List Sec} (hk : e.key = .string p.1) (_ : FileRep w F e.val p.2) (hn : p.1.size ≤ maxLen) : rd Tryz.prog 9 noElem e = some (.string p.1.data.toList, .nil) := by
  obtain ⟨key, val, born⟩ := e
  simp only at hk
  subst hk
  exact rd_mk (yv := (DataW.nil, [])) (WideMaps.keyOf_string_mk key_type hn) rfl
set_option maxRecDepth 10000 in
theorem rg_all {w : World} {F : Nat → Prop} : ∀ {l : List MapEntry} {fs : Files}, Ents Value.string (FileRep w F) l fs → (∀ p ∈ fs, p.1.size ≤ maxLen) → l.map (rg Tryz.prog 9 noElem) = fs.map (fun p => (Lit.string p.1.data.toList, DataW.nil))
  | [], [], _, _ => rfl
  | e :: l, p :: fs, h, hn => by
    rw [List.map_cons, List.map_cons, rg_all h.2.2 fun q hq => hn q (by simp [hq]), rg_of (rd_no h.1 h.2.1 (hn p (by simp)))]
set_option maxRecDepth 10000 in
theorem ownsNames {w : World} {d m : Nat} {es : Array MapEntry} {clock : Nat} {hv : Value} {S : St} {F : Nat → Prop} (h : DiskIs w d m es clock hv S F) :
    ∃ D0, w.ownsMap Tryz.prog 9 noElem m 64 D0 ∧ Maps.size D0 ≤ 64 ∧ (strKeys D0).Perm (S.files.map fun p => p.1.data.toList) := by
  have hn : ∀ p ∈ S.files, p.1.size ≤ maxLen := fun p hp => by have := (nameB_size (h.ok.names p hp)).2; unfold maxLen; omega
  have hsz : es.size ≤ 64 := by rw [h.ents.size]; exact h.ok.count
  have hrd : ∀ x ∈ es.toList, ∃ p ∈ S.files, rd Tryz.prog 9 noElem x = some (.string p.1.data.toList, .nil) := fun x hx => by
    obtain ⟨p, hp, h1, h2⟩ := h.ents.ents.mem x hx
    exact ⟨p, hp, rd_no h1 h2 (hn p hp)⟩
  have hkeys : es.toList.map (·.key) = S.files.map (fun p => Value.string p.1) := h.ents.ents.keys
  have hfit : Fit Tryz.prog 9 noElem es clock := by
    refine ⟨by unfold maxLen; omega, ⟨h.ents.born, h.ents.apart, ?_⟩, fun x hx => let ⟨p, _, hp⟩ := hrd x hx; ⟨_, hp⟩⟩
    rw [hkeys]
    have := h.ents.keys
    rw [show (S.files.map fun p => Value.string p.1) = (S.files.map (·.1)).map Value.string from by simp]
    exact List.Pairwise.map Value.string (fun a b hab e => hab (by simpa using e)) this
  have hrg := rg_all h.ents.ents hn
  refine ⟨_, ⟨es, clock, h.hm, hfit, hsz, rfl⟩, ?_, ?_⟩
  · rw [hrg]
    simp only [Maps.size]
    rw [(WideShapes.sorted_perm _).length_eq]
    simpa using h.ok.count
  · rw [hrg]
    simp only [strKeys]
    refine ((WideShapes.sorted_perm _).map _).trans ?_
    rw [List.map_map]
    exact List.Perm.refl _

/-- Handed back: the names in order, in new memory. -/
def NewNames (w : World) (ns : List (List UInt8)) (e : Ending) (w' : World) : Prop :=
  ∃ v, e = .returned v ∧ w'.ownsRow w.heap.size 9 1 v ns.length (ns.map Go.Proofs.encStr) ∧ (v = .slice none 0 0 ↔ ns = []) ∧ Below w.heap.size w w'

set_option maxHeartbeats 1000000 in
theorem Names_on {w : World} {d m : Nat} {es : Array MapEntry} {clock : Nat} {hv : Value} {S : St} {F : Nat → Prop} (h : DiskIs w d m es clock hv S F) (hoff : S.off = false) :
    Calls Tryz.prog 57 #[.pointer (some ⟨d, 0, none⟩)] w (NewNames w (namesOf S.files)) := by
  obtain ⟨D0, hown, hsz, hperm⟩ := ownsNames h
  obtain ⟨c0, _, c2, _⟩ := h.cells
  rw [hoff] at c2
  have HP := Lib.hid hperm
  have hmax : Maps.size D0 ≤ maxLen := by unfold maxLen; omega
  have hbytes : Maps.size D0 * 16 ≤ 140737488355328 := by omega
  clear h hperm hoff hsz
  refine (callsIn_wide (n := 6)).1 ?_
  have hfK : Fence.wide.fn 84 := trivial
  have hfS : Fence.wide.fn 83 := trivial
  refine callsIn_of_wp Tryz.func57 rfl trivial ?_ rfl
  simp only [Tryz.ntmps57, List.size_toArray, List.length_cons, List.length_nil, Nat.reduceAdd, Nat.reduceSub, Array.replicate_succ, Array.replicate_zero, List.push_toArray, List.append_toArray, List.nil_append, List.cons_append]
  gi_wp2_with (first
    | (gi_at_call 84; refine (Tryz.maps_Keys_84 _ _).mono ?_; rintro e w' ⟨rfl, rfl⟩)
    | (gi_at_call 83; refine (Tryz.slices_Sorted_keys_83_84 m 64 D0 noElem w hown hmax hbytes).mono ?_; rintro e w' ⟨v, ss, rfl, hS, hrow, hnil, hb⟩))
  go_ret
  have hm : namesOf _ = ss.mergeSort (fun x y => decide (x ≤ y)) := (mergeSort_of_perm (hS.trans HP.out)).symm
  have hl : (namesOf S.files).length = ss.length := by rw [hm, List.length_mergeSort]
  refine ⟨v, rfl, ?_, ?_, ((Below.refl _ w).alloc (Nat.le_refl _) _).trans (hb.mono (by simp))⟩
  · rw [hl, hm]; exact ownsRow_base_a hrow (by simp)
  · rw [hnil]
    constructor
    · rintro rfl; rw [hm]; simp
    · intro h0; rw [h0] at hl; exact List.eq_nil_of_length_eq_zero hl.symm
theorem Names_off {w : World} {d m : Nat} {es : Array MapEntry} {clock : Nat} {hv : Value} {S : St} {F : Nat → Prop} (h : DiskIs w d m es clock hv S F) (hoff : S.off = true) :
    Calls Tryz.prog 57 #[.pointer (some ⟨d, 0, none⟩)] w fun e w' => e = .returned (.slice none 0 0) ∧ w = w' := by
  obtain ⟨_, _, c2, _⟩ := h.cells
  rw [hoff] at c2
  clear h hoff
  go_enter Tryz.func57, Tryz.ntmps57
  go_wp2
  go_ret
  exact ⟨rfl, rfl⟩
theorem Names_nil (w : World) : Calls Tryz.prog 57 #[.pointer none] w fun e w' => e = .returned (.slice none 0 0) ∧ w = w' := by
  go_enter Tryz.func57, Tryz.ntmps57
  go_wp2
  go_ret
  exact ⟨rfl, rfl⟩

/-- A disk without files. -/
def St.new (room : Int) : St := { files := [], room, off := false, armed := 0, ops := 0, hangs := none }
theorem New_bad (n : Int) (h : n < 1 ∨ 65536 < n) (w : World) : Calls Tryz.prog 10 #[.int .i64 n] w fun e w' => e = .returned (.tuple #[.pointer none, .int .i64 1]) ∧ w = w' := by
  by_cases h1 : n < 1
  · clear h
    go_enter Tryz.func10, Tryz.ntmps10
    go_wp2
    go_ret2
    exact ⟨rfl, rfl⟩
  · have h2 : 65536 < n := by omega
    clear h
    go_enter Tryz.func10, Tryz.ntmps10
    go_wp2
    go_ret2
    exact ⟨rfl, rfl⟩
def NewDisk (w : World) (n : Int) (e : Ending) (w' : World) : Prop :=
  ∃ d F, e = .returned (.tuple #[.pointer (some ⟨d, 0, none⟩), .int .i64 0]) ∧ w.heap.size ≤ d ∧ DiskAt w' d (St.new n) F ∧ (∀ k, F k → w.heap.size ≤ k) ∧ Kp (fun _ => False) w w'
theorem New_any (n : Int) (h1 : 1 ≤ n) (h2 : n ≤ 65536) (w : World) : Calls Tryz.prog 10 #[.int .i64 n] w (NewDisk w n) := by
  have hmm := @run_makeMap Tryz.prog
  have HF : Hid (NewDisk w n (.returned (.tuple #[.pointer (some ⟨w.heap.size + 1, 0, none⟩), .int .i64 0])) ((w.alloc (.map #[] 0)).alloc (.cells #[.map (some w.heap.size), .int .i64 n, .bool false, .int .i64 0, .int .i64 0, .nilFunc] 73))) := by
    refine ⟨w.heap.size + 1, fun k => w.heap.size ≤ k ∧ k < w.heap.size + 2, rfl, by omega, ⟨w.heap.size, #[], 0, .nilFunc, ?_⟩, fun k hk => hk.1, ((Kp.refl _ w).alloc _).alloc _⟩
    refine ⟨by simpa [St.new] using heap_alloc_new (w.alloc (.map #[] 0)) (.cells #[.map (some w.heap.size), .int .i64 n, .bool false, .int .i64 0, .int .i64 0, .nilFunc] 73), blk_alloc _ (heap_alloc_new w _), ⟨trivial, by simp [St.new], by simp, by simp⟩, rfl, ⟨by omega, by omega⟩, ⟨by omega, by omega⟩, ?_, fun k hk => by simp; omega⟩
    exact ⟨⟨h1, h2⟩, by simp [St.new, used]; omega, by simp [St.new], by simp [St.new], by simp [St.new], by simp [St.new], by simp [St.new]⟩
  go_enter Tryz.func10, Tryz.ntmps10
  go_wp2
  go_ret2
  exact HF.out

/-- Arm. -/
theorem Arm_neg (d : Nat) (n : Int) (h : n < 0) (w : World) : Calls Tryz.prog 26 #[.pointer (some ⟨d, 0, none⟩), .int .i64 n] w fun e w' => e = .returned (.int .i64 1) ∧ w = w' := by
  go_enter Tryz.func26, Tryz.ntmps26
  go_wp2
  go_ret
  exact ⟨rfl, rfl⟩
theorem Arm_nil (n : Int) (w : World) : Calls Tryz.prog 26 #[.pointer none, .int .i64 n] w fun e w' => e = .returned (.int .i64 (if n < 0 then 1 else 7)) ∧ w = w' := by
  by_cases h : n < 0
  · go_enter Tryz.func26, Tryz.ntmps26
    go_wp2
    go_ret
    exact ⟨by simp, rfl⟩
  · go_enter Tryz.func26, Tryz.ntmps26
    go_wp2
    go_ret
    exact ⟨by simp, rfl⟩
theorem Arm_off {w : World} {d m : Nat} {es : Array MapEntry} {clock : Nat} {hv : Value} {S : St} {F : Nat → Prop} (h : DiskIs w d m es clock hv S F) (hoff : S.off = true) (n : Int) (hn : 0 ≤ n) :
    Calls Tryz.prog 26 #[.pointer (some ⟨d, 0, none⟩), .int .i64 n] w fun e w' => e = .returned (.int .i64 18) ∧ w = w' := by
  obtain ⟨_, _, c2, _⟩ := h.cells
  rw [hoff] at c2
  clear h hoff
  go_enter Tryz.func26, Tryz.ntmps26
  go_wp2
  go_ret
  exact ⟨rfl, rfl⟩
theorem Arm_on {w : World} {d m : Nat} {es : Array MapEntry} {clock : Nat} {hv : Value} {S : St} {F : Nat → Prop} (h : DiskIs w d m es clock hv S F) (hoff : S.off = false) (n : Int) (hn : 0 ≤ n ∧ n ≤ 9223372036854775807) :
    Calls Tryz.prog 26 #[.pointer (some ⟨d, 0, none⟩), .int .i64 n] w (Does w d 0 { S with armed := n } F) := by
  obtain ⟨_, _, c2, c3, _, _, fz⟩ := h.cells
  rw [hoff] at c2
  have HF : Hid (Does w d 0 { S with armed := n } F (.returned (.int .i64 0)) (w.setCell ⟨d, 3, none⟩ (.int .i64 n))) :=
    ⟨rfl, F, ⟨m, es, clock, hv, h.arm n hn⟩, fun _ h => .inl h, (Kp.refl F w).setCell (.inl h.fd) _⟩
  obtain ⟨h0, _⟩ := hn
  clear h hoff
  go_enter Tryz.func26, Tryz.ntmps26
  go_wp2
  go_ret
  exact HF.out

/-- Size: how many sectors, or the error. -/
def St.sizeOf (S : St) (n : Nm) : Int := if S.check n true = 0 then (getF S.files n).length else 0
theorem Size_any {w : World} {d m : Nat} {es : Array MapEntry} {clock : Nat} {hv : Value} {S : St} {F : Nat → Prop} (h : DiskIs w d m es clock hv S F) (n : Nm) (hs : n.size ≤ maxLen) :
    Calls Tryz.prog 15 #[.pointer (some ⟨d, 0, none⟩), .string n] w fun e w' => e = .returned (.tuple #[.int .i64 (S.sizeOf n), .int .i64 (S.check n true)]) ∧ w = w' := by
  have hc := check_any h n hs true
  by_cases h0 : S.check n true = 0
  · obtain ⟨_, hg, hoff⟩ := check_zero h0
    obtain ⟨l, hl⟩ := Option.isSome_iff_exists.1 hg
    obtain ⟨u, hlk, hu⟩ := look_some h hl false
    simp only [Bool.false_eq_true, if_false] at hlk
    obtain ⟨_, p, c, rfl, _⟩ := hu
    obtain ⟨c0, _⟩ := h.cells
    have hso : S.sizeOf n = l.length := by unfold St.sizeOf; rw [if_pos h0]; simp [getF, hl]
    have HS := Lib.hid hso
    clear hso
    have H0 := Lib.hid h0
    rw [h0] at hc
    clear h hg hoff hl h0
    go_enter Tryz.func15, Tryz.ntmps15
    go_wp2_with (go_at_call 38; refine hc.mono ?_; rintro e w' ⟨rfl, rfl⟩)
    go_ret2
    exact ⟨by rw [HS.out, H0.out]; rfl, rfl⟩
  · have hne : (S.check n true != 0) = true := by simpa using h0
    have hne2 : (!S.check n true == 0) = true := by simpa using h0
    have HS : Hid (S.sizeOf n = 0) := by unfold St.sizeOf Hid; rw [if_neg h0]
    rw [HS.out]
    clear h
    generalize S.check n true = c at *
    go_enter Tryz.func15, Tryz.ntmps15
    go_wp2_with (go_at_call 38; refine hc.mono ?_; rintro e w' ⟨rfl, rfl⟩)
    go_ret2
    exact ⟨rfl, rfl⟩
end Go.Proofs.YtggnohbfdlebiaaGreatDoor

/-
  Read: all bytes of a file, in new memory.
-/
namespace Go.Proofs.YtggnohbfdlebiaaGreatDoor
open Go.RowKit Go.ChangeMaps

def bytesOf (l : List Sec) : List Int := l.flatMap (·.bytes)
theorem bytesOf_length : ∀ {l : List Sec} (_ : ∀ s ∈ l, s.bytes.length = 32), (bytesOf l).length = 32 * l.length
  | [], _ => rfl
  | s :: l, h => by
    have := bytesOf_length (l := l) fun x hx => h x (by simp [hx])
    simp only [bytesOf, List.flatMap_cons, List.length_append, List.length_cons] at this ⊢
    rw [h s (by simp), this]; omega
def byteVals (l : List Int) : List Value := l.map (Value.int .u8)
/-- Handed back: bytes in new memory, and no error. -/
def NewBytes (w : World) (bs : List Int) (e : Ending) (w' : World) : Prop :=
  ∃ v, e = .returned (.tuple #[v, .int .i64 0]) ∧ w'.ownsRow w.heap.size 5 1 v bs.length (byteVals bs) ∧ Kp (fun _ => False) w w'

theorem setRow_new (w : World) (old cs : Array Value) (t : TypeId) : (w.alloc (.cells old t)).setRow w.heap.size cs = w.alloc (.cells cs t) := by
  unfold World.setRow World.alloc
  congr 1
  apply Array.ext_getElem?
  intro i
  rw [Array.getElem?_modify]
  by_cases h : w.heap.size = i
  · subst h; simp
  · rw [if_neg h, Array.getElem?_push, Array.getElem?_push, if_neg (Ne.symm h), if_neg (Ne.symm h)]
theorem secCells_at {w : World} {b : Nat} {l : List Sec} (hs : ∀ s ∈ l, s.bytes.length = 32) (hc : ∀ j u, (fileCells l)[j]? = some u → w.cell? ⟨b, j, none⟩ = some u) {k : Nat} (hk : k < l.length) :
    ∀ j v, (secCells l[k])[j]? = some v → w.cell? ⟨b, k * 33 + j, none⟩ = some v := by
  intro j v hj
  refine hc _ _ ?_
  have h1 : l = l.take k ++ (l[k] :: l.drop (k + 1)) := by rw [← List.drop_eq_getElem_cons hk, List.take_append_drop]
  obtain ⟨s, hsk⟩ : ∃ s, l[k] = s := ⟨_, rfl⟩
  rw [hsk] at h1 hj
  have hl : (fileCells (l.take k)).length = k * 33 := by
    rw [fileCells_length fun s hx => hs s (List.mem_of_mem_take hx)]
    simp; rw [Nat.min_eq_left (by omega)]; omega
  have hjl : j < (secCells s).length := (List.getElem?_eq_some_iff.1 hj).1
  rw [h1, fileCells_append, List.getElem?_append_right (by omega), hl, show k * 33 + j - k * 33 = j from by omega]
  simp only [fileCells, List.flatMap_cons]
  rw [List.getElem?_append_left hjl]
  exact hj
theorem size_sec : (Tryz.prog.info? 93).map (·.size) = some 33 := by kernel_rfl
theorem agg_sec (w : World) : (isAgg 93).run Tryz.prog w = .ok true w := by kernel_rfl
theorem bytesOf_snoc {l : List Sec} {k : Nat} (hk : k < l.length) : bytesOf (l.take (k + 1)) = bytesOf (l.take k) ++ l[k].bytes := by
  rw [List.take_succ_eq_append_getElem hk]; simp only [bytesOf, List.flatMap_append, List.flatMap_cons, List.flatMap_nil, List.append_nil]

theorem Read_err {w : World} {d m : Nat} {es : Array MapEntry} {clock : Nat} {hv : Value} {S : St} {F : Nat → Prop} (h : DiskIs w d m es clock hv S F) (n : Nm) (hs : n.size ≤ maxLen) (h0 : S.check n true ≠ 0) :
    Calls Tryz.prog 19 #[.pointer (some ⟨d, 0, none⟩), .string n] w fun e w' => e = .returned (.tuple #[.slice none 0 0, .int .i64 (S.check n true)]) ∧ w = w' := by
  have hc := check_any h n hs true
  have hne : (S.check n true != 0) = true := by simpa using h0
  have hne2 : (!S.check n true == 0) = true := by simpa using h0
  clear h
  generalize S.check n true = c at *
  go_enter Tryz.func19, Tryz.ntmps19
  go_wp2_with (go_at_call 38; refine hc.mono ?_; rintro e w' ⟨rfl, rfl⟩)
  go_ret2
  exact ⟨rfl, rfl⟩

set_option maxRecDepth 10000 in
set_option maxHeartbeats 2000000 in
theorem Read_ok {w : World} {d m : Nat} {es : Array MapEntry} {clock : Nat} {hv : Value} {S : St} {F : Nat → Prop} (h : DiskIs w d m es clock hv S F) (n : Nm) (hs : n.size ≤ maxLen) (h0 : S.check n true = 0) :
    Calls Tryz.prog 19 #[.pointer (some ⟨d, 0, none⟩), .string n] w (NewBytes w (bytesOf (getF S.files n))) := by
  have hc := check_any h n hs true
  obtain ⟨_, hg, hoff⟩ := check_zero h0
  obtain ⟨l, hl⟩ := Option.isSome_iff_exists.1 hg
  have hgl : getF S.files n = l := by simp [getF, hl]
  have hlen : l.length ≤ 65536 := by have e1 := getF_le S.files n; have e2 := h.ok.used; have e3 := h.ok.room; rw [hgl] at e1; omega
  rw [hgl]
  have h1 := h.kept ((Kp.refl (fun _ => False) w).alloc (.cells #[.slice none 0 0, .int .i64 0, .int .i8 0] 99)) (fun _ _ h => h)
  obtain ⟨u, hlk, hu⟩ := look_some h1 hl false
  simp only [Bool.false_eq_true, if_false] at hlk
  have hu0 := hu
  obtain ⟨hs0, p, c, rfl, hle, hcm, hb⟩ := hu0
  have c0 := h.cells.1
  have hdlt := blk_lt h.hd
  have hb0 := Lib.fresh_isBuffer 99 5 w
  rw [h0] at hc
  have HB := Lib.hid hb0
  have HL := Lib.hid hlen
  have HU := Lib.hid hu
  have hFlt : ∀ b, F b → b < w.heap.size := h.flt
  have HF := Lib.hid hFlt
  have HC := Lib.hid hcm
  clear hFlt h h1 hg hoff hl hgl hb hb0 hlen hu h0 hcm
  go_enter Tryz.func19, Tryz.ntmps19
  go_wp2_with (go_at_call 38; refine hc.mono ?_; rintro e w' ⟨rfl, rfl⟩)
  go_loopw [23] (fun i wr => ∃ k : Nat, k ≤ l.length ∧ i = .int .i64 k ∧ Lib.IsBuffer 99 5 w.heap.size w.heap.size (byteVals (bytesOf (l.take k))) wr ∧ Below w.heap.size w wr) (fun i _ => l.length - (intOf i).toNat)
  case atStart => exact ⟨0, Nat.zero_le _, rfl, HB.out, (Below.refl _ w).alloc (Nat.le_refl _) _⟩
  case round =>
    obtain ⟨k, hk, rfl, hbuf, hbw⟩ := hrel
    by_cases hlt : k < l.length
    · have hne : l ≠ [] := by rintro rfl; simp at hlt
      obtain ⟨b, c', hbv, hF, _, hcells, _⟩ := HU.out.holds hne
      have hbc : p = some ⟨b, 0, none⟩ := by injection hbv
      subst hbc
      obtain ⟨s, hsk⟩ : ∃ s, l[k] = s := ⟨_, rfl⟩
      have hat := secCells_at hs0 hcells hlt
      rw [hsk] at hat
      have hss : s.bytes.length = 32 := by rw [← hsk]; exact hs0 _ (List.getElem_mem hlt)
      have hbsn := bytesOf_snoc hlt
      rw [hsk] at hbsn
      have hold : ∀ j v, (secCells s)[j]? = some v → w.cell? ⟨b, k * 33 + j, none⟩ = some v := by
        intro j v hj
        have h1 := hat j v hj
        have h2 := World.block_lt_of_cell? _ _ h1
        have hF' := HF.out b hF
        rw [World.cell?_alloc_lt _ _ _ hF'] at h1
        exact h1
      have hcw : ∀ j v, (secCells s).toArray.toList[j]? = some v → wr.cell? ⟨b, k * 33 + j, none⟩ = some v := fun j v hj => cell_later hbw (hold j v (by simpa using hj))
      have hs33 : (secCells s).toArray.size = 33 := by simpa using secCells_length hss
      have hi33 : (Tryz.prog.info? 93).map (·.size) = some (secCells s).toArray.size := by rw [hs33]; exact size_sec
      have h1c : (secCells s).toArray.all (·.oneCell') = true := by
        rw [Array.all_eq_true]
        intro i hi
        have := oneCell_file (l := [s]) (secCells s).toArray[i] (by simp [fileCells])
        exact this
      have hbuf2 : Lib.IsBuffer 99 5 w.heap.size w.heap.size (byteVals (bytesOf (l.take k))) (wr.alloc (.cells (secCells s).toArray 93)) := by
        obtain ⟨hB, v, lr, hh, hrow, hne⟩ := hbuf
        exact ⟨hB, v, lr, blk_alloc _ hh, hrow.alloc _, hne⟩
      have hsz := hbw.size
      have hbw2 : Below w.heap.size w (wr.alloc (.cells (secCells s).toArray 93)) := hbw.alloc hsz _
      have hbb : (byteVals (bytesOf (l.take k))).length + 32 ≤ 140737488355328 := by
        have e1 := bytesOf_length (l := l.take k) fun s hs => hs0 s (List.mem_of_mem_take hs)
        have e2 := HL.out
        have e3 : (l.take k).length ≤ l.length := by rw [List.length_take]; omega
        simp only [byteVals, List.length_map]; omega
      have hsrc : ∀ j v, (byteVals s.bytes)[j]? = some v → (wr.alloc (.cells (secCells s).toArray 93)).cell? ((⟨wr.heap.size, 0, none⟩ : Addr).add j) = some v := by
        intro j v hj
        rw [addr_add, Nat.zero_add, blk_cell (heap_alloc_new wr _)]
        have hj2 : j < (byteVals s.bytes).length := (List.getElem?_eq_some_iff.1 hj).1
        simp only [List.getElem?_toArray, secCells]
        rw [List.getElem?_append_left (by simpa [byteVals] using hj2)]
        exact hj
      have hwr := Tryz.Buffer_Write_any w.heap.size w.heap.size _ (byteVals s.bytes) ⟨wr.heap.size, 0, none⟩ 32 32 _ hbuf2 hbw2.size (by intro v hv; obtain ⟨_, _, rfl⟩ := List.mem_map.1 hv; rfl) (by simp [byteVals, hss]) (by have := Lib.IsBuffer.lt hbuf; simp; omega) hsrc (by intro v hv; obtain ⟨_, _, rfl⟩ := List.mem_map.1 hv; rfl) hbb
      have holdz : ∀ old : Array Value, old.size = 33 → old.size = (secCells s).toArray.size := fun old ho => ho.trans hs33.symm
      have HZ := Lib.hid holdz
      have hl9 : l.length ≤ 9223372036854775807 := by have := HL.out; omega
      have HN := Lib.hid hbsn
      clear holdz
      clear hbv hF hcells hat hss hbsn hold hsk hs33 hbuf hbuf2 hbb hsrc
      go_wp2_with (first
        | (refine wpList_load_agg rfl 93 _ rfl rfl (secCells s).toArray hcw agg_sec hi33 ?_)
        | (refine wpList_store_row rfl 93 _ _ rfl wr.heap.size (secCells s).toArray rfl rfl 93 _ (heap_alloc_new wr _) hi33 (HZ.out _ rfl) h1c ?_; rw [setRow_new])
        | (go_at_call 44; refine hwr.mono ?_; rintro e w2 ⟨rfl, hb2, hk2, _⟩))
      go_roundw
      case rel => exact ⟨k + 1, by omega, by go_num, by rw [HN.out]; simpa [byteVals] using hb2, hbw2.trans (hk2.mono (Nat.le_refl _))⟩
      case measure => simp [intOf]; omega
    · obtain rfl : k = l.length := by omega
      rw [List.take_length] at hbuf
      have hby := Tryz.Buffer_Bytes w.heap.size w.heap.size _ wr hbuf
      go_wp2_with (go_at_call 45; refine hby.mono ?_; rintro e w' ⟨v, rfl, hrow, q, rfl⟩)
      go_ret2
      exact ⟨v, rfl, by simpa [byteVals] using hrow, Kp.of_below _ hbw |>.drewN q⟩
end Go.Proofs.YtggnohbfdlebiaaGreatDoor

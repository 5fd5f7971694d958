/-
  The closures of the disk's operations: what each does to the disk.
-/
import Derived.Test.YtmcmapaapffadaaDoorWalkC
import Derived.StillTailTactics
import Derived.Deep.RegionHeld3
import Derived.Deep.QuietTactic
import Derived.BigQuiet
namespace Go.Proofs.YtmcmapaapffadaaDoor
open Go.RowKit Go.ChangeMaps

theorem Box.cell {w : World} {F : Nat → Prop} {b : Nat} {v : Value} {t : TypeId} (h : Box w F b v t) : w.cell? ⟨b, 0, none⟩ = some v := cell_of_one h.1

/-- The call hands back nothing, and leaves the disk as S' has it; of what was there only the disk's own blocks may have turned. -/
def Leaves (w : World) (d : Nat) (S' : St) (F : Nat → Prop) (e : Ending) (w' : World) : Prop :=
  e = .returned (.tuple #[]) ∧ ∃ F', DiskAt w' d S' F' ∧ (∀ k, F' k → F k ∨ w.heap.size ≤ k) ∧ Kp F w w'

theorem used_put (fs : Files) (n : Nm) (l : List Sec) : used (put fs n l) + (getF fs n).length = used fs + l.length := by
  induction fs with
  | nil => simp [used, put, getF, get]
  | cons p fs ih =>
    obtain ⟨k, u⟩ := p
    simp only [getF] at ih
    by_cases h : n = k
    · subst h; simp [used, put, getF, get]; omega
    · simp only [put, if_neg h, used, List.map_cons, List.sum_cons, getF, get] at ih ⊢
      omega
theorem used_del (fs : Files) (n : Nm) : used (del fs n) + (getF fs n).length = used fs := by
  induction fs with
  | nil => simp [used, del, getF, get]
  | cons p fs ih =>
    obtain ⟨k, u⟩ := p
    simp only [getF] at ih
    by_cases h : n = k
    · subst h; simp [used, del, getF, get]; omega
    · simp only [del, if_neg h, used, List.map_cons, List.sum_cons, getF, get] at ih ⊢
      omega
theorem mem_put {α : Type} (fs : List (Nm × α)) (n : Nm) (l : α) : ∀ p ∈ put fs n l, p = (n, l) ∨ p ∈ fs := by
  induction fs with
  | nil => simp [put]
  | cons q fs ih =>
    obtain ⟨k, u⟩ := q
    by_cases h : n = k
    · subst h; intro p hp; simp only [put, if_true, List.mem_cons] at hp ⊢; rcases hp with h | h <;> simp [h]
    · intro p hp
      simp only [put, if_neg h, List.mem_cons] at hp ⊢
      rcases hp with rfl | hp
      · simp
      · rcases ih p hp with h | h <;> simp [h]
theorem mem_del {α : Type} (fs : List (Nm × α)) (n : Nm) : ∀ p ∈ del fs n, p ∈ fs := by
  induction fs with
  | nil => simp [del]
  | cons q fs ih =>
    obtain ⟨k, u⟩ := q
    by_cases h : n = k
    · subst h; intro p hp; simp only [del, if_true] at hp; simp [hp]
    · intro p hp
      simp only [del, if_neg h, List.mem_cons] at hp ⊢
      rcases hp with rfl | hp
      · simp
      · simp [ih p hp]
theorem getF_mem {fs : Files} {n : Nm} : ∀ s ∈ getF fs n, ∃ p ∈ fs, s ∈ p.2 := by
  induction fs with
  | nil => simp [getF, get]
  | cons q fs ih =>
    obtain ⟨k, u⟩ := q
    by_cases h : n = k
    · subst h; intro s hs; simp only [getF, get, if_true, Option.getD_some] at hs; exact ⟨(n, u), by simp, hs⟩
    · intro s hs
      simp only [getF, get, if_neg h] at hs ih
      obtain ⟨p, hp, h1⟩ := ih s hs
      exact ⟨p, by simp [hp], h1⟩
theorem getF_le (fs : Files) (n : Nm) : (getF fs n).length ≤ used fs := by have := used_del fs n; omega
theorem length_put_le {α : Type} (fs : List (Nm × α)) (n : Nm) (l : α) (h : (get fs n).isSome) : (put fs n l).length = fs.length := by
  have := put_keys fs n l
  rw [if_pos h] at this
  simpa using congrArg List.length this
theorem length_del {α : Type} (fs : List (Nm × α)) (n : Nm) : (del fs n).length ≤ fs.length := by
  induction fs with
  | nil => simp [del]
  | cons q fs ih =>
    obtain ⟨k, u⟩ := q
    by_cases h : n = k
    · subst h; simp [del]
    · simp only [del, if_neg h, List.length_cons]; omega

theorem DiskIs.drew {w : World} {d m : Nat} {es : Array MapEntry} {clock : Nat} {hv : Value} {S : St} {F : Nat → Prop} (h : DiskIs w d m es clock hv S F) : DiskIs w.drew d m es clock hv S F := h.move (fun _ h => h) (fun _ _ _ h => h) h.flt
theorem Box.drew {w : World} {F : Nat → Prop} {b : Nat} {v : Value} {t : TypeId} (h : Box w F b v t) : Box w.drew F b v t := h

/-- Only the map's entries have turned. -/
theorem DiskIs.files {w w' : World} {d m : Nat} {es es' : Array MapEntry} {clock clock' : Nat} {hv : Value} {S : St} {F F' : Nat → Prop} {fs : Files} (h : DiskIs w d m es clock hv S F) (hF : ∀ k, F k → F' k)
    (hk : ∀ k o, k ≠ m → w.heap[k]? = some o → w'.heap[k]? = some o) (hm : w'.heap[m]? = some (.map es' clock')) (he : EntsOk Value.string (FileRep w F') es' clock' fs) (ok : St.Ok { S with files := fs }) (hl : ∀ k, F' k → k < w'.heap.size) :
    DiskAt w' d { S with files := fs } F' :=
  ⟨m, es', clock', hv, h.turn hF (fun k o _ h2 hb => hk k o h2 hb) (hk d _ h.ne h.hd) hm he (h.hang.move hF fun _ _ _ _ h => h) ok hl⟩

theorem length_del_of {α : Type} {fs : List (Nm × α)} {n : Nm} (h : (get fs n).isSome = true) : (del fs n).length + 1 = fs.length := by
  induction fs with
  | nil => simp [get] at h
  | cons q fs ih =>
    obtain ⟨k, u⟩ := q
    by_cases e : n = k
    · subst e; simp [del]
    · simp only [get, if_neg e] at h
      simp only [del, if_neg e, List.length_cons, ih h]
theorem length_put_le1 {α : Type} (fs : List (Nm × α)) (n : Nm) (l : α) : (put fs n l).length ≤ fs.length + 1 := by
  have := congrArg List.length (put_keys fs n l)
  split at this <;> simp at this <;> omega
theorem run_count {h : Hg} {fs : Files} (hh : h.okOn fs) : (h.run fs).length ≤ fs.length := by
  cases h with
  | noop => exact Nat.le_refl _
  | sync n => exact Nat.le_of_eq (length_put_le _ _ _ hh.2)
  | trunc n k => exact Nat.le_of_eq (length_put_le _ _ _ hh.2)
  | rename a b => have := length_del_of hh.2; have := length_put_le1 (del fs a) b (getF fs a); simp only [Hg.run]; omega
  | remove n => exact length_del _ _
theorem run_names {h : Hg} {fs : Files} (hn : ∀ p ∈ fs, nameB p.1 = true) (hh : h.okOn fs) : ∀ p ∈ h.run fs, nameB p.1 = true := by
  intro p hp
  cases h with
  | noop => exact hn p hp
  | sync n => rcases mem_put _ _ _ p hp with rfl | hp; exact hh.1; exact hn p hp
  | trunc n k => rcases mem_put _ _ _ p hp with rfl | hp; exact hh.1; exact hn p hp
  | rename a b => rcases mem_put _ _ _ p hp with rfl | hp; exact hh.1; exact hn p (mem_del _ _ p hp)
  | remove n => exact hn p (mem_del _ _ p hp)
theorem run_used (h : Hg) (fs : Files) : used (h.run fs) ≤ used fs := by
  cases h with
  | noop => exact Nat.le_refl _
  | sync n => have := used_put fs n (syncAll (getF fs n)); simp [syncAll] at this; simp only [Hg.run]; simp [syncAll]; omega
  | trunc n k => have := used_put fs n (syncAll ((getF fs n).take k.toNat)); simp [syncAll] at this; simp only [Hg.run]; simp [syncAll]; omega
  | rename a b => have h1 := used_put (del fs a) b (getF fs a); have h2 := used_del fs a; simp only [Hg.run]; omega
  | remove n => have := used_del fs n; simp only [Hg.run]; omega
theorem run_secs {h : Hg} {fs : Files} (hs : ∀ p ∈ fs, ∀ s ∈ p.2, s.bytes.length = 32) : ∀ p ∈ h.run fs, ∀ s ∈ p.2, s.bytes.length = 32 := by
  have hg : ∀ n, ∀ s ∈ getF fs n, s.bytes.length = 32 := fun n s hm => let ⟨p, hp, h1⟩ := getF_mem s hm; hs p hp s h1
  intro p hp s hm
  cases h with
  | noop => exact hs p hp s hm
  | sync n =>
    rcases mem_put _ _ _ p hp with rfl | hp
    · obtain ⟨x, hx, rfl⟩ := List.mem_map.1 hm; exact hg n x hx
    · exact hs p hp s hm
  | trunc n k =>
    rcases mem_put _ _ _ p hp with rfl | hp
    · obtain ⟨x, hx, rfl⟩ := List.mem_map.1 hm; exact hg n x (List.mem_of_mem_take hx)
    · exact hs p hp s hm
  | rename a b =>
    rcases mem_put _ _ _ p hp with rfl | hp
    · exact hg a s hm
    · exact hs p (mem_del _ _ p hp) s hm
  | remove n => exact hs p (mem_del _ _ p hp) s hm
theorem run_ok {h : Hg} {S : St} (ok : S.Ok) (hoff : S.off = false) (hh : h.okOn S.files) : St.Ok { S with files := h.run S.files } :=
  ⟨ok.room, by have := run_used h S.files; have := ok.used; show ((used (h.run S.files) : Nat) : Int) ≤ S.room; omega, ok.armed, (fun h => by rw [hoff] at h; cases h), run_names ok.names hh, Nat.le_trans (run_count hh) ok.count, run_secs ok.secs⟩

set_option maxRecDepth 100000 in
set_option maxHeartbeats 1000000 in
theorem Remove1_any {w : World} {d m : Nat} {es : Array MapEntry} {clock : Nat} {hv : Value} {S : St} {F : Nat → Prop} (h : DiskIs w d m es clock hv S F) (hoff : S.off = false) {b1 b2 : Nat} {n : Nm}
    (h1 : Box w F b1 (.pointer (some ⟨d, 0, none⟩)) 36) (h2 : Box w F b2 (.string n) 9) :
    Calls Tryd.prog 52 #[.pointer (some ⟨b1, 0, none⟩), .pointer (some ⟨b2, 0, none⟩)] w (Leaves w d { S with files := (Hg.remove n).run S.files } F) := by
  obtain ⟨c0, _⟩ := h.cells
  have d1 := h1.cell
  have d2 := h2.cell
  have h' := h.drew
  obtain ⟨es', hdel, hents⟩ := delete_run (P := Tryd.prog) (w := w.drew) map_type key_type keyNow_string h'.hm h'.ents n
  have HD := Lib.hid hdel
  have hfin : Leaves w d { S with files := (Hg.remove n).run S.files } F (.returned (.tuple #[])) (setBlock w.drew m (.map es' clock)) :=
    ⟨rfl, F, h'.files (fun _ h => h) (fun k o hk hb => (blk_off _ hk).trans hb) (blk_put h'.hm) hents
      (run_ok h.ok hoff trivial) (fun k hk => by have := h.flt k hk; simpa [setBlock] using this), fun _ h => .inl h, (Kp.refl F w).drew.setObj (.inl h.fm) _⟩
  clear h h1 h2 hents h' hdel hoff
  go_enter Tryd.func52, Tryd.ntmps52
  go_still_tail 5, (by kernel_rfl)
  change wpList _ _ _ _ _ w.drew
  refine wpList_delete_run rfl _ _ _ _ rfl rfl rfl (HD.out _) ?_
  go_wp2
  go_end0
  exact hfin

set_option maxRecDepth 100000 in
set_option maxHeartbeats 1000000 in
theorem Rename1_any {w : World} {d m : Nat} {es : Array MapEntry} {clock : Nat} {hv : Value} {S : St} {F : Nat → Prop} (h : DiskIs w d m es clock hv S F) (hoff : S.off = false) {b1 b2 b3 : Nat} {x y : Nm}
    (hok : (Hg.rename x y).okOn S.files) (h1 : Box w F b1 (.pointer (some ⟨d, 0, none⟩)) 36) (h2 : Box w F b2 (.string x) 9) (h3 : Box w F b3 (.string y) 9) :
    Calls Tryd.prog 61 #[.pointer (some ⟨b1, 0, none⟩), .pointer (some ⟨b2, 0, none⟩), .pointer (some ⟨b3, 0, none⟩)] w (Leaves w d { S with files := (Hg.rename x y).run S.files } F) := by
  obtain ⟨l, hl⟩ := Option.isSome_iff_exists.1 hok.2
  have h0 := h.drew
  obtain ⟨u, hlk, hu⟩ := look_some h0 hl false
  simp only [Bool.false_eq_true, if_false] at hlk
  obtain ⟨es', hdel, hents⟩ := delete_run (P := Tryd.prog) (w := w.drew.drew) map_type key_type keyNow_string h0.drew.hm h0.drew.ents x
  obtain ⟨w1, hw1⟩ : ∃ w1, w1 = setBlock w.drew.drew m (.map es' clock) := ⟨_, rfl⟩
  have hm1 : w1.heap[m]? = some (.map es' clock) := by rw [hw1]; exact blk_put h0.drew.hm
  have hk1 : ∀ k o, k ≠ m → w.heap[k]? = some o → w1.heap[k]? = some o := by intro k o hk hb; rw [hw1]; exact (blk_off _ hk).trans hb
  have hkp1 : Kp F w w1 := by rw [hw1]; exact (Kp.refl F w).drew.drew.setObj (.inl h.fm) _
  obtain ⟨es2, clock2, hup, hents2⟩ := update_run (P := Tryd.prog) (w := w1.drew) map_type key_type keyNow_string hm1 hents y l u hu
  have e0 := h.cells.1
  have e1 := h1.cell
  have e2 := h2.cell
  obtain ⟨wa, hwa⟩ : ∃ wa, wa = w.drew := ⟨_, rfl⟩
  have a0 : wa.cell? ⟨d, 0, none⟩ = some (.map (some m)) := by rw [hwa]; exact e0
  have a1 : wa.cell? ⟨b1, 0, none⟩ = some (.pointer (some ⟨d, 0, none⟩)) := by rw [hwa]; exact e1
  have a2 : wa.cell? ⟨b2, 0, none⟩ = some (.string x) := by rw [hwa]; exact e2
  rw [← hwa] at hlk hdel hw1
  have c0 : w1.cell? ⟨d, 0, none⟩ = some (.map (some m)) := blk_cell (hk1 d _ h.ne h.hd) 0
  have g1 : w1.cell? ⟨b1, 0, none⟩ = some (.pointer (some ⟨d, 0, none⟩)) := blk_cell (hk1 b1 _ (by rintro rfl; have := h1.1; rw [h.hm] at this; cases this) h1.1) 0
  have g3 : w1.cell? ⟨b3, 0, none⟩ = some (.string y) := blk_cell (hk1 b3 _ (by rintro rfl; have := h3.1; rw [h.hm] at this; cases this) h3.1) 0
  have hfin : Leaves w d { S with files := (Hg.rename x y).run S.files } F (.returned (.tuple #[])) (setBlock w1.drew m (.map es2 clock2)) := by
    refine ⟨rfl, F, h.files (fun _ h => h) (fun k o hk hb => (blk_off _ hk).trans (hk1 k o hk hb)) (blk_put hm1) ?_ (run_ok h.ok hoff hok) (fun k hk => by have := h.flt k hk; have := hkp1.size; simp [setBlock]; omega), fun _ h => .inl h, hkp1.drew.setObj (.inl h.fm) _⟩
    simp only [Hg.run, getF, hl, Option.getD_some]
    exact hents2
  clear h h1 h2 h3 hents h0 hents2 hu hoff hok hl hkp1 hm1 hk1
  have HD := Lib.hid hdel
  have HW := Lib.hid hw1
  have HU := Lib.hid hup
  have HA := Lib.hid hwa
  clear hdel hw1 hup hwa
  go_enter Tryd.func61, Tryd.ntmps61
  go_wp2
  go_still_tail 5, (by kernel_rfl)
  change wpList _ _ _ _ _ w.drew
  rw [← HA.out]
  go_wp2
  go_still_tail 5, (by kernel_rfl)
  change wpList _ _ _ _ _ wa.drew
  refine wpList_delete_run rfl _ _ _ _ rfl rfl rfl (HD.out _) ?_
  rw [← HW.out]
  go_wp2
  go_still_tail 6, (by kernel_rfl)
  change wpList _ _ _ _ _ w1.drew
  have hup := HU.out
  go_wp2
  go_end0
  exact hfin
end Go.Proofs.YtmcmapaapffadaaDoor

/-
  Merged of my texts, in order: WalkE.
-/
import Derived.Test.YtggnohbfdlebiaaGreatDoorM1
/-
  The closures of Sync and Truncate.
-/
namespace Go.Proofs.YtggnohbfdlebiaaGreatDoor
open Go.RowKit Go.ChangeMaps

set_option maxRecDepth 100000 in
set_option maxHeartbeats 2000000 in
theorem Sync1_any {w : World} {d m : Nat} {es : Array MapEntry} {clock : Nat} {hv : Value} {S : St} {F : Nat → Prop} (h : DiskIs w d m es clock hv S F) (hoff : S.off = false) {b1 b2 : Nat} {n : Nm}
    (hok : (Hg.sync n).okOn S.files) (h1 : Box w F b1 (.pointer (some ⟨d, 0, none⟩)) 24) (h2 : Box w F b2 (.string n) 9) :
    Calls Tryz.prog 69 #[.pointer (some ⟨b1, 0, none⟩), .pointer (some ⟨b2, 0, none⟩)] w (Leaves w d { S with files := (Hg.sync n).run S.files } F) := by
  obtain ⟨l, hl⟩ := Option.isSome_iff_exists.1 hok.2
  have ha : DiskIs w.drew d m es clock hv S F := h.drew
  have k1 : Box w.drew F b1 (.pointer (some ⟨d, 0, none⟩)) 24 := h1
  have k2 : Box w.drew F b2 (.string n) 9 := h2
  obtain ⟨u, hlk, hu⟩ := look_some ha hl false
  simp only [Bool.false_eq_true, if_false] at hlk
  have hlen : l.length ≤ 1000000 := by
    have e1 := getF_le S.files n; have e2 := h.ok.used; have e3 := h.ok.room
    simp only [getF, hl, Option.getD_some] at e1; omega
  have hsy := synced_any hu hlen
  have e0 := ha.cells.1
  have e1 := k1.cell
  have e2 := k2.cell
  have HAR : Hid (∀ v w1, FileRep w1 (fun k => w.drew.heap.size ≤ k) v (syncAll l) → Kp (fun _ => False) w.drew w1 → ∃ es2 clock2, (Instr.mapUpdate 71 (.map (some m)) (.string n) v).run Tryz.prog w1 = .ok () (setBlock w1 m (.map es2 clock2)) ∧
      Leaves w d { S with files := (Hg.sync n).run S.files } F (.returned (.tuple #[])) (setBlock w1 m (.map es2 clock2)) ∧
      w1.cell? ⟨d, 0, none⟩ = some (.map (some m)) ∧ w1.cell? ⟨b1, 0, none⟩ = some (.pointer (some ⟨d, 0, none⟩)) ∧ w1.cell? ⟨b2, 0, none⟩ = some (.string n) ∧
      (setBlock w1 m (.map es2 clock2)).cell? ⟨d, 0, none⟩ = some (.map (some m)) ∧ (setBlock w1 m (.map es2 clock2)).cell? ⟨b1, 0, none⟩ = some (.pointer (some ⟨d, 0, none⟩)) ∧ (setBlock w1 m (.map es2 clock2)).cell? ⟨b2, 0, none⟩ = some (.string n)) := by
    intro v w1 hv hk
    have hf0 := hk
    have h1' := ha.kept hk (fun _ _ h => h)
    obtain ⟨es2, clock2, hup, hents2⟩ := update_run (P := Tryz.prog) (R := FileRep w1 (fun k => F k ∨ (w.drew.heap.size ≤ k ∧ k < w1.heap.size))) map_type key_type keyNow_string h1'.hm (h1'.ents.imp fun _ _ hr => hr.mono fun _ h => .inl h) n (syncAll l) v (hv.lt.mono fun _ h => .inr h)
    refine ⟨es2, clock2, hup, ⟨rfl, (fun k => F k ∨ (w.drew.heap.size ≤ k ∧ k < w1.heap.size)), h1'.files (fun _ h => .inl h) (fun k o hk hb => (blk_off _ hk).trans hb) (blk_put h1'.hm) (by simpa only [Hg.run, getF, hl, Option.getD_some] using hents2) (run_ok h.ok hoff hok) ?_, ?_, ?_⟩, hk.cell e0 id, hk.cell e1 id, hk.cell e2 id, cell_put h1'.hm _ (hk.cell e0 id), cell_put h1'.hm _ (hk.cell e1 id), cell_put h1'.hm _ (hk.cell e2 id)⟩
    · intro k hk; have := hf0.size; simp only [setBlock, Array.size_setIfInBounds]; rcases hk with hk | hk
      · have := h.flt k hk; simp at *; omega
      · exact hk.2
    · intro k hk; exact hk.imp id (·.1)
    · have hk0 : Kp F w w1 := by
        refine Kp.trans (b := w.drew) (Kp.refl F w).drew (hk.mono fun _ h => h.elim)
      exact hk0.setObj (.inl h.fm) _
  clear h h1 h2 ha k1 k2 hu hoff hok hl hlen
  go_enter Tryz.func69, Tryz.ntmps69
  go_wp2
  go_region_held3 (fun w' => w'.cell? ⟨d, 0, none⟩ = some (.map (some m)) ∧ w'.cell? ⟨b1, 0, none⟩ = some (.pointer (some ⟨d, 0, none⟩)) ∧ w'.cell? ⟨b2, 0, none⟩ = some (.string n)) (first | exact ⟨e0, e1, e2⟩ | exact ⟨f0, f1, f2⟩ | exact ⟨g0, g1, g2⟩) (first | (go_at_call 63; refine hsy.mono ?_; rintro e w1 ⟨v, rfl, hv, hk⟩; obtain ⟨es2, clock2, hup, hfin, f0, f1, f2, g0, g1, g2⟩ := HAR.out v w1 hv hk; have HF := Lib.hid hfin; clear hfin hv hk))
  go_end0
  exact HF.out
set_option maxRecDepth 100000 in
set_option maxHeartbeats 2000000 in
theorem Truncate1_any {w : World} {d m : Nat} {es : Array MapEntry} {clock : Nat} {hv : Value} {S : St} {F : Nat → Prop} (h : DiskIs w d m es clock hv S F) (hoff : S.off = false) {b1 b2 b3 : Nat} {n : Nm} {k : Nat}
    (hok : (Hg.trunc n (k : Int)).okOn S.files) (h1 : Box w F b1 (.pointer (some ⟨d, 0, none⟩)) 24) (h2 : Box w F b2 (.string n) 9) (h3 : Box w F b3 (.int .i64 (k : Int)) 3) :
    Calls Tryz.prog 62 #[.pointer (some ⟨b1, 0, none⟩), .pointer (some ⟨b2, 0, none⟩), .pointer (some ⟨b3, 0, none⟩)] w (Leaves w d { S with files := (Hg.trunc n (k : Int)).run S.files } F) := by
  obtain ⟨l, hl⟩ := Option.isSome_iff_exists.1 hok.2
  have ha : DiskIs w.drew d m es clock hv S F := h.drew
  have k1 : Box w.drew F b1 (.pointer (some ⟨d, 0, none⟩)) 24 := h1
  have k2 : Box w.drew F b2 (.string n) 9 := h2
  obtain ⟨u, hlk, hu⟩ := look_some ha hl false
  simp only [Bool.false_eq_true, if_false] at hlk
  have hlen : l.length ≤ 1000000 := by
    have e1 := getF_le S.files n; have e2 := h.ok.used; have e3 := h.ok.room
    simp only [getF, hl, Option.getD_some] at e1; omega
  have hu' : FileRep w.drew F u l := hu
  obtain ⟨hs0, p, c, rfl, hle, hcm, hb⟩ := hu
  have hlt : (l.take k).length ≤ 1000000 := by rw [List.length_take]; omega
  have hut : FileRep w.drew F (.slice p (l.take k).length c) (l.take k) := by
    refine ⟨fun s hs => hs0 s (List.mem_of_mem_take hs), p, c, rfl, by rw [List.length_take]; omega, hcm, fun hne => ?_⟩
    obtain ⟨b, cs, rfl, hF, hblk, htk⟩ := hb (by rintro rfl; simp at hne)
    refine ⟨b, cs, rfl, hF, hblk, ?_⟩
    have e1 : (fileCells (l.take k)).length = 33 * (l.take k).length := fileCells_length fun s hs => hs0 s (List.mem_of_mem_take hs)
    have e2 : fileCells l = fileCells (l.take k) ++ fileCells (l.drop k) := by rw [← fileCells_append, List.take_append_drop]
    have e3 : 33 * (l.take k).length ≤ 33 * l.length := by rw [List.length_take]; omega
    have e4 := congrArg (List.take (33 * (l.take k).length)) htk
    rw [List.take_take, Nat.min_eq_left e3, e2, ← e1, List.take_left] at e4
    rw [← e1]; exact e4
  have hsy := synced_any hut hlt
  have hsl : ∀ q : Int, q = min (k : Int) (l.length : Int) → (Instr.slice 87 (.slice p l.length c) none (some (.int .i64 q)) none).run Tryz.prog w.drew = .ok (.slice p (l.take k).length c) w.drew := by
    intro q hq
    obtain ⟨i, z, hi, _⟩ := info_sec_zero
    have h1 : 0 ≤ q ∧ q ≤ c := by omega
    have h2 : q.toNat = (l.take k).length := by rw [List.length_take]; omega
    cases p with
    | none => simp [Instr.slice, run_underlying slice_type, Instr.sliceBounds, Instr.sliceBound, asIntOf, h1, h2, sizeOf, typeInfo, hi]
    | some a => simp [Instr.slice, run_underlying slice_type, Instr.sliceBounds, Instr.sliceBound, asIntOf, h1, h2, sizeOf, typeInfo, hi, Addr.add]
  have e0 := ha.cells.1
  have e1 := k1.cell
  have e2 := k2.cell
  have k3 : Box w.drew F b3 (.int .i64 (k : Int)) 3 := h3
  have e3 := k3.cell
  have HAR : Hid (∀ v w1, FileRep w1 (fun j => w.drew.heap.size ≤ j) v (syncAll (l.take k)) → Kp (fun _ => False) w.drew w1 → ∃ es2 clock2, (Instr.mapUpdate 71 (.map (some m)) (.string n) v).run Tryz.prog w1 = .ok () (setBlock w1 m (.map es2 clock2)) ∧
      Leaves w d { S with files := (Hg.trunc n (k : Int)).run S.files } F (.returned (.tuple #[])) (setBlock w1 m (.map es2 clock2)) ∧
      w1.cell? ⟨d, 0, none⟩ = some (.map (some m)) ∧ w1.cell? ⟨b1, 0, none⟩ = some (.pointer (some ⟨d, 0, none⟩)) ∧ w1.cell? ⟨b2, 0, none⟩ = some (.string n) ∧ w1.cell? ⟨b3, 0, none⟩ = some (.int .i64 (k : Int)) ∧
      (setBlock w1 m (.map es2 clock2)).cell? ⟨d, 0, none⟩ = some (.map (some m)) ∧ (setBlock w1 m (.map es2 clock2)).cell? ⟨b1, 0, none⟩ = some (.pointer (some ⟨d, 0, none⟩)) ∧ (setBlock w1 m (.map es2 clock2)).cell? ⟨b2, 0, none⟩ = some (.string n) ∧ (setBlock w1 m (.map es2 clock2)).cell? ⟨b3, 0, none⟩ = some (.int .i64 (k : Int))) := by
    intro v w1 hv hk
    have hf0 := hk
    have h1' := ha.kept hk (fun _ _ h => h)
    obtain ⟨es2, clock2, hup, hents2⟩ := update_run (P := Tryz.prog) (R := FileRep w1 (fun j => F j ∨ (w.drew.heap.size ≤ j ∧ j < w1.heap.size))) map_type key_type keyNow_string h1'.hm (h1'.ents.imp fun _ _ hr => hr.mono fun _ h => .inl h) n (syncAll (l.take k)) v (hv.lt.mono fun _ h => .inr h)
    refine ⟨es2, clock2, hup, ⟨rfl, (fun j => F j ∨ (w.drew.heap.size ≤ j ∧ j < w1.heap.size)), h1'.files (fun _ h => .inl h) (fun _ o hk hb => (blk_off _ hk).trans hb) (blk_put h1'.hm) (by simpa only [Hg.run, getF, hl, Option.getD_some, Int.toNat_natCast] using hents2) (run_ok h.ok hoff hok) ?_, ?_, ?_⟩, hk.cell e0 id, hk.cell e1 id, hk.cell e2 id, hk.cell e3 id, cell_put h1'.hm _ (hk.cell e0 id), cell_put h1'.hm _ (hk.cell e1 id), cell_put h1'.hm _ (hk.cell e2 id), cell_put h1'.hm _ (hk.cell e3 id)⟩
    · intro k hk; have := hf0.size; simp only [setBlock, Array.size_setIfInBounds]; rcases hk with hk | hk
      · have := h.flt k hk; simp at *; omega
      · exact hk.2
    · intro j hk; exact hk.imp id (·.1)
    · have hk0 : Kp F w w1 := by
        refine Kp.trans (b := w.drew) (Kp.refl F w).drew (hk.mono fun _ h => h.elim)
      exact hk0.setObj (.inl h.fm) _
  clear h h1 h2 h3 ha k1 k2 k3 hu' hut hs0 hb hcm hlt hoff hok hl hlen
  by_cases hkl : l.length < k
  · have hsl' := hsl (l.length : Int) (by omega)
    clear hsl
    rw [show (l.take k).length = l.length from by rw [List.length_take]; omega] at hsy hsl'
    generalize l.take k = l2 at *
    go_enter Tryz.func62, Tryz.ntmps62
    go_wp2
    go_region_held3 (fun w' => w'.cell? ⟨d, 0, none⟩ = some (.map (some m)) ∧ w'.cell? ⟨b1, 0, none⟩ = some (.pointer (some ⟨d, 0, none⟩)) ∧ w'.cell? ⟨b2, 0, none⟩ = some (.string n) ∧ w'.cell? ⟨b3, 0, none⟩ = some (.int .i64 (k : Int))) (first | exact ⟨e0, e1, e2, e3⟩ | exact ⟨f0, f1, f2, f3⟩ | exact ⟨g0, g1, g2, g3⟩) (first | (go_at_call 63; refine hsy.mono ?_; rintro e w1 ⟨v, rfl, hv, hk⟩; obtain ⟨es2, clock2, hup, hfin, f0, f1, f2, f3, g0, g1, g2, g3⟩ := HAR.out v w1 hv hk; have HF := Lib.hid hfin; clear hfin hv hk))
    all_goals (go_end0; exact HF.out)
  · have hsl' := hsl (k : Int) (by omega)
    have hkc : k ≤ c := by omega
    clear hsl
    rw [show (l.take k).length = k from by rw [List.length_take]; omega] at hsy hsl'
    generalize l.take k = l2 at *
    go_enter Tryz.func62, Tryz.ntmps62
    go_wp2
    go_region_held3 (fun w' => w'.cell? ⟨d, 0, none⟩ = some (.map (some m)) ∧ w'.cell? ⟨b1, 0, none⟩ = some (.pointer (some ⟨d, 0, none⟩)) ∧ w'.cell? ⟨b2, 0, none⟩ = some (.string n) ∧ w'.cell? ⟨b3, 0, none⟩ = some (.int .i64 (k : Int))) (first | exact ⟨e0, e1, e2, e3⟩ | exact ⟨f0, f1, f2, f3⟩ | exact ⟨g0, g1, g2, g3⟩) (first | (go_at_call 63; refine hsy.mono ?_; rintro e w1 ⟨v, rfl, hv, hk⟩; obtain ⟨es2, clock2, hup, hfin, f0, f1, f2, f3, g0, g1, g2, g3⟩ := HAR.out v w1 hv hk; have HF := Lib.hid hfin; clear hfin hv hk))
    all_goals (go_end0; exact HF.out)
end Go.Proofs.YtggnohbfdlebiaaGreatDoor

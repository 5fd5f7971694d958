/-
  The closures of Sync and Truncate.
-/
import Derived.Test.YtmcmapaapffadaaDoorWalkD
namespace Go.Proofs.YtmcmapaapffadaaDoor
open Go.RowKit Go.ChangeMaps

set_option maxRecDepth 100000 in
set_option maxHeartbeats 2000000 in
theorem Sync1_any {w : World} {d m : Nat} {es : Array MapEntry} {clock : Nat} {hv : Value} {S : St} {F : Nat → Prop} (h : DiskIs w d m es clock hv S F) (hoff : S.off = false) {b1 b2 : Nat} {n : Nm}
    (hok : (Hg.sync n).okOn S.files) (h1 : Box w F b1 (.pointer (some ⟨d, 0, none⟩)) 36) (h2 : Box w F b2 (.string n) 9) :
    Calls Tryd.prog 58 #[.pointer (some ⟨b1, 0, none⟩), .pointer (some ⟨b2, 0, none⟩)] w (Leaves w d { S with files := (Hg.sync n).run S.files } F) := by
  obtain ⟨l, hl⟩ := Option.isSome_iff_exists.1 hok.2
  have ha : DiskIs w.drew d m es clock hv S F := h.drew
  have k1 : Box w.drew F b1 (.pointer (some ⟨d, 0, none⟩)) 36 := h1
  have k2 : Box w.drew F b2 (.string n) 9 := h2
  obtain ⟨u, hlk, hu⟩ := look_some ha hl false
  simp only [Bool.false_eq_true, if_false] at hlk
  have hlen : l.length ≤ 1000000 := by
    have e1 := getF_le S.files n; have e2 := h.ok.used; have e3 := h.ok.room
    simp only [getF, hl, Option.getD_some] at e1; omega
  have hsy := synced_any hu hlen
  have e0 := ha.cells.1
  have e1 := k1.cell
  have e2 := k2.cell
  have HAR : Hid (∀ v w1, FileRep w1 (fun k => w.drew.heap.size ≤ k) v (syncAll l) → Kp (fun _ => False) w.drew w1 → ∃ es2 clock2, (Instr.mapUpdate 72 (.map (some m)) (.string n) v).run Tryd.prog w1 = .ok () (setBlock w1 m (.map es2 clock2)) ∧
      Leaves w d { S with files := (Hg.sync n).run S.files } F (.returned (.tuple #[])) (setBlock w1 m (.map es2 clock2)) ∧
      w1.cell? ⟨d, 0, none⟩ = some (.map (some m)) ∧ w1.cell? ⟨b1, 0, none⟩ = some (.pointer (some ⟨d, 0, none⟩)) ∧ w1.cell? ⟨b2, 0, none⟩ = some (.string n) ∧
      (setBlock w1 m (.map es2 clock2)).cell? ⟨d, 0, none⟩ = some (.map (some m)) ∧ (setBlock w1 m (.map es2 clock2)).cell? ⟨b1, 0, none⟩ = some (.pointer (some ⟨d, 0, none⟩)) ∧ (setBlock w1 m (.map es2 clock2)).cell? ⟨b2, 0, none⟩ = some (.string n)) := by
    intro v w1 hv hk
    have hf0 := hk
    have h1' := ha.kept hk (fun _ _ h => h)
    obtain ⟨es2, clock2, hup, hents2⟩ := update_run (P := Tryd.prog) (R := FileRep w1 (fun k => F k ∨ (w.drew.heap.size ≤ k ∧ k < w1.heap.size))) map_type key_type keyNow_string h1'.hm (h1'.ents.imp fun _ _ hr => hr.mono fun _ h => .inl h) n (syncAll l) v (hv.lt.mono fun _ h => .inr h)
    refine ⟨es2, clock2, hup, ⟨rfl, (fun k => F k ∨ (w.drew.heap.size ≤ k ∧ k < w1.heap.size)), h1'.files (fun _ h => .inl h) (fun k o hk hb => (blk_off _ hk).trans hb) (blk_put h1'.hm) (by simpa only [Hg.run, getF, hl, Option.getD_some] using hents2) (run_ok h.ok hoff hok) ?_, ?_, ?_⟩, hk.cell e0 id, hk.cell e1 id, hk.cell e2 id, cell_put h1'.hm _ (hk.cell e0 id), cell_put h1'.hm _ (hk.cell e1 id), cell_put h1'.hm _ (hk.cell e2 id)⟩
    · intro k hk; have := hf0.size; simp only [setBlock, Array.size_setIfInBounds]; rcases hk with hk | hk
      · have := h.flt k hk; simp at *; omega
      · exact hk.2
    · intro k hk; exact hk.imp id (·.1)
    · have hk0 : Kp F w w1 := by
        refine Kp.trans (b := w.drew) (Kp.refl F w).drew (hk.mono fun _ h => h.elim)
      exact hk0.setObj (.inl h.fm) _
  clear h h1 h2 ha k1 k2 hu hoff hok hl hlen
  go_enter Tryd.func58, Tryd.ntmps58
  go_wp2
  go_region_held3 (fun w' => w'.cell? ⟨d, 0, none⟩ = some (.map (some m)) ∧ w'.cell? ⟨b1, 0, none⟩ = some (.pointer (some ⟨d, 0, none⟩)) ∧ w'.cell? ⟨b2, 0, none⟩ = some (.string n)) (first | exact ⟨e0, e1, e2⟩ | exact ⟨f0, f1, f2⟩ | exact ⟨g0, g1, g2⟩) (first | (go_at_call 59; refine hsy.mono ?_; rintro e w1 ⟨v, rfl, hv, hk⟩; obtain ⟨es2, clock2, hup, hfin, f0, f1, f2, g0, g1, g2⟩ := HAR.out v w1 hv hk; have HF := Lib.hid hfin; clear hfin hv hk))
  go_end0
  exact HF.out
end Go.Proofs.YtmcmapaapffadaaDoor

/-
  slices.Clip and slices.Clone at a file's sectors; synced; the closures of the disk's operations.
-/
import Derived.Test.YtmcmapaapffadaaDoorSecs
import Derived.Test.YtmcmapaapffadaaDoorWalkB
namespace Go.Proofs.YtmcmapaapffadaaDoor
open Go.RowKit Go.ChangeMaps

theorem Clip_any (p : Option Addr) (n c : Nat) (hn : n ≤ c) (_ : c ≤ maxLen) (w : World) :
    Calls Tryd.prog 55 #[.slice p n c] w fun e w' => e = .returned (.slice p n n) ∧ w = w' := by
  have hs : ∀ w, (Instr.slice 75 (.slice p n c) none (some (.int .i64 n)) (some (.int .i64 n))).run Tryd.prog w = .ok (.slice p n n) w := by
    intro w
    obtain ⟨i, z, hi, _⟩ := info_sec_zero
    have h1 : ¬ ((n : Int) < 0) := by omega
    cases p with
    | none => simp [Instr.slice, run_underlying slice_type, Instr.sliceBounds, Instr.sliceBound, asIntOf, hn, sizeOf, typeInfo, hi]
    | some a => simp [Instr.slice, run_underlying slice_type, Instr.sliceBounds, Instr.sliceBound, asIntOf, hn, sizeOf, typeInfo, hi, Addr.add]
  go_enter Tryd.func55, Tryd.ntmps55
  go_wp2
  go_ret
  exact ⟨rfl, rfl⟩

/-- Handed back: a slice in new memory, of these sectors. -/
def NewFile (w : World) (l : List Sec) (e : Ending) (w' : World) : Prop := ∃ v, e = .returned v ∧ FileRep w' (fun k => w.heap.size ≤ k) v l ∧ Kp (fun _ => False) w w'

theorem Clone_any {w : World} {F : Nat → Prop} {v : Value} {l : List Sec} (h : FileRep w F v l) (hl : l.length ≤ 1000000) :
    Calls Tryd.prog 42 #[v] w (NewFile w l) := by
  have h' := h
  obtain ⟨h0, p, c, rfl, hle, hcm, hb⟩ := h'
  have hq : (binOp .eql 75 (.slice p l.length c) (.slice none 0 0)).run Tryd.prog w = .ok (.bool p.isNone) w := Lib.run_eql_slice_nil w _ _ _ _ _ _ _ slice_type
  have HL := Lib.hid hl
  clear hl
  cases p with
  | none =>
    have hl0 : l = [] := by
      cases l with
      | nil => rfl
      | cons a l => obtain ⟨_, _, hn, _⟩ := hb (by simp); cases hn
    subst hl0
    simp only [List.length_nil, Option.isNone] at hq
    simp only [List.length_nil]
    clear hcm hb h h0 hle
    go_enter Tryd.func42, Tryd.ntmps42
    go_wp2
    go_ret
    exact ⟨_, rfl, fileRep_nil _ _, Kp.refl _ _⟩
  | some p =>
    simp only [Option.isNone] at hq
    have hbs : (Instr.buildSlice 75 0 #[]).run Tryd.prog w = .ok (.slice (some ⟨w.heap.size, 0, none⟩) 0 0) (w.alloc (.cells #[] 79)) := by kernel_rfl
    have h1 : FileRep (w.alloc (.cells #[] 79)) (fun _ => False) (.slice (some ⟨w.heap.size, 0, none⟩) 0 0) [] := ⟨by simp, _, 0, rfl, by simp, by simp [maxLen], by simp⟩
    have h2 : FileRep (w.alloc (.cells #[] 79)) F (.slice (some p) l.length c) l := h.kept ((Kp.refl (fun _ => False) w).alloc _) (fun _ _ h => h)
    clear hcm hb
    obtain ⟨v', w', hap, hv', hk⟩ := append_secs h1 (by rintro _ _ _ ⟨⟩; rfl) h2 (by simpa using HL.out) 75
    clear h1 h2 h h0 hle
    go_enter Tryd.func42, Tryd.ntmps42
    go_wp2_with (at_builtin; refine wpList_append_run rfl _ _ _ _ rfl rfl rfl hap ?_)
    go_ret
    refine ⟨_, rfl, ?_, ((Kp.refl (fun _ => False) w).alloc _).trans hk⟩
    rw [List.nil_append] at hv'
    refine hv'.mono ?_
    intro k hk; simp at hk; omega

set_option maxHeartbeats 800000 in
theorem synced_any {w : World} {F : Nat → Prop} {v : Value} {l : List Sec} (h : FileRep w F v l) (hl : l.length ≤ 1000000) :
    Calls Tryd.prog 59 #[v] w (NewFile w (syncAll l)) := by
  have hcl := Clone_any h hl
  have HL := Lib.hid hl
  clear h hl
  go_enter Tryd.func59, Tryd.ntmps59
  go_wp2_with fail
  refine hcl.mono ?_
  rintro e w1 ⟨v', rfl, hf, hk⟩
  obtain ⟨h0, p, c, hv, hle, hcm, hb⟩ := hf
  rw [hv]
  clear hv
  by_cases hne : l = []
  · subst hne
    go_wp2
    go_loopw [8] (fun i wr => i = .int .i64 0 ∧ wr = w1) (fun _ _ => 0)
    case atStart => exact ⟨rfl, rfl⟩
    case round =>
      obtain ⟨rfl, rfl⟩ := hrel
      go_wp2
      go_ret
      exact ⟨_, rfl, ⟨by simp [syncAll], p, c, rfl, Nat.zero_le _, hcm, fun h => absurd rfl h⟩, hk⟩
  · obtain ⟨b, cs, rfl, hbw, hblk, htake⟩ := hb hne
    have hpos : 0 < l.length := List.length_pos_iff.2 hne
    have hlm : l.length ≤ 1000000 := HL.out
    clear hb
    go_wp2
    go_loopw [8] (fun i wr => ∃ k : Nat, k ≤ l.length ∧ i = .int .i64 k ∧ (∃ cs, wr.heap[b]? = some (.cells cs 79 (0, 0)) ∧ cs.toList.take (33 * l.length) = fileCells (syncN k l)) ∧ Kp (fun k => w.heap.size ≤ k) w wr) (fun i _ => l.length - (intOf i).toNat)
    case atStart => exact ⟨0, Nat.zero_le _, rfl, ⟨cs, hblk, by rw [syncN_zero]; exact htake⟩, hk.mono (fun _ h => h.elim)⟩
    case round =>
      obtain ⟨k, hk1, rfl, ⟨ds, hds, htk⟩, hkp⟩ := hrel
      clear hblk htake cs
      by_cases hlt : k < l.length
      · obtain ⟨q, hq⟩ := syncN_cell h0 (j := k) hlt
        have hcell : wr.cell? ⟨b, k * 33 + 32, none⟩ = some (.bool q) := by
          rw [blk_cell hds]
          rw [← htk, List.getElem?_take, if_pos (by omega)] at hq
          simpa using hq
        have hfree := blk_free hds
        have hnext := syncN_cells h0 hlt
        have HN : Hid (∃ cs, (wr.setCell ⟨b, k * 33 + 32, none⟩ (.bool true)).heap[b]? = some (.cells cs 79 (0, 0)) ∧ cs.toList.take (33 * l.length) = fileCells (syncN (k + 1) l)) := by
          refine ⟨_, blk_set hds _ _, ?_⟩
          rw [Array.toList_setIfInBounds, List.take_set, htk, hnext]
        clear hnext htk hq hds
        go_wp2
        go_roundw
        case rel => exact ⟨k + 1, by omega, by go_num, HN.out, hkp.setCell (.inr hbw) _⟩
        case measure => simp [intOf]; omega
      · obtain rfl : k = l.length := by omega
        rw [syncN_all] at htk
        have HT := Lib.hid htk
        clear htk hlt
        go_wp2
        go_ret
        have hsl : (syncAll l).length = l.length := by simp [syncAll]
        refine ⟨.slice (some ⟨b, 0, none⟩) l.length c, rfl, ⟨?_, some ⟨b, 0, none⟩, c, ?_, ?_, hcm, fun _ => ⟨b, ds, rfl, hbw, hds, ?_⟩⟩, ?_⟩
        · intro s hs; rw [← syncN_all] at hs; exact setSync_len h0 _ s hs
        · rw [hsl]
        · rw [hsl]; exact hle
        · rw [hsl]; exact HT.out
        · exact hkp.mono' (fun k hk => .inr hk)
end Go.Proofs.YtmcmapaapffadaaDoor

/-
  used: how many sectors there are, in whatever order the map is ranged over.
-/
import Derived.Test.YtmcmapaapffadaaDoorWalkA
import Derived.Test.YtmcmapaapffadaaDoorRange
namespace Go.Proofs.YtmcmapaapffadaaDoor
open Go.RowKit Go.ChangeMaps

def lenV : Value → Nat | .slice _ n _ => n | _ => 0
def lens (l : List MapEntry) : Nat := (l.map fun e => lenV e.val).sum
theorem lens_snoc (l : List MapEntry) (x : MapEntry) : lens (l ++ [x]) = lens l + lenV x.val := by simp [lens]
theorem lens_perm {l l' : List MapEntry} (h : l.Perm l') : lens l = lens l' := (h.map _).sum_nat
theorem lens_ents {w : World} {F : Nat → Prop} : ∀ {es : List MapEntry} {fs : Files}, Ents Value.string (FileRep w F) es fs → lens es = used fs
  | [], [], _ => rfl
  | e :: es, f :: fs, h => by
    obtain ⟨_, a, c, hv, _⟩ := h.2.1
    have := lens_ents h.2.2
    simp only [lens, used, List.map_cons, List.sum_cons] at this ⊢
    rw [this, hv]; rfl
theorem range_at {w : World} {m : Nat} {es : Array MapEntry} {clock : Nat} (hb : w.heap[m]? = some (.map es clock)) :
    (Instr.range 72 (.map (some m))).run Tryd.prog w = .ok (.pointer (some ⟨w.heap.size, 0, none⟩)) (w.alloc (.mapIter (some m) clock #[] clock)) := range_run map_type hb

set_option maxHeartbeats 1000000 in
theorem used_any {w : World} {d m : Nat} {es : Array MapEntry} {clock : Nat} {hv : Value} {S : St} {F : Nat → Prop} (h : DiskIs w d m es clock hv S F) :
    Calls Tryd.prog 53 #[.pointer (some ⟨d, 0, none⟩)] w fun e w' => e = .returned (.int .i64 (used S.files)) ∧ Kp (fun _ => False) w w' := by
  obtain ⟨c0, _⟩ := h.cells
  have hr := range_at h.hm
  have hst := IterIs.start h.hm h.ents.born h.ents.apart
  have hsum : lens es.toList = used S.files := lens_ents h.ents.ents
  have hub : used S.files ≤ 65536 := by have := h.ok.used; have := h.ok.room; omega
  have hmlt := blk_lt h.hm
  have HS := Lib.hid hsum
  clear hsum
  go_enter Tryd.func53, Tryd.ntmps53
  go_wp2
  go_loopw [3] (fun n wr => ∃ done left, IterIs wr w.heap.size m es clock done left ∧ n = .int .i64 (lens done) ∧ Kp (fun _ => False) w wr) (fun _ wr => iterLeft wr w.heap.size es.size)
  case atStart => exact ⟨[], es.toList, hst, rfl, (Kp.refl _ _).alloc _⟩
  case round =>
    obtain ⟨done, left, hit, rfl, hkp⟩ := hrel
    by_cases hl : left = []
    · subst hl
      have hnx := next_over (P := Tryd.prog) hit
      have hend : Hid (lens done = used S.files) := by
        have := lens_perm hit.perm; rw [List.append_nil] at this; exact this.trans HS.out
      go_wp2
      go_ret
      exact ⟨ret_int (by rw [hend.out]), hkp⟩
    · obtain ⟨x, left', n, hp, hnx, hit'⟩ := next_more (P := Tryd.prog) hit hl (by omega)
      obtain ⟨p, hpm, hkey, _, a, c, hval, _⟩ := h.ents.ents.mem x (hit'.perm.mem_iff.1 (by simp))
      have hk2 : Kp (fun _ => False) w (setBlock (wr.drewN n) w.heap.size (.mapIter (some m) clock ((done ++ [x]).map (·.born)).toArray clock)) := (hkp.drewN n).setObj (.inr (Nat.le_refl _)) _
      have hlt : iterLeft (setBlock (wr.drewN n) w.heap.size (.mapIter (some m) clock ((done ++ [x]).map (·.born)).toArray clock)) w.heap.size es.size < iterLeft wr w.heap.size es.size := by
        rw [hit.left_eq, hit'.left_eq]; have := hp.length_eq; simp at this; omega
      have hln : lens (done ++ [x]) = lens done + p.2.length := by rw [lens_snoc, hval]; rfl
      have hle : lens done + p.2.length ≤ used S.files := by
        rw [← hln, ← HS.out, ← lens_perm hit'.perm]; simp [lens]
      generalize setBlock (wr.drewN n) w.heap.size (.mapIter (some m) clock ((done ++ [x]).map (·.born)).toArray clock) = w2 at *
      have hen := entry_run (P := Tryd.prog) hit'
      rw [hval] at hen hnx
      have HL := Lib.hid hln
      clear hln hval hkey hpm hp hl
      go_wp2
      go_roundw
      case rel => exact ⟨done ++ [x], left', hit', by rw [HL.out]; go_num, hk2⟩
      case measure => exact hlt
end Go.Proofs.YtmcmapaapffadaaDoor

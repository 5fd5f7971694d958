/-
  Sync, Truncate, Rename, Remove, of a disk that there is.
-/
import Derived.Test.YtmcmapaapffadaaDoorWalkF
namespace Go.Proofs.YtmcmapaapffadaaDoor
open Go.RowKit Go.ChangeMaps

/-- What an operation on files answers, behind its check; what it leaves. -/
def St.opE (S : St) (c : Int) : Int := if c = 0 then S.doE else c
def St.opS (S : St) (c : Int) (hg : Hg) : St := if c = 0 then S.doS hg else S
theorem check_zero {S : St} {n : Nm} (h : S.check n true = 0) : nameB n = true ∧ (get S.files n).isSome = true ∧ S.off = false := by
  unfold St.check at h
  cases hb : nameB n with
  | false => simp [hb] at h
  | true =>
    cases hg : get S.files n with
    | none => simp [hb, hg] at h
    | some l =>
      cases ho : S.off with
      | true => simp [hb, hg, ho] at h
      | false => exact ⟨rfl, rfl, rfl⟩
theorem Does.back {w w2 : World} {d : Nat} {n : Int} {S' : St} {F : Nat → Prop} {e : Ending} {w' : World} (h : Does w2 d n S' (fun k => F k ∨ (w.heap.size ≤ k ∧ k < w2.heap.size)) e w') (hk : Kp (fun _ => False) w w2) : Does w d n S' F e w' := by
  obtain ⟨he, F', h1, h2, h3⟩ := h
  refine ⟨he, F', h1, fun k hk' => ?_, (hk.mono fun _ h => h.elim).trans' h3 fun _ h => h.imp id (·.1)⟩
  rcases h2 k hk' with h | h
  · exact h.imp id (·.1)
  · exact .inr (Nat.le_trans hk.size h)
theorem DiskIs.wide {w w2 : World} {d m : Nat} {es : Array MapEntry} {clock : Nat} {hv : Value} {S : St} {F : Nat → Prop} (h : DiskIs w d m es clock hv S F) (hk : Kp (fun _ => False) w w2) :
    DiskIs w2 d m es clock hv S (fun k => F k ∨ (w.heap.size ≤ k ∧ k < w2.heap.size)) := h.move (fun _ h => .inl h) (fun _ _ _ hb => hk.blk hb id) fun k hf => by
    rcases hf with hf | hf
    · exact Nat.lt_of_lt_of_le (h.flt k hf) hk.size
    · exact hf.2

theorem do_sync_all {w : World} {d m : Nat} {es : Array MapEntry} {clock : Nat} {hv : Value} {S : St} {F : Nat → Prop} {b1 b2 : Nat} {n : Nm} (h : DiskIs w d m es clock hv S F) (hoff : S.off = false) (hok : (Hg.sync n).okOn S.files) (k1 : Box w F b1 (.pointer (some ⟨d, 0, none⟩)) 36) (k2 : Box w F b2 (.string n) 9) :
    Calls Tryd.prog 51 #[.pointer (some ⟨d, 0, none⟩), .func (.func 58) #[] #[.pointer (some ⟨b1, 0, none⟩), .pointer (some ⟨b2, 0, none⟩)]] w (Does w d S.doE (S.doS (Hg.sync n)) F) := by
  by_cases h1 : S.armed = 1
  · exact do_goes h hoff ⟨b1, b2, rfl, k1, k2⟩ hok h1 ⟨_, _, rfl⟩
  · exact do_sync h hoff hok k1 k2 h1

set_option maxHeartbeats 1600000 in
theorem Sync_any {w : World} {d m : Nat} {es : Array MapEntry} {clock : Nat} {hv : Value} {S : St} {F : Nat → Prop} (h : DiskIs w d m es clock hv S F) (n : Nm) (hs : n.size ≤ maxLen) :
    Calls Tryd.prog 31 #[.pointer (some ⟨d, 0, none⟩), .string n] w (Does w d (S.opE (S.check n true)) (S.opS (S.check n true) (Hg.sync n)) F) := by
  have hkw : Kp (fun _ => False) w ((w.alloc (.cells #[.pointer (some ⟨d, 0, none⟩)] 36)).alloc (.cells #[.string n] 9)) := (((Kp.refl _ w).alloc _).alloc _)
  have h2 := h.wide hkw
  have hc := check_any h2 n hs true
  by_cases h0 : S.check n true = 0
  · obtain ⟨hn, hg, hoff⟩ := check_zero h0
    rw [h0] at hc
    have hd := do_sync_all h2 hoff ⟨hn, hg⟩ (b1 := w.heap.size) (b2 := w.heap.size + 1) ⟨(blk_alloc _ (by simpa using heap_alloc_new (w) (.cells #[.pointer (some ⟨d, 0, none⟩)] 36))), .inr ⟨by omega, by simp; try omega⟩⟩ ⟨(by simpa using heap_alloc_new (w.alloc (.cells #[.pointer (some ⟨d, 0, none⟩)] 36)) (.cells #[.string n] 9)), .inr ⟨by omega, by simp; try omega⟩⟩
    have HF : Hid (∀ e w', Does ((w.alloc (.cells #[.pointer (some ⟨d, 0, none⟩)] 36)).alloc (.cells #[.string n] 9)) d S.doE (S.doS (Hg.sync n)) (fun j => F j ∨ (w.heap.size ≤ j ∧ j < ((w.alloc (.cells #[.pointer (some ⟨d, 0, none⟩)] 36)).alloc (.cells #[.string n] 9)).heap.size)) e w' → Does w d (S.opE (S.check n true)) (S.opS (S.check n true) (Hg.sync n)) F e w') := by
      intro e w' hd
      have hd' := hd.back hkw
      simpa only [St.opE, St.opS, h0, if_true] using hd'
    clear h h2 hkw hn hg hoff h0
    go_enter Tryd.func31, Tryd.ntmps31
    go_wp2_with (first | (go_at_call 43; refine hc.mono ?_; rintro e w' ⟨rfl, rfl⟩) | (go_at_call 51; refine hd.mono ?_; rintro e w' hl; have HL := HF.out e w' hl; obtain ⟨rfl, _⟩ := hl))
    go_ret
    exact HL
  · have hne : (S.check n true != 0) = true := by simpa using h0
    have hne2 : (!S.check n true == 0) = true := by simpa using h0
    have HF : Hid (Does w d (S.opE (S.check n true)) (S.opS (S.check n true) (Hg.sync n)) F (.returned (.int .i64 (S.check n true))) ((w.alloc (.cells #[.pointer (some ⟨d, 0, none⟩)] 36)).alloc (.cells #[.string n] 9))) := by
      refine ⟨by simp only [St.opE, if_neg h0], F, ⟨m, es, clock, hv, ?_⟩, fun _ h => .inl h, hkw.mono fun _ h => h.elim⟩
      simp only [St.opS, if_neg h0]
      exact h.kept hkw fun _ _ h => h
    clear h h2 hkw
    generalize S.check n true = c at *
    go_enter Tryd.func31, Tryd.ntmps31
    go_wp2_with (first | (go_at_call 43; refine hc.mono ?_; rintro e w' ⟨rfl, rfl⟩))
    go_ret
    exact HF.out

theorem do_remove_all {w : World} {d m : Nat} {es : Array MapEntry} {clock : Nat} {hv : Value} {S : St} {F : Nat → Prop} {b1 b2 : Nat} {n : Nm} (h : DiskIs w d m es clock hv S F) (hoff : S.off = false) (hok : (Hg.remove n).okOn S.files) (k1 : Box w F b1 (.pointer (some ⟨d, 0, none⟩)) 36) (k2 : Box w F b2 (.string n) 9) :
    Calls Tryd.prog 51 #[.pointer (some ⟨d, 0, none⟩), .func (.func 52) #[] #[.pointer (some ⟨b1, 0, none⟩), .pointer (some ⟨b2, 0, none⟩)]] w (Does w d S.doE (S.doS (Hg.remove n)) F) := by
  by_cases h1 : S.armed = 1
  · exact do_goes h hoff ⟨b1, b2, rfl, k1, k2⟩ hok h1 ⟨_, _, rfl⟩
  · exact do_remove h hoff hok k1 k2 h1

set_option maxHeartbeats 1600000 in
theorem Remove_any {w : World} {d m : Nat} {es : Array MapEntry} {clock : Nat} {hv : Value} {S : St} {F : Nat → Prop} (h : DiskIs w d m es clock hv S F) (n : Nm) (hs : n.size ≤ maxLen) :
    Calls Tryd.prog 26 #[.pointer (some ⟨d, 0, none⟩), .string n] w (Does w d (S.opE (S.check n true)) (S.opS (S.check n true) (Hg.remove n)) F) := by
  have hkw : Kp (fun _ => False) w ((w.alloc (.cells #[.pointer (some ⟨d, 0, none⟩)] 36)).alloc (.cells #[.string n] 9)) := (((Kp.refl _ w).alloc _).alloc _)
  have h2 := h.wide hkw
  have hc := check_any h2 n hs true
  by_cases h0 : S.check n true = 0
  · obtain ⟨hn, hg, hoff⟩ := check_zero h0
    rw [h0] at hc
    have hd := do_remove_all h2 hoff trivial (b1 := w.heap.size) (b2 := w.heap.size + 1) ⟨(blk_alloc _ (by simpa using heap_alloc_new (w) (.cells #[.pointer (some ⟨d, 0, none⟩)] 36))), .inr ⟨by omega, by simp; try omega⟩⟩ ⟨(by simpa using heap_alloc_new (w.alloc (.cells #[.pointer (some ⟨d, 0, none⟩)] 36)) (.cells #[.string n] 9)), .inr ⟨by omega, by simp; try omega⟩⟩
    have HF : Hid (∀ e w', Does ((w.alloc (.cells #[.pointer (some ⟨d, 0, none⟩)] 36)).alloc (.cells #[.string n] 9)) d S.doE (S.doS (Hg.remove n)) (fun j => F j ∨ (w.heap.size ≤ j ∧ j < ((w.alloc (.cells #[.pointer (some ⟨d, 0, none⟩)] 36)).alloc (.cells #[.string n] 9)).heap.size)) e w' → Does w d (S.opE (S.check n true)) (S.opS (S.check n true) (Hg.remove n)) F e w') := by
      intro e w' hd
      have hd' := hd.back hkw
      simpa only [St.opE, St.opS, h0, if_true] using hd'
    clear h h2 hkw hn hg hoff h0
    go_enter Tryd.func26, Tryd.ntmps26
    go_wp2_with (first | (go_at_call 43; refine hc.mono ?_; rintro e w' ⟨rfl, rfl⟩) | (go_at_call 51; refine hd.mono ?_; rintro e w' hl; have HL := HF.out e w' hl; obtain ⟨rfl, _⟩ := hl))
    go_ret
    exact HL
  · have hne : (S.check n true != 0) = true := by simpa using h0
    have hne2 : (!S.check n true == 0) = true := by simpa using h0
    have HF : Hid (Does w d (S.opE (S.check n true)) (S.opS (S.check n true) (Hg.remove n)) F (.returned (.int .i64 (S.check n true))) ((w.alloc (.cells #[.pointer (some ⟨d, 0, none⟩)] 36)).alloc (.cells #[.string n] 9))) := by
      refine ⟨by simp only [St.opE, if_neg h0], F, ⟨m, es, clock, hv, ?_⟩, fun _ h => .inl h, hkw.mono fun _ h => h.elim⟩
      simp only [St.opS, if_neg h0]
      exact h.kept hkw fun _ _ h => h
    clear h h2 hkw
    generalize S.check n true = c at *
    go_enter Tryd.func26, Tryd.ntmps26
    go_wp2_with (first | (go_at_call 43; refine hc.mono ?_; rintro e w' ⟨rfl, rfl⟩))
    go_ret
    exact HF.out

theorem do_rename_all {w : World} {d m : Nat} {es : Array MapEntry} {clock : Nat} {hv : Value} {S : St} {F : Nat → Prop} {b1 b2 b3 : Nat} {x y : Nm} (h : DiskIs w d m es clock hv S F) (hoff : S.off = false) (hok : (Hg.rename x y).okOn S.files) (k1 : Box w F b1 (.pointer (some ⟨d, 0, none⟩)) 36) (k2 : Box w F b2 (.string x) 9) (k3 : Box w F b3 (.string y) 9) :
    Calls Tryd.prog 51 #[.pointer (some ⟨d, 0, none⟩), .func (.func 61) #[] #[.pointer (some ⟨b1, 0, none⟩), .pointer (some ⟨b2, 0, none⟩), .pointer (some ⟨b3, 0, none⟩)]] w (Does w d S.doE (S.doS (Hg.rename x y)) F) := by
  by_cases h1 : S.armed = 1
  · exact do_goes h hoff ⟨b1, b2, b3, rfl, k1, k2, k3⟩ hok h1 ⟨_, _, rfl⟩
  · exact do_rename h hoff hok k1 k2 k3 h1

set_option maxHeartbeats 1600000 in
theorem Rename_any {w : World} {d m : Nat} {es : Array MapEntry} {clock : Nat} {hv : Value} {S : St} {F : Nat → Prop} (h : DiskIs w d m es clock hv S F) (x y : Nm) (hs : x.size ≤ maxLen) (hs2 : y.size ≤ maxLen) (hy : nameB y = true) :
    Calls Tryd.prog 33 #[.pointer (some ⟨d, 0, none⟩), .string x, .string y] w (Does w d (S.opE (S.check x true)) (S.opS (S.check x true) (Hg.rename x y)) F) := by
  have hkw : Kp (fun _ => False) w (((w.alloc (.cells #[.pointer (some ⟨d, 0, none⟩)] 36)).alloc (.cells #[.string x] 9)).alloc (.cells #[.string y] 9)) := ((((Kp.refl _ w).alloc _).alloc _).alloc _)
  have h2 := h.wide hkw
  have hc := check_any h2 x hs true
  have hnm := named_any y (((w.alloc (.cells #[.pointer (some ⟨d, 0, none⟩)] 36)).alloc (.cells #[.string x] 9)).alloc (.cells #[.string y] 9)) hs2
  rw [hy] at hnm
  by_cases h0 : S.check x true = 0
  · obtain ⟨hn, hg, hoff⟩ := check_zero h0
    rw [h0] at hc
    have hd := do_rename_all h2 hoff ⟨hy, hg⟩ (b1 := w.heap.size) (b2 := w.heap.size + 1) (b3 := w.heap.size + 2) ⟨(blk_alloc _ (blk_alloc _ (by simpa using heap_alloc_new (w) (.cells #[.pointer (some ⟨d, 0, none⟩)] 36)))), .inr ⟨by omega, by simp; try omega⟩⟩ ⟨(blk_alloc _ (by simpa using heap_alloc_new (w.alloc (.cells #[.pointer (some ⟨d, 0, none⟩)] 36)) (.cells #[.string x] 9))), .inr ⟨by omega, by simp; try omega⟩⟩ ⟨(by simpa using heap_alloc_new ((w.alloc (.cells #[.pointer (some ⟨d, 0, none⟩)] 36)).alloc (.cells #[.string x] 9)) (.cells #[.string y] 9)), .inr ⟨by omega, by simp; try omega⟩⟩
    have HF : Hid (∀ e w', Does (((w.alloc (.cells #[.pointer (some ⟨d, 0, none⟩)] 36)).alloc (.cells #[.string x] 9)).alloc (.cells #[.string y] 9)) d S.doE (S.doS (Hg.rename x y)) (fun j => F j ∨ (w.heap.size ≤ j ∧ j < (((w.alloc (.cells #[.pointer (some ⟨d, 0, none⟩)] 36)).alloc (.cells #[.string x] 9)).alloc (.cells #[.string y] 9)).heap.size)) e w' → Does w d (S.opE (S.check x true)) (S.opS (S.check x true) (Hg.rename x y)) F e w') := by
      intro e w' hd
      have hd' := hd.back hkw
      simpa only [St.opE, St.opS, h0, if_true] using hd'
    clear h h2 hkw hn hg hoff h0 hy
    go_enter Tryd.func33, Tryd.ntmps33
    go_wp2_with (first | (go_at_call 60; refine hnm.mono ?_; rintro e w' ⟨rfl, rfl⟩) | (go_at_call 43; refine hc.mono ?_; rintro e w' ⟨rfl, rfl⟩) | (go_at_call 51; refine hd.mono ?_; rintro e w' hl; have HL := HF.out e w' hl; obtain ⟨rfl, _⟩ := hl))
    go_ret
    exact HL
  · have hne : (S.check x true != 0) = true := by simpa using h0
    have hne2 : (!S.check x true == 0) = true := by simpa using h0
    have HF : Hid (Does w d (S.opE (S.check x true)) (S.opS (S.check x true) (Hg.rename x y)) F (.returned (.int .i64 (S.check x true))) (((w.alloc (.cells #[.pointer (some ⟨d, 0, none⟩)] 36)).alloc (.cells #[.string x] 9)).alloc (.cells #[.string y] 9))) := by
      refine ⟨by simp only [St.opE, if_neg h0], F, ⟨m, es, clock, hv, ?_⟩, fun _ h => .inl h, hkw.mono fun _ h => h.elim⟩
      simp only [St.opS, if_neg h0]
      exact h.kept hkw fun _ _ h => h
    clear h h2 hkw hy
    generalize S.check x true = c at *
    go_enter Tryd.func33, Tryd.ntmps33
    go_wp2_with (first | (go_at_call 60; refine hnm.mono ?_; rintro e w' ⟨rfl, rfl⟩) | (go_at_call 43; refine hc.mono ?_; rintro e w' ⟨rfl, rfl⟩))
    go_ret
    exact HF.out

set_option maxHeartbeats 800000 in
theorem Rename_unnamed {w : World} {d m : Nat} {es : Array MapEntry} {clock : Nat} {hv : Value} {S : St} {F : Nat → Prop} (h : DiskIs w d m es clock hv S F) (x y : Nm) (hs2 : y.size ≤ maxLen) (hy : nameB y = false) :
    Calls Tryd.prog 33 #[.pointer (some ⟨d, 0, none⟩), .string x, .string y] w (Does w d 1 S F) := by
  have HF : Hid (Does w d 1 S F (.returned (.int .i64 1)) (((w.alloc (.cells #[.pointer (some ⟨d, 0, none⟩)] 36)).alloc (.cells #[.string x] 9)).alloc (.cells #[.string y] 9))) :=
    ⟨rfl, F, ⟨m, es, clock, hv, h.kept ((((Kp.refl (fun _ => False) w).alloc _).alloc _).alloc _) fun _ _ h => h⟩, fun _ h => .inl h, (((Kp.refl F w).alloc _).alloc _).alloc _⟩
  have hnm := named_any y (((w.alloc (.cells #[.pointer (some ⟨d, 0, none⟩)] 36)).alloc (.cells #[.string x] 9)).alloc (.cells #[.string y] 9)) hs2
  rw [hy] at hnm
  clear h hy
  go_enter Tryd.func33, Tryd.ntmps33
  go_wp2_with (go_at_call 60; refine hnm.mono ?_; rintro e w' ⟨rfl, rfl⟩)
  go_ret
  exact HF.out
end Go.Proofs.YtmcmapaapffadaaDoor

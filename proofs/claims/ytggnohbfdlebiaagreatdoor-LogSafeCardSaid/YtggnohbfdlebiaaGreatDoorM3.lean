/-
  Merged of my texts, in order: WalkF.
-/
import Derived.Test.YtggnohbfdlebiaaGreatDoorM2
import Derived.Laws.EntriesVeiled
/-
  do: an operation is counted; the power may go at it; else it is done.
-/
namespace Go.Proofs.YtggnohbfdlebiaaGreatDoor
open Go.RowKit Go.ChangeMaps

/-- The call answers n, and leaves the disk as S' has it; of what was there only the disk's own blocks may have turned. -/
def Does (w : World) (d : Nat) (n : Int) (S' : St) (F : Nat → Prop) (e : Ending) (w' : World) : Prop :=
  e = .returned (.int .i64 n) ∧ ∃ F', DiskAt w' d S' F' ∧ (∀ k, F' k → F k ∨ w.heap.size ≤ k) ∧ Kp F w w'

theorem doE_ne {S : St} (h : S.armed ≠ 1) : S.doE = 0 := by simp [St.doE, h]
theorem DiskIs.tick {w : World} {d m : Nat} {es : Array MapEntry} {clock : Nat} {hv : Value} {S : St} {F : Nat → Prop} (h : DiskIs w d m es clock hv S F) (hoff : S.off = false) (n : Int) :
    DiskIs (w.setCell ⟨d, 4, none⟩ (.int .i64 n)) d m es clock hv { S with ops := n } F :=
  h.turn (fun _ h => h) (fun k o h1 _ hb => (blk_far _ h1).trans hb) (by rw [blk_set h.hd]; rfl) ((blk_far _ h.ne.symm).trans h.hm) h.ents h.hang
    ⟨h.ok.room, h.ok.used, h.ok.armed, (fun e => by rw [hoff] at e; cases e), h.ok.names, h.ok.count, h.ok.secs⟩ (fun k hk => by simpa using h.flt k hk)
theorem DiskIs.arm {w : World} {d m : Nat} {es : Array MapEntry} {clock : Nat} {hv : Value} {S : St} {F : Nat → Prop} (h : DiskIs w d m es clock hv S F) (n : Int) (hn : 0 ≤ n ∧ n ≤ 9223372036854775807) :
    DiskIs (w.setCell ⟨d, 3, none⟩ (.int .i64 n)) d m es clock hv { S with armed := n } F :=
  h.turn (fun _ h => h) (fun k o h1 _ hb => (blk_far _ h1).trans hb) (by rw [blk_set h.hd]; rfl) ((blk_far _ h.ne.symm).trans h.hm) h.ents h.hang
    ⟨h.ok.room, h.ok.used, hn, h.ok.hung, h.ok.names, h.ok.count, h.ok.secs⟩ (fun k hk => by simpa using h.flt k hk)
theorem Leaves.does {w w1 : World} {d : Nat} {S1 S' : St} {F : Nat → Prop} {e : Ending} {w' : World} (h : Leaves w1 d S1 F e w') (hk : Kp F w w1) (hs : S1 = S') : ∃ F', DiskAt w' d S' F' ∧ (∀ k, F' k → F k ∨ w.heap.size ≤ k) ∧ Kp F w w' := by
  obtain ⟨_, F', h1, h2, h3⟩ := h
  subst hs
  exact ⟨F', h1, fun k hk' => (h2 k hk').imp id (fun h => Nat.le_trans hk.size h), hk.trans h3⟩

set_option maxHeartbeats 800000 in
/-- The power goes. -/
theorem do_goes {w : World} {d m : Nat} {es : Array MapEntry} {clock : Nat} {hv fv : Value} {S : St} {F : Nat → Prop} {hg : Hg} (h : DiskIs w d m es clock hv S F) (_hoff : S.off = false) (hf : HangRep w F d fv (some hg)) (hok : hg.okOn S.files) (h1 : S.armed = 1)
    (hfv : ∃ f c, fv = .func f #[] c) :
    Calls Tryz.prog 41 #[.pointer (some ⟨d, 0, none⟩), fv] w (Does w d S.doE (S.doS hg) F) := by
  obtain ⟨c0, c1, c2, c3, c4, c5, fz⟩ := h.cells
  rw [h1] at c3
  have hfin : Does w d S.doE (S.doS hg) F (.returned (.int .i64 18)) ((((w.setCell ⟨d, 4, none⟩ (.int .i64 (wrap64 (S.ops + 1)))).setCell ⟨d, 3, none⟩ (.int .i64 0)).setCell ⟨d, 2, none⟩ (.bool true)).setCell ⟨d, 5, none⟩ fv) := by
    refine ⟨by simp [St.doE, h1], F, ⟨m, es, clock, fv, ?_⟩, fun _ h => .inl h, ((((Kp.refl F w).setCell (.inl h.fd) _).setCell (.inl h.fd) _).setCell (.inl h.fd) _).setCell (.inl h.fd) _⟩
    have hS : S.doS hg = { S with ops := wrap64 (S.ops + 1), armed := 0, off := true, hangs := some hg } := by simp [St.doS, h1]
    rw [hS]
    refine h.turn (fun _ h => h) (fun k o h1 _ hb => (blk_far _ h1).trans ((blk_far _ h1).trans ((blk_far _ h1).trans ((blk_far _ h1).trans hb)))) (by rw [blk_set (blk_set (blk_set (blk_set h.hd _ _) _ _) _ _)]; rfl)
      ((blk_far _ h.ne.symm).trans ((blk_far _ h.ne.symm).trans ((blk_far _ h.ne.symm).trans ((blk_far _ h.ne.symm).trans h.hm)))) h.ents hf ⟨h.ok.room, h.ok.used, by simp, fun _ => ⟨hg, rfl, hok⟩, h.ok.names, h.ok.count, h.ok.secs⟩ (fun k hk => by simpa using h.flt k hk)
  have HF := Lib.hid hfin
  obtain ⟨f, c, rfl⟩ := hfv
  clear h hf hok hfin h1 _hoff
  go_enter Tryz.func41, Tryz.ntmps41
  go_wp2
  go_ret
  exact HF.out

theorem Append1_any {w : World} {d m : Nat} {es : Array MapEntry} {clock : Nat} {hv : Value} {S : St} {F : Nat → Prop} (h : DiskIs w d m es clock hv S F) (_ : S.off = false) :
    Calls Tryz.prog 42 #[] w (Leaves w d { S with files := Hg.noop.run S.files } F) := by
  have hfin : Leaves w d { S with files := Hg.noop.run S.files } F (.returned (.tuple #[])) w := ⟨rfl, F, ⟨m, es, clock, hv, h⟩, fun _ h => .inl h, Kp.refl _ _⟩
  have HF := Lib.hid hfin
  clear h hfin
  go_enter Tryz.func42, Tryz.ntmps42
  go_wp2
  go_end0
  exact HF.out

set_option maxHeartbeats 1600000 in
theorem do_noop {w : World} {d m : Nat} {es : Array MapEntry} {clock : Nat} {hv : Value} {S : St} {F : Nat → Prop}  (h : DiskIs w d m es clock hv S F) (hoff : S.off = false) (_hok : (Hg.noop).okOn S.files) (h1 : S.armed ≠ 1) :
    Calls Tryz.prog 41 #[.pointer (some ⟨d, 0, none⟩), .func (.func 42) #[] #[]] w (Does w d S.doE (S.doS (Hg.noop)) F) := by
  obtain ⟨c0, c1, c2, c3, c4, c5, fz⟩ := h.cells
  rw [doE_ne h1]
  obtain ⟨q0, q1⟩ := h.ok.armed
  have hne : ∀ b v t, Box w F b v t → b ≠ d := by rintro b v t hb rfl; have := hb.1; rw [h.hd] at this; injection this with e; injection e with e _ _; cases e
  by_cases ha : S.armed = 0
  · have hc := Append1_any (h.tick hoff (wrap64 (S.ops + 1))) hoff
    have HF : Hid (∀ w' e, Leaves (w.setCell ⟨d, 4, none⟩ (.int .i64 (wrap64 (S.ops + 1)))) d _ F e w' → Does w d 0 (S.doS (Hg.noop)) F (.returned (.int .i64 0)) w') :=
      fun w' e hl => ⟨rfl, hl.does ((Kp.refl F w).setCell (.inl h.fd) _) (by unfold St.doS; rw [if_neg h1, if_pos ha, ← ha])⟩
    rw [ha] at c3
    clear h hoff _hok h1 ha q0 q1 hne
    go_enter Tryz.func41, Tryz.ntmps41
    go_wp2_with (go_at_call 42; refine hc.mono ?_; rintro e w' hl; have HL := HF.out w' e hl; obtain ⟨rfl, _⟩ := hl)
    go_ret
    exact HL
  · have q2 : 0 < S.armed := by omega
    have q3 : ((S.armed - 1) == 0) = false := by simp; omega
    have hc := Append1_any ((h.tick hoff (wrap64 (S.ops + 1))).arm (S.armed - 1) (by omega)) hoff
    have HF : Hid (∀ w' e, Leaves ((w.setCell ⟨d, 4, none⟩ (.int .i64 (wrap64 (S.ops + 1)))).setCell ⟨d, 3, none⟩ (.int .i64 (S.armed - 1))) d _ F e w' → Does w d 0 (S.doS (Hg.noop)) F (.returned (.int .i64 0)) w') :=
      fun w' e hl => ⟨rfl, hl.does (((Kp.refl F w).setCell (.inl h.fd) _).setCell (.inl h.fd) _) (by unfold St.doS; rw [if_neg h1, if_neg ha])⟩
    clear h hoff _hok h1 ha hne
    go_enter Tryz.func41, Tryz.ntmps41
    go_wp2_with (go_at_call 42; refine hc.mono ?_; rintro e w' hl; have HL := HF.out w' e hl; obtain ⟨rfl, _⟩ := hl)
    go_ret
    exact HL

set_option maxHeartbeats 1600000 in
theorem do_sync {w : World} {d m : Nat} {es : Array MapEntry} {clock : Nat} {hv : Value} {S : St} {F : Nat → Prop} {b1 b2 : Nat} {n : Nm} (h : DiskIs w d m es clock hv S F) (hoff : S.off = false) (hok : (Hg.sync n).okOn S.files) (k1 : Box w F b1 (.pointer (some ⟨d, 0, none⟩)) 24) (k2 : Box w F b2 (.string n) 9) (h1 : S.armed ≠ 1) :
    Calls Tryz.prog 41 #[.pointer (some ⟨d, 0, none⟩), .func (.func 69) #[] #[.pointer (some ⟨b1, 0, none⟩), .pointer (some ⟨b2, 0, none⟩)]] w (Does w d S.doE (S.doS (Hg.sync n)) F) := by
  obtain ⟨c0, c1, c2, c3, c4, c5, fz⟩ := h.cells
  rw [doE_ne h1]
  obtain ⟨q0, q1⟩ := h.ok.armed
  have hne : ∀ b v t, Box w F b v t → b ≠ d := by rintro b v t hb rfl; have := hb.1; rw [h.hd] at this; injection this with e; injection e with e _ _; cases e
  by_cases ha : S.armed = 0
  · have hc := Sync1_any (h.tick hoff (wrap64 (S.ops + 1))) hoff hok ⟨(blk_far _ (hne _ _ _ k1)).trans k1.1, k1.2⟩ ⟨(blk_far _ (hne _ _ _ k2)).trans k2.1, k2.2⟩
    have HF : Hid (∀ w' e, Leaves (w.setCell ⟨d, 4, none⟩ (.int .i64 (wrap64 (S.ops + 1)))) d _ F e w' → Does w d 0 (S.doS (Hg.sync n)) F (.returned (.int .i64 0)) w') :=
      fun w' e hl => ⟨rfl, hl.does ((Kp.refl F w).setCell (.inl h.fd) _) (by unfold St.doS; rw [if_neg h1, if_pos ha, ← ha])⟩
    rw [ha] at c3
    clear h hoff hok h1 ha q0 q1 hne
    go_enter Tryz.func41, Tryz.ntmps41
    go_wp2_with (go_at_call 69; refine hc.mono ?_; rintro e w' hl; have HL := HF.out w' e hl; obtain ⟨rfl, _⟩ := hl)
    go_ret
    exact HL
  · have q2 : 0 < S.armed := by omega
    have q3 : ((S.armed - 1) == 0) = false := by simp; omega
    have hc := Sync1_any ((h.tick hoff (wrap64 (S.ops + 1))).arm (S.armed - 1) (by omega)) hoff hok ⟨(blk_far _ (hne _ _ _ k1)).trans ((blk_far _ (hne _ _ _ k1)).trans k1.1), k1.2⟩ ⟨(blk_far _ (hne _ _ _ k2)).trans ((blk_far _ (hne _ _ _ k2)).trans k2.1), k2.2⟩
    have HF : Hid (∀ w' e, Leaves ((w.setCell ⟨d, 4, none⟩ (.int .i64 (wrap64 (S.ops + 1)))).setCell ⟨d, 3, none⟩ (.int .i64 (S.armed - 1))) d _ F e w' → Does w d 0 (S.doS (Hg.sync n)) F (.returned (.int .i64 0)) w') :=
      fun w' e hl => ⟨rfl, hl.does (((Kp.refl F w).setCell (.inl h.fd) _).setCell (.inl h.fd) _) (by unfold St.doS; rw [if_neg h1, if_neg ha])⟩
    clear h hoff hok h1 ha hne
    go_enter Tryz.func41, Tryz.ntmps41
    go_wp2_with (go_at_call 69; refine hc.mono ?_; rintro e w' hl; have HL := HF.out w' e hl; obtain ⟨rfl, _⟩ := hl)
    go_ret
    exact HL

set_option maxHeartbeats 1600000 in
theorem do_trunc {w : World} {d m : Nat} {es : Array MapEntry} {clock : Nat} {hv : Value} {S : St} {F : Nat → Prop} {b1 b2 b3 : Nat} {n : Nm} {k : Nat} (h : DiskIs w d m es clock hv S F) (hoff : S.off = false) (hok : (Hg.trunc n (k : Int)).okOn S.files) (k1 : Box w F b1 (.pointer (some ⟨d, 0, none⟩)) 24) (k2 : Box w F b2 (.string n) 9) (k3 : Box w F b3 (.int .i64 (k : Int)) 3) (h1 : S.armed ≠ 1) :
    Calls Tryz.prog 41 #[.pointer (some ⟨d, 0, none⟩), .func (.func 62) #[] #[.pointer (some ⟨b1, 0, none⟩), .pointer (some ⟨b2, 0, none⟩), .pointer (some ⟨b3, 0, none⟩)]] w (Does w d S.doE (S.doS (Hg.trunc n (k : Int))) F) := by
  obtain ⟨c0, c1, c2, c3, c4, c5, fz⟩ := h.cells
  rw [doE_ne h1]
  obtain ⟨q0, q1⟩ := h.ok.armed
  have hne : ∀ b v t, Box w F b v t → b ≠ d := by rintro b v t hb rfl; have := hb.1; rw [h.hd] at this; injection this with e; injection e with e _ _; cases e
  by_cases ha : S.armed = 0
  · have hc := Truncate1_any (h.tick hoff (wrap64 (S.ops + 1))) hoff hok ⟨(blk_far _ (hne _ _ _ k1)).trans k1.1, k1.2⟩ ⟨(blk_far _ (hne _ _ _ k2)).trans k2.1, k2.2⟩ ⟨(blk_far _ (hne _ _ _ k3)).trans k3.1, k3.2⟩
    have HF : Hid (∀ w' e, Leaves (w.setCell ⟨d, 4, none⟩ (.int .i64 (wrap64 (S.ops + 1)))) d _ F e w' → Does w d 0 (S.doS (Hg.trunc n (k : Int))) F (.returned (.int .i64 0)) w') :=
      fun w' e hl => ⟨rfl, hl.does ((Kp.refl F w).setCell (.inl h.fd) _) (by unfold St.doS; rw [if_neg h1, if_pos ha, ← ha])⟩
    rw [ha] at c3
    clear h hoff hok h1 ha q0 q1 hne
    go_enter Tryz.func41, Tryz.ntmps41
    go_wp2_with (go_at_call 62; refine hc.mono ?_; rintro e w' hl; have HL := HF.out w' e hl; obtain ⟨rfl, _⟩ := hl)
    go_ret
    exact HL
  · have q2 : 0 < S.armed := by omega
    have q3 : ((S.armed - 1) == 0) = false := by simp; omega
    have hc := Truncate1_any ((h.tick hoff (wrap64 (S.ops + 1))).arm (S.armed - 1) (by omega)) hoff hok ⟨(blk_far _ (hne _ _ _ k1)).trans ((blk_far _ (hne _ _ _ k1)).trans k1.1), k1.2⟩ ⟨(blk_far _ (hne _ _ _ k2)).trans ((blk_far _ (hne _ _ _ k2)).trans k2.1), k2.2⟩ ⟨(blk_far _ (hne _ _ _ k3)).trans ((blk_far _ (hne _ _ _ k3)).trans k3.1), k3.2⟩
    have HF : Hid (∀ w' e, Leaves ((w.setCell ⟨d, 4, none⟩ (.int .i64 (wrap64 (S.ops + 1)))).setCell ⟨d, 3, none⟩ (.int .i64 (S.armed - 1))) d _ F e w' → Does w d 0 (S.doS (Hg.trunc n (k : Int))) F (.returned (.int .i64 0)) w') :=
      fun w' e hl => ⟨rfl, hl.does (((Kp.refl F w).setCell (.inl h.fd) _).setCell (.inl h.fd) _) (by unfold St.doS; rw [if_neg h1, if_neg ha])⟩
    clear h hoff hok h1 ha hne
    go_enter Tryz.func41, Tryz.ntmps41
    go_wp2_with (go_at_call 62; refine hc.mono ?_; rintro e w' hl; have HL := HF.out w' e hl; obtain ⟨rfl, _⟩ := hl)
    go_ret
    exact HL

set_option maxHeartbeats 1600000 in
theorem do_remove {w : World} {d m : Nat} {es : Array MapEntry} {clock : Nat} {hv : Value} {S : St} {F : Nat → Prop} {b1 b2 : Nat} {n : Nm} (h : DiskIs w d m es clock hv S F) (hoff : S.off = false) (_hok : (Hg.remove n).okOn S.files) (k1 : Box w F b1 (.pointer (some ⟨d, 0, none⟩)) 24) (k2 : Box w F b2 (.string n) 9) (h1 : S.armed ≠ 1) :
    Calls Tryz.prog 41 #[.pointer (some ⟨d, 0, none⟩), .func (.func 64) #[] #[.pointer (some ⟨b1, 0, none⟩), .pointer (some ⟨b2, 0, none⟩)]] w (Does w d S.doE (S.doS (Hg.remove n)) F) := by
  obtain ⟨c0, c1, c2, c3, c4, c5, fz⟩ := h.cells
  rw [doE_ne h1]
  obtain ⟨q0, q1⟩ := h.ok.armed
  have hne : ∀ b v t, Box w F b v t → b ≠ d := by rintro b v t hb rfl; have := hb.1; rw [h.hd] at this; injection this with e; injection e with e _ _; cases e
  by_cases ha : S.armed = 0
  · have hc := Remove1_any (h.tick hoff (wrap64 (S.ops + 1))) hoff ⟨(blk_far _ (hne _ _ _ k1)).trans k1.1, k1.2⟩ ⟨(blk_far _ (hne _ _ _ k2)).trans k2.1, k2.2⟩
    have HF : Hid (∀ w' e, Leaves (w.setCell ⟨d, 4, none⟩ (.int .i64 (wrap64 (S.ops + 1)))) d _ F e w' → Does w d 0 (S.doS (Hg.remove n)) F (.returned (.int .i64 0)) w') :=
      fun w' e hl => ⟨rfl, hl.does ((Kp.refl F w).setCell (.inl h.fd) _) (by unfold St.doS; rw [if_neg h1, if_pos ha, ← ha])⟩
    rw [ha] at c3
    clear h hoff _hok h1 ha q0 q1 hne
    go_enter Tryz.func41, Tryz.ntmps41
    go_wp2_with (go_at_call 64; refine hc.mono ?_; rintro e w' hl; have HL := HF.out w' e hl; obtain ⟨rfl, _⟩ := hl)
    go_ret
    exact HL
  · have q2 : 0 < S.armed := by omega
    have q3 : ((S.armed - 1) == 0) = false := by simp; omega
    have hc := Remove1_any ((h.tick hoff (wrap64 (S.ops + 1))).arm (S.armed - 1) (by omega)) hoff ⟨(blk_far _ (hne _ _ _ k1)).trans ((blk_far _ (hne _ _ _ k1)).trans k1.1), k1.2⟩ ⟨(blk_far _ (hne _ _ _ k2)).trans ((blk_far _ (hne _ _ _ k2)).trans k2.1), k2.2⟩
    have HF : Hid (∀ w' e, Leaves ((w.setCell ⟨d, 4, none⟩ (.int .i64 (wrap64 (S.ops + 1)))).setCell ⟨d, 3, none⟩ (.int .i64 (S.armed - 1))) d _ F e w' → Does w d 0 (S.doS (Hg.remove n)) F (.returned (.int .i64 0)) w') :=
      fun w' e hl => ⟨rfl, hl.does (((Kp.refl F w).setCell (.inl h.fd) _).setCell (.inl h.fd) _) (by unfold St.doS; rw [if_neg h1, if_neg ha])⟩
    clear h hoff _hok h1 ha hne
    go_enter Tryz.func41, Tryz.ntmps41
    go_wp2_with (go_at_call 64; refine hc.mono ?_; rintro e w' hl; have HL := HF.out w' e hl; obtain ⟨rfl, _⟩ := hl)
    go_ret
    exact HL
end Go.Proofs.YtggnohbfdlebiaaGreatDoor

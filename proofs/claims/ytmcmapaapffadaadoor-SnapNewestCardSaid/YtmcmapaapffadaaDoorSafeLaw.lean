/-
  What a write of a snapshot leaves at whatever operation the power goes; plain: no program stands in it.
-/
import Derived.Test.YtmcmapaapffadaaDoorClean
namespace Go.Proofs.YtmcmapaapffadaaDoor
open Go.RowKit

/-- k operations more, at least, are done. -/
structure Live (k : Nat) (S : St) : Prop where
  off : S.off = false
  armed : S.armed = 0 ∨ (k : Int) < S.armed
theorem Live.doE {k : Nat} {S : St} (h : Live (k + 1) S) : S.doE = 0 := by
  unfold St.doE; rw [if_neg]; have := h.armed; omega
theorem Live.did {k : Nat} {S : St} (h : Live (k + 1) S) (hg : Hg) : Live k (S.doS hg) ∧ (S.doS hg).files = hg.run S.files ∧ (S.doS hg).room = S.room := by
  have h1 : ¬ S.armed = 1 := by have := h.armed; omega
  unfold St.doS
  rw [if_neg h1]
  refine ⟨⟨h.off, ?_⟩, rfl, rfl⟩
  show (if S.armed = 0 then 0 else S.armed - 1) = 0 ∨ (k : Int) < (if S.armed = 0 then 0 else S.armed - 1)
  have := h.armed
  split <;> omega
theorem Live.armed_did {k : Nat} {S : St} (h : Live (k + 1) S) (hg : Hg) : (S.doS hg).armed = if S.armed = 0 then 0 else S.armed - 1 := by
  have h1 : ¬ S.armed = 1 := by have := h.armed; omega
  unfold St.doS
  rw [if_neg h1]
/-- The power goes at the next one. -/
structure Last (S : St) : Prop where
  off : S.off = false
  armed : S.armed = 1
theorem Last.doE {S : St} (h : Last S) : S.doE = 18 := by unfold St.doE; rw [if_pos h.armed]
theorem Last.did {S : St} (h : Last S) (hg : Hg) : (S.doS hg).off = true ∧ (S.doS hg).hangs = some hg ∧ (S.doS hg).files = S.files ∧ (S.doS hg).room = S.room := by
  unfold St.doS; rw [if_pos h.armed]; exact ⟨rfl, rfl, rfl, rfl⟩
theorem live_last {k : Nat} {S : St} (h : Live k S) : Live (k + 1) S ∨ S.armed = (k : Int) + 1 := by
  have := h.armed
  by_cases e : S.armed = (k : Int) + 1
  · exact .inr e
  · exact .inl ⟨h.off, by omega⟩
theorem opE_zero {S : St} : S.opE 0 = S.doE := rfl
theorem opS_zero {S : St} (h : Hg) : S.opS 0 h = S.doS h := rfl
theorem there_on {S : St} (hoff : S.off = false) {n : Nm} (hn : nameB n = true) (hs : (get S.files n).isSome = true) : S.check n true = 0 := by
  unfold St.check
  rw [if_neg (by rw [hn]; simp), hoff]
  cases e : get S.files n with
  | none => rw [e] at hs; cases hs
  | some l => simp

/-! ### the files behind each step -/
def fsA (fs : Files) (bs : List Int) : Files := put fs tN (secs (secF bs))
def fsB (fs : Files) (bs : List Int) : Files := put (fsA fs bs) tN (syncAll (secs (secF bs)))
def fsC (fs : Files) (n : Nat) (bs : List Int) : Files := put (del (fsB fs bs) tN) (nmOf n) (syncAll (secs (secF bs)))
section
variable {fs : Files} {bs : List Int}
theorem fsA_nodup (hd : (fs.map (·.1)).Nodup) : ((fsA fs bs).map (·.1)).Nodup := nodup_put hd _ _
theorem fsB_nodup (hd : (fs.map (·.1)).Nodup) : ((fsB fs bs).map (·.1)).Nodup := nodup_put (fsA_nodup hd) _ _
theorem fsC_nodup (hd : (fs.map (·.1)).Nodup) (n : Nat) : ((fsC fs n bs).map (·.1)).Nodup := nodup_put (nodup_del (fsB_nodup hd) _) _ _
theorem fsA_get {s : Nm} (h : s ≠ tN) : get (fsA fs bs) s = get fs s := get_put_ne h _
theorem fsB_get {s : Nm} (h : s ≠ tN) : get (fsB fs bs) s = get fs s := (get_put_ne h _).trans (fsA_get h)
theorem fsC_get {s : Nm} (n : Nat) (h : s ≠ tN) : get (fsC fs n bs) s = if s = nmOf n then some (syncAll (secs (secF bs))) else get fs s := by
  unfold fsC
  rw [get_put]
  split
  · rfl
  · rw [get_del_ne h, fsB_get h]
theorem fsA_getF : getF (fsA fs bs) tN = secs (secF bs) := getF_put_eq _ _ _
theorem fsB_getF : getF (fsB fs bs) tN = syncAll (secs (secF bs)) := getF_put_eq _ _ _
theorem fsA_some : (get (fsA fs bs) tN).isSome = true := by unfold fsA; rw [get_put_eq]; rfl
theorem fsB_some : (get (fsB fs bs) tN).isSome = true := by unfold fsB; rw [get_put_eq]; rfl
theorem fsA_used (ht : get fs tN = none) : used (fsA fs bs) = used fs + partsN (bs.length + 4) := by
  have h := used_put fs tN (secs (secF bs))
  rw [show getF fs tN = [] by unfold getF; rw [ht]; rfl, secs_length, nsec_secF] at h
  exact h
theorem fsB_used (ht : get fs tN = none) : used (fsB fs bs) = used fs + partsN (bs.length + 4) := by
  unfold fsB
  rw [used_put_same _ _ _ (by rw [fsA_getF, syncAll_length]), fsA_used ht]
theorem fsC_used (ht : get fs tN = none) (n : Nat) : used (fsC fs n bs) ≤ used fs + partsN (bs.length + 4) := by
  have h := used_put (del (fsB fs bs) tN) (nmOf n) (syncAll (secs (secF bs)))
  have h2 := used_del (fsB fs bs) tN
  rw [fsB_getF] at h2
  rw [fsB_used ht] at h2
  unfold fsC; omega
theorem fsA_length : (fsA fs bs).length ≤ fs.length + 1 := put_length _ _ _
theorem fsB_length : (fsB fs bs).length ≤ fs.length + 1 := by
  have := congrArg List.length (put_keys_same (v := syncAll (secs (secF bs))) (fsA_some (fs := fs) (bs := bs)))
  rw [List.length_map, List.length_map] at this
  unfold fsB; rw [this]; exact fsA_length
theorem fsC_length (n : Nat) : (fsC fs n bs).length ≤ fs.length + 1 := by
  have h1 := put_length (del (fsB fs bs) tN) (nmOf n) (syncAll (secs (secF bs)))
  have h2 := del_mem_length (get_isSome.1 (fsB_some (fs := fs) (bs := bs)))
  have h3 := fsB_length (fs := fs) (bs := bs)
  unfold fsC; omega
end
theorem Whole.stepA {fs : Files} {M : Nat → Option (List Int)} (h : Whole fs M) (bs : List Int) : Whole (fsA fs bs) M := h.of_get (fsA_nodup h.nodup) fun _ hs => fsA_get hs
theorem Whole.stepB {fs : Files} {M : Nat → Option (List Int)} (h : Whole fs M) (bs : List Int) : Whole (fsB fs bs) M := h.of_get (fsB_nodup h.nodup) fun _ hs => fsB_get hs
theorem Whole.stepC {fs : Files} {M : Nat → Option (List Int)} (h : Whole fs M) {n : Nat} {bs : List Int} (hn : n ≤ 999999999999) (hp : Pay bs) : Whole (fsC fs n bs) (upd M n bs) :=
  h.put (fsC_nodup h.nodup n) hn hp ((bytesOf_sync _).trans (bytes_secF bs)) (syncAll_safe _) fun _ hs => fsC_get n hs

/-! ### a crash leaves whole snapshots whole -/
theorem used_fate (K : List Bool) : ∀ (ns : List Nm) (p : Nat × Files), used (ns.foldl (fateStep K) p).2 = used p.2
  | [], _ => rfl
  | n :: ns, p => by
    rw [List.foldl_cons, used_fate K ns]
    exact used_put_same _ _ _ (fateN_length K _ _)
theorem Whole.fated {fs : Files} {M : Nat → Option (List Int)} (h : Whole fs M) (K : List Bool) : Whole (fateFold K (namesB fs) fs).2 M := by
  have hk := fated_keys K fs
  refine ⟨by rw [hk]; exact h.nodup, fun s hs => h.tidy s (by rw [fated_isSome] at hs; exact hs), fun n bs hn e => ?_, fun n hn e => ?_⟩
  · obtain ⟨hp, l, hl, hb, hs⟩ := h.some_ n bs hn e
    have hg : (get fs (nmOf n)).isSome = true := by rw [hl]; rfl
    obtain ⟨i, hi⟩ := fated_getF K hg
    rw [show getF fs (nmOf n) = l by unfold getF; rw [hl]; rfl, fateN_safe K hs] at hi
    refine ⟨hp, l, ?_, hb, hs⟩
    have h2 : (get (fateFold K (namesB fs) fs).2 (nmOf n)).isSome = true := by rw [fated_isSome]; exact hg
    obtain ⟨l', hl'⟩ := Option.isSome_iff_exists.1 h2
    unfold getF at hi
    rw [hl'] at hi ⊢
    rw [← hi]; rfl
  · have h1 := h.none_ n hn e
    have h2 : (get (fateFold K (namesB fs) fs).2 (nmOf n)).isSome = false := by rw [fated_isSome, h1]; rfl
    simpa using h2
theorem fated_length (K : List Bool) (fs : Files) : (fateFold K (namesB fs) fs).2.length = fs.length := by
  have := congrArg List.length (fated_keys K fs)
  simpa using this

/-- Behind a write: it has been done, or the power is off, and behind a restart the snapshots are those that were, or those with the new one. -/
structure Wrote (S : St) (M : Nat → Option (List Int)) (n : Nat) (bs : List Int) (e : Int) (T : St) : Prop where
  rm : T.room = S.room
  us : used T.files ≤ used S.files + partsN (bs.length + 4)
  len : T.files.length ≤ S.files.length + 1
  out : (e = 0 ∧ T.off = false ∧ Whole T.files (upd M n bs)) ∨ (e = 18 ∧ T.off = true ∧ ∀ dn, (Whole (T.fated dn) M ∨ Whole (T.fated dn) (upd M n bs)) ∧ used (T.fated dn) ≤ used S.files + partsN (bs.length + 4) ∧ (T.fated dn).length ≤ S.files.length + 1)

theorem write_armed {S : St} {M : Nat → Option (List Int)} {n : Nat} {bs : List Int} (hoff : S.off = false) (ha : 0 ≤ S.armed) (h : Whole S.files M) (ht : get S.files tN = none) (hn : n ≤ 999999999999) (hp : Pay bs)
    (hu : (used S.files : Int) + partsN (bs.length + 4) ≤ S.room) (hc : S.files.length < 64) : Wrote S M n bs (S.wrE n bs) (S.wrS n bs) := by
  have hr : S.rmE = 0 ∧ S.rmS = S := by unfold St.rmE St.rmS; rw [ht]; exact ⟨rfl, rfl⟩
  have hns := nsec_secF bs
  have hf : Fits S tN (secF bs).length := Fits.of (u := used S.files) nameB_t (Nat.le_refl _) (by rw [hns]; exact hu) hc
  have hno : ¬ S.off = true := by rw [hoff]; simp
  have gF : getF S.files tN = [] := by unfold getF; rw [ht]; rfl
  have e1 : S.stepE n bs 1 = S.doE := by show S.appE tN (secF bs).length = _; rw [hf.appE, if_neg hno]
  have s1 : S.stepS n bs 1 = S.appS tN (secF bs) := by show S.appT tN (secF bs) = _; rw [hf.appT, if_neg hno]
  have b1 : (S.appS tN (secF bs)).files = fsA S.files bs := by rw [appS_files, gF, List.nil_append]; rfl
  unfold St.wrE St.wrS
  rw [hr.1, hr.2, if_neg (show ¬ ((0 : Int) ≠ 0) by simp), if_neg (show ¬ ((0 : Int) ≠ 0) by simp), e1, s1]
  rcases live_last (k := 0) (S := S) ⟨hoff, by omega⟩ with hl | hl
  · -- the first is done
    rw [hl.doE, if_neg (show ¬ ((0 : Int) ≠ 0) by simp), if_neg (show ¬ ((0 : Int) ≠ 0) by simp)]
    obtain ⟨d1, d2, d3⟩ := hl.did .noop
    obtain ⟨T1, hT1⟩ : ∃ T1, S.appS tN (secF bs) = T1 := ⟨_, rfl⟩
    have i1 : Live 0 T1 := by rw [← hT1]; exact ⟨d1.off, d1.armed⟩
    have r1 : T1.room = S.room := by rw [← hT1]; exact d3
    rw [hT1] at b1
    have k1 : T1.check tN true = 0 := there_on i1.off nameB_t (by rw [b1]; exact fsA_some)
    have e2 : S.stepE n bs 2 = T1.doE := by
      show (S.stepS n bs 1).opE ((S.stepS n bs 1).check tN true) = _
      rw [s1, hT1, k1, opE_zero]
    have s2 : S.stepS n bs 2 = T1.doS (.sync tN) := by
      show (S.stepS n bs 1).opS ((S.stepS n bs 1).check tN true) (.sync tN) = _
      rw [s1, hT1, k1, opS_zero]
    rw [e2, s2]
    rcases live_last i1 with hl1 | hl1
    · rw [hl1.doE, if_neg (show ¬ ((0 : Int) ≠ 0) by simp), if_neg (show ¬ ((0 : Int) ≠ 0) by simp)]
      obtain ⟨d1, d2, d3⟩ := hl1.did (.sync tN)
      obtain ⟨T2, hT2⟩ : ∃ T2, T1.doS (.sync tN) = T2 := ⟨_, rfl⟩
      rw [hT2] at d1 d2 d3 s2
      have b2 : T2.files = fsB S.files bs := by rw [d2]; simp only [Hg.run]; rw [b1, fsA_getF]; rfl
      have r2 : T2.room = S.room := d3.trans r1
      have k2 : T2.check tN true = 0 := there_on d1.off nameB_t (by rw [b2]; exact fsB_some)
      have hnn : ¬ nameB (nmOf n) = false := by rw [nameB_nm]; simp
      have e3 : S.stepE n bs 3 = T2.doE := by
        show (S.stepS n bs 2).renE tN (nmOf n) = _
        rw [s2]; unfold St.renE; rw [if_neg hnn, k2, opE_zero]
      have s3 : S.stepS n bs 3 = T2.doS (.rename tN (nmOf n)) := by
        show (S.stepS n bs 2).renS tN (nmOf n) = _
        rw [s2]; unfold St.renS; rw [if_neg hnn, k2, opS_zero]
      rw [e3, s3]
      rcases live_last d1 with hl2 | hl2
      · obtain ⟨c1, c2, c3⟩ := hl2.did (.rename tN (nmOf n))
        have b3 : (T2.doS (.rename tN (nmOf n))).files = fsC S.files n bs := by rw [c2]; simp only [Hg.run]; rw [b2, fsB_getF]; rfl
        refine ⟨c3.trans r2, by rw [b3]; exact fsC_used ht n, by rw [b3]; exact fsC_length n, .inl ⟨hl2.doE, c1.off, by rw [b3]; exact h.stepC hn hp⟩⟩
      · have hL : Last T2 := ⟨d1.off, by simpa using hl2⟩
        obtain ⟨c1, c2, c3, c4⟩ := hL.did (.rename tN (nmOf n))
        rw [b2] at c3
        refine ⟨c4.trans r2, by rw [c3]; exact Nat.le_of_eq (fsB_used ht), by rw [c3]; exact fsB_length, .inr ⟨hL.doE, c1, fun dn => ?_⟩⟩
        unfold St.fated
        rw [c2, c3]
        cases dn with
        | false => exact ⟨.inl (h.stepB bs), Nat.le_of_eq (fsB_used ht), fsB_length⟩
        | true =>
          have : ((some (Hg.rename tN (nmOf n))).getD .noop).run (fsB S.files bs) = fsC S.files n bs := by
            simp only [Option.getD_some, Hg.run]; rw [fsB_getF]; rfl
          simp only [if_true]
          rw [this]
          exact ⟨.inr (h.stepC hn hp), fsC_used ht n, fsC_length n⟩
    · have hL : Last T1 := ⟨i1.off, by simpa using hl1⟩
      obtain ⟨c1, c2, c3, c4⟩ := hL.did (.sync tN)
      rw [hL.doE, if_pos (show (18 : Int) ≠ 0 by decide), if_pos (show (18 : Int) ≠ 0 by decide)]
      rw [b1] at c3
      refine ⟨c4.trans r1, by rw [c3]; exact Nat.le_of_eq (fsA_used ht), by rw [c3]; exact fsA_length, .inr ⟨rfl, c1, fun dn => ?_⟩⟩
      unfold St.fated
      rw [c2, c3]
      cases dn with
      | false => exact ⟨.inl (h.stepA bs), Nat.le_of_eq (fsA_used ht), fsA_length⟩
      | true =>
        have : ((some (Hg.sync tN)).getD .noop).run (fsA S.files bs) = fsB S.files bs := by
          simp only [Option.getD_some, Hg.run]; rw [fsA_getF]; rfl
        simp only [if_true]
        rw [this]
        exact ⟨.inl (h.stepB bs), Nat.le_of_eq (fsB_used ht), fsB_length⟩
  · have hL : Last S := ⟨hoff, by simpa using hl⟩
    obtain ⟨c1, c2, c3, c4⟩ := hL.did .noop
    rw [hL.doE, if_pos (show (18 : Int) ≠ 0 by decide), if_pos (show (18 : Int) ≠ 0 by decide)]
    refine ⟨c4, by rw [b1]; exact Nat.le_of_eq (fsA_used ht), by rw [b1]; exact fsA_length, .inr ⟨rfl, c1, fun dn => ?_⟩⟩
    unfold St.fated
    rw [b1, show (S.appS tN (secF bs)).hangs = some .noop from c2]
    have : ((some Hg.noop).getD .noop).run (fsA S.files bs) = fsA S.files bs := rfl
    rw [this, ite_self]
    exact ⟨.inl (h.stepA bs), Nat.le_of_eq (fsA_used ht), fsA_length⟩
end Go.Proofs.YtmcmapaapffadaaDoor

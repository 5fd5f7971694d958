/-
  DiskSynced, plainly: the disk's states, and what the bytes are behind the crash.
-/
import Derived.Test.YtdncdnnlmddjhaaDoorTrunc
namespace Go.Proofs.YtdncdnnlmddjhaaDoor
open Go.RowKit

structure SyncInv (i : Nat) (S : St) : Prop where
  idle : Idle S
  room : S.room = 5000
  count : S.files.length ≤ i
  used : used S.files ≤ 7 * i
  lens : ∀ s ∈ getF S.files nmA, s.bytes.length = 32
theorem SyncInv.fits {i : Nat} {S : St} (h : SyncInv i S) (hi : i ≤ 61) {n : Nm} (hn : nameB n = true) {len : Nat} (hl : nsec len ≤ 10) : Fits S n len :=
  Fits.of hn h.used (by rw [h.room]; omega) (by have := h.count; omega)
theorem SyncInv.app {i : Nat} {S : St} (h : SyncInv i S) (hi : i ≤ 61) {n : Nm} (hn : nameB n = true) {bs : List Int} (hl : nsec bs.length ≤ 7) : SyncInv (i + 1) (S.appT n bs) := by
  have hf := h.fits hi hn (len := bs.length) (by omega)
  rw [hf.idleT h.idle]
  have hc := h.count
  have hu := h.used
  refine ⟨h.idle.appS n bs, (appS_room S n bs).trans h.room, ?_, ?_, ?_⟩
  · rw [appS_files]; have := put_length S.files n (getF S.files n ++ secs bs); omega
  · rw [appS_files, used_put_le, secs_length]; omega
  · rw [appS_files]
    by_cases e : nmA = n
    · subst e
      rw [getF_put_eq]
      intro s hs
      rcases List.mem_append.1 hs with hs | hs
      · exact h.lens s hs
      · exact secs_len bs s hs
    · rw [getF_put_ne e]; exact h.lens
theorem SyncInv.mono {i j : Nat} {S : St} (h : SyncInv i S) (hij : i ≤ j) : SyncInv j S := ⟨h.idle, h.room, Nat.le_trans h.count hij, Nat.le_trans h.used (Nat.mul_le_mul_left 7 hij), h.lens⟩
theorem SyncInv.sync {i : Nat} {S : St} (h : SyncInv i S) : SyncInv (i + 1) (S.opS (S.check nmA true) (.sync nmA)) := by
  unfold St.opS
  split
  · rename_i hc
    have ht : (get S.files nmA).isSome = true := by
      rw [h.idle.check nmA (by decide)] at hc
      cases hg : get S.files nmA with
      | none => rw [hg] at hc; simp at hc
      | some l => rfl
    have hco := h.count
    have hu := h.used
    refine ⟨h.idle.did _, (h.idle.did_room _).trans h.room, ?_, ?_, ?_⟩
    · rw [h.idle.did_files]; show (put S.files nmA _).length ≤ _; have := put_length S.files nmA (syncAll (getF S.files nmA)); omega
    · rw [h.idle.did_files]; show Proofs.YtdncdnnlmddjhaaDoor.used (put S.files nmA _) ≤ _; rw [used_put_same _ _ _ (syncAll_length _)]; omega
    · rw [h.idle.did_files]; show ∀ s ∈ getF (put S.files nmA _) nmA, _; rw [getF_put_eq]; exact syncAll_len h.lens
  · exact h.mono (Nat.le_succ i)

structure SynPath (S : St) (last : List Int) (dn : Bool) (L : List Bool) (S1 S2 S3 S5 S6 : St) (X Y Z : List Int) (x m : Nat) : Prop where
  e1 : S.appE nmA 0 = 0
  s1 : S.appT nmA [] = S1
  e2 : S1.opE (S1.check nmA true) = 0
  s2 : S1.opS (S1.check nmA true) (.sync nmA) = S2
  c2 : S2.check nmA true = 0
  b2 : bytesOf (getF S2.files nmA) = X
  e3 : S2.appE nmA last.length = 0
  s3 : S2.appT nmA last = S3
  c3 : S3.check nmA true = 0
  b3 : bytesOf (getF S3.files nmA) = X ++ Y
  o3 : S3.off = false
  e5 : ({ S3 with armed := 1 } : St).appE nmB 0 = 18
  s5 : ({ S3 with armed := 1 } : St).appT nmB [] = S5
  o5 : S5.off = true
  s6 : S5.restart dn L = S6
  c6 : S6.check nmA true = 0
  b6 : bytesOf (getF S6.files nmA) = X ++ Z
  lx : X.length = 32 * x
  ly : Y.length = 32 * m
  lz : Z.length = 32 * m
  small : x + m ≤ 600
  bits : ∀ k, k < m → (Z.drop (32 * k)).take 32 = (Y.drop (32 * k)).take 32 ∨ (Z.drop (32 * k)).take 32 = List.replicate 32 0
theorem length_le_used {fs : Files} (n : Nm) : (getF fs n).length ≤ used fs := by
  induction fs with
  | nil => simp [getF, get, used]
  | cons p fs ih =>
    obtain ⟨k, l⟩ := p
    by_cases h : n = k
    · subst h; simp [getF, get, used]
    · have : getF ((k, l) :: fs) n = getF fs n := by simp [getF, get, h]
      rw [this]
      have : used ((k, l) :: fs) = l.length + used fs := by simp [used]
      omega
theorem syn_path {i : Nat} {S : St} (h : SyncInv i S) (hi : i ≤ 60) (last : List Int) (hl : last.length ≤ 300) (dn : Bool) (L : List Bool) : ∃ S1 S2 S3 S5 S6 X Y Z x m, SynPath S last dn L S1 S2 S3 S5 S6 X Y Z x m := by
  have hnA : nameB nmA = true := by decide
  have hnB : nameB nmB = true := by decide
  have hab : nmA ≠ nmB := by decide
  have n0 : nsec ([] : List Int).length = 0 := rfl
  have nl : nsec last.length ≤ 10 := nsec_le (by omega)
  have f1 := h.fits (by omega) hnA (len := ([] : List Int).length) (by omega)
  obtain ⟨S1, hS1⟩ : ∃ S1, S.appT nmA [] = S1 := ⟨_, rfl⟩
  have h1 : SyncInv (i + 1) S1 := by rw [← hS1]; exact h.app (by omega) hnA (by omega)
  have t1 : (get S1.files nmA).isSome = true := by rw [← hS1, f1.idleT h.idle, appS_files, get_put_eq]; rfl
  have c1 : S1.check nmA true = 0 := h1.idle.there hnA t1
  have used1 : used S1.files = used S.files := by rw [← hS1, f1.idleT h.idle, appS_files, used_put_le, secs_length, n0]; rfl
  have count1 := h1.count
  obtain ⟨S2, hS2⟩ : ∃ S2, S1.opS (S1.check nmA true) (.sync nmA) = S2 := ⟨_, rfl⟩
  have hS2' : S1.doS (.sync nmA) = S2 := by rw [← hS2, c1]; rfl
  have i2 : Idle S2 := by rw [← hS2']; exact h1.idle.did _
  have fl2 : S2.files = put S1.files nmA (syncAll (getF S1.files nmA)) := by rw [← hS2', h1.idle.did_files]; rfl
  have r2 : S2.room = 5000 := by rw [← hS2', h1.idle.did_room, h1.room]
  have g2 : getF S2.files nmA = syncAll (getF S1.files nmA) := by rw [fl2, getF_put_eq]
  have t2 : (get S2.files nmA).isSome = true := by rw [fl2, get_put_eq]; rfl
  have c2 : S2.check nmA true = 0 := i2.there hnA t2
  have used2 : used S2.files = used S1.files := by rw [fl2, used_put_same _ _ _ (syncAll_length _)]
  have count2 : S2.files.length = S1.files.length := by
    rw [fl2]; have := congrArg List.length (put_keys_same (v := syncAll (getF S1.files nmA)) t1); simpa using this
  have hu := h.used
  have f3 : Fits S2 nmA last.length := Fits.of hnA (Nat.le_of_eq used2) (by rw [r2]; omega) (by omega)
  obtain ⟨S3, hS3⟩ : ∃ S3, S2.appT nmA last = S3 := ⟨_, rfl⟩
  have hS3' : S2.appS nmA last = S3 := by rw [← hS3, f3.idleT i2]
  have i3 : Idle S3 := by rw [← hS3']; exact i2.appS _ _
  have fl3 : S3.files = put S2.files nmA (getF S2.files nmA ++ secs last) := by rw [← hS3']; rfl
  have r3 : S3.room = 5000 := by rw [← hS3', appS_room, r2]
  have t3 : (get S3.files nmA).isSome = true := by rw [fl3, get_put_eq]; rfl
  have g3 : getF S3.files nmA = getF S2.files nmA ++ secs last := by rw [fl3, getF_put_eq]
  have used3 : used S3.files = used S2.files + nsec last.length := by rw [fl3, used_put_le, secs_length]
  have count3 : S3.files.length = S2.files.length := by
    rw [fl3]; have := congrArg List.length (put_keys_same (v := getF S2.files nmA ++ secs last) t2); simpa using this
  have f5 : Fits S3 nmB ([] : List Int).length := Fits.of hnB (Nat.le_of_eq used3) (by rw [r3, n0]; omega) (by omega)
  obtain ⟨e5, s5⟩ := armed_append f5 i3.off
  obtain ⟨S5, hS5⟩ : ∃ S5, ({ S3 with armed := 1 } : St).appT nmB [] = S5 := ⟨_, rfl⟩
  rw [hS5] at s5
  have fl5 : S5.files = put S3.files nmB (getF S3.files nmB ++ secs []) := by rw [s5]
  have g5 : getF S5.files nmA = getF S3.files nmA := by rw [fl5, getF_put_ne hab]
  have t5 : (get S5.files nmA).isSome = true := by rw [fl5, get_put_ne hab]; exact t3
  have hh5 : S5.hangs = some .noop := by rw [s5]
  have i6 := restart_idle S5 dn L
  have fl6 := restart_files hh5 dn L
  obtain ⟨q, hq⟩ := fated_getF L t5
  obtain ⟨A, hA⟩ : ∃ A, syncAll (getF S1.files nmA) = A := ⟨_, rfl⟩
  have hAs : AllSafe A := by rw [← hA]; exact syncAll_safe _
  have hAl : ∀ s ∈ A, s.bytes.length = 32 := by rw [← hA]; exact syncAll_len h1.lens
  rw [hA] at g2
  rw [g2] at g3
  have g6 : getF (S5.restart dn L).files nmA = A ++ fateN L (q + uns A) (secs last) := by rw [fl6, hq, g5, g3, fateN_append, fateN_safe L hAs]
  have lA : A.length ≤ 427 := by
    have h0 : (getF S2.files nmA).length ≤ used S2.files := length_le_used nmA
    rw [g2] at h0; omega
  have lR : (fateN L (q + uns A) (secs last)).length = nsec last.length := by rw [fateN_length, secs_length]
  have hRl := fateN_len (K := L) (secs_len last) (q + uns A)
  refine ⟨S1, S2, S3, S5, S5.restart dn L, bytesOf A, bytesOf (secs last), bytesOf (fateN L (q + uns A) (secs last)), A.length, nsec last.length, f1.idleE h.idle, hS1, by rw [h1.idle.opE, c1], hS2, c2, by rw [g2], f3.idleE i2, hS3, i3.there hnA t3, by rw [g3, bytesOf_append], i3.off, e5, hS5, by rw [s5], rfl, i6.there hnA (by rw [fl6, fated_isSome, t5]), by rw [g6, bytesOf_append], bytesOf_length hAl, by rw [bytesOf_length (secs_len last), secs_length], by rw [bytesOf_length hRl, lR], by omega, fun k hk => ?_⟩
  have hk1 : k < (secs last).length := by rw [secs_length]; exact hk
  have hk2 : k < (fateN L (q + uns A) (secs last)).length := by rw [lR]; exact hk
  rw [bytesOf_at hRl hk2, bytesOf_at (secs_len last) hk1]
  obtain ⟨s, hs, hs2⟩ := fateN_get L hk1 (q + uns A)
  rw [List.getElem?_eq_getElem hk2] at hs
  injection hs with hs
  rw [hs]; exact hs2
end Go.Proofs.YtdncdnnlmddjhaaDoor

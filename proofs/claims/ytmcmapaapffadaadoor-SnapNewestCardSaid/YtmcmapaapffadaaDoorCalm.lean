/-
  A disk of whole snapshots, and what snap.Write does to it; plain: no program stands in it.
-/
import Derived.Test.YtmcmapaapffadaaDoorOrder
import Derived.Test.YtmcmapaapffadaaDoorPlain
namespace Go.Proofs.YtmcmapaapffadaaDoor
open Go.RowKit

theorem nameB_nm (n : Nat) : nameB (nmOf n) = true := by
  have e : (nmOf n).data.toList = 115 :: (digs n 12).map fun x => UInt8.ofNat x.toNat := by
    unfold nmOf; rw [strOfNums_data]; simp [nameK]
  unfold nameB
  rw [nm_size, e]
  have : ∀ k, ((digs n k).map fun x => UInt8.ofNat x.toNat).all (fun c => (decide (97 ≤ c.toNat) && decide (c.toNat ≤ 122)) || (decide (48 ≤ c.toNat) && decide (c.toNat ≤ 57))) = true := by
    intro k
    induction k with
    | zero => rfl
    | succ k ih =>
      have h10 : n / 10 ^ k % 10 < 10 := Nat.mod_lt _ (by decide)
      have hf := fig_nat n k
      simp only [digs, List.map_cons, List.all_cons, ih, Bool.and_true]
      have h1 : 48 ≤ (fig n k).toNat := by omega
      have h2 : (fig n k).toNat ≤ 57 := by omega
      show (_ || (decide (48 ≤ (fig n k).toNat) && decide ((fig n k).toNat ≤ 57))) = true
      rw [decide_eq_true h1, decide_eq_true h2]; simp
  rw [List.all_cons, this 12]
  decide
theorem nameB_t : nameB tN = true := by decide
theorem nm_ne_t (n : Nat) : nmOf n ≠ tN := fun h => by
  have := nm_size n
  rw [h] at this; cases this
theorem bytes_secs {bs : List Int} {q : Nat} (h : bs.length = 32 * q) : bytesOf (secs bs) = bs := by
  have hn : nsec bs.length = q := by unfold nsec; omega
  have key : ∀ k, k ≤ q → ((List.range k).map (secAt bs)).flatMap (·.bytes) = bs.take (32 * k) := by
    intro k
    induction k with
    | zero => simp
    | succ k ih =>
      intro hk
      rw [List.range_succ, List.map_append, List.flatMap_append, ih (by omega), show 32 * (k + 1) = 32 * k + 32 by omega, List.take_add]
      congr 1
      simp only [List.map_cons, List.map_nil, List.flatMap_cons, List.flatMap_nil, List.append_nil, secAt]
      have : ((bs.drop (32 * k)).take 32).length = 32 := by rw [List.length_take, List.length_drop]; omega
      rw [this, Nat.sub_self, List.replicate_zero, List.append_nil]
  unfold bytesOf secs
  rw [hn]
  rw [key q (Nat.le_refl _), ← h, List.take_length]
theorem bytes_secF (bs : List Int) : bytesOf (secs (secF bs)) = secF bs := bytes_secs (secF_length bs)
theorem nsec_secF (bs : List Int) : nsec (secF bs).length = partsN (bs.length + 4) := by rw [secF_length]; unfold nsec; omega
theorem nodup_put {α : Type} {l : List (Nm × α)} (h : (l.map (·.1)).Nodup) (x : Nm) (v : α) : ((put l x v).map (·.1)).Nodup := by
  rw [put_keys]
  split
  · exact h
  · rename_i hx
    rw [List.nodup_append]
    refine ⟨h, by simp, fun a ha b hb e => hx ?_⟩
    rw [List.mem_singleton] at hb
    rw [get_isSome, ← hb, ← e]; exact ha
theorem nodup_del {K : Type} [DecidableEq K] {α : Type} {l : List (K × α)} (h : (l.map (·.1)).Nodup) (x : K) : ((del l x).map (·.1)).Nodup := by
  rw [del_keys]; exact h.erase x
theorem del_mem_length {K : Type} [DecidableEq K] {α : Type} {l : List (K × α)} {x : K} (h : x ∈ l.map (·.1)) : (del l x).length + 1 = l.length := by
  have e1 := congrArg List.length (del_keys l x)
  rw [List.length_map, List.length_erase_of_mem h, List.length_map] at e1
  have := List.length_pos_of_mem h
  rw [List.length_map] at this
  omega
/-- A payload. -/
structure Pay (bs : List Int) : Prop where
  byts : Byts bs
  one : 1 ≤ bs.length
  most : bs.length ≤ 400000
/-- The files are whole snapshots: M says which; besides them there may be "t". -/
structure Whole (fs : Files) (M : Nat → Option (List Int)) : Prop where
  nodup : (fs.map (·.1)).Nodup
  tidy : ∀ s, (get fs s).isSome = true → s = tN ∨ ∃ n ≤ 999999999999, s = nmOf n
  some_ : ∀ n bs, n ≤ 999999999999 → M n = some bs → Pay bs ∧ ∃ l, get fs (nmOf n) = some l ∧ bytesOf l = secF bs ∧ AllSafe l
  none_ : ∀ n, n ≤ 999999999999 → M n = none → get fs (nmOf n) = none
def upd (M : Nat → Option (List Int)) (n : Nat) (bs : List Int) : Nat → Option (List Int) := fun m => if m = n then some bs else M m
theorem Whole.tidyS {fs : Files} {M : Nat → Option (List Int)} (h : Whole fs M) : TidyS fs := by
  intro s hs
  rcases h.tidy s (get_isSome.2 hs) with rfl | h
  · exact .inl (by rw [tN_size]; decide)
  · exact .inr h
theorem Whole.isSome {fs : Files} {M : Nat → Option (List Int)} (h : Whole fs M) {n : Nat} (hn : n ≤ 999999999999) : (get fs (nmOf n)).isSome = (M n).isSome := by
  cases e : M n with
  | none => rw [h.none_ n hn e]; rfl
  | some bs => obtain ⟨_, l, hl, _⟩ := h.some_ n bs hn e; rw [hl]; rfl
/-- The same files, "t" aside. -/
theorem Whole.of_get {fs gs : Files} {M : Nat → Option (List Int)} (h : Whole fs M) (hd : (gs.map (·.1)).Nodup) (hg : ∀ s, s ≠ tN → get gs s = get fs s) : Whole gs M := by
  refine ⟨hd, fun s hs => ?_, fun n bs hn e => ?_, fun n hn e => ?_⟩
  · by_cases ht : s = tN
    · exact .inl ht
    · rw [hg s ht] at hs; exact h.tidy s hs
  · rw [hg _ (nm_ne_t n)]; exact h.some_ n bs hn e
  · rw [hg _ (nm_ne_t n)]; exact h.none_ n hn e
theorem Whole.put {fs gs : Files} {M : Nat → Option (List Int)} (h : Whole fs M) (hd : (gs.map (·.1)).Nodup) {n : Nat} {bs : List Int} {l : List Sec} (hn : n ≤ 999999999999) (hp : Pay bs) (hl : bytesOf l = secF bs) (hs : AllSafe l)
    (hg : ∀ s, s ≠ tN → get gs s = if s = nmOf n then some l else get fs s) : Whole gs (upd M n bs) := by
  refine ⟨hd, fun s hs => ?_, fun m bs' hm e => ?_, fun m hm e => ?_⟩
  · by_cases ht : s = tN
    · exact .inl ht
    · by_cases hsn : s = nmOf n
      · exact .inr ⟨n, hn, hsn⟩
      · rw [hg s ht, if_neg hsn] at hs; exact h.tidy s hs
  · rw [hg _ (nm_ne_t m)]
    unfold upd at e
    by_cases hmn : m = n
    · subst hmn
      rw [if_pos rfl] at e; injection e with e; subst e
      rw [if_pos rfl]; exact ⟨hp, l, rfl, hl, hs⟩
    · rw [if_neg hmn] at e
      rw [if_neg (fun h' => hmn (nmOf_inj hm hn h'))]; exact h.some_ m bs' hm e
  · rw [hg _ (nm_ne_t m)]
    unfold upd at e
    by_cases hmn : m = n
    · rw [if_pos hmn] at e; cases e
    · rw [if_neg hmn] at e
      rw [if_neg (fun h' => hmn (nmOf_inj hm hn h'))]; exact h.none_ m hm e
/-- "t" is taken away. -/
theorem rm_calm {S : St} (hi : Idle S) (hd : (S.files.map (·.1)).Nodup) : S.rmE = 0 ∧ Idle S.rmS ∧ S.rmS.room = S.room ∧ get S.rmS.files tN = none ∧ (∀ s, s ≠ tN → get S.rmS.files s = get S.files s) ∧ (S.rmS.files.map (·.1)).Nodup ∧
    used S.rmS.files ≤ used S.files ∧ S.rmS.files.length ≤ S.files.length := by
  unfold St.rmE St.rmS
  by_cases h : (get S.files tN).isSome = true
  · rw [if_pos h, if_pos h, hi.there nameB_t h, hi.opE]
    have e : S.opS 0 (.remove tN) = S.doS (.remove tN) := rfl
    rw [e]
    have ef : (S.doS (.remove tN)).files = del S.files tN := hi.did_files _
    rw [ef]
    refine ⟨rfl, hi.did _, hi.did_room _, by rw [get_del hd, if_pos rfl], fun s hs => get_del_ne hs, nodup_del hd tN, ?_, del_length _ _⟩
    have := used_del S.files tN; omega
  · rw [if_neg h, if_neg h]
    refine ⟨rfl, hi, rfl, by simpa using h, fun s _ => rfl, hd, Nat.le_refl _, Nat.le_refl _⟩
theorem write_calm {S : St} {M : Nat → Option (List Int)} {n : Nat} {bs : List Int} (hi : Idle S) (h : Whole S.files M) (hn : n ≤ 999999999999) (hp : Pay bs) (hu : (used S.files : Int) + partsN (bs.length + 4) ≤ S.room) (hc : S.files.length < 64) :
    S.wrE n bs = 0 ∧ Idle (S.wrS n bs) ∧ Whole (S.wrS n bs).files (upd M n bs) ∧ (S.wrS n bs).room = S.room ∧ get (S.wrS n bs).files tN = none ∧ used (S.wrS n bs).files ≤ used S.files + partsN (bs.length + 4) ∧ (S.wrS n bs).files.length ≤ S.files.length + 1 := by
  obtain ⟨e0, i0, r0, t0, g0, d0, u0, c0⟩ := rm_calm hi h.nodup
  have hns := nsec_secF bs
  obtain ⟨T, hT⟩ : ∃ T, S.rmS = T := ⟨_, rfl⟩
  rw [hT] at i0 r0 t0 g0 d0 u0 c0
  have f1 : Fits T tN (secF bs).length := Fits.of (u := used S.files) nameB_t u0 (by rw [hns, r0]; exact hu) (by omega)
  have a1 : T.stepE n bs 1 = 0 := f1.idleE i0
  obtain ⟨T1, hT1⟩ : ∃ T1, T.stepS n bs 1 = T1 := ⟨_, rfl⟩
  have hT1' : T.appS tN (secF bs) = T1 := by rw [← hT1]; exact (f1.idleT i0).symm
  have gF : getF T.files tN = [] := by unfold getF; rw [t0]; rfl
  have b1 : T1.files = put T.files tN (secs (secF bs)) := by rw [← hT1', appS_files, gF, List.nil_append]
  have i1 : Idle T1 := by rw [← hT1']; exact i0.appS _ _
  have r1 : T1.room = S.room := by rw [← hT1', appS_room, r0]
  have k1 : T1.check tN true = 0 := i1.there nameB_t (by rw [b1, get_put_eq]; rfl)
  have a2 : T.stepE n bs 2 = 0 := by
    show (T.stepS n bs 1).opE ((T.stepS n bs 1).check tN true) = 0
    rw [hT1, i1.opE, k1]
  obtain ⟨T2, hT2⟩ : ∃ T2, T.stepS n bs 2 = T2 := ⟨_, rfl⟩
  have hT2' : T1.doS (.sync tN) = T2 := by
    rw [← hT2]
    show _ = (T.stepS n bs 1).opS ((T.stepS n bs 1).check tN true) (.sync tN)
    rw [hT1, k1]; rfl
  have b2 : T2.files = put T1.files tN (syncAll (secs (secF bs))) := by
    rw [← hT2', i1.did_files]; simp only [Hg.run]; rw [b1, getF_put_eq]
  have i2 : Idle T2 := by rw [← hT2']; exact i1.did _
  have r2 : T2.room = S.room := by rw [← hT2', i1.did_room, r1]
  have k2 : T2.check tN true = 0 := i2.there nameB_t (by rw [b2, get_put_eq]; rfl)
  have hnn : ¬ nameB (nmOf n) = false := by rw [nameB_nm]; simp
  have a3 : T.stepE n bs 3 = 0 := by
    show (T.stepS n bs 2).renE tN (nmOf n) = 0
    rw [hT2]; unfold St.renE; rw [if_neg hnn, k2, i2.opE]
  obtain ⟨T3, hT3⟩ : ∃ T3, T.stepS n bs 3 = T3 := ⟨_, rfl⟩
  have hT3' : T2.doS (.rename tN (nmOf n)) = T3 := by
    rw [← hT3]
    show _ = (T.stepS n bs 2).renS tN (nmOf n)
    rw [hT2]; unfold St.renS; rw [if_neg hnn, k2]; rfl
  have b3 : T3.files = put (del T2.files tN) (nmOf n) (syncAll (secs (secF bs))) := by
    rw [← hT3', i2.did_files]; simp only [Hg.run]; rw [show getF T2.files tN = syncAll (secs (secF bs)) by rw [b2, getF_put_eq]]
  have eS : S.wrS n bs = T3 := by
    unfold St.wrS
    rw [e0, if_neg (by simp), hT, a1, if_neg (by simp), a2, if_neg (by simp), hT3]
  have eE : S.wrE n bs = 0 := by
    unfold St.wrE
    rw [e0, if_neg (by simp), hT, a1, if_neg (by simp), a2, if_neg (by simp), a3]
  have d2 : (T2.files.map (·.1)).Nodup := by rw [b2, b1]; exact nodup_put (nodup_put d0 _ _) _ _
  have d3 : (T3.files.map (·.1)).Nodup := by rw [b3]; exact nodup_put (nodup_del d2 _) _ _
  have gt : ∀ s, s ≠ tN → get T3.files s = if s = nmOf n then some (syncAll (secs (secF bs))) else get S.files s := by
    intro s hs
    rw [b3, get_put]
    split
    · rfl
    · rw [get_del_ne hs, b2, get_put_ne hs, b1, get_put_ne hs, g0 s hs]
  have htN : get T3.files tN = none := by rw [b3, get_put_ne (nm_ne_t n).symm, get_del d2, if_pos rfl]
  rw [eS, eE]
  refine ⟨rfl, by rw [← hT3']; exact i2.did _, h.put d3 hn hp ((bytesOf_sync _).trans (bytes_secF bs)) (syncAll_safe _) gt, by rw [← hT3', i2.did_room, r2], htN, ?_, ?_⟩
  · have h1 := used_put T.files tN (secs (secF bs))
    rw [gF, ← b1, secs_length, hns, List.length_nil] at h1
    have h2 := used_put T1.files tN (syncAll (secs (secF bs)))
    rw [show getF T1.files tN = secs (secF bs) by rw [b1, getF_put_eq], ← b2, syncAll_length] at h2
    have h3 := used_del T2.files tN
    rw [show getF T2.files tN = syncAll (secs (secF bs)) by rw [b2, getF_put_eq]] at h3
    have h4 := used_put (del T2.files tN) (nmOf n) (syncAll (secs (secF bs)))
    rw [← b3] at h4
    omega
  · rw [b3]
    have h1 := put_length (del T2.files tN) (nmOf n) (syncAll (secs (secF bs)))
    have h2 : (del T2.files tN).length + 1 ≤ T.files.length + 1 := by
      have hm : tN ∈ T2.files.map (·.1) := get_isSome.1 (by rw [b2, get_put_eq]; rfl)
      have e1 := del_mem_length hm
      have e2 : T2.files.length = T1.files.length := by
        have := congrArg List.length (put_keys_same (v := syncAll (secs (secF bs))) (show (get T1.files tN).isSome = true by rw [b1, get_put_eq]; rfl))
        rw [List.length_map, List.length_map, ← b2] at this; exact this
      have e3 := put_length T.files tN (secs (secF bs))
      rw [← b1] at e3
      omega
    omega
theorem whole_new (m : Int) : Whole (St.new m).files fun _ => none :=
  ⟨List.nodup_nil, fun s hs => (by cases hs), fun n bs _ e => (by cases e), fun n _ _ => rfl⟩
theorem Whole.listed {fs : Files} {M : Nat → Option (List Int)} (h : Whole fs M) {l : List Nat} (hl : l.Pairwise (· < ·)) (hm : ∀ n, n ∈ l ↔ n ≤ 999999999999 ∧ (M n).isSome = true) : snapsOf fs = l :=
  snaps_eq h.tidyS h.nodup hl fun n => (hm n).trans ⟨fun ⟨h1, h2⟩ => ⟨h1, by rw [h.isSome h1]; exact h2⟩, fun ⟨h1, h2⟩ => ⟨h1, by rw [← h.isSome h1]; exact h2⟩⟩
/-- The newest is there, and whole. -/
theorem Whole.newest {S : St} {M : Nat → Option (List Int)} (h : Whole S.files M) (hoff : S.off = false) {n : Nat} {bs : List Int} (hn : n ≤ 999999999999) (e : M n = some bs) (hmax : ∀ m, m ≤ 999999999999 → (M m).isSome = true → m ≤ n) :
    Pay bs ∧ (∃ ns, snapsOf S.files = ns ++ [n]) ∧ S.check (nmOf n) true = 0 ∧ bytesOf (getF S.files (nmOf n)) = secF bs := by
  obtain ⟨hp, l, hl, hb, _⟩ := h.some_ n bs hn e
  refine ⟨hp, snaps_last h.tidyS h.nodup hn (by rw [hl]; rfl) fun m hm hs => hmax m hm (by rw [← h.isSome hm]; exact hs), ?_, ?_⟩
  · unfold St.check
    rw [if_neg (by rw [nameB_nm]; simp), hoff, hl]; simp
  · unfold getF; rw [hl]; exact hb
end Go.Proofs.YtmcmapaapffadaaDoor

/-
  Merged of my texts, in order: LogCrash, Crash, LScript, SafeSt, SafeW.
-/
import Derived.Test.YtggnohbfdlebiaaGreatDoorM1
import Derived.Test.YtggnohbfdlebiaaGreatDoorM8
import Derived.Test.YtggnohbfdlebiaaGreatDoorM11
import Derived.Test.YtggnohbfdlebiaaGreatDoorM14
import Derived.Test.YtggnohbfdlebiaaGreatDoorM26
import Derived.Deep.Grids
import Derived.SizedLaws
import Derived.Lib.SmallJoins
import Derived.Deep.Slices
import Derived.Deep.Fields
/-
  A log's disk behind a crash; plain: no program stands in it.
-/
namespace Go.Proofs.YtggnohbfdlebiaaGreatDoor
open Go.RowKit

theorem used_fate (K : List Bool) : ∀ (ns : List Nm) (p : Nat × Files), used (ns.foldl (fateStep K) p).2 = used p.2
  | [], _ => rfl
  | n :: ns, p => by
    rw [List.foldl_cons, used_fate K ns]
    exact used_put_same _ _ _ (fateN_length K _ _)
theorem fated_length (K : List Bool) (fs : Files) : (fateFold K (namesB fs) fs).2.length = fs.length := by
  have := congrArg List.length (fated_keys K fs)
  simpa using this
theorem get_of_getF {fs gs : Files} {s : Nm} (h : (get gs s).isSome = (get fs s).isSome) (hf : getF gs s = getF fs s) : get gs s = get fs s := by
  unfold getF at hf
  cases e : get fs s with
  | none => rw [e] at h; simpa using h
  | some l =>
    rw [e] at h hf
    obtain ⟨l', hl'⟩ := Option.isSome_iff_exists.1 h
    rw [hl'] at hf ⊢
    simpa using hf
theorem getF_none {fs : Files} {s : Nm} (h : (get fs s).isSome = false) : getF fs s = [] := by
  unfold getF
  have : get fs s = none := by simpa using h
  rw [this]; rfl
/-- What each file is behind a restart. -/
theorem fated_each (K : List Bool) (fs : Files) (s : Nm) : ∃ i, getF (fateFold K (namesB fs) fs).2 s = fateN K i (getF fs s) := by
  cases e : (get fs s).isSome with
  | true => exact fated_getF K e
  | false => exact ⟨0, by rw [getF_none e, getF_none (by rw [fated_isSome]; exact e)]; rfl⟩
theorem fated_safe (K : List Bool) (fs : Files) : Safe (fateFold K (namesB fs) fs).2 := fun s => by
  obtain ⟨i, hi⟩ := fated_each K fs s
  rw [hi]; exact fateN_all K _ i
/-- A file all of whose sectors were synced stays. -/
theorem fated_keeps (K : List Bool) {fs : Files} {s : Nm} (h : AllSafe (getF fs s)) : get (fateFold K (namesB fs) fs).2 s = get fs s := by
  obtain ⟨i, hi⟩ := fated_each K fs s
  exact get_of_getF (fated_isSome K fs s) (by rw [hi, fateN_safe K h])
theorem fated_nodup (K : List Bool) {fs : Files} (h : (fs.map (·.1)).Nodup) : ((fateFold K (namesB fs) fs).2.map (·.1)).Nodup := by rw [fated_keys]; exact h
/-- A record that was torn is whole, or broken off somewhere. -/
theorem torn_or {n : Nat} {body V : List Int} (hl : V.length = 32 * partsN body.length) (hx : ∀ j, j < partsN body.length → chunkOf V j = lsecOne n body (partsN body.length) j ∨ chunkOf V j = List.replicate 32 0) :
    V = lcutN n body (partsN body.length) (partsN body.length) ∨ ∃ i0, i0 < partsN body.length ∧ Front V n body i0 ∧ Broken V i0 := by
  obtain ⟨P, hP⟩ : ∃ P, partsN body.length = P := ⟨_, rfl⟩
  rw [hP] at hl hx ⊢
  have key : ∀ k, k ≤ P → V.take (32 * k) = lcutN n body P k ∧ (∀ j, j < k → chunkOf V j = lsecOne n body P j) ∨ ∃ i0, i0 < P ∧ Front V n body i0 ∧ Broken V i0 := by
    intro k
    induction k with
    | zero => intro _; exact .inl ⟨by simp [lcutN], fun j hj => by omega⟩
    | succ k ih =>
      intro hk
      rcases ih (by omega) with ⟨h1, h2⟩ | h
      · rcases hx k (by omega) with h3 | h3
        · refine .inl ⟨?_, fun j hj => ?_⟩
          · rw [lcutN_succ, ← h1, ← h3, show 32 * (k + 1) = 32 * k + 32 by omega, List.take_add]
            rfl
          · by_cases hjk : j = k
            · rw [hjk]; exact h3
            · exact h2 j (by omega)
        · refine .inr ⟨k, by omega, ⟨by omega, fun j hj => by rw [hP]; exact h2 j hj⟩, .inr ?_⟩
          rw [h3]; simp
      · exact .inr h
  rcases key P (Nat.le_refl _) with ⟨h1, _⟩ | h
  · rw [← hl, List.take_length] at h1
    exact .inl h1
  · exact .inr h
theorem chunk_secs (K : List Bool) (i : Nat) {bs : List Int} {q : Nat} (h : bs.length = 32 * q) : (bytesOf (fateN K i (secs bs))).length = 32 * q ∧ ∀ j, j < q → chunkOf (bytesOf (fateN K i (secs bs))) j = chunkOf bs j ∨ chunkOf (bytesOf (fateN K i (secs bs))) j = List.replicate 32 0 := by
  have hn : nsec bs.length = q := by unfold nsec; omega
  have hf := fateN_len (K := K) (secs_len bs) i
  refine ⟨by rw [bytesOf_length hf, fateN_length, secs_length, hn], fun j hj => ?_⟩
  have hjs : j < (secs bs).length := by rw [secs_length, hn]; exact hj
  obtain ⟨s, hs, hb⟩ := fateN_get K hjs i
  have hjf : j < (fateN K i (secs bs)).length := by rw [fateN_length]; exact hjs
  have e1 := bytesOf_at hf hjf
  have e2 := bytesOf_at (secs_len bs) hjs
  rw [bytes_secs h] at e2
  rw [List.getElem?_eq_getElem hjf] at hs
  injection hs with hs
  unfold chunkOf
  rw [e1, e2, hs]
  exact hb
theorem fate_byts (K : List Bool) {l : List Sec} (h : Byts (bytesOf l)) : ∀ i, Byts (bytesOf (fateN K i l)) := by
  induction l with
  | nil => intro i x hx; simp [fateN, bytesOf] at hx
  | cons s l ih =>
    intro i x hx
    have h1 : Byts s.bytes := fun y hy => h y (by simp [bytesOf, hy])
    have h2 : Byts (bytesOf l) := fun y hy => h y (by simp only [bytesOf, List.flatMap_cons, List.mem_append]; exact .inr hy)
    simp only [fateN, bytesOf, List.flatMap_cons, List.mem_append] at hx
    rcases hx with hx | hx
    · unfold fateSec at hx
      split at hx
      · exact h1 x (by simpa [setSync] using hx)
      · simp only [setSync, zeroSec, List.mem_replicate] at hx
        rw [hx.2]; omega
    · exact ih h2 _ x hx
/-- The power went in the midst of an append. -/
structure Torn (S : St) (per : Nat) (rs : List (List Int)) (u : List Int) : Prop where
  off : S.off = true
  base : ∃ fs0, Lays fs0 per 0 rs [] ∧ Safe fs0 ∧ S.files = put fs0 (lnm (rs.length / per)) (getF fs0 (lnm (rs.length / per)) ++ secs (nextB rs u))
  load : 1 ≤ u.length ∧ u.length ≤ 4096 ∧ Byts u
  count : rs.length < 90000
  hang : S.hangs = some .noop ∨ S.hangs = some (.sync (lnm (rs.length / per)))
theorem crash_append {S : St} {per : Nat} {rs : List (List Int)} (hoff : S.off = false) (ha : S.armed = 1 ∨ S.armed = 2) (h : Lays S.files per 0 rs []) (hs : Safe S.files) {p : List Int} (hp : 1 ≤ p.length ∧ p.length ≤ 4096 ∧ Byts p) (hc : rs.length < 90000)
    (hr : ¬ S.room < (used S.files : Int) + partsN (p.length + 36)) (hq : rs.length / per ≤ 61) :
    S.lapE (lnm (rs.length / per)) (nextB rs p) = 18 ∧ Torn (S.lapS (lnm (rs.length / per)) (nextB rs p)) per rs p ∧ (S.lapS (lnm (rs.length / per)) (nextB rs p)).room = S.room ∧ used (S.lapS (lnm (rs.length / per)) (nextB rs p)).files = used S.files + partsN (p.length + 36) := by
  obtain ⟨nm, hnm⟩ : ∃ nm, lnm (rs.length / per) = nm := ⟨_, rfl⟩
  have hnb : nameB nm = true := by rw [← hnm]; exact nameB_lnm _
  have hfit : Fits S nm (nextB rs p).length := by rw [← hnm]; exact h.fits (by rw [nsec_nextB]; exact hr) hq
  have e2 : S.appT nm (nextB rs p) = S.appS nm (nextB rs p) := hfit.onT hoff
  have hu : used (put S.files nm (getF S.files nm ++ secs (nextB rs p))) = used S.files + partsN (p.length + 36) := by rw [used_put_le, secs_length, nsec_nextB]
  rcases ha with ha | ha
  · have e1 : S.appE nm (nextB rs p).length = 18 := by rw [hfit.appE, if_neg (by rw [hoff]; simp), crash_doE ha]
    obtain ⟨c1, c2, c3, c4⟩ := crash_did ha .noop
    have hE : S.lapE nm (nextB rs p) = 18 := by unfold St.lapE; rw [e1]; simp
    have hS : S.lapS nm (nextB rs p) = S.appS nm (nextB rs p) := by unfold St.lapS; rw [e1, e2]; simp
    rw [hnm, hE, hS]
    exact ⟨rfl, ⟨c1, ⟨S.files, h, hs, by rw [hnm]; rfl⟩, hp, hc, .inl c2⟩, c4, hu⟩
  · obtain ⟨l1, l2, l3, l4⟩ := (show Live 1 S from ⟨hoff, .inr (by rw [ha]; decide)⟩).did .noop
    have e1 : S.appE nm (nextB rs p).length = 0 := hfit.liveE (k := 0) ⟨hoff, .inr (by rw [ha]; decide)⟩
    obtain ⟨S1, hS1⟩ : ∃ S1, S.appS nm (nextB rs p) = S1 := ⟨_, rfl⟩
    have a1 : S1.off = false := by rw [← hS1]; exact l1.off
    have a2 : S1.files = put S.files nm (getF S.files nm ++ secs (nextB rs p)) := by rw [← hS1]; rfl
    have a3 : S1.room = S.room := by rw [← hS1]; exact l3
    have a4 : S1.armed = 1 := by
      have : S1.armed = if S.armed = 0 then 0 else S.armed - 1 := by rw [← hS1]; exact l4
      rw [this, ha]; decide
    have c1 : S1.check nm true = 0 := there_on a1 hnb (by rw [a2, get_put_eq]; rfl)
    obtain ⟨d1, d2, d3, d4⟩ := crash_did a4 (Hg.sync nm)
    have hE : S.lapE nm (nextB rs p) = 18 := by
      unfold St.lapE; rw [e1, e2, hS1, c1]
      show S1.opE 0 = 18
      exact crash_doE a4
    have hS : S.lapS nm (nextB rs p) = S1.doS (Hg.sync nm) := by
      unfold St.lapS; rw [e1, e2, hS1, c1]; rfl
    rw [hnm, hE, hS]
    exact ⟨rfl, ⟨d1, ⟨S.files, h, hs, by rw [hnm, d3, a2]⟩, hp, hc, .inr (by rw [hnm]; exact d2)⟩, by rw [d4, a3], by rw [d3, a2, hu]⟩
/-- Behind a restart the record under way is whole, or broken off. -/
theorem Torn.restart {S : St} {per : Nat} {rs : List (List Int)} {u : List Int} (h : Torn S per rs u) (dn : Bool) (K : List Bool) :
    Safe (S.restart dn K).files ∧ (Lays (S.restart dn K).files per 0 (rs ++ [u]) [] ∨ ∃ T, Lays (S.restart dn K).files per 0 rs T) ∧ used (S.restart dn K).files = used S.files := by
  obtain ⟨fs0, hL, hs, hf⟩ := h.base
  obtain ⟨nm, hnm⟩ : ∃ nm, lnm (rs.length / per) = nm := ⟨_, rfl⟩
  have hh := h.hang
  rw [hnm] at hf hh
  obtain ⟨L0, hL0⟩ : ∃ L0, getF fs0 nm ++ secs (nextB rs u) = L0 := ⟨_, rfl⟩
  rw [hL0] at hf
  obtain ⟨fs1, hfs1⟩ : ∃ fs1, S.fated dn = fs1 := ⟨_, rfl⟩
  have hgf0 : getF S.files nm = L0 := by rw [hf, getF_put_eq]
  have hfs : fs1 = S.files ∨ fs1 = put S.files nm (syncAll L0) := by
    rw [← hfs1]
    unfold St.fated
    cases dn with
    | false => exact .inl rfl
    | true =>
      rcases hh with e | e
      · rw [e]; exact .inl rfl
      · rw [e]; refine .inr ?_
        show put S.files nm (syncAll (getF S.files nm)) = _
        rw [hgf0]
  have hr : (S.restart dn K).files = (fateFold K (namesB fs1) fs1).2 := by rw [← hfs1]; rfl
  rw [hr]
  have hnd1 : (fs1.map (·.1)).Nodup := by
    rcases hfs with e | e
    · rw [e, hf]; exact nodup_put hL.nodup _ _
    · rw [e, hf]; exact put_put_nodup hL.nodup _ _ _
  have hne : ∀ s, s ≠ nm → get fs1 s = get fs0 s := fun s hsn => by
    rcases hfs with e | e
    · rw [e, hf, get_put_ne hsn]
    · rw [e, get_put_ne hsn, hf, get_put_ne hsn]
  have hlen : fs1.length ≤ (put fs0 nm L0).length := by
    rcases hfs with e | e
    · rw [e, hf]; exact Nat.le_refl _
    · rw [e, hf, put_put_len]; rw [put_len, put_len]; exact Nat.le_refl _
  have hu1 : used fs1 = used S.files := by
    rcases hfs with e | e
    · rw [e]
    · rw [e]; exact used_put_same _ _ _ (by rw [syncAll_length, hgf0])
  have hsome : (get fs1 nm).isSome = true := by
    rcases hfs with e | e
    · rw [e, hf, get_put_eq]; rfl
    · rw [e, get_put_eq]; rfl
  obtain ⟨L1, hL1⟩ : ∃ L1, getF fs1 nm = L1 := ⟨_, rfl⟩
  have hL1' : L1 = L0 ∨ L1 = syncAll L0 := by
    rw [← hL1]
    rcases hfs with e | e
    · rw [e, hgf0]; exact .inl rfl
    · rw [e, getF_put_eq]; exact .inr rfl
  obtain ⟨gs, hgs⟩ : ∃ gs, (fateFold K (namesB fs1) fs1).2 = gs := ⟨_, rfl⟩
  obtain ⟨i, hi⟩ := fated_each K fs1 nm
  rw [hgs, hL1] at hi
  have hgsome : (get gs nm).isSome = true := by rw [← hgs, fated_isSome]; exact hsome
  have hgne : ∀ s, s ≠ nm → get gs s = get fs0 s := fun s hsn => by
    rw [← hgs, fated_keeps K (by unfold getF; rw [hne s hsn]; exact hs s), hne s hsn]
  have hall : ∀ L, getF gs nm = L → ∀ s, get gs s = get (put fs0 nm L) s := fun L hL' s => by
    by_cases e : s = nm
    · subst e
      rw [get_put_eq]
      obtain ⟨l, hl⟩ := Option.isSome_iff_exists.1 hgsome
      unfold getF at hL'
      rw [hl] at hL' ⊢
      rw [← hL']; rfl
    · rw [hgne s e, get_put_ne e]
  have hgn : (gs.map (·.1)).Nodup := by rw [← hgs]; exact fated_nodup K hnd1
  have hgl : ∀ L, gs.length ≤ (put fs0 nm L).length := fun L => by
    rw [← hgs, fated_length]
    refine Nat.le_trans hlen ?_
    rw [put_len, put_len]; exact Nat.le_refl _
  have hg := hL.grown u
  rw [hnm, hL0] at hg
  rw [hgs]
  refine ⟨by rw [← hgs]; exact fated_safe K fs1, ?_, by rw [← hgs, ← hu1]; exact used_fate K _ _⟩
  have hwhole : bytesOf (fateN K i L1) = bytesOf L0 → Lays gs per 0 (rs ++ [u]) [] := fun hb => by
    have := hL.more h.load h.count (L := fateN K i L1) (by rw [hb]; exact hg) (Nat.zero_le _)
    rw [hnm] at this
    exact this.congr hgn (hgl _) (hall _ hi)
  rcases hL1' with e | e
  · rw [e, ← hL0, fateN_append, fateN_safe K (hs nm)] at hi
    obtain ⟨j, hj⟩ : ∃ j, i + uns (getF fs0 nm) = j := ⟨_, rfl⟩
    rw [hj] at hi
    obtain ⟨hc1, hc2⟩ := chunk_secs K j (nextB_length rs u)
    obtain ⟨body, hbd⟩ : ∃ body, lbodyF u (chainF (linkAt rs rs.length) u) = body := ⟨_, rfl⟩
    have hbl : body.length = u.length + 36 := by rw [← hbd]; exact lbodyF_length _ (chainF_length _ _)
    have hnb : nextB rs u = lcutN (rs.length + 1) body (partsN body.length) (partsN body.length) := by unfold nextB lsecF; rw [hbd]
    rw [← hbl] at hc1 hc2
    obtain ⟨V, hV⟩ : ∃ V, bytesOf (fateN K j (secs (nextB rs u))) = V := ⟨_, rfl⟩
    rw [hV] at hc1 hc2
    have hVb : Byts V := by
      rw [← hV]
      refine fate_byts K ?_ j
      rw [bytes_nextB, hnb]
      have hld := h.load
      refine lcutN_byts _ (by rw [← hbd]; exact lbodyF_byts hld.2.2 (chainF_byts _ _)) ?_ ?_ <;> (rw [hbl]; unfold partsN; omega)
    have hb1 : bytesOf (getF fs0 nm) = segB rs (rs.length / per * per) (rs.length % per) := by
      have := hL.getF_last
      rw [hnm, List.append_nil] at this; exact this
    rcases torn_or (n := rs.length + 1) hc1 (fun k hk => by rw [← lchunk_cut (rs.length + 1) body (partsN body.length) (partsN body.length) k hk, ← hnb]; exact hc2 k hk) with h1 | ⟨i0, h1, h2, h3⟩
    · refine .inl (hwhole ?_)
      rw [e, ← hL0, fateN_append, fateN_safe K (hs nm), hj, bytesOf_append, bytesOf_append, hV, bytes_nextB, h1, hnb]
    · refine .inr ⟨V, ?_⟩
      have hld := h.load
      have := hL.turn (T' := V) (L := getF fs0 nm ++ fateN K j (secs (nextB rs u))) (by rw [bytesOf_append, hb1, hV]) ⟨body, i0, by omega, by omega, h2, h1, h3⟩ hVb (Nat.zero_le _)
      rw [hnm] at this
      exact this.congr hgn (hgl _) (hall _ hi)
  · refine .inl (hwhole ?_)
    rw [e, fateN_safe K (syncAll_safe L0), bytesOf_sync]
/-- A restart where nothing hung but a cut of the last file. -/
structure Half (S : St) (per : Nat) (rs : List (List Int)) (T : List Int) : Prop where
  off : S.off = true
  lays : Lays S.files per 0 rs T
  safe : Safe S.files
  there : (get S.files (lnm (rs.length / per))).isSome = true
  secs : ∀ s ∈ getF S.files (lnm (rs.length / per)), s.bytes.length = 32
  hang : ∃ k : Nat, S.hangs = some (.trunc (lnm (rs.length / per)) k) ∧ (segB rs (rs.length / per * per) (rs.length % per)).length = 32 * k
theorem cut_lays {fs : Files} {per f : Nat} {rs : List (List Int)} {T : List Int} (h : Lays fs per f rs T) (hs : ∀ s ∈ getF fs (lnm (rs.length / per)), s.bytes.length = 32) {k : Nat} (hk : (segB rs (rs.length / per * per) (rs.length % per)).length = 32 * k) :
    Lays (put fs (lnm (rs.length / per)) (syncAll ((getF fs (lnm (rs.length / per))).take k))) per f rs [] :=
  h.turn (by rw [bytesOf_sync, bytesOf_take hs, h.getF_last, ← hk, List.take_left', List.append_nil]; rfl) (stub_nil _) byts_nil h.f_le
theorem Half.restart {S : St} {per : Nat} {rs : List (List Int)} {T : List Int} (h : Half S per rs T) (dn : Bool) (K : List Bool) :
    Safe (S.restart dn K).files ∧ (∃ T', Lays (S.restart dn K).files per 0 rs T') ∧ used (S.restart dn K).files ≤ used S.files := by
  obtain ⟨k, hk1, hk2⟩ := h.hang
  obtain ⟨fs1, hfs1⟩ : ∃ fs1, S.fated dn = fs1 := ⟨_, rfl⟩
  have hr : (S.restart dn K).files = (fateFold K (namesB fs1) fs1).2 := by rw [← hfs1]; rfl
  have hfs : Safe fs1 ∧ (∃ T', Lays fs1 per 0 rs T') ∧ used fs1 ≤ used S.files := by
    rw [← hfs1]
    unfold St.fated
    cases dn with
    | false => exact ⟨h.safe, ⟨T, h.lays⟩, Nat.le_refl _⟩
    | true =>
      rw [hk1]
      show Safe (put S.files _ (syncAll ((getF S.files _).take (Int.toNat k)))) ∧ (∃ T', Lays (put S.files _ (syncAll ((getF S.files _).take (Int.toNat k)))) per 0 rs T') ∧ used (put S.files _ (syncAll ((getF S.files _).take (Int.toNat k)))) ≤ _
      rw [Int.toNat_natCast]
      refine ⟨h.safe.turn _ (syncAll_safe _), ⟨[], cut_lays h.lays h.secs hk2⟩, ?_⟩
      have := used_put S.files (lnm (rs.length / per)) (syncAll ((getF S.files (lnm (rs.length / per))).take k))
      rw [syncAll_length, List.length_take] at this
      omega
  obtain ⟨h1, ⟨T', h2⟩, h3⟩ := hfs
  rw [hr]
  refine ⟨fated_safe K fs1, ⟨T', h2.congr (fated_nodup K h2.nodup) (Nat.le_of_eq (fated_length K fs1)) fun s => fated_keeps K (h1 s)⟩, ?_⟩
  rw [show used (fateFold K (namesB fs1) fs1).2 = used fs1 from used_fate K _ _]
  exact h3
end Go.Proofs.YtggnohbfdlebiaaGreatDoor

/-
  A restart by a fate of its own; the fate that comes in as an argument.
-/
namespace Go.Proofs.YtggnohbfdlebiaaGreatDoor
open Go.RowKit Go.Shelf Go.ChangeMaps Go.ChangeShapes Go.WideShapes Go.Deep Go.Joins

theorem Dsk.restart_new {w0 w w' : World} {d : Nat} {S : St} {F : Nat → Prop} (h : Dsk w0 w d S F) (hoff : S.off = true) (dn : Bool) {L : List Bool} (hl : L.length ≤ 140737488351232) {g c : Nat} (hc : L.length ≤ c) (hg : w.heap.size ≤ g) (hgs : g < w'.heap.size)
    (hx : ∀ (j : Nat) x, (L.map Value.bool)[j]? = some x → w'.cell? ⟨g, 0 + j, none⟩ = some x) (hk : Kp (fun _ => False) w w') :
    Calls Tryz.prog 27 #[.pointer (some ⟨d, 0, none⟩), .agg #[.bool dn, .slice (some ⟨g, 0, none⟩) L.length c]] w' (Goes w0 w' d 0 (S.restart dn L) F) := by
  refine (h.step hk).restart hoff dn L _ _ hc hl (fun j b hj => ⟨g, 0, rfl, hx j _ (by rw [List.getElem?_map, hj]; rfl)⟩) ?_ ?_
  · intro kb ko e hf
    injection e with e
    injection e with e1 _ _
    have := h.flt kb hf
    omega
  · intro kb ko e hf
    injection e with e
    injection e with e1 _ _
    have h' : w'.heap.size ≤ kb := hf
    omega
/-- A list of bools that is a function's values. -/
theorem bools_list (B : Nat → Bool) (n : Nat) : ∃ L : List Bool, L.length = n ∧ ∀ (j : Nat) b, L[j]? = some b → j < n ∧ b = B j := by
  refine ⟨(List.range n).map B, by simp, fun j b hj => ?_⟩
  rw [List.getElem?_map, Option.map_eq_some_iff] at hj
  obtain ⟨k, hk, rfl⟩ := hj
  obtain ⟨h1, h2⟩ := List.getElem?_eq_some_iff.1 hk
  simp only [List.length_range, List.getElem_range] at h1 h2
  subst h2
  exact ⟨h1, rfl⟩
set_option maxRecDepth 100000 in
/-- A fate, opened. -/
theorem open_fate {H : Type} {enc : TypeId × Value → H} {W : World} {base : Nat} {v : Value} {d : DataW H} {ps : List MemPlace} (hv : Value.okWide Tryz.prog W .any base 61 v) (h : DataW.Trod enc Tryz.prog W 0 (fun _ => true) true 61 v d ps) :
    ∃ (dn : Bool) (L : List Bool) (p : Option Addr) (c : Nat), v = .agg #[.bool dn, .slice p L.length c] ∧ CellsAt W (fun _ => False) (.slice p L.length c) (L.map Value.bool) ∧ ((∀ n ∈ d.weights Tryz.prog 61, n ≤ reachBytes) → L.length ≤ 140737488351232) := by
  obtain ⟨v0, v1, y0, y1, n, rfl, rfl, rfl, h0, h1⟩ := open_agg2 Tryz.underlying61 (by kernel_rfl) (by kernel_rfl) hv h
  obtain ⟨b, h2, h3, h4⟩ := DataW.trod_bool Tryz.underlying4 h0
  obtain rfl : v0 = .bool b := by simpa using h2
  rcases open_bools Tryz.underlying59 Tryz.underlying4 (by kernel_rfl) h1 with ⟨hcs, _⟩ | ⟨a, len, cap, B, hcs, _, hl, hm, hx, hcell⟩
  · obtain rfl : v1 = .slice none 0 0 := by simpa using hcs
    exact ⟨b, [], none, 0, rfl, ⟨none, 0, rfl, by simp, fun j x hj => by simp at hj⟩, fun _ => by simp⟩
  · obtain rfl : v1 = .slice (some a) len cap := by simpa using hcs
    obtain ⟨L, hL, hB⟩ := bools_list B len
    subst hL
    refine ⟨b, L, some a, cap, rfl, ⟨some a, cap, by rw [List.length_map], by rw [List.length_map]; exact hl, fun j x hj => ?_⟩, fun hs => ?_⟩
    · rw [List.getElem?_map, Option.map_eq_some_iff] at hj
      obtain ⟨c, hc, rfl⟩ := hj
      obtain ⟨hj1, rfl⟩ := hB j c hc
      have hcj := hcell j (by omega)
      have hc0 := hcell 0 (by omega)
      obtain ⟨ab, ao, spot⟩ := a
      obtain rfl : spot = none := by simpa [Addr.add] using World.cell?_spot hc0
      rw [Addr.add_lit] at hcj
      exact ⟨ab, ao, rfl, id, hcj⟩
    · have h5 := hs (L.length * Tryz.prog.bytesOf 4 + (cap - L.length) * Tryz.prog.bytesOf 4) ?_
      · rw [show Tryz.prog.bytesOf 4 = 1 by kernel_rfl] at h5
        unfold reachBytes at h5
        omega
      · rw [hx]
        simp only [DataW.weights, Tryz.underlying61, DataW.weightsEach, boolRow, List.map_cons, Tryz.underlying59, List.length_map, List.length_range]
        simp [Nat.add_mul]
end Go.Proofs.YtggnohbfdlebiaaGreatDoor

/-
  A script of LogSafe's operations that comes in as an argument.
-/
namespace Go.Proofs.YtggnohbfdlebiaaGreatDoor
open Go.RowKit Go.Shelf Go.ChangeMaps Go.ChangeShapes Go.WideShapes Go.Deep Go.Joins

structure SopVal where
  kind : Int
  P : Option Addr
  n : Nat
  m : Nat
  bs : List Int
  N : Int
  dn : Bool
  L : List Bool
  kp : Option Addr
  kc : Nat
def SopVal.vals (x : SopVal) : Array Value := #[.int .u8 x.kind, .slice x.P x.n x.m, .int .i64 x.N, .bool x.dn, .slice x.kp x.L.length x.kc]
def SopCells (w : World) (b o : Nat) (x : SopVal) : Prop :=
  w.cell? ⟨b, o, none⟩ = some (.int .u8 x.kind) ∧ w.cell? ⟨b, o + 1, none⟩ = some (.slice x.P x.n x.m) ∧
    w.cell? ⟨b, o + 2, none⟩ = some (.int .i64 x.N) ∧ w.cell? ⟨b, o + 3, none⟩ = some (.bool x.dn) ∧ w.cell? ⟨b, o + 4, none⟩ = some (.slice x.kp x.L.length x.kc)
structure SopOk (w : World) (x : SopVal) : Prop where
  kind : 0 ≤ x.kind ∧ x.kind ≤ 255
  bytes : BytesAt w (fun _ => False) (.slice x.P x.n x.m) x.bs
  byts : Byts x.bs
  len : x.n ≤ maxLen
  num : -9223372036854775808 ≤ x.N ∧ x.N ≤ 9223372036854775807
  keep : CellsAt w (fun _ => False) (.slice x.kp x.L.length x.kc) (x.L.map Value.bool)
  keeps : x.L.length ≤ 140737488351232
def SopAt (w : World) (p : Option Addr) (len : Nat) : Prop := ∀ i, i < len → ∃ b o x, p = some ⟨b, o, none⟩ ∧ SopCells w b (o + i * 5) x ∧ SopOk w x
theorem SopCells.kept {w w' : World} {b o : Nat} {x : SopVal} (h : SopCells w b o x) (hk : Kp (fun _ => False) w w') : SopCells w' b o x :=
  ⟨hk.cell h.1 id, hk.cell h.2.1 id, hk.cell h.2.2.1 id, hk.cell h.2.2.2.1 id, hk.cell h.2.2.2.2 id⟩
theorem SopOk.kept {w w' : World} {x : SopVal} (h : SopOk w x) (hk : Kp (fun _ => False) w w') : SopOk w' x :=
  ⟨h.kind, h.bytes.kept hk fun _ h => .inl h, h.byts, h.len, h.num, h.keep.kept hk fun _ h => .inl h, h.keeps⟩
theorem SopAt.kept {w w' : World} {p : Option Addr} {len : Nat} (h : SopAt w p len) (hk : Kp (fun _ => False) w w') : SopAt w' p len := fun i hi =>
  let ⟨b, o, x, h1, h2, h3⟩ := h i hi
  ⟨b, o, x, h1, h2.kept hk, h3.kept hk⟩
theorem mem_weightsAll {H : Type} {P : Program} {e : TypeId} {d : DataW H} {n : Nat} (hn : n ∈ d.weights P e) : ∀ {ds : List (DataW H)}, d ∈ ds → n ∈ DataW.weightsAll P e ds
  | [], h => by cases h
  | x :: ds, h => by
    simp only [DataW.weightsAll, List.mem_append]
    rcases List.mem_cons.1 h with rfl | h
    · exact .inl hn
    · exact .inr (mem_weightsAll hn h)
set_option maxRecDepth 100000 in
theorem open_keep {H : Type} {enc : TypeId × Value → H} {W : World} {n : Nat} {v : Value} {y : DataW H × List MemPlace} (h1 : DataW.trod enc Tryz.prog W 0 (fun _ => true) true n 59 [v] = some y) :
    ∃ (L : List Bool) (p : Option Addr) (c : Nat), v = .slice p L.length c ∧ CellsAt W (fun _ => False) (.slice p L.length c) (L.map Value.bool) ∧ ((∀ n ∈ y.1.weights Tryz.prog 59, n ≤ reachBytes) → L.length ≤ 140737488351232) := by
  rcases open_bools Tryz.underlying59 Tryz.underlying4 (by kernel_rfl) h1 with ⟨hcs, _⟩ | ⟨a, len, cap, B, hcs, _, hl, hm, hx, hcell⟩
  · obtain rfl : v = .slice none 0 0 := by simpa using hcs
    exact ⟨[], none, 0, rfl, ⟨none, 0, rfl, by simp, fun j x hj => by simp at hj⟩, fun _ => by simp⟩
  · obtain rfl : v = .slice (some a) len cap := by simpa using hcs
    obtain ⟨L, hL, hB⟩ := bools_list B len
    subst hL
    refine ⟨L, some a, cap, rfl, ⟨some a, cap, by rw [List.length_map], by rw [List.length_map]; exact hl, fun j x hj => ?_⟩, fun hs => ?_⟩
    · rw [List.getElem?_map, Option.map_eq_some_iff] at hj
      obtain ⟨c, hc, rfl⟩ := hj
      obtain ⟨hj1, rfl⟩ := hB j c hc
      have hcj := hcell j (by omega)
      have hc0 := hcell 0 (by omega)
      obtain ⟨ab, ao, spot⟩ := a
      obtain rfl : spot = none := by simpa [Addr.add] using World.cell?_spot hc0
      rw [Addr.add_lit] at hcj
      exact ⟨ab, ao, rfl, id, hcj⟩
    · have h5 := hs (L.length * Tryz.prog.bytesOf 4 + (cap - L.length) * Tryz.prog.bytesOf 4) ?_
      · rw [show Tryz.prog.bytesOf 4 = 1 by kernel_rfl] at h5
        unfold reachBytes at h5
        omega
      · rw [hx]
        simp only [DataW.weights, boolRow, Tryz.underlying59, List.length_map, List.length_range]
        simp [Nat.add_mul]
set_option maxRecDepth 100000 in
theorem open_sops {H : Type} {enc : TypeId × Value → H} {W : World} {base : Nat} {v : Value} {d : DataW H} {ps : List MemPlace} (hv : Value.okWide Tryz.prog W .any base 58 v) (h : DataW.Trod enc Tryz.prog W 0 (fun _ => true) true 58 v d ps)
    (hs : ∀ n ∈ d.weights Tryz.prog 58, n ≤ reachBytes) : ∃ p len cap, v = .slice p len cap ∧ len ≤ cap ∧ len ≤ maxLen ∧ SopAt W p len := by
  obtain ⟨a0, l0, c0, rfl⟩ := okWide_slice Tryz.underlying58 hv
  obtain ⟨fuel, hf⟩ := h
  have hC : Tryz.prog.cellsOf 63 = 5 := by kernel_rfl
  rcases open_slice Tryz.underlying58 hf with ⟨hcs, _⟩ | ⟨a, len, cap, m, n, D, Pl, hcs, _, hl, hm, hmm, hx, hi⟩
  · simp [Value.cells] at hcs
    obtain ⟨rfl, rfl, rfl⟩ := hcs
    exact ⟨none, 0, 0, rfl, Nat.le_refl _, Nat.zero_le _, fun i hi => absurd hi (Nat.not_lt_zero i)⟩
  · simp [Value.cells] at hcs
    obtain ⟨rfl, rfl, rfl⟩ := hcs
    simp only [if_true] at hmm
    subst hmm
    refine ⟨_, _, _, rfl, hl, Nat.le_trans hl hm, fun i hil => ?_⟩
    clear hm
    obtain ⟨ab, ao, spot⟩ := a
    obtain rfl : spot = none := by
      obtain ⟨cs0, hc0, _⟩ := hi 0 (by omega)
      rw [hC] at hc0
      obtain ⟨_, hl0, hat0⟩ := World.cells?_some hc0
      have h0 := hat0 0 (by omega)
      rw [List.getElem?_eq_getElem (by omega)] at h0
      simpa [Addr.add] using World.cell?_spot h0
    obtain ⟨cs', hc, ht'⟩ := hi i (by omega)
    rw [hC] at hc
    obtain ⟨_, hcl, hat⟩ := World.cells?_some hc
    obtain ⟨ys, n', hn', hy, hlen, hyl, hg⟩ := DataW.trod_struct Tryz.underlying63 ht'
    match cs', hcl with
    | [c0, c1, c2, c3, c4], _ =>
      have g0 : DataW.trod enc Tryz.prog W 0 (fun _ => true) true n' 5 (([c0, c1, c2, c3, c4].drop 0).take (Tryz.prog.cellsOf 5)) = ys[0]? := hg 0 _ rfl
      rw [show Tryz.prog.cellsOf 5 = 1 by kernel_rfl] at g0
      have g1 : DataW.trod enc Tryz.prog W 0 (fun _ => true) true n' 33 (([c0, c1, c2, c3, c4].drop 1).take (Tryz.prog.cellsOf 33)) = ys[1]? := hg 1 _ rfl
      rw [show Tryz.prog.cellsOf 33 = 1 by kernel_rfl] at g1
      have g2 : DataW.trod enc Tryz.prog W 0 (fun _ => true) true n' 2 (([c0, c1, c2, c3, c4].drop 2).take (Tryz.prog.cellsOf 2)) = ys[2]? := hg 2 _ rfl
      rw [show Tryz.prog.cellsOf 2 = 1 by kernel_rfl] at g2
      have g3 : DataW.trod enc Tryz.prog W 0 (fun _ => true) true n' 61 (([c0, c1, c2, c3, c4].drop 3).take (Tryz.prog.cellsOf 61)) = ys[3]? := hg 3 _ rfl
      rw [show Tryz.prog.cellsOf 61 = 2 by kernel_rfl] at g3
      have hyl4 : ys.length = 4 := hyl
      match ys, hyl4 with
      | [y0, y1, y2, y3], _ =>
        obtain ⟨k, e0, _, wk⟩ := DataW.trod_int Tryz.underlying5 g0
        obtain ⟨P, n, m, bs, e1, hbs, hby, hlm⟩ := open_row0 g1
        obtain ⟨N, e2, _, wN⟩ := DataW.trod_int Tryz.underlying2 g2
        obtain ⟨zs, n2, _, hz, hlz, hzl, hz2⟩ := DataW.trod_struct Tryz.underlying61 g3
        have f0 : DataW.trod enc Tryz.prog W 0 (fun _ => true) true n2 4 ((([c0, c1, c2, c3, c4].drop 3).take 2).drop 0 |>.take (Tryz.prog.cellsOf 4)) = zs[0]? := hz2 0 _ rfl
        have f1 : DataW.trod enc Tryz.prog W 0 (fun _ => true) true n2 59 ((([c0, c1, c2, c3, c4].drop 3).take 2).drop 1 |>.take (Tryz.prog.cellsOf 59)) = zs[1]? := hz2 1 _ rfl
        rw [show Tryz.prog.cellsOf 4 = 1 by kernel_rfl] at f0
        rw [show Tryz.prog.cellsOf 59 = 1 by kernel_rfl] at f1
        have hzl2 : zs.length = 2 := hzl
        match zs, hzl2 with
        | [z0, z1], _ =>
          obtain ⟨dn, e3, _⟩ := DataW.trod_bool Tryz.underlying4 f0
          obtain ⟨L, kp, kc, e4, hL, hLl⟩ := open_keep f1
          obtain rfl : c0 = .int .u8 k := by simpa using e0
          obtain rfl : c2 = .int .i64 N := by simpa using e2
          obtain rfl : c3 = .bool dn := by simpa using e3
          subst e1 e4
          have hk := bounds_u8 wk
          refine ⟨ab, ao, ⟨k, P, n, m, bs, N, dn, L, kp, kc⟩, rfl, ?_, hk, hbs, hby, hlm, ?_, hL, hLl fun n hn => hs n ?_⟩
          · have h0 := hat 0 (by omega)
            have h1 := hat 1 (by omega)
            have h2 := hat 2 (by omega)
            have h3 := hat 3 (by omega)
            have h4 := hat 4 (by omega)
            simp only [Addr.add_lit] at h0 h1 h2 h3 h4
            exact ⟨h0, h1, h2, h3, h4⟩
          · have := wN
            simp [Lit.wf] at this
            exact ⟨Int.le_trans (by decide) this.1, this.2⟩
          · simp only [Prod.mk.injEq] at hx hy
            rw [hx.1]
            simp only [DataW.weights, Tryz.underlying58]
            refine List.mem_cons_of_mem _ (List.mem_append_left _ (mem_weightsAll (d := D i) ?_ (List.mem_map.2 ⟨i, by simpa using hil, rfl⟩)))
            rw [hy.1]
            simp only [DataW.weights, Tryz.underlying63, DataW.weightsEach, List.map_cons, hz, Tryz.underlying61]
            simp [hn]
end Go.Proofs.YtggnohbfdlebiaaGreatDoor

/-
  LogSafe, plainly: an opening that may be struck; the states between the operations.
-/
namespace Go.Proofs.YtggnohbfdlebiaaGreatDoor
open Go.RowKit Go.Shelf Go.ChangeMaps Go.ChangeShapes Go.WideShapes Go.Deep Go.Joins

/-- A log's disk that is on, armed for up to six operations. -/
structure Up (S : St) (per U : Nat) (rs : List (List Int)) : Prop where
  off : S.off = false
  armed : 0 ≤ S.armed ∧ S.armed ≤ 6
  room : S.room = 20000
  used : used S.files ≤ U
  lays : Lays S.files per 0 rs []
  safe : Safe S.files
/-- One at which the power went: whatever else, behind a restart it is the records, and something that is not one, or just the one that was under way. -/
structure Down (S : St) (per U : Nat) (rs : List (List Int)) (u : List Int) : Prop where
  off : S.off = true
  room : S.room = 20000
  used : used S.files ≤ U
  load : 1 ≤ u.length ∧ u.length ≤ 4096 ∧ Byts u
  torn : Torn S per rs u ∨ ∃ T, Half S per rs T
theorem Up.more {S : St} {per U V : Nat} {rs : List (List Int)} (h : Up S per U rs) (hv : U ≤ V) : Up S per V rs := ⟨h.off, h.armed, h.room, Nat.le_trans h.used hv, h.lays, h.safe⟩
theorem Down.more {S : St} {per U V : Nat} {rs : List (List Int)} {u : List Int} (h : Down S per U rs u) (hv : U ≤ V) : Down S per V rs u := ⟨h.off, h.room, Nat.le_trans h.used hv, h.load, h.torn⟩
theorem Up.arm {S : St} {per U : Nat} {rs : List (List Int)} (h : Up S per U rs) {n : Int} (hn : 0 ≤ n ∧ n ≤ 6) : Up { S with armed := n } per U rs := ⟨h.off, hn, h.room, h.used, h.lays, h.safe⟩
/-- An append: it is done, or the power went. -/
theorem Up.append {S : St} {per U : Nat} {rs : List (List Int)} (h : Up S per U rs) {p : List Int} (hp : 1 ≤ p.length ∧ p.length ≤ 300 ∧ Byts p) (hU : U ≤ 2000) (hq : rs.length / per ≤ 61) (hc : rs.length ≤ 100) :
    (S.lapE (lnm (rs.length / per)) (nextB rs p) = 0 ∧ Up (S.lapS (lnm (rs.length / per)) (nextB rs p)) per (U + 20) (rs ++ [p])) ∨
    (S.lapE (lnm (rs.length / per)) (nextB rs p) = 18 ∧ Down (S.lapS (lnm (rs.length / per)) (nextB rs p)) per (U + 20) rs p) := by
  have hK : partsN (p.length + 36) ≤ 20 := by unfold partsN; omega
  have hr : ¬ S.room < (Go.Proofs.YtggnohbfdlebiaaGreatDoor.used S.files : Int) + partsN (p.length + 36) := by have := h.used; rw [h.room]; omega
  have hp' : 1 ≤ p.length ∧ p.length ≤ 4096 ∧ Byts p := ⟨hp.1, by omega, hp.2.2⟩
  have ha := h.armed
  have hus := h.used
  by_cases hl : S.armed = 1 ∨ S.armed = 2
  · obtain ⟨e, t, r, v⟩ := crash_append h.off hl h.lays h.safe hp' (by omega) hr hq
    exact .inr ⟨e, t.off, by rw [r, h.room], by rw [v]; omega, hp', .inl t⟩
  · have hl2 : Live 2 S := ⟨h.off, by omega⟩
    obtain ⟨e, g⟩ := live_append hl2 h.lays hp' (by omega) hr hq
    refine .inl ⟨e, g.off, ?_, by rw [g.room, h.room], by rw [g.used]; omega, g.lays, g.safe h.safe⟩
    rw [g.armed]
    have := hl2.armed
    split <;> omega
/-- Behind a restart, armed anew. -/
theorem Down.restart {S : St} {per U : Nat} {rs : List (List Int)} {u : List Int} (h : Down S per U rs u) (dn : Bool) (K : List Bool) (n : Int) :
    ∃ S1, ({ S.restart dn K with armed := n } : St) = S1 ∧ S1.off = false ∧ S1.room = 20000 ∧ S1.armed = n ∧ Go.Proofs.YtggnohbfdlebiaaGreatDoor.used S1.files ≤ U ∧ Safe S1.files ∧ (Lays S1.files per 0 (rs ++ [u]) [] ∨ ∃ T, Lays S1.files per 0 rs T) := by
  refine ⟨_, rfl, rfl, h.room, rfl, ?_⟩
  show Go.Proofs.YtggnohbfdlebiaaGreatDoor.used (S.restart dn K).files ≤ U ∧ Safe (S.restart dn K).files ∧ (Lays (S.restart dn K).files per 0 (rs ++ [u]) [] ∨ ∃ T, Lays (S.restart dn K).files per 0 rs T)
  rcases h.torn with t | ⟨T, t⟩
  · obtain ⟨a, b, c⟩ := t.restart dn K
    exact ⟨by rw [c]; exact h.used, a, b⟩
  · obtain ⟨a, b, c⟩ := t.restart dn K
    exact ⟨Nat.le_trans c h.used, a, .inr b⟩
/-- An opening: it is done, or the power went at the cut. -/
theorem cut_open {S : St} {per U : Nat} {rs : List (List Int)} {T u : List Int} (hoff : S.off = false) (hroom : S.room = 20000) (ha : 0 ≤ S.armed ∧ S.armed ≤ 6) (hu : used S.files ≤ U) (hs : Safe S.files) (hL : Lays S.files per 0 rs T) (ok : S.Ok) (hload : 1 ≤ u.length ∧ u.length ≤ 4096 ∧ Byts u) :
    (S.lopE (lnm (rs.length / per)) T = 0 ∧ Up (S.lopS (lnm (rs.length / per)) T ((segB rs (rs.length / per * per) (rs.length % per)).length / 32)) per U rs) ∨
    (S.lopE (lnm (rs.length / per)) T = 18 ∧ Down (S.lopS (lnm (rs.length / per)) T ((segB rs (rs.length / per * per) (rs.length % per)).length / 32)) per U rs u) := by
  by_cases hT : T = []
  · subst hT
    rw [show S.lopE (lnm (rs.length / per)) [] = 0 from if_pos rfl, show S.lopS (lnm (rs.length / per)) [] _ = S from if_pos rfl]
    exact .inl ⟨rfl, hoff, ha, hroom, hu, hL, hs⟩
  · rw [show S.lopE (lnm (rs.length / per)) T = S.opE (S.check (lnm (rs.length / per)) true) from if_neg hT, show S.lopS (lnm (rs.length / per)) T _ = S.opS (S.check (lnm (rs.length / per)) true) _ from if_neg hT]
    have hmod := segB_mod rs (rs.length / per * per) (m := rs.length % per) (by have := hL.parts; omega)
    obtain ⟨kk, hkk⟩ := hmod
    have hthere : (get S.files (lnm (rs.length / per))).isSome = true := by
      rcases hL.last with ⟨_, _, e⟩ | ⟨e, _⟩
      · exact absurd e hT
      · exact e
    have hc : S.check (lnm (rs.length / per)) true = 0 := there_on hoff (nameB_lnm _) hthere
    rw [hc]
    show (S.doE = 0 ∧ Up (S.doS _) per U rs) ∨ (S.doE = 18 ∧ Down (S.doS _) per U rs u)
    have hk32 : (segB rs (rs.length / per * per) (rs.length % per)).length / 32 = kk := by omega
    rw [hk32]
    have hsec : ∀ s ∈ getF S.files (lnm (rs.length / per)), s.bytes.length = 32 := fun s hs => by obtain ⟨x, hx, h1⟩ := getF_mem s hs; exact ok.secs x hx s h1
    by_cases h1 : S.armed = 1
    · obtain ⟨a, b, c, e⟩ := crash_did h1 (Hg.trunc (lnm (rs.length / per)) (kk : Int))
      refine .inr ⟨crash_doE h1, a, by rw [e, hroom], by rw [c]; exact hu, hload, .inr ⟨T, a, by rw [c]; exact hL, by rw [c]; exact hs, by rw [c]; exact hthere, by rw [c]; exact hsec, kk, b, by omega⟩⟩
    · have hl : Live 1 S := ⟨hoff, by omega⟩
      obtain ⟨m1, m2, m3, m4⟩ := hl.did (Hg.trunc (lnm (rs.length / per)) (kk : Int))
      have hf : (S.doS (Hg.trunc (lnm (rs.length / per)) (kk : Int))).files = put S.files (lnm (rs.length / per)) (syncAll ((getF S.files (lnm (rs.length / per))).take kk)) := by
        rw [m2]; show put _ _ (syncAll (List.take (Int.toNat kk) _)) = _; rw [Int.toNat_natCast]
      refine .inl ⟨hl.doE, m1.off, ?_, by rw [m3, hroom], ?_, by rw [hf]; exact cut_lays hL hsec (by omega), by rw [hf]; exact hs.turn _ (syncAll_safe _)⟩
      · rw [m4]; have := hl.armed; split <;> omega
      · rw [hf]
        have := used_put S.files (lnm (rs.length / per)) (syncAll ((getF S.files (lnm (rs.length / per))).take kk))
        rw [syncAll_length, List.length_take] at this
        omega
end Go.Proofs.YtggnohbfdlebiaaGreatDoor

/-
  LogSafe: the states between the operations, in memory.
-/
namespace Go.Proofs.YtggnohbfdlebiaaGreatDoor
open Go.RowKit Go.Shelf Go.ChangeMaps Go.ChangeShapes Go.WideShapes Go.Deep Go.Joins

/-- Bytes that were there before. -/
theorem BytesAt.since {w0 w : World} {G : Nat → Prop} {v : Value} {q : List Int} (h : BytesAt w0 (fun _ => False) v q) (hk : Kp (fun _ => False) w0 w) (hG : ∀ k, G k → w0.heap.size ≤ k) : BytesAt w G v q :=
  (h.old.kept (hk.mono fun _ h => h.elim) (F' := fun k => w0.heap.size ≤ k) fun _ h => .inl h).mono hG
/-- The power is on, a log in hand; a row of payloads. -/
structure OnSt (w0 wr : World) (p d per U : Nat) (rs ps : List (List Int)) (S : St) (F : Nat → Prop) (va : Value) : Prop where
  up : Up S per U rs
  has : Has w0 wr p d per 0 rs S F
  row : RowP wr w0.heap.size (fun k => F k ∨ k = p) va ps
  own : ∀ k, va.ownBlock = some k → ¬ (F k ∨ k = p)
/-- The power is off. -/
structure OffSt (w0 wr : World) (d per U : Nat) (rs : List (List Int)) (u : List Int) (S : St) (F : Nat → Prop) (va : Value) : Prop where
  down : Down S per U rs u
  dsk : Dsk w0 wr d S F
  row : RowP wr w0.heap.size F va rs
  own : ∀ k, va.ownBlock = some k → ¬ F k
theorem OnSt.step {w0 wr w' : World} {p d per U : Nat} {rs ps : List (List Int)} {S : St} {F : Nat → Prop} {va : Value} (h : OnSt w0 wr p d per U rs ps S F va) (hk : Kp (fun _ => False) wr w') : OnSt w0 w' p d per U rs ps S F va :=
  ⟨h.up, h.has.step hk, h.row.kept hk (fun _ h => h.elim) (fun _ _ h => h) fun _ h => .inl h, h.own⟩
theorem OffSt.step {w0 wr w' : World} {d per U : Nat} {rs : List (List Int)} {u : List Int} {S : St} {F : Nat → Prop} {va : Value} (h : OffSt w0 wr d per U rs u S F va) (hk : Kp (fun _ => False) wr w') : OffSt w0 w' d per U rs u S F va :=
  ⟨h.down, h.dsk.step hk, h.row.kept hk (fun _ h => h.elim) (fun _ _ h => h) fun _ h => .inl h, h.own⟩
theorem OnSt.more {w0 wr : World} {p d per U V : Nat} {rs ps : List (List Int)} {S : St} {F : Nat → Prop} {va : Value} (h : OnSt w0 wr p d per U rs ps S F va) (hv : U ≤ V) : OnSt w0 wr p d per V rs ps S F va := ⟨h.up.more hv, h.has, h.row, h.own⟩
theorem OffSt.more {w0 wr : World} {d per U V : Nat} {rs : List (List Int)} {u : List Int} {S : St} {F : Nat → Prop} {va : Value} (h : OffSt w0 wr d per U rs u S F va) (hv : U ≤ V) : OffSt w0 wr d per V rs u S F va := ⟨h.down.more hv, h.dsk, h.row, h.own⟩
theorem OnSt.lt {w0 wr : World} {p d per U : Nat} {rs ps : List (List Int)} {S : St} {F : Nat → Prop} {va : Value} (h : OnSt w0 wr p d per U rs ps S F va) : ∀ k, F k ∨ k = p → k < wr.heap.size := fun k hk => by
  rcases hk with hk | rfl
  · exact h.has.lg.dsk.flt k hk
  · exact h.has.lg.log.lt
theorem OnSt.new {w0 wr : World} {p d per U : Nat} {rs ps : List (List Int)} {S : St} {F : Nat → Prop} {va : Value} (h : OnSt w0 wr p d per U rs ps S F va) : ∀ k, F k ∨ k = p → w0.heap.size ≤ k := fun k hk => by
  rcases hk with hk | rfl
  · exact h.has.lg.dsk.new k hk
  · exact h.has.lg.new
/-- An append. -/
theorem OnSt.append {w0 w : World} {p d per U : Nat} {rs : List (List Int)} {S : St} {F : Nat → Prop} {va v : Value} {q : List Int} (h : OnSt w0 w p d per U rs rs S F va) (hb : BytesAt w (fun k => F k ∨ k = p) v q) (hq : 1 ≤ q.length ∧ q.length ≤ 300 ∧ Byts q) (hU : U ≤ 2000) (hs : rs.length / per ≤ 61) (hc : rs.length ≤ 100) :
    Calls Tryz.prog 12 #[.pointer (some ⟨p, 0, none⟩), v] w fun e w' => Kp (fun _ => False) w0 w' ∧ Kp (fun k => F k ∨ k = p) w w' ∧ ∃ S' F',
      (e = .returned (.tuple #[.int .i64 ((rs.length + 1 : Nat) : Int), .int .i64 0]) ∧ OnSt w0 w' p d per (U + 20) (rs ++ [q]) rs S' F' va) ∨
      (e = .returned (.tuple #[.int .i64 0, .int .i64 18]) ∧ OffSt w0 w' d per (U + 20) rs q S' F' va) := by
  obtain ⟨b, o, n, c, rfl⟩ := hb.ptr (by omega)
  have hlen := hb.len.1
  have hA := LAppend_any (r := rs.length + 1) h.has.lg (linkAt_ok rs _).2 hb hq.2.2 (by omega) (by omega) h.has.lays.perOk.1 h.has.lays.perOk.2 (by omega) (by omega)
  rw [seg_next] at hA
  refine hA.mono ?_
  rintro e w' ⟨F', hF, hk, hr⟩
  have hrow := h.row.kept hk (fun _ h => h) h.own (F' := fun k => F' k ∨ k = p) fun k hk' => by
    rcases hk' with hk' | hk'
    · exact (hF k hk').imp .inl id
    · exact .inl (.inr hk')
  have hown : ∀ k, va.ownBlock = some k → ¬ (F' k ∨ k = p) := fun k hk' hf => by
    have hlt := (h.row.lt k hk').2
    rcases hf with hf | hf
    · rcases hF k hf with h1 | h1
      · exact h.own k hk' (.inl h1)
      · omega
    · exact h.own k hk' (.inr hf)
  rcases h.up.append hq hU hs hc with ⟨hE, hU'⟩ | ⟨hE, hD⟩
  · rcases hr with ⟨h0, _⟩ | ⟨_, rfl, hlg⟩
    · exact absurd hE h0
    · refine ⟨hlg.dsk.kp, hk, _, F', .inl ⟨rfl, hU', ⟨?_, hU'.lays⟩, hrow, hown⟩⟩
      have e1 : (rs ++ [q]).length = rs.length + 1 := by simp
      have e2 : linkAt (rs ++ [q]) (rs.length + 1) = chainF (linkAt rs rs.length) q := by
        rw [linkAt_succ (by simp), linkAt_append rs [q] (Nat.le_refl _)]; simp
      rw [e1, e2]
      exact hlg
  · rcases hr with ⟨_, he, hlg⟩ | ⟨h0, _⟩
    · have he' : e = .returned (.tuple #[.int .i64 0, .int .i64 (S.lapE (lnm (rs.length / per)) (nextB rs q))]) := he
      rw [hE] at he'
      exact ⟨hlg.dsk.kp, hk, _, F', .inr ⟨he', hD, hlg.dsk, hrow.mono fun _ h => .inl h, fun k hk' hf => hown k hk' (.inl hf)⟩⟩
    · have h0' : S.lapE (lnm (rs.length / per)) (nextB rs q) = 0 := h0
      rw [hE] at h0'
      exact absurd h0' (by decide)
/-- A payload is put behind the row. -/
theorem OnSt.push {w0 wr : World} {p d per U : Nat} {rs ps : List (List Int)} {S : St} {F : Nat → Prop} {va x : Value} {q : List Int} (h : OnSt w0 wr p d per U rs ps S F va) (hx : BytesAt w0 (fun _ => False) x q) (hn : ps.length ≤ 1000000) (ty : TypeId) :
    ∃ v' w', (Builtin.append_ #[29, 29] ty #[va, .slice (some ⟨wr.heap.size, 0, none⟩) 1 1]).run Tryz.prog (wr.alloc (.cells #[x] 33)) = .ok v' w' ∧ OnSt w0 w' p d per U rs (ps ++ [q]) S F v' ∧ Kp (fun _ => False) w0 w' ∧ Kp (fun k => va.ownBlock = some k) wr w' ∧ ∀ k, v'.ownBlock = some k → va.ownBlock = some k ∨ wr.heap.size ≤ k := by
  have hx' : BytesAt wr (fun k => (F k ∨ k = p) ∨ va.ownBlock = some k) x q := hx.since h.has.lg.dsk.kp fun k hk => by
    rcases hk with hk | hk
    · exact h.new k hk
    · exact (h.row.lt k hk).1
  obtain ⟨v', w', hr, hrow, hk, _, hnew⟩ := h.row.push hx' h.has.lg.dsk.kp.size h.lt hn ty
  have hpo : ∀ k, va.ownBlock = some k → ¬ F k := fun k hk hf => h.own k hk (.inl hf)
  have hD := h.has.lg.dsk.beside hk (fun k hk hf => hpo k hk hf) (fun k hk => (h.row.lt k hk).1)
  refine ⟨v', w', hr, ⟨h.up, ⟨⟨hD, h.has.lg.log.kept hk fun hk => h.own _ hk (.inr rfl), h.has.lg.out, h.has.lg.new⟩, h.has.lays⟩, hrow, fun k hk' hf => ?_⟩, hD.kp, hk, hnew⟩
  rcases hnew k hk' with h1 | h1
  · exact h.own k h1 hf
  · have := h.lt k hf; omega
theorem OnSt.pay {w0 wr : World} {p d per U : Nat} {rs ps : List (List Int)} {S : St} {F : Nat → Prop} {va : Value} (h : OnSt w0 wr p d per U rs ps S F va) : PayAt wr (fun k => F k ∨ k = p) va ps := h.row.pay h.own
/-- Armed. -/
theorem OnSt.arm {w0 w : World} {p d per U : Nat} {rs ps : List (List Int)} {S : St} {F : Nat → Prop} {va : Value} (h : OnSt w0 w p d per U rs ps S F va) {n : Int} (hn : 0 ≤ n ∧ n ≤ 6) :
    Calls Tryz.prog 26 #[.pointer (some ⟨d, 0, none⟩), .int .i64 n] w fun e w' => e = .returned (.int .i64 0) ∧ Kp (fun _ => False) w0 w' ∧ ∃ F', OnSt w0 w' p d per U rs ps { S with armed := n } F' va := by
  refine (h.has.lg.dsk.arm h.up.off n ⟨hn.1, by omega⟩).mono ?_
  rintro e w' ⟨rfl, F', hD, hF, hk⟩
  have hlg := h.has.lg.goes hD hF hk
  refine ⟨rfl, hD.kp, F', h.up.arm hn, ⟨hlg, h.has.lays⟩, h.row.kept (hk.mono fun k h => .inl h) (fun _ h => h) h.own fun k hk' => ?_, fun k hk' hf => ?_⟩
  · rcases hk' with hk' | hk'
    · exact (hF k hk').imp .inl id
    · exact .inl (.inr hk')
  · have hlt := (h.row.lt k hk').2
    rcases hf with hf | hf
    · rcases hF k hf with h1 | h1
      · exact h.own k hk' (.inl h1)
      · omega
    · exact h.own k hk' (.inr hf)
theorem OffSt.arm {w0 w : World} {d per U : Nat} {rs : List (List Int)} {u : List Int} {S : St} {F : Nat → Prop} {va : Value} (h : OffSt w0 w d per U rs u S F va) (n : Int) (hn : 0 ≤ n) :
    Calls Tryz.prog 26 #[.pointer (some ⟨d, 0, none⟩), .int .i64 n] w fun e w' => e = .returned (.int .i64 18) ∧ w = w' := h.dsk.arm_off h.down.off n hn
/-- Behind a restart, before the opening. -/
structure MidSt (w0 wr : World) (d per U : Nat) (rs : List (List Int)) (u : List Int) (S : St) (F : Nat → Prop) (va : Value) : Prop where
  off : S.off = false
  room : S.room = 20000
  armed : 0 ≤ S.armed ∧ S.armed ≤ 6
  used : used S.files ≤ U
  safe : Safe S.files
  load : 1 ≤ u.length ∧ u.length ≤ 4096 ∧ Byts u
  lays : Lays S.files per 0 (rs ++ [u]) [] ∨ ∃ T, Lays S.files per 0 rs T
  dsk : Dsk w0 wr d S F
  row : RowP wr w0.heap.size F va rs
  own : ∀ k, va.ownBlock = some k → ¬ F k
theorem own_moved {w : World} {B : Nat} {G F F' : Nat → Prop} {va : Value} {ps : List (List Int)} (hr : RowP w B G va ps) (ho : ∀ k, va.ownBlock = some k → ¬ F k) (hF : ∀ k, F' k → F k ∨ w.heap.size ≤ k) : ∀ k, va.ownBlock = some k → ¬ F' k := fun k hk hf => by
  have hlt := (hr.lt k hk).2
  rcases hF k hf with h1 | h1
  · exact ho k hk h1
  · omega
theorem OffSt.restart {w0 w w' : World} {d per U : Nat} {rs : List (List Int)} {u : List Int} {S : St} {F : Nat → Prop} {va : Value} (h : OffSt w0 w d per U rs u S F va) (dn : Bool) {L : List Bool} (hl : L.length ≤ 140737488351232) {g c : Nat} (hc : L.length ≤ c) (hg : w.heap.size ≤ g) (hgs : g < w'.heap.size)
    (hx : ∀ (j : Nat) x, (L.map Value.bool)[j]? = some x → w'.cell? ⟨g, 0 + j, none⟩ = some x) (hk : Kp (fun _ => False) w w') :
    Calls Tryz.prog 27 #[.pointer (some ⟨d, 0, none⟩), .agg #[.bool dn, .slice (some ⟨g, 0, none⟩) L.length c]] w' fun e w2 => e = .returned (.int .i64 0) ∧ Kp (fun _ => False) w0 w2 ∧ Kp F w' w2 ∧ ∃ F', MidSt w0 w2 d per U rs u (S.restart dn L) F' va := by
  have h' := h.step hk
  refine (h.dsk.restart_new h.down.off dn hl hc hg hgs hx hk).mono ?_
  rintro e w2 ⟨rfl, F', hD, hF, hk2⟩
  obtain ⟨S1, e1, a1, a2, a3, a4, a5, a6⟩ := h.down.restart dn L 0
  have e2 : S.restart dn L = S1 := e1
  rw [e2] at hD ⊢
  exact ⟨rfl, hD.kp, hk2, F', a1, a2, by rw [a3]; decide, a4, a5, h.down.load, a6, hD, h'.row.kept hk2 (fun _ h => h) h'.own hF, own_moved h'.row h'.own hF⟩
theorem MidSt.arm {w0 w : World} {d per U : Nat} {rs : List (List Int)} {u : List Int} {S : St} {F : Nat → Prop} {va : Value} (h : MidSt w0 w d per U rs u S F va) {n : Int} (hn : 0 ≤ n ∧ n ≤ 6) :
    Calls Tryz.prog 26 #[.pointer (some ⟨d, 0, none⟩), .int .i64 n] w fun e w' => e = .returned (.int .i64 0) ∧ Kp (fun _ => False) w0 w' ∧ ∃ F', MidSt w0 w' d per U rs u { S with armed := n } F' va := by
  refine (h.dsk.arm h.off n ⟨hn.1, by omega⟩).mono ?_
  rintro e w' ⟨rfl, F', hD, hF, hk⟩
  exact ⟨rfl, hD.kp, F', h.off, h.room, hn, h.used, h.safe, h.load, h.lays, hD, h.row.kept hk (fun _ h => h) h.own hF, own_moved h.row h.own hF⟩
/-- The opening. -/
theorem MidSt.opens {w0 w : World} {d per U : Nat} {rs : List (List Int)} {u : List Int} {S : St} {F : Nat → Prop} {va : Value} (h : MidSt w0 w d per U rs u S F va) :
    Calls Tryz.prog 11 #[.pointer (some ⟨d, 0, none⟩), .int .i64 (per : Int)] w fun e w' => Kp (fun _ => False) w0 w' ∧ ∃ S' F',
      (e = .returned (.tuple #[.pointer none, .slice none 0 0, .int .i64 18]) ∧ OffSt w0 w' d per U rs u S' F' va) ∨
      ∃ p v rs', (rs' = rs ∨ rs' = rs ++ [u]) ∧ e = .returned (.tuple #[.pointer (some ⟨p, 0, none⟩), v, .int .i64 0]) ∧ OnSt w0 w' p d per U rs' rs S' F' va ∧ PayAt w' (fun k => (F' k ∨ k = p) ∨ va.ownBlock = some k) v rs' := by
  have key : ∀ rs' T, (rs' = rs ∨ rs' = rs ++ [u]) → Lays S.files per 0 rs' T → ((S.lopE (lnm (rs'.length / per)) T = 0 ∧ Up (S.lopS (lnm (rs'.length / per)) T ((segB rs' (rs'.length / per * per) (rs'.length % per)).length / 32)) per U rs') ∨
    (S.lopE (lnm (rs'.length / per)) T = 18 ∧ Down (S.lopS (lnm (rs'.length / per)) T ((segB rs' (rs'.length / per * per) (rs'.length % per)).length / 32)) per U rs u)) → Calls Tryz.prog 11 #[.pointer (some ⟨d, 0, none⟩), .int .i64 (per : Int)] w fun e w' => Kp (fun _ => False) w0 w' ∧ ∃ S' F',
      (e = .returned (.tuple #[.pointer none, .slice none 0 0, .int .i64 18]) ∧ OffSt w0 w' d per U rs u S' F' va) ∨
      ∃ p v rs', (rs' = rs ∨ rs' = rs ++ [u]) ∧ e = .returned (.tuple #[.pointer (some ⟨p, 0, none⟩), v, .int .i64 0]) ∧ OnSt w0 w' p d per U rs' rs S' F' va ∧ PayAt w' (fun k => (F' k ∨ k = p) ∨ va.ownBlock = some k) v rs' := fun rs' T hor hL hC => by
    refine (LOpen_any h.dsk h.off hL).mono ?_
    rintro e w' ⟨F', hF, hk, hr⟩
    have hrow := h.row.kept hk (fun _ h => h) h.own hF
    have hown := own_moved h.row h.own hF
    rcases hC with ⟨hE, hU⟩ | ⟨hE, hD⟩
    · rcases hr with ⟨h0, _⟩ | ⟨_, p, v, rfl, hlg, hp, hpw⟩
      · exact absurd hE h0
      · rw [Nat.zero_mul, List.drop_zero] at hp
        have hrow2 := h.row.kept hk (fun _ h => h) h.own (F' := fun k => F' k ∨ k = p) fun k hk' => by
          rcases hk' with hk' | rfl
          · exact hF k hk'
          · exact .inr hpw
        refine ⟨hlg.dsk.kp, _, F', .inr ⟨p, v, rs', hor, rfl, ⟨hU, ⟨hlg, hU.lays⟩, hrow2, fun k hk' hf => ?_⟩, hp.mono fun k hk' => by
          rcases hk' with hk' | hk'
          · exact .inr hk'
          · exact .inl (h.row.lt k hk').2⟩⟩
        rcases hf with hf | hf
        · exact hown k hk' hf
        · have := (h.row.lt k hk').2; omega
    · rcases hr with ⟨_, he, hd⟩ | ⟨h0, _⟩
      · rw [hE] at he
        exact ⟨hd.kp, _, F', .inl ⟨he, hD, hd, hrow, hown⟩⟩
      · rw [hE] at h0
        exact absurd h0 (by decide)
  rcases h.lays with hL | ⟨T, hL⟩
  · refine key _ _ (.inr rfl) hL (.inl ?_)
    rw [show S.lopE (lnm ((rs ++ [u]).length / per)) [] = 0 from if_pos rfl, show S.lopS (lnm ((rs ++ [u]).length / per)) [] _ = S from if_pos rfl]
    exact ⟨rfl, h.off, h.armed, h.room, h.used, hL, h.safe⟩
  · exact key _ _ (.inl rfl) hL (cut_open h.off h.room h.armed h.used h.safe hL h.dsk.ok h.load)
end Go.Proofs.YtggnohbfdlebiaaGreatDoor

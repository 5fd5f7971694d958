/-
  What a disk without a fault does to its files, plainly: no program stands in it.
-/
import Derived.Test.YtmcmapaapffadaaDoorOps
namespace Go.Proofs.YtmcmapaapffadaaDoor
open Go.RowKit

/-! ### lists of pairs -/
section
variable {α : Type}
theorem get_del_ne {l : List (Nm × α)} {x y : Nm} (h : y ≠ x) : get (del l x) y = get l y := by
  induction l with
  | nil => rfl
  | cons p l ih =>
    obtain ⟨k, u⟩ := p
    by_cases hk : x = k
    · subst hk; simp [del, get, h]
    · simp only [del, if_neg hk, get, ih]
theorem get_put_ne {l : List (Nm × α)} {x y : Nm} (h : y ≠ x) (v : α) : get (put l x v) y = get l y := by rw [get_put, if_neg h]
theorem get_put_eq (l : List (Nm × α)) (x : Nm) (v : α) : get (put l x v) x = some v := by rw [get_put, if_pos rfl]
theorem put_length (l : List (Nm × α)) (x : Nm) (v : α) : (put l x v).length ≤ l.length + 1 := by
  have h := congrArg List.length (put_keys l x v)
  rw [List.length_map] at h
  rw [h]; split <;> simp
theorem del_length (l : List (Nm × α)) (x : Nm) : (del l x).length ≤ l.length := by
  induction l with
  | nil => exact Nat.le_refl _
  | cons p l ih =>
    obtain ⟨k, u⟩ := p
    by_cases hk : x = k
    · subst hk; simp [del]
    · simp only [del, if_neg hk, List.length_cons]; omega
end
theorem getF_put_eq (fs : Files) (x : Nm) (l : List Sec) : getF (put fs x l) x = l := by simp [getF, get_put_eq]
theorem getF_put_ne {fs : Files} {x y : Nm} (h : y ≠ x) (l : List Sec) : getF (put fs x l) y = getF fs y := by simp [getF, get_put_ne h]
theorem getF_del_ne {fs : Files} {x y : Nm} (h : y ≠ x) : getF (del fs x) y = getF fs y := by simp [getF, get_del_ne h]

/-! ### sectors of bytes -/
def secs (bs : List Int) : List Sec := (List.range (nsec bs.length)).map (secAt bs)
theorem secs_length (bs : List Int) : (secs bs).length = nsec bs.length := by simp [secs]
theorem secs_len (bs : List Int) : ∀ s ∈ secs bs, s.bytes.length = 32 := by
  intro s hs
  obtain ⟨j, _, rfl⟩ := List.mem_map.1 hs
  exact secAt_len bs j
theorem bytesOf_append (a b : List Sec) : bytesOf (a ++ b) = bytesOf a ++ bytesOf b := by simp [bytesOf]
theorem bytesOf_sync (l : List Sec) : bytesOf (syncAll l) = bytesOf l := by simp [bytesOf, syncAll, List.flatMap_map]
theorem syncAll_length (l : List Sec) : (syncAll l).length = l.length := by simp [syncAll]
theorem syncAll_len {l : List Sec} (h : ∀ s ∈ l, s.bytes.length = 32) : ∀ s ∈ syncAll l, s.bytes.length = 32 := by
  intro s hs
  obtain ⟨x, hx, rfl⟩ := List.mem_map.1 hs
  exact h x hx
theorem bytesOf_take {l : List Sec} (h : ∀ s ∈ l, s.bytes.length = 32) (k : Nat) : bytesOf (l.take k) = (bytesOf l).take (32 * k) := by
  induction l generalizing k with
  | nil => simp [bytesOf]
  | cons s l ih =>
    cases k with
    | zero => simp [bytesOf]
    | succ k =>
      have h0 := h s (by simp)
      have h1 := ih (fun x hx => h x (by simp [hx])) k
      simp only [List.take_succ_cons]
      show s.bytes ++ bytesOf (l.take k) = (s.bytes ++ bytesOf l).take (32 * (k + 1))
      rw [h1, List.take_append, List.take_of_length_le (l := s.bytes) (by omega), h0, show 32 * (k + 1) - 32 = 32 * k by omega]
/-- Number k of the sectors, out of the bytes. -/
theorem bytesOf_at {l : List Sec} (h : ∀ s ∈ l, s.bytes.length = 32) {k : Nat} (hk : k < l.length) : ((bytesOf l).drop (32 * k)).take 32 = l[k].bytes := by
  induction l generalizing k with
  | nil => simp at hk
  | cons s l ih =>
    have h0 := h s (by simp)
    cases k with
    | zero =>
      show ((s.bytes ++ bytesOf l).drop (32 * 0)).take 32 = s.bytes
      rw [Nat.mul_zero, List.drop_zero, List.take_append, List.take_of_length_le (by omega), h0, Nat.sub_self]; simp
    | succ k =>
      have h1 := ih (fun x hx => h x (by simp [hx])) (k := k) (by simpa using hk)
      show ((s.bytes ++ bytesOf l).drop (32 * (k + 1))).take 32 = _
      rw [List.drop_append, List.drop_eq_nil_of_le (by omega), h0, show 32 * (k + 1) - 32 = 32 * k by omega, List.nil_append, h1]
      rfl

/-! ### behind a crash -/
def AllSafe (l : List Sec) : Prop := ∀ s ∈ l, s.synced = true
theorem syncAll_safe (l : List Sec) : AllSafe (syncAll l) := by
  intro s hs
  obtain ⟨x, _, rfl⟩ := List.mem_map.1 hs
  rfl
theorem fateN_safe (K : List Bool) {l : List Sec} (h : AllSafe l) : ∀ i, fateN K i l = l := by
  induction l with
  | nil => intro i; rfl
  | cons s l ih =>
    intro i
    have hs := h s (by simp)
    have e : fateSec K i s = s := by
      unfold fateSec; rw [if_pos (.inl hs)]; cases s; simp only [setSync] at *; rw [hs]
    rw [fateN, e, ih fun x hx => h x (by simp [hx])]
theorem fateN_all (K : List Bool) (l : List Sec) : ∀ i, AllSafe (fateN K i l) := by
  induction l with
  | nil => intro i s hs; simp [fateN] at hs
  | cons x l ih =>
    intro i s hs
    simp only [fateN, List.mem_cons] at hs
    rcases hs with rfl | hs
    · unfold fateSec; split <;> rfl
    · exact ih _ s hs
theorem fateN_idem (K : List Bool) (l : List Sec) (i j : Nat) : fateN K j (fateN K i l) = fateN K i l := fateN_safe K (fateN_all K l i) j
/-- Each sector is what it was, or noughts. -/
theorem fateN_get (K : List Bool) {l : List Sec} {k : Nat} (hk : k < l.length) : ∀ i, ∃ s, (fateN K i l)[k]? = some s ∧ (s.bytes = l[k].bytes ∨ s.bytes = List.replicate 32 0) := by
  induction l generalizing k with
  | nil => simp at hk
  | cons x l ih =>
    intro i
    cases k with
    | zero =>
      refine ⟨fateSec K i x, rfl, ?_⟩
      unfold fateSec
      split
      · exact .inl rfl
      · exact .inr rfl
    | succ k =>
      obtain ⟨s, h1, h2⟩ := ih (k := k) (by simpa using hk) (if x.synced = true then i else i + 1)
      exact ⟨s, by simpa [fateN] using h1, by simpa using h2⟩
theorem foldl_fate (K : List Bool) (n : Nm) : ∀ (ns : List Nm) (p : Nat × Files), (∃ i, getF (ns.foldl (fateStep K) p).2 n = fateN K i (getF p.2 n)) ∨ (n ∉ ns ∧ getF (ns.foldl (fateStep K) p).2 n = getF p.2 n)
  | [], p => .inr ⟨by simp, rfl⟩
  | m :: ns, p => by
    rw [List.foldl_cons]
    by_cases h : n = m
    · subst h
      have e : getF (fateStep K p n).2 n = fateN K p.1 (getF p.2 n) := getF_put_eq _ _ _
      rcases foldl_fate K n ns (fateStep K p n) with ⟨i, hi⟩ | ⟨_, hi⟩
      · rw [e, fateN_idem] at hi; exact .inl ⟨_, hi⟩
      · rw [e] at hi; exact .inl ⟨_, hi⟩
    · have e : getF (fateStep K p m).2 n = getF p.2 n := getF_put_ne h _
      rcases foldl_fate K n ns (fateStep K p m) with ⟨i, hi⟩ | ⟨h', hi⟩
      · rw [e] at hi; exact .inl ⟨_, hi⟩
      · rw [e] at hi; exact .inr ⟨by simp [h, h'], hi⟩
theorem mem_namesB {fs : Files} {n : Nm} : n ∈ namesB fs ↔ n ∈ fs.map (·.1) := by
  constructor
  · exact namesB_mem n
  · intro h
    obtain ⟨p, hp, rfl⟩ := List.mem_map.1 h
    refine List.mem_map.2 ⟨p.1.data.toList, (List.mergeSort_perm _ _).mem_iff.2 (List.mem_map.2 ⟨p, hp, rfl⟩), by simp⟩
theorem fated_getF (K : List Bool) {fs : Files} {n : Nm} (h : (get fs n).isSome = true) : ∃ i, getF (fateFold K (namesB fs) fs).2 n = fateN K i (getF fs n) := by
  rcases foldl_fate K n (namesB fs) (0, fs) with h1 | ⟨h1, _⟩
  · exact h1
  · exact absurd (mem_namesB.2 (get_isSome.1 h)) h1
theorem fated_keys (K : List Bool) (fs : Files) : (fateFold K (namesB fs) fs).2.map (·.1) = fs.map (·.1) := fateFold_keys K (namesB fs) (0, fs) fun n hn => namesB_mem n hn
theorem fated_isSome (K : List Bool) (fs : Files) (n : Nm) : (get (fateFold K (namesB fs) fs).2 n).isSome = (get fs n).isSome := by
  rw [Bool.eq_iff_iff, get_isSome, get_isSome, fated_keys]

/-! ### a disk that is on and not armed -/
structure Idle (S : St) : Prop where
  off : S.off = false
  armed : S.armed = 0
namespace Idle
variable {S : St} (h : Idle S)
include h
theorem doE : S.doE = 0 := by unfold St.doE; rw [if_neg (by rw [h.armed]; decide)]
theorem doS (hg : Hg) : S.doS hg = { S with ops := wrap64 (S.ops + 1), armed := 0, files := hg.run S.files } := by
  unfold St.doS; rw [if_neg (by rw [h.armed]; decide), if_pos h.armed]
theorem did (hg : Hg) : Idle (S.doS hg) := by rw [h.doS]; exact ⟨h.off, rfl⟩
theorem did_files (hg : Hg) : (S.doS hg).files = hg.run S.files := by rw [h.doS]
theorem did_room (hg : Hg) : (S.doS hg).room = S.room := by rw [h.doS]
theorem opE (c : Int) : S.opE c = c := by unfold St.opE; split <;> simp_all [h.doE]
theorem opS (c : Int) (hg : Hg) : Idle (S.opS c hg) := by unfold St.opS; split; exact h.did hg; exact h
theorem opS_room (c : Int) (hg : Hg) : (S.opS c hg).room = S.room := by unfold St.opS; split; exact h.did_room hg; rfl
theorem check (n : Nm) (hn : nameB n = true) : S.check n true = if get S.files n = none then 7 else 0 := by
  unfold St.check
  rw [if_neg (by rw [hn]; simp), h.off]
  by_cases hg : get S.files n = none <;> simp [hg]
theorem there {n : Nm} (hn : nameB n = true) (hs : (get S.files n).isSome = true) : S.check n true = 0 := by
  rw [h.check n hn, if_neg (by rintro e; rw [e] at hs; cases hs)]
theorem gone {n : Nm} (hn : nameB n = true) (hs : get S.files n = none) : S.check n true = 7 := by
  rw [h.check n hn, if_pos hs]
theorem appS (n : Nm) (bs : List Int) : Idle (S.appS n bs) := ⟨(h.did .noop).off, (h.did .noop).armed⟩
theorem appT (n : Nm) (bs : List Int) : Idle (S.appT n bs) := by
  unfold St.appT
  split
  · exact h
  · split
    · exact h
    · split
      · exact h
      · split
        · exact h
        · exact h.appS n bs
end Idle
theorem appS_files (S : St) (n : Nm) (bs : List Int) : (S.appS n bs).files = put S.files n (getF S.files n ++ secs bs) := rfl
theorem appS_room (S : St) (n : Nm) (bs : List Int) : (S.appS n bs).room = S.room := doS_room S .noop
/-- There is room for it. -/
structure Fits (S : St) (n : Nm) (len : Nat) : Prop where
  named : nameB n = true
  room : ¬ S.room < (used S.files : Int) + nsec len
  count : ¬ (get S.files n = none ∧ S.files.length = 64)
theorem Fits.of {S : St} {n : Nm} {len u : Nat} (hn : nameB n = true) (hu : used S.files ≤ u) (hr : (u : Int) + nsec len ≤ S.room) (hc : S.files.length < 64) : Fits S n len :=
  ⟨hn, by omega, fun h => by omega⟩
theorem Fits.appE {S : St} {n : Nm} {len : Nat} (h : Fits S n len) : S.appE n len = if S.off = true then 18 else S.doE := by
  unfold St.appE; rw [if_neg (by rw [h.named]; simp), if_neg h.room, if_neg h.count]
theorem Fits.appT {S : St} {n : Nm} {bs : List Int} (h : Fits S n bs.length) : S.appT n bs = if S.off = true then S else S.appS n bs := by
  unfold St.appT; rw [if_neg (by rw [h.named]; simp), if_neg h.room, if_neg h.count]
theorem Fits.idleE {S : St} {n : Nm} {len : Nat} (h : Fits S n len) (hi : Idle S) : S.appE n len = 0 := by rw [h.appE, if_neg (by rw [hi.off]; simp), hi.doE]
theorem Fits.idleT {S : St} {n : Nm} {bs : List Int} (h : Fits S n bs.length) (hi : Idle S) : S.appT n bs = S.appS n bs := by rw [h.appT, if_neg (by rw [hi.off]; simp)]
theorem used_put_le (fs : Files) (n : Nm) (l : List Sec) : used (put fs n (getF fs n ++ l)) = used fs + l.length := by
  have h := used_put fs n (getF fs n ++ l)
  rw [List.length_append] at h; omega
theorem used_put_same (fs : Files) (n : Nm) (l : List Sec) (hl : l.length = (getF fs n).length) : used (put fs n l) = used fs := by
  have h := used_put fs n l; omega
theorem nsec_le {n k : Nat} (h : n ≤ 32 * k) : nsec n ≤ k := by unfold nsec; omega
/-- Armed for the next operation. -/
theorem armed_append {S : St} {n : Nm} {bs : List Int} (hf : Fits S n bs.length) (hoff : S.off = false) :
    ({ S with armed := 1 } : St).appE n bs.length = 18 ∧ ({ S with armed := 1 } : St).appT n bs = { S with ops := wrap64 (S.ops + 1), armed := 0, off := true, hangs := some .noop, files := put S.files n (getF S.files n ++ secs bs) } := by
  have hf' : Fits ({ S with armed := 1 } : St) n bs.length := ⟨hf.named, hf.room, hf.count⟩
  have ho : ¬ ({ S with armed := 1 } : St).off = true := by show ¬ S.off = true; rw [hoff]; simp
  refine ⟨?_, ?_⟩
  · rw [hf'.appE, if_neg ho]; rfl
  · rw [hf'.appT, if_neg ho]; rfl
/-- Restarted, where nothing hung: the files, each by its fate. -/
theorem restart_idle (S : St) (dn : Bool) (K : List Bool) : Idle (S.restart dn K) := ⟨rfl, rfl⟩
theorem fated_noop {S : St} (h : S.hangs = some .noop) (dn : Bool) : S.fated dn = S.files := by
  unfold St.fated; rw [h]; cases dn <;> rfl
theorem restart_files {S : St} (h : S.hangs = some .noop) (dn : Bool) (K : List Bool) : (S.restart dn K).files = (fateFold K (namesB S.files) S.files).2 := by
  unfold St.restart; rw [fated_noop h]
/-- A disk with one file, just written. -/
theorem first_write {m : Int} {n : Nm} {bs : List Int} (hn : nameB n = true) (hm : (nsec bs.length : Int) ≤ m) :
    (St.new m).appE n bs.length = 0 ∧ Idle ((St.new m).appT n bs) ∧ ((St.new m).appT n bs).files = [(n, secs bs)] ∧ ((St.new m).appT n bs).room = m := by
  have hi : Idle (St.new m) := ⟨rfl, rfl⟩
  have hu : used (St.new m).files ≤ 0 := Nat.le_refl _
  have hf : Fits (St.new m) n bs.length := Fits.of hn hu (by show _ ≤ m; omega) (by show 0 < 64; omega)
  rw [hf.idleE hi, hf.idleT hi]
  exact ⟨rfl, hi.appS n bs, rfl, appS_room _ n bs⟩
end Go.Proofs.YtmcmapaapffadaaDoor

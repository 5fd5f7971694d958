/-
  The order of a disk's names, and of its snapshots' numbers; plain: no program stands in it.
-/
import Derived.Test.YtmcmapaapffadaaDoorWrite
namespace Go.Proofs.YtmcmapaapffadaaDoor
open Go.RowKit

theorem u8_le {a b : UInt8} : (a ≤ b) = (a.toNat ≤ b.toNat) := rfl
def fig (n k : Nat) : UInt8 := UInt8.ofNat (48 + ((n / 10 ^ k % 10 : Nat) : Int)).toNat
theorem fig_nat (n k : Nat) : (fig n k).toNat = 48 + n / 10 ^ k % 10 := by
  have h10 : n / 10 ^ k % 10 < 10 := Nat.mod_lt _ (by decide)
  unfold fig
  rw [UInt8.toNat_ofNat']; omega
theorem digs_le (a b : Nat) : ∀ k, ((digs a k).map fun x => UInt8.ofNat x.toNat) ≤ ((digs b k).map fun x => UInt8.ofNat x.toNat) → a % 10 ^ k ≤ b % 10 ^ k
  | 0, _ => by simp [Nat.mod_one]
  | k + 1, h => by
    have h10 : a / 10 ^ k % 10 < 10 := Nat.mod_lt _ (by decide)
    have h11 : b / 10 ^ k % 10 < 10 := Nat.mod_lt _ (by decide)
    have ha := fig_nat a k
    have hb := fig_nat b k
    simp only [digs, List.map_cons] at h
    rw [List.cons_le_cons_iff] at h
    rw [Nat.mod_pow_succ, Nat.mod_pow_succ]
    have la : a % 10 ^ k < 10 ^ k := Nat.mod_lt _ (Nat.pow_pos (by decide))
    rcases h with h | ⟨h, h'⟩
    · have h2 : (fig a k).toNat < (fig b k).toNat := h
      have h3 : a / 10 ^ k % 10 + 1 ≤ b / 10 ^ k % 10 := by omega
      have := Nat.mul_le_mul_left (10 ^ k) h3
      rw [Nat.mul_add, Nat.mul_one] at this
      omega
    · have h2 : (fig a k).toNat = (fig b k).toNat := congrArg UInt8.toNat h
      have h3 : a / 10 ^ k % 10 = b / 10 ^ k % 10 := by omega
      have := digs_le a b k h'
      rw [h3]; omega
theorem nm_le {a b : Nat} (ha : a ≤ 999999999999) (hb : b ≤ 999999999999) (h : (nmOf a).data.toList ≤ (nmOf b).data.toList) : a ≤ b := by
  have e : ∀ n, (nmOf n).data.toList = 115 :: (digs n 12).map fun x => UInt8.ofNat x.toNat := fun n => by
    unfold nmOf; rw [strOfNums_data]; simp [nameK]
  rw [e, e, List.cons_le_cons_iff] at h
  rcases h with h | ⟨_, h⟩
  · exact absurd h (by decide)
  · have := digs_le a b 12 h
    omega
/-- Two rising lists of the same numbers are alike. -/
theorem rising_ext : ∀ {l m : List Nat}, l.Pairwise (· < ·) → m.Pairwise (· < ·) → (∀ x, x ∈ l ↔ x ∈ m) → l = m
  | [], [], _, _, _ => rfl
  | [], y :: m, _, _, h => absurd ((h y).2 (by simp)) (by simp)
  | x :: l, [], _, _, h => absurd ((h x).1 (by simp)) (by simp)
  | x :: l, y :: m, hl, hm, h => by
    rw [List.pairwise_cons] at hl hm
    have hxy : x = y := by
      have h1 := (h x).1 (by simp)
      have h2 := (h y).2 (by simp)
      rcases List.mem_cons.1 h1 with h1 | h1
      · exact h1
      · rcases List.mem_cons.1 h2 with h2 | h2
        · exact h2.symm
        · have := hl.1 y h2; have := hm.1 x h1; omega
    subst hxy
    congr 1
    refine rising_ext hl.2 hm.2 fun z => ?_
    have hz := h z
    simp only [List.mem_cons] at hz
    constructor
    · intro hz1
      have := hl.1 z hz1
      rcases hz.1 (.inr hz1) with h | h
      · omega
      · exact h
    · intro hz1
      have := hm.1 z hz1
      rcases hz.2 (.inr hz1) with h | h
      · omega
      · exact h
/-- All names are snapshots' or short. -/
def TidyS (fs : Files) : Prop := ∀ s ∈ fs.map (·.1), Tidy s
theorem numB_some {s : Nm} (h : Tidy s) {n : Nat} (e : numB s = some n) : n ≤ 999999999999 ∧ s = nmOf n := by
  rcases h with h | ⟨m, hm, rfl⟩
  · unfold numB at e; rw [if_neg (by omega)] at e; cases e
  · rw [numB_nm m hm] at e; injection e with e; subst e; exact ⟨hm, rfl⟩
theorem mem_snaps {fs : Files} (ht : TidyS fs) {n : Nat} : n ∈ snapsOf fs ↔ n ≤ 999999999999 ∧ (get fs (nmOf n)).isSome = true := by
  unfold snapsOf
  rw [List.mem_filterMap]
  constructor
  · rintro ⟨s, hs, e⟩
    have h1 := namesB_iff.1 hs
    obtain ⟨hn, rfl⟩ := numB_some (ht s (get_isSome.1 h1)) e
    exact ⟨hn, h1⟩
  · rintro ⟨hn, h⟩
    exact ⟨nmOf n, namesB_iff.2 h, numB_nm n hn⟩
theorem snaps_rising {fs : Files} (ht : TidyS fs) (hd : (fs.map (·.1)).Nodup) : (snapsOf fs).Pairwise (· < ·) := by
  have h1 : (namesOf fs).Pairwise (fun x y => decide (x ≤ y) = true) := List.pairwise_mergeSort (le := fun x y : List UInt8 => decide (x ≤ y)) (fun a b c h1 h2 => by simp only [decide_eq_true_eq] at *; exact List.le_trans h1 h2) (fun a b => by simp only [Bool.or_eq_true, decide_eq_true_eq]; exact List.le_total a b) _
  have h2 : (namesOf fs).Nodup := by
    unfold namesOf
    rw [(List.mergeSort_perm _ _).nodup_iff]
    have : (fs.map fun p => p.1.data.toList) = (fs.map (·.1)).map fun s => s.data.toList := by simp
    rw [this]
    exact List.Pairwise.map _ (fun a b hab e => hab (ByteArray.ext (Array.toList_inj.mp e))) hd
  have h3 : (namesB fs).Pairwise fun a b => a.data.toList ≤ b.data.toList ∧ a ≠ b := by
    unfold namesB
    rw [List.pairwise_map]
    refine (List.Pairwise.and h1 h2).imp fun {a b} h => ⟨by simpa using h.1, fun e => h.2 ?_⟩
    have := congrArg (fun s : Nm => s.data.toList) e
    simpa using this
  unfold snapsOf
  rw [List.pairwise_filterMap]
  refine (List.Pairwise.imp_of_mem ?_ h3)
  rintro a b ha hb ⟨hle, hne⟩ x hx y hy
  obtain ⟨hx1, rfl⟩ := numB_some (ht a (namesB_mem a ha)) hx
  obtain ⟨hy1, rfl⟩ := numB_some (ht b (namesB_mem b hb)) hy
  have := nm_le hx1 hy1 hle
  have : x ≠ y := fun e => hne (by rw [e])
  omega
theorem snaps_eq {fs : Files} (ht : TidyS fs) (hd : (fs.map (·.1)).Nodup) {l : List Nat} (hl : l.Pairwise (· < ·)) (h : ∀ n, n ∈ l ↔ n ≤ 999999999999 ∧ (get fs (nmOf n)).isSome = true) : snapsOf fs = l :=
  rising_ext (snaps_rising ht hd) hl fun n => (mem_snaps ht).trans (h n).symm
/-- The greatest number comes last. -/
theorem snaps_last {fs : Files} (ht : TidyS fs) (hd : (fs.map (·.1)).Nodup) {n : Nat} (hn : n ≤ 999999999999) (h : (get fs (nmOf n)).isSome = true) (hmax : ∀ m, m ≤ 999999999999 → (get fs (nmOf m)).isSome = true → m ≤ n) :
    ∃ ns, snapsOf fs = ns ++ [n] := by
  have h1 := snaps_rising ht hd
  have h2 := (mem_snaps ht).2 ⟨hn, h⟩
  rcases List.eq_nil_or_concat (snapsOf fs) with e | ⟨ns, m, e⟩
  · rw [e] at h2; cases h2
  · rw [e] at h1 h2
    have hm := (mem_snaps ht).1 (show m ∈ snapsOf fs by rw [e]; simp)
    have h4 := hmax m hm.1 hm.2
    rw [List.concat_eq_append] at *
    rw [List.pairwise_append] at h1
    rcases List.mem_append.1 h2 with h | h
    · have := h1.2.2 n h m (by simp); omega
    · rw [List.mem_singleton] at h; subst h; exact ⟨ns, e⟩
theorem snaps_nil {fs : Files} (ht : TidyS fs) (h : ∀ n, n ≤ 999999999999 → (get fs (nmOf n)).isSome = false) : snapsOf fs = [] := by
  cases e : snapsOf fs with
  | nil => rfl
  | cons n l =>
    have := (mem_snaps ht).1 (show n ∈ snapsOf fs by rw [e]; simp)
    rw [h n this.1] at this; simp at this
end Go.Proofs.YtmcmapaapffadaaDoor

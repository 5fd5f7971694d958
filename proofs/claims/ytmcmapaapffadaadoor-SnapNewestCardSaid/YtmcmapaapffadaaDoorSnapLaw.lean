/-
  Snapshots, plainly: a payload's sectors, and the payload out of them. No program stands in it.
-/
import Derived.Test.YtmcmapaapffadaaDoorCore
import Derived.OpenShut
namespace Go.Proofs.YtmcmapaapffadaaDoor
open Go.RowKit Go.ChangeShapes

/-- One step of the sum over a bit; a byte; all. -/
def crcBit (c : Int) : Int := bits .xor .u32 (c / 2) (bits .and .u32 3988292384 (-bits .and .u32 c 1 % 4294967296))
def crcBits : Nat → Int → Int
  | 0, c => c
  | k + 1, c => crcBit (crcBits k c)
def crcByte (c b : Int) : Int := crcBits 8 (bits .xor .u32 c b)
def crcSum (bs : List Int) : Int := bs.foldl crcByte 4294967295
def crcF (bs : List Int) : Int := bits .xor .u32 IntKind.u32.max (crcSum bs)
theorem crcSum_succ (bs : List Int) (x : Int) : crcSum (bs ++ [x]) = crcByte (crcSum bs) x := by simp [crcSum]
theorem bits_u32 (op : BinOp) (x y : Int) : 0 ≤ bits op .u32 x y ∧ bits op .u32 x y ≤ 4294967295 := by
  exact bounds_u32 (wf_bits op .u32 x y)
theorem crcBits_range {c : Int} (h : 0 ≤ c ∧ c ≤ 4294967295) : ∀ k, 0 ≤ crcBits k c ∧ crcBits k c ≤ 4294967295
  | 0 => h
  | k + 1 => by rw [crcBits]; exact bits_u32 _ _ _
def tail4 (c : Int) : List Int := [c / 16777216 % 256, c / 65536 % 256, c / 256 % 256, c % 256]
def headF (m i parts : Nat) : List Int := [178, (m : Int), ((i / 256 % 256 : Nat) : Int), ((i % 256 : Nat) : Int), ((parts / 256 % 256 : Nat) : Int), ((parts % 256 : Nat) : Int), 0, 0]
def partOf (body : List Int) (i : Nat) : List Int := (body.drop (24 * i)).take 24
def secOne (body : List Int) (parts i : Nat) : List Int := headF (partOf body i).length i parts ++ partOf body i ++ List.replicate (24 - (partOf body i).length) 0
def partsN (n : Nat) : Nat := (n + 23) / 24
def cutN (body : List Int) (parts k : Nat) : List Int := (List.range k).flatMap (secOne body parts)
def bodyF (bs : List Int) : List Int := bs ++ tail4 (crcF bs)
def secF (bs : List Int) : List Int := cutN (bodyF bs) (partsN (bodyF bs).length) (partsN (bodyF bs).length)
theorem partOf_le (body : List Int) (i : Nat) : (partOf body i).length ≤ 24 := by unfold partOf; rw [List.length_take]; omega
theorem secOne_length (body : List Int) (parts i : Nat) : (secOne body parts i).length = 32 := by
  have := partOf_le body i
  simp only [secOne, headF, List.length_append, List.length_cons, List.length_nil, List.length_replicate]; omega
theorem cutN_succ (body : List Int) (parts k : Nat) : cutN body parts (k + 1) = cutN body parts k ++ secOne body parts k := by
  simp [cutN, List.range_succ]
theorem cutN_length (body : List Int) (parts k : Nat) : (cutN body parts k).length = 32 * k := by
  induction k with
  | zero => rfl
  | succ k ih => rw [cutN_succ, List.length_append, ih, secOne_length]; omega
theorem bodyF_length (bs : List Int) : (bodyF bs).length = bs.length + 4 := by simp [bodyF, tail4]
def chunkOf (p : List Int) (i : Nat) : List Int := (p.drop (32 * i)).take 32
theorem chunkOf_cut (body : List Int) (parts : Nat) : ∀ (k i : Nat), i < k → chunkOf (cutN body parts k) i = secOne body parts i
  | 0, i, h => absurd h (Nat.not_lt_zero i)
  | k + 1, i, h => by
    unfold chunkOf
    rw [cutN_succ, List.drop_append, cutN_length]
    by_cases hik : i < k
    · have h1 := chunkOf_cut body parts k i hik
      unfold chunkOf at h1
      rw [List.take_append_of_le_length (by rw [List.length_drop, cutN_length]; omega), h1]
    · obtain rfl : i = k := by omega
      rw [List.drop_eq_nil_of_le (by rw [cutN_length]; exact Nat.le_refl _), List.nil_append, Nat.sub_self, List.drop_zero, List.take_of_length_le (by rw [secOne_length]; exact Nat.le_refl _)]
/-- How much of a sector is the payload's; which. -/
def lenOf (ch : List Int) : Int := ch.getD 1 0
def bitOf (ch : List Int) : List Int := (ch.drop 8).take (lenOf ch).toNat
theorem lenOf_one (body : List Int) (parts i : Nat) : lenOf (secOne body parts i) = (partOf body i).length := rfl
theorem bitOf_one (body : List Int) (parts i : Nat) : bitOf (secOne body parts i) = partOf body i := by
  unfold bitOf
  rw [lenOf_one, Int.toNat_natCast]
  show ((headF _ i parts ++ partOf body i ++ List.replicate _ 0).drop 8).take _ = _
  rw [List.append_assoc, List.drop_append_of_le_length (by simp [headF]), show (headF (partOf body i).length i parts).drop 8 = [] from rfl, List.nil_append, List.take_left]
/-- The payload's bytes out of the first k sectors, if none says that it has more than 24. -/
def gatherN (p : List Int) : Nat → Option (List Int)
  | 0 => some []
  | k + 1 => (gatherN p k).bind fun b => if 24 < lenOf (chunkOf p k) then none else some (b ++ bitOf (chunkOf p k))
def payF (p : List Int) : Option (List Int) :=
  (gatherN p (p.length / 32)).bind fun b => if b.length < 5 ∨ 400004 < b.length then none else if secF (b.take (b.length - 4)) = p then some (b.take (b.length - 4)) else none
theorem gatherN_cut (body : List Int) (parts n : Nat) : ∀ k, k ≤ n → gatherN (cutN body parts n) k = some (body.take (24 * k))
  | 0, _ => rfl
  | k + 1, h => by
    rw [gatherN, gatherN_cut body parts n k (by omega), Option.bind_some, chunkOf_cut body parts n k (by omega), lenOf_one, if_neg (by have := partOf_le body k; omega), bitOf_one]
    rw [show 24 * (k + 1) = 24 * k + 24 by omega, List.take_add]
    rfl
theorem partsN_le (n : Nat) : n ≤ 24 * partsN n := by unfold partsN; omega
theorem secF_length (bs : List Int) : (secF bs).length = 32 * partsN (bs.length + 4) := by unfold secF; rw [cutN_length, bodyF_length]
/-- What was written is read. -/
theorem pay_sec {bs : List Int} (h1 : 1 ≤ bs.length) (h2 : bs.length ≤ 400000) : payF (secF bs) = some bs := by
  have hl := bodyF_length bs
  unfold payF
  rw [show (secF bs).length / 32 = partsN (bodyF bs).length by rw [secF_length, hl]; omega]
  rw [show gatherN (secF bs) (partsN (bodyF bs).length) = some (bodyF bs) by
    unfold secF; rw [gatherN_cut _ _ _ _ (Nat.le_refl _), List.take_of_length_le (partsN_le _)]]
  rw [Option.bind_some, hl, if_neg (by omega), show bs.length + 4 - 4 = bs.length by omega, show (bodyF bs).take bs.length = bs by unfold bodyF; rw [List.take_left], if_pos rfl]
/-- What is read was written. -/
theorem pay_some {p q : List Int} (h : payF p = some q) : secF q = p ∧ 1 ≤ q.length ∧ q.length ≤ 400000 := by
  unfold payF at h
  cases hg : gatherN p (p.length / 32) with
  | none => rw [hg] at h; cases h
  | some b =>
    rw [hg, Option.bind_some] at h
    split at h
    · cases h
    · split at h
      · rename_i h1 h2
        injection h with h
        subst h
        refine ⟨h2, ?_, ?_⟩ <;> rw [List.length_take] <;> omega
      · cases h
end Go.Proofs.YtmcmapaapffadaaDoor

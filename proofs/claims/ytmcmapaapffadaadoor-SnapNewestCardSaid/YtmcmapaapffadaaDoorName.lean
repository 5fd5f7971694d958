/-
  snap.name: a snapshot's file's name. snap.number: of such a name, and of a name of another length.
-/
import Derived.Test.YtmcmapaapffadaaDoorSectors
import Derived.Laws.BytesArg
import Derived.Lib.SlBytesConst
import Derived.Test.YtmcmapaapffadaaDoorEqual
namespace Go.Proofs.YtmcmapaapffadaaDoor
open Go.RowKit Go.Shelf Go.ChangeMaps

/-- The k lowest figures. -/
def digs (n : Nat) : Nat → List Int
  | 0 => []
  | k + 1 => (48 + ((n / 10 ^ k % 10 : Nat) : Int)) :: digs n k
theorem digs_length (n : Nat) : ∀ k, (digs n k).length = k
  | 0 => rfl
  | k + 1 => by rw [digs, List.length_cons, digs_length n k]
/-- With k figures filled in, from behind. -/
def nameK (n k : Nat) : List Int := 115 :: (List.replicate (12 - k) 48 ++ digs n k)
theorem nameK_length (n k : Nat) (h : k ≤ 12) : (nameK n k).length = 13 := by
  simp only [nameK, List.length_cons, List.length_append, List.length_replicate, digs_length]; omega
theorem nameK_at (n k : Nat) (h : k < 12) : (nameK n k)[12 - k]? = some 48 := by
  obtain ⟨m, hm⟩ : ∃ m, 12 - k = m + 1 := ⟨11 - k, by omega⟩
  simp only [nameK, hm, List.getElem?_cons_succ]
  rw [List.getElem?_append_left (by rw [List.length_replicate]; omega), List.getElem?_replicate, if_pos (by omega)]
theorem nameK_set (n k : Nat) (h : k < 12) : (nameK n k).set (12 - k) (48 + ((n / 10 ^ k % 10 : Nat) : Int)) = nameK n (k + 1) := by
  obtain ⟨m, hm⟩ : ∃ m, 12 - k = m + 1 := ⟨11 - k, by omega⟩
  have hm2 : 12 - (k + 1) = m := by omega
  simp only [nameK, hm, hm2, List.set_cons_succ, digs, List.replicate_succ', List.append_assoc]
  rw [List.set_append_right _ _ (by simp)]
  simp
def nmOf (n : Nat) : Nm := strOfNums (nameK n 12)

theorem digs_byts (n : Nat) : ∀ k, Byts (digs n k)
  | 0 => fun x hx => by cases hx
  | k + 1 => fun x hx => by
    rcases List.mem_cons.1 hx with rfl | hx
    · omega
    · exact digs_byts n k x hx
/-- The row of a name under way. -/
def Row13 (w : World) (b n k : Nat) : Prop := w.heap[b]? = some (.cells (byteVals (nameK n k)).toArray 5 (13, 14))
theorem Row13.cell {w : World} {b n k m : Nat} (h : Row13 w b n k) (hm : m + k = 12) (h0 : 0 < m) : w.cell? ⟨b, m, none⟩ = some (.int .u8 48) := by
  rw [blk_cell h, List.getElem?_toArray]
  have := nameK_at n k (by omega)
  rw [show 12 - k = m by omega] at this
  simp [byteVals, this]
theorem Row13.free {w : World} {b n k m : Nat} (h : Row13 w b n k) (hm : m < 13) : w.frozen? ⟨b, m, none⟩ = false := by
  have : w.heap[b]? = _ := h
  simp [World.frozen?, this]; omega
theorem Row13.set {w : World} {b n k m : Nat} (h : Row13 w b n k) (hm : m + k = 12) (h0 : 0 < m) : Row13 (w.setCell ⟨b, m, none⟩ (.int .u8 (48 + ((n / 10 ^ k % 10 : Nat) : Int)))) b n (k + 1) := by
  unfold Row13
  rw [blk_set h, ← nameK_set n k (by omega), show 12 - k = m by omega]
  simp [byteVals, List.map_set]

set_option maxRecDepth 100000 in
set_option maxHeartbeats 2000000 in
theorem name_any (w : World) (n : Nat) (hn : n ≤ 999999999999) :
    Calls Tryd.prog 22 #[.int .i64 n] w fun e w' => e = .returned (.string (nmOf n)) ∧ Kp (fun _ => False) w w' := by
  have hcv := fun C : Array Value => Lib.run_convert_bytes_const (P := Tryd.prog) w 22 5 C 13 13 (by kernel_rfl) (by kernel_rfl)
  go_enter Tryd.func22, Tryd.ntmps22
  go_wp2
  have HN := Lib.hid hn
  clear hcv hn
  go_loopw [0, 4] (fun vn vi wr => ∃ m k : Nat, m + k = 12 ∧ vi = .int .i64 m ∧ vn = .int .i64 ((n / 10 ^ k : Nat) : Int) ∧ Row13 wr w.heap.size n k ∧ Kp (fun _ => False) w wr) (fun _ i _ => (intOf i).toNat)
  case atStart => exact ⟨12, 0, rfl, rfl, by simp, heap_alloc_new w _, (Kp.refl _ w).alloc _⟩
  case round =>
    obtain ⟨m, k, hm, rfl, rfl, hrow, hkp⟩ := hrel
    have HR := Lib.hid hrow
    have HK := Lib.hid hkp
    obtain ⟨q, hq⟩ : ∃ q, n / 10 ^ k = q := ⟨_, rfl⟩
    have hq2 : q ≤ 999999999999 := by rw [← hq]; exact Nat.le_trans (Nat.div_le_self _ _) HN.out
    have hqs : n / 10 ^ (k + 1) = q / 10 := by rw [← hq, Nat.pow_succ, Nat.div_div_eq_div_mul]
    by_cases h0 : 0 < m
    · have hc := hrow.cell hm h0
      have hf := hrow.free (m := m) (by omega)
      have hset := hrow.set hm h0
      rw [hq] at hset ⊢
      obtain ⟨r, hr⟩ : ∃ r, q % 10 = r := ⟨_, rfl⟩
      obtain ⟨q2, hr2⟩ : ∃ q2, q / 10 = q2 := ⟨_, rfl⟩
      have hd : (q : Int) % 10 = (r : Int) := by omega
      have hd2 : (q : Int) / 10 = (q2 : Int) := by omega
      have hr9 : r ≤ 9 := by omega
      rw [hr] at hset
      rw [hr2] at hqs
      clear hr hr2
      have HSET := Lib.hid hset
      have HQ := Lib.hid hqs
      have HQQ := Lib.hid hq
      clear hset hrow hkp hqs hq
      have hm13 : m < 13 := by omega
      go_wp2
      go_roundw
      case rel => 
        refine ⟨m - 1, k + 1, by omega, by go_num, ?_, HSET.out, HK.out.setCell (.inr (Nat.le_refl _)) _⟩
        rw [HQ.out]
      case measure => simp [intOf]; omega
    · obtain rfl : m = 0 := by omega
      obtain rfl : k = 12 := by omega
      clear hrow hkp hqs
      have hby : BytesAt wr (fun _ => False) (.slice (some ⟨w.heap.size, 0, none⟩) 13 13) (nameK n 12) := by
        refine ⟨_, 13, by rw [nameK_length n 12 (Nat.le_refl _)], Nat.le_refl _, fun j x hj => ⟨_, _, rfl, id, ?_⟩⟩
        rw [Nat.zero_add, blk_cell HR.out, List.getElem?_toArray]
        simp [byteVals, hj]
      have hcv := convert_bytes hby
      rw [show strOfNums (nameK n 12) = nmOf n from rfl] at hcv
      clear hby hq
      go_wp2
      go_ret
      exact ⟨rfl, HK.out⟩
theorem digs_get (n : Nat) : ∀ k j, j < k → (digs n k)[j]? = some (48 + ((n / 10 ^ (k - 1 - j) % 10 : Nat) : Int))
  | 0, _, h => by omega
  | k + 1, 0, _ => by simp [digs]
  | k + 1, j + 1, h => by
    rw [digs, List.getElem?_cons_succ, digs_get n k j (by omega)]
    rw [show k + 1 - 1 - (j + 1) = k - 1 - j by omega]
theorem nm_get (n m : Nat) (h1 : 1 ≤ m) (h2 : m < 13) : (nameK n 12)[m]? = some (48 + ((n / 10 ^ (12 - m) % 10 : Nat) : Int)) := by
  obtain ⟨j, rfl⟩ : ∃ j, m = j + 1 := ⟨m - 1, by omega⟩
  simp only [nameK, Nat.sub_self, List.replicate_zero, List.nil_append, List.getElem?_cons_succ]
  rw [digs_get n 12 j (by omega)]
  rw [show 12 - 1 - j = 12 - (j + 1) by omega]
theorem nm_size (n : Nat) : (nmOf n).size = 13 := by
  unfold nmOf; simp [strOfNums, ByteArray.size, nameK_length n 12 (Nat.le_refl _)]

theorem nm_byte (n m : Nat) (x : Int) (hx : (nameK n 12)[m]? = some x) (h0 : 0 ≤ x) (h1 : x ≤ 255) (h : m < (nmOf n).size) : (((nmOf n)[m]'h).toNat : Int) = x := by
  have hlt := (List.getElem?_eq_some_iff.1 hx).1
  have e : (nmOf n)[m]'h = UInt8.ofNat x.toNat := by
    show (strOfNums (nameK n 12)).data[m]'_ = _
    simp only [strOfNums, List.getElem_toArray, List.getElem_map]
    rw [(List.getElem?_eq_some_iff.1 hx).2]
  rw [e, UInt8.toNat_ofNat']
  omega

set_option maxRecDepth 100000 in
set_option maxHeartbeats 2000000 in
theorem number_nm (w : World) (n : Nat) (hn : n ≤ 999999999999) :
    Calls Tryd.prog 41 #[.string (nmOf n)] w fun e w' => e = .returned (.tuple #[.int .i64 n, .bool true]) ∧ w = w' := by
  have hsz := nm_size n
  go_enter Tryd.func41, Tryd.ntmps41
  have h0 : ∀ h : 0 < (nmOf n).size, (((nmOf n)[0]'h).toNat : Int) = 115 := fun h => nm_byte n 0 115 rfl (by decide) (by decide) h
  go_wp2
  have HN := Lib.hid hn
  clear h0 hn
  go_loopw [4, 5] (fun vn vi wr => ∃ m k : Nat, m + k = 13 ∧ 1 ≤ m ∧ vi = .int .i64 m ∧ vn = .int .i64 ((n / 10 ^ k : Nat) : Int) ∧ wr = w) (fun _ i _ => 13 - (intOf i).toNat)
  case atStart =>
    refine ⟨1, 12, rfl, Nat.le_refl _, rfl, ?_, rfl⟩
    have := HN.out
    rw [Nat.div_eq_of_lt (by omega)]; rfl
  case round =>
    obtain ⟨m, k, hm, h1, rfl, rfl, rfl⟩ := hrel
    obtain ⟨q, hq⟩ : ∃ q, n / 10 ^ k = q := ⟨_, rfl⟩
    by_cases h13 : m < 13
    · obtain ⟨j, rfl⟩ : ∃ j, k = j + 1 := ⟨k - 1, by omega⟩
      obtain ⟨p, hp⟩ : ∃ p, n / 10 ^ j = p := ⟨_, rfl⟩
      have hpq : p / 10 = q := by rw [← hq, ← hp, Nat.pow_succ, Nat.div_div_eq_div_mul]
      have hp2 : p ≤ 999999999999 := by rw [← hp]; exact Nat.le_trans (Nat.div_le_self _ _) HN.out
      obtain ⟨r, hr⟩ : ∃ r, p % 10 = r := ⟨_, rfl⟩
      have hr9 : r ≤ 9 := by omega
      have hq2 : q ≤ 99999999999 := by omega
      have hch : ∀ h : m < (nmOf n).size, (((nmOf n)[m]'h).toNat : Int) = 48 + (r : Int) := fun h => nm_byte n m _ (by
        have := nm_get n m h1 h13
        rw [show 12 - m = j by omega, hp, hr] at this
        exact this) (by omega) (by omega) h
      have hst : 10 * (q : Int) + (r : Int) = (p : Int) := by omega
      have HP := Lib.hid hp
      rw [hq]
      clear hp hq hpq hr
      go_wp2
      go_roundw
      case rel => exact ⟨m + 1, j, by omega, by omega, by go_num, by rw [HP.out]; go_num, trivial⟩
      case measure => simp [intOf]; omega
    · obtain rfl : m = 13 := by omega
      obtain rfl : k = 0 := by omega
      have hqn : q = n := by rw [← hq]; simp
      subst hqn
      clear hq
      go_wp2
      go_ret2
      exact ⟨rfl, rfl⟩
set_option maxRecDepth 100000 in
set_option maxHeartbeats 2000000 in
theorem number_other (w : World) (s : Nm) (hs : s.size ≤ 12) :
    Calls Tryd.prog 41 #[.string s] w fun e w' => e = .returned (.tuple #[.int .i64 0, .bool false]) ∧ w = w' := by
  obtain ⟨z, hz⟩ : ∃ z, s.size = z := ⟨_, rfl⟩
  have hz2 : ¬ (z : Int) = 13 := by omega
  clear hs
  go_enter Tryd.func41, Tryd.ntmps41
  go_wp2
  go_ret2
  exact ⟨rfl, rfl⟩
end Go.Proofs.YtmcmapaapffadaaDoor

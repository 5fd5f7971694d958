/-
  sum.Crc: what it returns.
-/
import Derived.Test.YtmcmapaapffadaaDoorSnapLaw
import Derived.Test.YtmcmapaapffadaaDoorBytes
namespace Go.Proofs.YtmcmapaapffadaaDoor
open Go.RowKit Go.Shelf Go.ChangeMaps
set_option maxRecDepth 100000 in
set_option maxHeartbeats 2000000 in
theorem Crc_any {w : World} {F : Nat → Prop} {p : Option Addr} {n cap : Nat} {bs : List Int} (hb : BytesAt w F (.slice p n cap) bs) (hr : Byts bs) (hn : n ≤ 1000000) :
    Calls Tryd.prog 56 #[.slice p n cap] w (fun e w' => e = .returned (.int .u32 (crcF bs)) ∧ w = w') := by
  have HL := Lib.hid hb.len.1.symm
  have HX : Hid (∀ (j : Nat) x, bs[j]? = some x → 0 ≤ x ∧ x ≤ 255 ∧ ∃ b o, p = some ⟨b, o, none⟩ ∧ w.cell? ⟨b, o + j, none⟩ = some (.int .u8 x)) := fun j x hj =>
    let ⟨b, o, e, h⟩ := hb.at_ j x hj
    ⟨(hr x (List.mem_of_getElem? hj)).1, (hr x (List.mem_of_getElem? hj)).2, b, o, e, h⟩
  clear hb hr
  go_enter Tryd.func56, Tryd.ntmps56
  go_wp2
  go_loopw [3, 8] (fun vc vi wr => ∃ (i : Nat) (c : Int), i ≤ n ∧ vi = .int .i64 i ∧ vc = .int .u32 c ∧ c = crcSum (bs.take i) ∧ (0 ≤ c ∧ c ≤ 4294967295) ∧ wr = w) (fun _ i _ => n - (intOf i).toNat)
  case atStart => exact ⟨0, 4294967295, Nat.zero_le _, rfl, rfl, rfl, by omega, rfl⟩
  case round =>
    obtain ⟨i, c, hi, rfl, rfl, hcs, hc, rfl⟩ := hrel
    have HC := Lib.hid hcs
    clear hcs
    by_cases hin : i < n
    · have hg : bs[i]? = some (bs[i]'(by rw [HL.out]; exact hin)) := List.getElem?_eq_getElem _
      obtain ⟨x, hx⟩ : ∃ x, bs[i]'(by rw [HL.out]; exact hin) = x := ⟨_, rfl⟩
      rw [hx] at hg
      obtain ⟨h1, h2, b, o, rfl, h3⟩ := HX.out i x hg
      have HG := Lib.hid hg
      clear hx hg
      go_wp2
      obtain ⟨c1, hc1⟩ : ∃ c1, bits BinOp.xor IntKind.u32 c x = c1 := ⟨_, rfl⟩
      rw [hc1]
      have hc3 := bits_u32 .xor c x
      rw [hc1] at hc3
      obtain ⟨wo, hwo⟩ : ∃ wo, wo = wr := ⟨_, rfl⟩
      subst hwo
      have HC1 := Lib.hid hc1
      clear hc1 hc h1 h2 h3
      go_loopw [3, 16] (fun vc vk wr => ∃ (k : Nat) (c : Int), k ≤ 8 ∧ vk = .int .i64 k ∧ vc = .int .u32 c ∧ c = crcBits k c1 ∧ (0 ≤ c ∧ c ≤ 4294967295) ∧ wr = wo) (fun _ i _ => 8 - (intOf i).toNat)
      case atStart => exact ⟨0, c1, Nat.zero_le _, rfl, rfl, rfl, hc3, rfl⟩
      case round =>
        obtain ⟨k, c2, hk, rfl, rfl, hcb, hc, rfl⟩ := hrel
        have HB := Lib.hid hcb
        clear hcb
        by_cases hk8 : k < 8
        · go_wp2
          go_roundw
          case rel => exact ⟨k + 1, _, by omega, by go_num, rfl, by rw [HB.out]; rfl, bits_u32 _ _ _, trivial⟩
          case measure => simp [intOf]; omega
        · obtain rfl : k = 8 := by omega
          go_wp2
          go_roundw
          case rel => exact ⟨i + 1, c2, by omega, by go_num, rfl, by rw [List.take_add_one, HG.out, Option.toList_some, crcSum_succ, ← HC.out, HB.out, ← HC1.out]; rfl, hc, trivial⟩
          case measure => simp [intOf]; omega
    · obtain rfl : i = n := by omega
      go_wp2
      go_ret
      refine ⟨?_, rfl⟩
      rw [show crcF bs = bits .xor .u32 IntKind.u32.max c by unfold crcF; rw [HC.out, List.take_of_length_le (by rw [HL.out]; exact Nat.le_refl _)]]
      rfl
end Go.Proofs.YtmcmapaapffadaaDoor

/-
  snap.List: the numbers of all snapshots, of a disk that is on.
-/
import Derived.Test.YtmcmapaapffadaaDoorElems
namespace Go.Proofs.YtmcmapaapffadaaDoor
open Go.RowKit Go.Shelf Go.ChangeMaps

/-- The number of a file's name. -/
def valB (a : Nat) (l : List UInt8) : Nat := l.foldl (fun a b => 10 * a + (b.toNat - 48)) a
def numB (s : Nm) : Option Nat := if s.size = 13 then some (valB 0 s.data.toList.tail) else none
theorem valB_digs (n : Nat) : ∀ k a, valB a ((digs n k).map fun x => UInt8.ofNat x.toNat) = a * 10 ^ k + n % 10 ^ k
  | 0, a => by simp [digs, valB, Nat.mod_one]
  | k + 1, a => by
    have h10 : n / 10 ^ k % 10 < 10 := Nat.mod_lt _ (by decide)
    show valB (10 * a + ((UInt8.ofNat (48 + ((n / 10 ^ k % 10 : Nat) : Int)).toNat).toNat - 48)) _ = _
    rw [valB_digs n k, UInt8.toNat_ofNat']
    have : (48 + ((n / 10 ^ k % 10 : Nat) : Int)).toNat % 2 ^ 8 - 48 = n / 10 ^ k % 10 := by omega
    rw [this, Nat.mod_pow_succ, Nat.pow_succ, Nat.add_mul, Nat.mul_comm (10 ^ k) 10, ← Nat.mul_assoc, Nat.mul_comm a 10, Nat.mul_comm (n / 10 ^ k % 10)]
    omega
theorem numB_nm (n : Nat) (hn : n ≤ 999999999999) : numB (nmOf n) = some n := by
  unfold numB
  rw [if_pos (nm_size n)]
  have : (nmOf n).data.toList.tail = (digs n 12).map fun x => UInt8.ofNat x.toNat := by
    unfold nmOf; rw [strOfNums_data]; simp [nameK]
  rw [this, valB_digs]
  simp; omega
theorem nmOf_inj {a b : Nat} (ha : a ≤ 999999999999) (hb : b ≤ 999999999999) (h : nmOf a = nmOf b) : a = b := by
  have := numB_nm a ha
  rw [h, numB_nm b hb] at this
  injection this with this; exact this.symm
/-- A name that a disk of snapshots has. -/
def Tidy (s : Nm) : Prop := s.size ≤ 12 ∨ ∃ n ≤ 999999999999, s = nmOf n
theorem number_any (w : World) (s : Nm) (h : Tidy s) :
    Calls Tryd.prog 41 #[.string s] w fun e w' => w = w' ∧ ((∃ n, numB s = some n ∧ e = .returned (.tuple #[.int .i64 (n : Nat), .bool true])) ∨ (numB s = none ∧ e = .returned (.tuple #[.int .i64 0, .bool false]))) := by
  rcases h with h | ⟨n, hn, rfl⟩
  · refine (number_other w s h).mono ?_
    rintro e w' ⟨rfl, rfl⟩
    exact ⟨rfl, .inr ⟨by unfold numB; rw [if_neg (by omega)], rfl⟩⟩
  · refine (number_nm w n hn).mono ?_
    rintro e w' ⟨rfl, rfl⟩
    exact ⟨rfl, .inl ⟨n, numB_nm n hn, rfl⟩⟩
theorem Dsk.names {w0 w : World} {d : Nat} {S : St} {F : Nat → Prop} (h : Dsk w0 w d S F) (hoff : S.off = false) :
    Calls Tryd.prog 25 #[.pointer (some ⟨d, 0, none⟩)] w fun e w' => ∃ v, e = .returned v ∧ w'.ownsRow w.heap.size 9 1 v (namesB S.files).length ((namesB S.files).map Value.string) ∧ Kp (fun _ => False) w w' := by
  obtain ⟨m, es, clock, hv, hd⟩ := h.at_
  refine (Names_on hd hoff).mono ?_
  rintro e w' ⟨v, rfl, hrow, _, hb⟩
  refine ⟨v, rfl, ?_, Kp.of_below _ hb⟩
  have e1 : (namesB S.files).length = (namesOf S.files).length := by simp [namesB]
  have e2 : (namesB S.files).map Value.string = (namesOf S.files).map Go.Proofs.encStr := by rw [namesB, List.map_map]; rfl
  rw [e1, e2]; exact hrow
theorem filterMap_one (s : Nm) : [s].filterMap numB = (numB s).toList := by
  cases h : numB s <;> simp [h]
def snapsOf (fs : Files) : List Nat := (namesB fs).filterMap numB

set_option maxRecDepth 100000 in
set_option maxHeartbeats 2000000 in
theorem List_any {w0 w : World} {d : Nat} {S : St} {F : Nat → Prop} (h : Dsk w0 w d S F) (hoff : S.off = false) (ht : ∀ s ∈ S.files.map (·.1), Tidy s) :
    Calls Tryd.prog 12 #[.pointer (some ⟨d, 0, none⟩)] w fun e w' => ∃ v, e = .returned v ∧ OwnI w' w.heap.size v (snapsOf S.files) ∧ Kp (fun _ => False) w w' := by
  have hc := h.names hoff
  have hl : (namesB S.files).length ≤ 64 := by rw [namesB_length]; exact h.ok.count
  have ht' : ∀ s ∈ namesB S.files, Tidy s := fun s hs => ht s (namesB_mem s hs)
  obtain ⟨ns, hns⟩ : ∃ ns, namesB S.files = ns := ⟨_, rfl⟩
  unfold snapsOf
  rw [hns] at hc hl ht' ⊢
  have HT := Lib.hid ht'
  clear ht ht' hns h hoff
  go_enter Tryd.func12, Tryd.ntmps12
  go_wp2_with (go_at_call 25; refine hc.mono ?_; rintro e w1 ⟨v1, rfl, hrow, hk1⟩; obtain ⟨np, nc, rfl, hcells⟩ := names_row hrow; have HR := Lib.hid hrow; have HK := Lib.hid hk1; have HCE := Lib.hid hcells; clear hrow hk1 hcells)
  go_loopw [3, 11] (fun vl vi wr => ∃ k : Nat, k ≤ ns.length ∧ vi = .int .i64 k ∧ OwnI wr w1.heap.size vl ((ns.take k).filterMap numB) ∧ Kp (fun _ => False) w1 wr) (fun _ i _ => ns.length - (intOf i).toNat)
  case atStart => exact ⟨0, Nat.zero_le _, rfl, OwnI.nil _ _, Kp.refl _ _⟩
  case round =>
    obtain ⟨k, hk, rfl, hown, hkp⟩ := hrel
    by_cases hkn : k < ns.length
    · obtain ⟨s, hs⟩ : ∃ s, ns[k] = s := ⟨_, rfl⟩
      have hsk : ns[k]? = some s := by rw [← hs]; exact List.getElem?_eq_getElem hkn
      obtain ⟨nb, rfl, hnb, hcs⟩ := HCE.out k s hsk
      have hcs2 := hkp.cell hcs id
      have hnum := number_any wr s (HT.out s (List.mem_of_getElem? hsk))
      have htk : (ns.take (k + 1)).filterMap numB = (ns.take k).filterMap numB ++ (numB s).toList := by
        rw [List.take_add_one, hsk, List.filterMap_append]
        exact congrArg _ (filterMap_one s)
      have HK2 := Lib.hid hkp
      have hB1 := HK.out.size
      have hB2 := hkp.size
      have hnbw := block_lt_of_cell hcs
      cases hq : numB s with
      | none =>
        have hnum' : Calls Tryd.prog 41 #[.string s] wr fun e w' => e = .returned (.tuple #[.int .i64 0, .bool false]) ∧ wr = w' := hnum.mono fun e w' h => by
          obtain ⟨rfl, ⟨n, h, _⟩ | ⟨_, rfl⟩⟩ := h
          · rw [hq] at h; cases h
          · exact ⟨rfl, rfl⟩
        rw [hq, Option.toList_none, List.append_nil] at htk
        rw [← htk] at hown
        have HO := Lib.hid hown
        clear hown hkp hcs hnum hsk hs htk hq
        go_wp2_with (go_at_call 41; refine hnum'.mono ?_; rintro e w' ⟨rfl, rfl⟩)
        go_roundw
        case rel => exact ⟨k + 1, by omega, by go_num, HO.out, HK2.out⟩
        case measure => simp [intOf]; omega
      | some n =>
        have hnum' : Calls Tryd.prog 41 #[.string s] wr fun e w' => e = .returned (.tuple #[.int .i64 (n : Nat), .bool true]) ∧ wr = w' := hnum.mono fun e w' h => by
          obtain ⟨rfl, ⟨n', h, rfl⟩ | ⟨h, _⟩⟩ := h
          · rw [hq] at h; injection h with h; subst h; exact ⟨rfl, rfl⟩
          · rw [hq] at h; cases h
        rw [hq, Option.toList_some] at htk
        obtain ⟨v', w', hap, ho, hg⟩ := own_int hown n (by omega) (Nat.le_trans (List.length_filterMap_le _ _) (by rw [List.length_take]; omega)) 31
        rw [← htk] at ho
        have hkp2 : Kp (fun _ => False) w1 w' := (hkp.alloc _).trans' (hg.kp (F := fun k => w1.heap.size ≤ k) fun i hi => .inl (hown.lt i hi).1) fun i hi => .inr hi
        have HO := Lib.hid ho
        have HK3 := Lib.hid hkp2
        clear hown hkp hcs hnum hsk hs htk hq ho hg hkp2
        go_wp2_with (first
          | (go_at_call 41; refine hnum'.mono ?_; rintro e w' ⟨rfl, rfl⟩)
          | (at_builtin; refine wpList_append_run rfl _ _ _ _ rfl rfl rfl hap ?_))
        go_roundw
        case rel => exact ⟨k + 1, by omega, by go_num, HO.out, HK3.out⟩
        case measure => simp [intOf]; omega
    · obtain rfl : k = ns.length := by omega
      have HO := Lib.hid hown
      have HK2 := Lib.hid hkp
      clear hown hkp
      go_wp2
      go_ret
      refine ⟨_, rfl, ?_, HK.out.trans HK2.out⟩
      have := HO.out.base HK.out.size
      rwa [List.take_length] at this
end Go.Proofs.YtmcmapaapffadaaDoor

/-
  Merged of my texts, in order: LogAt, Padded, Refused, ShaW, Chain, Nils, Recs, SegLaw, Loads, LogCalm, Same10.
-/
import Derived.Test.YtggnohbfdlebiaaGreatDoorM1
import Derived.Test.YtggnohbfdlebiaaGreatDoorM11
import Derived.Test.YtggnohbfdlebiaaGreatDoorM13
import Derived.ArgAppend
import Derived.OwnWalk
import Derived.BigQuiet
/-
  A log in memory. log.done.
-/
namespace Go.Proofs.YtggnohbfdlebiaaGreatDoor
open Go.RowKit Go.Shelf Go.ChangeMaps

/-- The cells of a log. -/
def logCells (d : Nat) (per first next : Int) (link : List Int) (ended : Bool) : List Value :=
  [.pointer (some ⟨d, 0, none⟩), .int .i64 per, .int .i64 first, .int .i64 next] ++ byteVals link ++ [.bool ended]
/-- At block p there is a log. -/
def LogAt (w : World) (p d : Nat) (per first next : Int) (link : List Int) (ended : Bool) : Prop :=
  w.heap[p]? = some (.cells (logCells d per first next link ended).toArray 76 (0, 0)) ∧ link.length = 32
theorem LogAt.d {w : World} {p d : Nat} {per first next : Int} {link : List Int} {ended : Bool} (h : LogAt w p d per first next link ended) : w.cell? ⟨p, 0, none⟩ = some (.pointer (some ⟨d, 0, none⟩)) := blk_cell h.1 0
theorem LogAt.per {w : World} {p d : Nat} {per first next : Int} {link : List Int} {ended : Bool} (h : LogAt w p d per first next link ended) : w.cell? ⟨p, 1, none⟩ = some (.int .i64 per) := blk_cell h.1 1
theorem LogAt.first {w : World} {p d : Nat} {per first next : Int} {link : List Int} {ended : Bool} (h : LogAt w p d per first next link ended) : w.cell? ⟨p, 2, none⟩ = some (.int .i64 first) := blk_cell h.1 2
theorem LogAt.next {w : World} {p d : Nat} {per first next : Int} {link : List Int} {ended : Bool} (h : LogAt w p d per first next link ended) : w.cell? ⟨p, 3, none⟩ = some (.int .i64 next) := blk_cell h.1 3
theorem LogAt.ended {w : World} {p d : Nat} {per first next : Int} {link : List Int} {ended : Bool} (h : LogAt w p d per first next link ended) : w.cell? ⟨p, 36, none⟩ = some (.bool ended) := by
  rw [blk_cell h.1 36, List.getElem?_toArray]
  unfold logCells
  rw [List.getElem?_append_right (by simp [byteVals_length, h.2])]
  simp [byteVals_length, h.2]
theorem LogAt.kept {w w' : World} {p d : Nat} {per first next : Int} {link : List Int} {ended : Bool} {F : Nat → Prop} (h : LogAt w p d per first next link ended) (hk : Kp F w w') (hF : ¬ F p) : LogAt w' p d per first next link ended := ⟨hk.blk h.1 hF, h.2⟩
theorem logCells_ended (d : Nat) (per first next : Int) {link : List Int} (hl : link.length = 32) (a b : Bool) : (logCells d per first next link a).toArray.setIfInBounds 36 (.bool b) = (logCells d per first next link b).toArray := by
  simp only [logCells, List.setIfInBounds_toArray]
  rw [List.set_append_right _ _ (by simp [byteVals_length, hl])]
  simp [byteVals_length, hl]
set_option maxRecDepth 100000 in
theorem done_any {w : World} {p d : Nat} {per first next : Int} {link : List Int} {ended : Bool} (h : LogAt w p d per first next link ended) (e : Int) :
    Calls Tryz.prog 35 #[.pointer (some ⟨p, 0, none⟩), .int .i64 e] w fun x w' => x = .returned (.int .i64 e) ∧ LogAt w' p d per first next link (ended || e == 18) ∧ Kp (fun k => k = p) w w' := by
  have c := h.ended
  have hfz : w.frozen? ⟨p, 36, none⟩ = false := blk_free h.1 36
  have hset : ∀ b : Bool, LogAt (w.setCell ⟨p, 36, none⟩ (.bool b)) p d per first next link b := fun b => ⟨by rw [blk_set h.1, logCells_ended d per first next h.2], h.2⟩
  have HS := Lib.hid (And.intro h hset)
  clear h hset
  cases ended
  · go_enter Tryz.func35, Tryz.ntmps35
    go_wp2
    go_ret
    exact ⟨rfl, HS.out.2 _, (Kp.refl (fun k => k = p) w).setCell (p := ⟨p, 36, none⟩) (.inl rfl) _⟩
  · go_enter Tryz.func35, Tryz.ntmps35
    go_wp2
    go_ret
    exact ⟨rfl, HS.out.2 _, (Kp.refl (fun k => k = p) w).setCell (p := ⟨p, 36, none⟩) (.inl rfl) _⟩
end Go.Proofs.YtggnohbfdlebiaaGreatDoor

/-
  sum.padded.
-/
namespace Go.Proofs.YtggnohbfdlebiaaGreatDoor
open Go.RowKit Go.Shelf Go.ChangeMaps Go.ChangeShapes

def padZ (n : Nat) : Nat := (119 - n % 64) % 64
def len8 (n : Nat) : List Int := (List.range 8).map fun j => (n : Int) * 8 / 2 ^ (56 - 8 * j) % 256
def padF (bs : List Int) : List Int := bs ++ [128] ++ List.replicate (padZ bs.length) 0 ++ len8 bs.length

theorem Own8.len {w : World} {B : Nat} {v : Value} {bs : List Int} (h : Own8 w B v bs) : ∃ p c, v = .slice p bs.length c := by
  obtain ⟨_, ⟨rfl, h0⟩ | ⟨g, cap, cur, rfl, _⟩⟩ := h
  · exact ⟨none, 0, by rw [h0]⟩
  · exact ⟨_, _, rfl⟩
set_option maxRecDepth 100000 in
set_option maxHeartbeats 1000000 in
theorem padded_any {w : World} {F : Nat → Prop} {b o n c : Nat} {bs : List Int} (hb : BytesAt w F (.slice (some ⟨b, o, none⟩) n c) bs) (hn : n ≤ 100000) :
    Calls Tryz.prog 90 #[.slice (some ⟨b, o, none⟩) n c] w fun e w' => ∃ v, e = .returned v ∧ Own8 w' w.heap.size v (padF bs) ∧ Kp (fun _ => False) w w' := by
  obtain ⟨rfl, hcap⟩ := hb.len
  obtain ⟨w1, hw1⟩ : ∃ w1, w.alloc (.cells #[] 5) = w1 := ⟨_, rfl⟩
  have he := own_empty w w.heap.size (Nat.le_refl _)
  have hb1 : BytesAt w1 (fun _ => False) (.slice (some ⟨b, o, none⟩) bs.length c) bs := by
    rw [← hw1]; exact (hb.mono (F' := fun _ => False) fun _ h => h.elim).kept ((Kp.refl (fun _ => False) w).alloc _) fun _ h => .inl h
  have hk1 : Kp (fun _ => False) w w1 := by rw [← hw1]; exact (Kp.refl _ w).alloc _
  rw [hw1] at he
  obtain ⟨v2, w2, hap1, ho2, hg2⟩ := own_append he hb1 hk1.size (by simp; omega) 33
  rw [List.nil_append] at ho2
  have hk2 : Kp (fun k => w.heap.size ≤ k) w w2 := (hk1.mono fun _ h => h.elim).trans (hg2.kp (F := fun k => w.heap.size ≤ k) fun i hi => .inl (he.lt i hi).1)
  obtain ⟨v3, w3, hap2, ho3, hk3⟩ := own_push ho2 hk2.size [128] (by simp; omega) 33
  have H3 := Lib.hid (And.intro ho3 (hk2.trans hk3))
  have HW1 := Lib.hid hw1
  clear hb hb1 he hk1 hw1 ho2 hg2 hk2 ho3 hk3
  go_enter Tryz.func90, Tryz.ntmps90
  have hap2' : (Builtin.append_ #[33, 33] 33 #[v2, .slice (some ⟨w2.heap.size, 0, none⟩) 1 1]).run Tryz.prog (w2.alloc (.cells #[.int .u8 128] 5)) = .ok v3 w3 := hap2
  clear hap2
  go_wp2_with (at_builtin; refine Hid.out ?_)
  refine Lib.hid ?_
  rw [HW1.out]
  refine wpList_append_run rfl _ _ _ _ rfl rfl rfl hap1 ?_
  clear hap1 HW1
  go_wp2_with (at_builtin; refine Hid.out ?_)
  refine Lib.hid ?_
  refine wpList_append_run rfl _ _ _ _ rfl rfl rfl hap2' ?_
  clear hap2'
  go_wp2
  go_loopw [3] (fun vq wr => ∃ k : Nat, k ≤ padZ bs.length ∧ Own8 wr w.heap.size vq (bs ++ [128] ++ List.replicate k 0) ∧ Kp (fun k => w.heap.size ≤ k) w wr) (fun v _ => bs.length + 1 + padZ bs.length - lenV v)
  case atStart => exact ⟨0, Nat.zero_le _, by rw [List.replicate_zero, List.append_nil]; exact H3.out.1, H3.out.2⟩
  case round =>
    obtain ⟨k, hk, ho, hkp⟩ := hrel
    have hz64 : padZ bs.length < 64 := Nat.mod_lt _ (by decide)
    obtain ⟨q, hq⟩ : ∃ q, bs ++ [128] ++ List.replicate k 0 = q := ⟨_, rfl⟩
    have hql : q.length = bs.length + 1 + k := by rw [← hq]; simp; omega
    obtain ⟨L, hL⟩ : ∃ L, q.length = L := ⟨_, rfl⟩
    rw [hq] at ho
    obtain ⟨qp, qc, rfl⟩ := ho.len
    have HO := Lib.hid (And.intro ho hkp)
    have HQ := Lib.hid (And.intro hq hql)
    rw [hL] at hql
    have HL := Lib.hid hL
    rw [hL]
    by_cases hkz : k < padZ bs.length
    · have hne : (((L : Int) % 64) != 56) = true := by rw [bne_iff_ne]; unfold padZ at hkz; omega
      obtain ⟨v4, w4, hap, ho4, hk4⟩ := own_push ho (by have := hkp.size; omega) [0] (by rw [hL]; simp; omega) 33
      have hap' : (Builtin.append_ #[33, 33] 33 #[.slice qp L qc, .slice (some ⟨wr.heap.size, 0, none⟩) 1 1]).run Tryz.prog (wr.alloc (.cells #[.int .u8 0] 5)) = .ok v4 w4 := by rw [← HL.out]; exact hap
      have e4 : bs ++ [128] ++ List.replicate (k + 1) 0 = q ++ [0] := by rw [← hq, List.replicate_succ']; simp
      have H4 := Lib.hid (And.intro (show Own8 w4 w.heap.size v4 (bs ++ [128] ++ List.replicate (k + 1) 0) from e4 ▸ ho4) (And.intro (hkp.trans hk4) (show lenV v4 = L + 1 by
        obtain ⟨_, _, e⟩ := ho4.len
        rw [e]; show (q ++ [0]).length = _; rw [List.length_append, hL]; rfl)))
      have HB := Lib.hid (And.intro hk (And.intro hkz hql))
      clear ho hkp hq hql hL hap ho4 hk4 e4 hk hkz
      go_wp2_with (at_builtin; refine wpList_append_run rfl _ _ _ _ rfl rfl rfl hap' ?_; clear hap')
      go_roundw
      case rel => exact ⟨k + 1, by have := HB.out; omega, H4.out.1, H4.out.2.1⟩
      case measure =>
        rw [H4.out.2.2]
        have := HB.out
        show _ < _ - L
        omega
    · have hne : (((L : Int) % 64) != 56) = false := by rw [bne_eq_false_iff_eq]; unfold padZ at hkz hk; omega
      have hkk : k = padZ bs.length := by omega
      have hq2 : q = bs ++ [128] ++ List.replicate (padZ bs.length) 0 := by rw [← hq, hkk]
      have HQ2 := Lib.hid hq2
      have hLb : L ≤ 100100 := by omega
      clear ho hkp hq hql hL hk hkz hkk hq2
      go_wp2
      go_loopw [3, 5] (fun vq vs wr => ∃ (j : Nat) (s : Int), j ≤ 8 ∧ s = 56 - 8 * (j : Int) ∧ vs = .int .i64 s ∧ Own8 wr w.heap.size vq (q ++ (len8 bs.length).take j) ∧ Kp (fun k => w.heap.size ≤ k) w wr) (fun _ s _ => (intOf s + 8).toNat)
      case atStart => exact ⟨0, 56, by omega, rfl, rfl, by rw [List.take_zero, List.append_nil, ← HL.out]; exact HO.out.1, HO.out.2⟩
      case round =>
        obtain ⟨j, s, hj, hs, rfl, ho, hkp⟩ := hrel
        obtain ⟨qj, hqj⟩ : ∃ qj, q ++ (len8 bs.length).take j = qj := ⟨_, rfl⟩
        rw [hqj] at ho
        obtain ⟨jp, jc, rfl⟩ := ho.len
        obtain ⟨M, hM⟩ : ∃ M, qj.length = M := ⟨_, rfl⟩
        rw [hM]
        by_cases hj8 : j < 8
        · have hs0 : 0 ≤ s := by omega
          have hs1 : s ≤ 56 := by omega
          have HS := Lib.hid hs
          clear hs
          obtain ⟨x, hx⟩ : ∃ x, (bs.length : Int) * 8 / 2 ^ s.toNat % 256 = x := ⟨_, rfl⟩
          have hx8 : (len8 bs.length)[j]? = some x := by
            unfold len8
            rw [List.getElem?_map, List.getElem?_range hj8, Option.map_some, ← hx, HS.out, show (56 - 8 * (j : Int)).toNat = 56 - 8 * j by omega]
          have hMl : M ≤ 200000 := by
            rw [← hM, ← hqj, List.length_append, List.length_take, HL.out]; omega
          obtain ⟨v4, w4, hap, ho4, hk4⟩ := own_push ho (by have := hkp.size; omega) [x] (by rw [hM]; simp; omega) 33
          rw [hM] at hap
          have hap' : (Builtin.append_ #[33, 33] 33 #[.slice jp M jc, .slice (some ⟨wr.heap.size, 0, none⟩) 1 1]).run Tryz.prog (wr.alloc (.cells #[.int .u8 x] 5)) = .ok v4 w4 := hap
          have e4 : q ++ (len8 bs.length).take (j + 1) = qj ++ [x] := by rw [List.take_add_one, hx8, ← hqj, List.append_assoc]; rfl
          have H4 := Lib.hid (And.intro (show Own8 w4 w.heap.size v4 (q ++ (len8 bs.length).take (j + 1)) from e4 ▸ ho4) (hkp.trans hk4))
          have HX := Lib.hid hx
          clear ho hkp hqj hM hap ho4 hk4 e4 hx hx8
          go_wp2_with (at_builtin; refine Hid.out ?_)
          rw [HX.out]
          refine Lib.hid ?_
          refine wpList_append_run rfl _ _ _ _ rfl rfl rfl hap' ?_
          clear hap'
          go_wp2
          go_roundw
          case rel => exact ⟨j + 1, s - 8, by omega, by have := HS.out; omega, rfl, H4.out.1, H4.out.2⟩
          case measure => simp [intOf]; omega
        · obtain rfl : s = -8 := by omega
          obtain rfl : j = 8 := by omega
          have H5 := Lib.hid (And.intro ho (And.intro hkp (And.intro hqj hM)))
          clear ho hkp hqj hM
          go_wp2
          go_ret
          refine ⟨_, rfl, ?_, ?_⟩
          · have e : padF bs = qj := by rw [← H5.out.2.2.1, HQ2.out, List.take_of_length_le (by simp [len8])]; rfl
            rw [e, ← H5.out.2.2.2]; exact H5.out.1
          · exact H5.out.2.1.mono' fun i h => .inr h
end Go.Proofs.YtggnohbfdlebiaaGreatDoor

/-
  log.Append, Prune: what is refused at once.
-/
namespace Go.Proofs.YtggnohbfdlebiaaGreatDoor
open Go.RowKit Go.Shelf Go.ChangeMaps

theorem LAppend_long (w : World) (l : Value) (p : Option Addr) {n : Nat} (c : Nat) (h : 4096 < n) : Calls Tryz.prog 12 #[l, .slice p n c] w fun e w' => e = .returned (.tuple #[.int .i64 0, .int .i64 2]) ∧ w' = w := by
  go_enter Tryz.func12, Tryz.ntmps12
  go_wp2
  go_ret2
  exact ⟨rfl, rfl⟩
theorem LAppend_none (w : World) (l : Value) (p : Option Addr) (c : Nat) : Calls Tryz.prog 12 #[l, .slice p 0 c] w fun e w' => e = .returned (.tuple #[.int .i64 0, .int .i64 3]) ∧ w' = w := by
  go_enter Tryz.func12, Tryz.ntmps12
  go_wp2
  go_ret2
  exact ⟨rfl, rfl⟩
theorem LAppend_nil (w : World) (p : Option Addr) {n : Nat} (c : Nat) (h1 : 1 ≤ n) (h : n ≤ 4096) : Calls Tryz.prog 12 #[.pointer none, .slice p n c] w fun e w' => e = .returned (.tuple #[.int .i64 0, .int .i64 7]) ∧ w' = w := by
  have h1' : ¬ n = 0 := by omega
  have h2 : decide ((n : Int) > 4096) = false := decide_eq_false (by omega)
  go_enter Tryz.func12, Tryz.ntmps12
  go_wp2
  go_ret2
  exact ⟨rfl, rfl⟩
theorem LPrune_nil (w : World) (n : Int) : Calls Tryz.prog 24 #[.pointer none, .int .i64 n] w fun e w' => e = .returned (.int .i64 7) ∧ w' = w := by
  go_enter Tryz.func24, Tryz.ntmps24
  go_wp2
  go_ret
  exact ⟨rfl, rfl⟩
end Go.Proofs.YtggnohbfdlebiaaGreatDoor

/-
  sum.Sha, sum.Chain.
-/
namespace Go.Proofs.YtggnohbfdlebiaaGreatDoor
open Go.RowKit Go.Shelf Go.ChangeMaps Go.ChangeShapes

def sha0 : V8 := ⟨1779033703, 3144134277, 1013904242, 2773480762, 1359893119, 2600822924, 528734635, 1541459225⟩
theorem sha0_ok : sha0.ok := ⟨⟨by decide, by decide⟩, ⟨by decide, by decide⟩, ⟨by decide, by decide⟩, ⟨by decide, by decide⟩, ⟨by decide, by decide⟩, ⟨by decide, by decide⟩, ⟨by decide, by decide⟩, ⟨by decide, by decide⟩⟩
def shaN (q : List Int) : Nat → V8
  | 0 => sha0
  | j + 1 => blockF (shaN q j) (q.drop (64 * j)) rootsL
theorem shaN_ok (q : List Int) : ∀ j, (shaN q j).ok
  | 0 => sha0_ok
  | j + 1 => blockF_ok (shaN_ok q j) _ _
theorem padF_length (bs : List Int) : (padF bs).length = bs.length + 1 + padZ bs.length + 8 := by unfold padF; simp [len8]; omega
def parts64 (bs : List Int) : Nat := (padF bs).length / 64
theorem parts64_eq (bs : List Int) : (padF bs).length = 64 * parts64 bs := by
  unfold parts64
  rw [padF_length]; unfold padZ; omega
theorem padF_byts {bs : List Int} (h : Byts bs) : Byts (padF bs) := by
  intro x hx
  simp only [padF, List.mem_append, List.mem_singleton, List.mem_replicate] at hx
  rcases hx with ((hx | rfl) | ⟨_, rfl⟩) | hx
  · exact h x hx
  · omega
  · omega
  · unfold len8 at hx
    obtain ⟨j, _, rfl⟩ := List.mem_map.1 hx
    omega
/-- The thirty-two bytes of eight words. -/
def bytes32 (l : List Int) : List Int := (List.range 32).map fun k => l.getD (k / 4) 0 / 2 ^ (24 - 8 * (k % 4)) % 256
def shaF (bs : List Int) : List Int := bytes32 (shaN (padF bs) (parts64 bs)).list
theorem shaF_length (bs : List Int) : (shaF bs).length = 32 := by simp [shaF, bytes32]
theorem shaF_byts (bs : List Int) : Byts (shaF bs) := by
  intro x hx
  unfold shaF bytes32 at hx
  obtain ⟨j, _, rfl⟩ := List.mem_map.1 hx
  omega

/-- The first k of them are there. -/
def oN (v : V8) (k : Nat) : List Int := (bytes32 v.list).take k ++ List.replicate (32 - k) 0
theorem oN_length (v : V8) {k : Nat} (h : k ≤ 32) : (oN v k).length = 32 := by simp [oN, bytes32]; omega
theorem oN_set (v : V8) {k : Nat} (h : k < 32) : (oN v k).set k (v.list.getD (k / 4) 0 / 2 ^ (24 - 8 * (k % 4)) % 256) = oN v (k + 1) := by
  have hl : (bytes32 v.list).length = 32 := by simp [bytes32]
  have hg : (bytes32 v.list)[k]? = some (v.list.getD (k / 4) 0 / 2 ^ (24 - 8 * (k % 4)) % 256) := by
    unfold bytes32; rw [List.getElem?_map, List.getElem?_range h]; rfl
  have ht : ((bytes32 v.list).take k).length = k := by rw [List.length_take]; omega
  unfold oN
  rw [List.set_append_right _ _ (by omega), ht, Nat.sub_self, List.take_add_one, hg]
  obtain ⟨m, hm⟩ : ∃ m, 32 - k = m + 1 := ⟨31 - k, by omega⟩
  rw [hm, show 32 - (k + 1) = m by omega, List.replicate_succ, List.set_cons_zero]
  simp
theorem index8 (v : V8) {i : Nat} (hi : i < 8) (w : World) : (Instr.index 152 (.agg v.vals) (.int .i64 (i : Int))).run Tryz.prog w = .ok (.int .u32 (v.list.getD i 0)) w := by
  rcases (by omega : i = 0 ∨ i = 1 ∨ i = 2 ∨ i = 3 ∨ i = 4 ∨ i = 5 ∨ i = 6 ∨ i = 7) with rfl | rfl | rfl | rfl | rfl | rfl | rfl | rfl <;> kernel_rfl
theorem bytes_one (l : List Int) : ∀ x ∈ (byteVals l).toArray.toList, x.oneCell' = true := fun x hx => byteVals_one l x hx
theorem vals_one (v : V8) : ∀ x ∈ v.vals.toList, x.oneCell' = true := by
  intro x hx
  simp only [V8.vals, List.mem_cons, List.not_mem_nil, or_false] at hx
  rcases hx with rfl | rfl | rfl | rfl | rfl | rfl | rfl | rfl <;> rfl
theorem info8 (v : V8) : (Tryz.prog.info? 152).map (·.size) = some v.vals.size := by kernel_rfl
set_option maxRecDepth 100000 in
set_option maxHeartbeats 1000000 in
theorem Sha_any {w : World} {F : Nat → Prop} {b o n c : Nat} {bs : List Int} (hb : BytesAt w F (.slice (some ⟨b, o, none⟩) n c) bs) (hby : Byts bs) (hn : n ≤ 9000) :
    Calls Tryz.prog 65 #[.slice (some ⟨b, o, none⟩) n c] w fun e w' => e = .returned (.agg (byteVals (shaF bs)).toArray) ∧ Kp (fun _ => False) w w' := by
  obtain ⟨rfl, hcap⟩ := hb.len
  have h64 : (words rootsL).toArray.size = 64 := rfl
  have hsz : (Tryz.prog.info? 153).map (·.size) = some (words rootsL).toArray.size := by kernel_rfl
  have h1 : ∀ v ∈ (words rootsL).toArray.toList, v.oneCell' = true := words_one _
  obtain ⟨C, hC⟩ : ∃ C, (words rootsL).toArray = C := ⟨_, rfl⟩
  rw [hC] at hsz h1 h64
  have HC := Lib.hid hC
  have hro : ∀ w, Calls Tryz.prog 89 #[] w fun e w' => e = .returned (.agg C) ∧ Kp (fun _ => False) w w' := by rw [← hC]; exact Roots_any
  have HRO := Lib.hid hro
  have HB := Lib.hid (And.intro hb hby)
  clear hb hby hC hro
  go_enter Tryz.func65, Tryz.ntmps65
  go_wp2_with (first
    | (go_at_call 89; refine (HRO.out _).mono ?_; rintro e w2 ⟨rfl, hk2⟩; have HK2 := Lib.hid hk2; clear hk2)
    | (refine wpList_store_agg (cells := C) rfl 153 _ _ rfl rfl rfl (heap_alloc_new w2 _) hsz (by rw [h64]; exact Nat.le_refl _) h1 ?_; rw [splice_all _ _ (by rw [h64]; rfl)]; refine Hid.out ?_))
  refine Lib.hid ?_
  obtain ⟨A, hA⟩ : ∃ A, w.heap.size = A := ⟨_, rfl⟩
  obtain ⟨G, hG⟩ : ∃ G, w2.heap.size = G := ⟨_, rfl⟩
  have hr1 := heap_alloc_new w (Obj.cells (byteVals (List.replicate 32 0)).toArray 74)
  have hr2 := blk_alloc (.cells sha0.vals 152) hr1
  have hh2 := heap_alloc_new (w.alloc (Obj.cells (byteVals (List.replicate 32 0)).toArray 74)) (.cells sha0.vals 152)
  have hk2 : Kp (fun _ => False) ((w.alloc (Obj.cells (byteVals (List.replicate 32 0)).toArray 74)).alloc (.cells sha0.vals 152)) w2 := HK2.out
  rw [World.size_alloc, hA] at hh2
  rw [hA] at hr2
  have hr3 := hk2.blk hr2 id
  have hh3 := hk2.blk hh2 id
  have hGA : A + 1 + 1 ≤ G := by rw [← hG, ← hA]; have := hk2.size; simp at this; omega
  generalize hw3 : World.setRow _ w2.heap.size C = w3
  have hkk : w3.heap[G]? = some (.cells C 153 (0, 0)) := by rw [← hw3, ← hG]; exact setRow_blk (heap_alloc_new w2 _)
  have hk3 : Kp (fun _ => False) w2 w3 := by rw [← hw3]; exact ((Kp.refl _ w2).alloc _).setRow (.inr (Nat.le_refl _)) C
  have hr4 := hk3.blk hr3 id
  have hh4 := hk3.blk hh3 id
  have hkw : Kp (fun _ => False) w w3 := ((((Kp.refl _ w).alloc _).alloc _).trans hk2).trans hk3
  have hcp := padded_any (HB.out.1.kept (hkw.mono fun _ h => h.elim) (F' := F) fun _ h => .inl h) (by omega)
  have hk3s := blk_lt hkk
  rw [hG]
  have H3 := Lib.hid (And.intro hkk (And.intro hr4 (And.intro hh4 (And.intro hkw (And.intro hGA (And.intro hA hk3s))))))
  simp only [hA]
  clear hr1 hr2 hh2 hk2 hr3 hh3 hGA hw3 hkk hk3 hr4 hh4 hkw hA hG HK2 hk3s
  go_wp2_with (go_at_call 90; refine hcp.mono ?_; rintro e w4 ⟨v4, rfl, ho4, hk4⟩; have H4 := Lib.hid (And.intro ho4 hk4); clear ho4 hk4 hcp)
  obtain ⟨PL, hPL⟩ : ∃ PL, padF bs = PL := ⟨_, rfl⟩
  have hPl : PL.length = 64 * parts64 bs := by rw [← hPL]; exact parts64_eq bs
  have hPb : Byts PL := by rw [← hPL]; exact padF_byts HB.out.2
  have hPs : PL.length ≤ 9200 := by rw [← hPL, padF_length]; have : padZ bs.length < 64 := Nat.mod_lt _ (by decide); omega
  have hat : BytesAt w4 (fun k => k = A + 1) v4 PL := by rw [← hPL]; exact H4.out.1.at_ fun k hk => by have := H3.out; omega
  have hh5 := H4.out.2.blk H3.out.2.2.1 id
  have HP := Lib.hid (And.intro hPl (And.intro hPb (And.intro hPL hPs)))
  have H5 := Lib.hid (And.intro hat hh5)
  clear hPl hPb hPL hat hh5 hPs
  obtain ⟨P, hP⟩ : ∃ P, parts64 bs = P := ⟨_, rfl⟩
  have HPP := Lib.hid hP
  rw [hP] at HP
  clear hP
  go_loopw [5] (fun vq wr => ∃ j : Nat, j ≤ P ∧ BytesAt wr (fun k => k = A + 1) vq (PL.drop (64 * j)) ∧ wr.heap[A + 1]? = some (.cells (shaN PL j).vals 152 (0, 0)) ∧ Kp (fun k => k = A + 1) w4 wr) (fun v _ => lenV v)
  case atStart => exact ⟨0, Nat.zero_le _, H5.out.1, H5.out.2, Kp.refl _ _⟩
  case round =>
    obtain ⟨j, hj, hat, hh, hk⟩ := hrel
    have hdl : (PL.drop (64 * j)).length = 64 * (P - j) := by rw [List.length_drop, HP.out.1]; omega
    by_cases hjP : j < P
    · obtain ⟨q, hq⟩ : ∃ q, PL.drop (64 * j) = q := ⟨_, rfl⟩
      obtain ⟨v0, hv0⟩ : ∃ v0, shaN PL j = v0 := ⟨_, rfl⟩
      have hvok : v0.ok := by rw [← hv0]; exact shaN_ok PL j
      rw [hq] at hat hdl
      rw [hv0] at hh
      obtain ⟨b5, o5, n5, c5, rfl⟩ := hat.ptr (by omega)
      obtain ⟨rfl, hnc⟩ := hat.len
      have hqb : Byts q := by rw [← hq]; exact fun x hx => HP.out.2.1 x (List.mem_of_mem_drop hx)
      have hkb : Row32 wr G 153 rootsL := by
        have := hk.blk (H4.out.2.blk H3.out.1 id) (by have := H3.out; omega)
        rw [← HC.out] at this; exact this
      have cbl := block_any hvok (hat.mono fun _ h => h.elim) hqb (by omega) (by have := HP.out; omega) hkb rfl rootsL_range
      obtain ⟨v1, hv1⟩ : ∃ v1, blockF v0 q rootsL = v1 := ⟨_, rfl⟩
      rw [hv1] at cbl
      have hnx : shaN PL (j + 1) = v1 := by rw [shaN, hq, hv0, hv1]
      have ha8 : ∀ w, (isAgg 152).run Tryz.prog w = .ok true w := fun w => isAgg_run (Tryz.underlying152) rfl w
      have H6 := Lib.hid (And.intro hat (And.intro hk (And.intro hnx hq)))
      have hcell : ∀ (j : Nat) v, v0.vals.toList[j]? = some v → wr.cell? ⟨A + 1, 0 + j, none⟩ = some v := fun j v hj => by rw [Nat.zero_add, blk_cell hh]; simpa using hj
      have HCL := Lib.hid hcell
      have HH := Lib.hid hh
      have hqn : 64 ≤ q.length := by omega
      have hqm : q.length ≤ 9200 := by have := HP.out.1; have := HP.out.2.2.2; omega
      have HDL := Lib.hid hdl
      clear hat hk hnx hq hv0 hv1 hcell hh hkb hdl
      go_wp2_with (first
        | (refine wpList_load_agg rfl 152 _ rfl rfl v0.vals HCL.out ha8 (info8 v0) ?_)
        | (go_at_call 91; refine cbl.mono ?_; rintro e w6 ⟨rfl, hk6⟩; have HK6 := Lib.hid hk6; clear hk6 cbl)
        | (refine wpList_store_agg (cells := v1.vals) rfl 152 _ _ rfl rfl rfl (HK6.out.blk HH.out id) (info8 v1) (by exact Nat.le_refl 8) (vals_one v1) ?_; rw [splice_all _ _ (by rfl)]; refine Hid.out ?_))
      refine Lib.hid ?_
      have hk7 : Kp (fun k => k = A + 1) wr (w6.setRow (A + 1) v1.vals) := Kp.setRow (F := fun k => k = A + 1) (g := A + 1) (HK6.out.mono fun _ h => h.elim) (.inl rfl) v1.vals
      have hh7 := setRow_blk (cs := v1.vals) (HK6.out.blk HH.out id)
      generalize hw7 : World.setRow w6 (A + 1) v1.vals = w7
      rw [hw7] at hk7 hh7
      have hat7 := H6.out.1.kept hk7 (F' := fun k => k = A + 1) fun _ h => .inl h
      have hnq : q.drop 64 = PL.drop (64 * (j + 1)) := by rw [← H6.out.2.2.2, List.drop_drop]; congr 1
      by_cases hc64 : c5 = 64
      · have hq64 : q.length = 64 := by omega
        have hn0 : q.drop 64 = [] := List.drop_eq_nil_of_le (by omega)
        have H7 := Lib.hid (And.intro (show w7.heap[A + 1]? = some (.cells (shaN PL (j + 1)).vals 152 (0, 0)) by rw [H6.out.2.2.1]; exact hh7) (And.intro (H6.out.2.1.trans hk7) (hnq.symm.trans hn0)))
        have HE := Lib.hid (And.intro hc64 hq64)
        obtain ⟨Q, hQ⟩ : ∃ Q, q.length = Q := ⟨_, rfl⟩
        clear hk7 hh7 hw7 hat7 hnq hn0
        go_wp2
        go_roundw
        case rel => exact ⟨j + 1, by omega, by rw [H7.out.2.2]; exact ⟨_, 0, rfl, Nat.le_refl _, fun j x hj => by simp at hj⟩, H7.out.1, H7.out.2.1⟩
        case measure => show 0 < q.length; omega
      · have H7 := Lib.hid (And.intro (show w7.heap[A + 1]? = some (.cells (shaN PL (j + 1)).vals 152 (0, 0)) by rw [H6.out.2.2.1]; exact hh7) (And.intro (H6.out.2.1.trans hk7) (And.intro hat7 hnq)))
        clear hk7 hh7 hw7 hat7 hnq
        go_wp2
        go_roundw
        case rel =>
          refine ⟨j + 1, by omega, ?_, H7.out.1, H7.out.2.1⟩
          have := H7.out.2.2.1.part (i := 64) (k := q.length - 64) (by omega)
          rw [List.take_of_length_le (by simp)] at this
          rw [← H7.out.2.2.2]; exact this
        case measure => show q.length - 64 < q.length; omega
    · obtain ⟨v0, hv0⟩ : ∃ v0, shaN PL j = v0 := ⟨_, rfl⟩
      have hjp : j = P := by omega
      rw [hv0] at hh
      obtain ⟨qp, qc, rfl, -, -⟩ := hat
      rw [hdl, show 64 * (P - j) = 0 by omega]
      have hvx : ∀ x ∈ v0.list, R32 x := by rw [← hv0]; exact (shaN_ok PL j).list
      have HVX := Lib.hid hvx
      have hsv : shaF bs = bytes32 v0.list := by unfold shaF; rw [HP.out.2.2.1, HPP.out, ← hjp, hv0]
      have hkw : Kp (fun _ => False) w wr := (H3.out.2.2.2.1.trans H4.out.2).trans' hk fun i h => .inr (by have := H3.out; omega)
      have hr0 := hk.blk (H4.out.2.blk H3.out.2.1 id) (by omega)
      have ha8 : ∀ w, (isAgg 152).run Tryz.prog w = .ok true w := fun w => isAgg_run (Tryz.underlying152) rfl w
      have hA8 : A + 1 < wr.heap.size := blk_lt hh
      have hcell : ∀ (o : Obj) (j : Nat) v, v0.vals.toList[j]? = some v → (wr.alloc o).cell? ⟨A + 1, 0 + j, none⟩ = some v := fun o j v hj => by rw [Nat.zero_add, blk_cell (blk_alloc o hh)]; simpa using hj
      have HCL := Lib.hid hcell
      have HS := Lib.hid (And.intro hsv (And.intro hkw (And.intro hr0 hA8)))
      clear hvx hdl hh hk hj hjP hjp hv0 hsv hkw hr0 hcell hA8
      go_wp2_with (refine wpList_load_agg rfl 152 _ rfl rfl v0.vals (HCL.out _) ha8 (info8 v0) ?_)
      obtain ⟨O, hO⟩ : ∃ O, wr.heap.size = O := ⟨_, rfl⟩
      have hob := heap_alloc_new wr (Obj.cells (byteVals (oN v0 0)).toArray 74)
      generalize hwz : World.alloc wr (Obj.cells _ 74) = wz
      have hoz : wz.heap[O]? = some (.cells (byteVals (oN v0 0)).toArray 74 (0, 0)) := by rw [← hwz, ← hO]; exact hob
      have hkz : Kp (fun _ => False) wr wz := by rw [← hwz]; exact (Kp.refl _ wr).alloc _
      rw [hO]
      have HZ := Lib.hid (And.intro hoz (And.intro hkz hO))
      have HI : Hid (∀ i : Nat, i < 8 → ∀ w, (Instr.index 152 (.agg v0.vals) (.int .i64 (i : Int))).run Tryz.prog w = .ok (.int .u32 (v0.list.getD i 0)) w) := Lib.hid fun i hi w => index8 v0 hi w
      clear hob hwz hoz hkz hO HCL ha8
      go_wp2
      go_loopw [23] (fun vi wr => ∃ i : Nat, i ≤ 8 ∧ vi = .int .i64 i ∧ wr.heap[O]? = some (.cells (byteVals (oN v0 (4 * i))).toArray 74 (0, 0)) ∧ Kp (fun k => k = O) wz wr) (fun i _ => 8 - (intOf i).toNat)
      case atStart => exact ⟨0, by omega, rfl, HZ.out.1, Kp.refl _ _⟩
      case round =>
        obtain ⟨i, hi, rfl, hb, hk⟩ := hrel
        by_cases hi8 : i < 8
        · have hix := HI.out i hi8
          have hxr := getD_r32 HVX.out i
          obtain ⟨x, hx⟩ : ∃ x, v0.list.getD i 0 = x := ⟨_, rfl⟩
          rw [hx] at hix hxr
          unfold R32 at hxr
          have H8 := Lib.hid (And.intro hb (And.intro hk hx))
          clear hb hk hx
          go_wp2
          obtain ⟨wo, hwo⟩ : ∃ wo : World, wo = wr := ⟨_, rfl⟩
          subst hwo
          go_loopw [27] (fun vj wr => ∃ j : Nat, j ≤ 4 ∧ vj = .int .i64 j ∧ wr.heap[O]? = some (.cells (byteVals (oN v0 (4 * i + j))).toArray 74 (0, 0)) ∧ Kp (fun k => k = O) wo wr) (fun j _ => 4 - (intOf j).toNat)
          case atStart => exact ⟨0, by omega, rfl, H8.out.1, Kp.refl _ _⟩
          case round =>
            obtain ⟨j, hj, rfl, hb, hk⟩ := hrel
            by_cases hj4 : j < 4
            · have hlen : (byteVals (oN v0 (4 * i + j))).length = 32 := by rw [byteVals_length]; exact oN_length v0 (by omega)
              have hc : wr.cell? ⟨O, 4 * i + j, none⟩ = some ((byteVals (oN v0 (4 * i + j)))[4 * i + j]'(by omega)) := by
                rw [blk_cell hb, List.getElem?_toArray]; exact List.getElem?_eq_getElem _
              obtain ⟨y, hy⟩ : ∃ y, (byteVals (oN v0 (4 * i + j)))[4 * i + j]'(by omega) = y := ⟨_, rfl⟩
              rw [hy] at hc
              have hf : wr.frozen? ⟨O, 4 * i + j, none⟩ = false := blk_free hb _
              have hset := blk_set hb (4 * i + j) (.int .u8 (x / 2 ^ (24 - 8 * j) % 256))
              have hse : ((byteVals (oN v0 (4 * i + j))).toArray.setIfInBounds (4 * i + j) (.int .u8 (x / 2 ^ (24 - 8 * j) % 256))) = (byteVals (oN v0 (4 * i + (j + 1)))).toArray := by
                rw [← Nat.add_assoc, ← oN_set v0 (by omega), show (4 * i + j) / 4 = i by omega, show (4 * i + j) % 4 = j by omega, H8.out.2.2]
                simp [byteVals, List.map_set]
              rw [hse] at hset
              have HS9 := Lib.hid (And.intro hset (hk.setCell (p := ⟨O, 4 * i + j, none⟩) (.inl rfl) (.int .u8 (x / 2 ^ (24 - 8 * j) % 256))))
              have tj : ((24 : Int) - 8 * (j : Int)).toNat = 24 - 8 * j := by omega
              have ti : (4 * (i : Int) + (j : Int)).toNat = 4 * i + j := by omega
              clear hb hk hlen hy hset hse
              go_wp2
              go_roundw
              case rel => exact ⟨j + 1, by omega, by go_num, HS9.out.1, HS9.out.2⟩
              case measure => simp [intOf]; omega
            · obtain rfl : j = 4 := by omega
              have H9 := Lib.hid (And.intro hb hk)
              clear hb hk
              go_wp2
              go_roundw
              case rel => exact ⟨i + 1, by omega, by go_num, H9.out.1, H8.out.2.1.trans H9.out.2⟩
              case measure => simp [intOf]; omega
        · obtain rfl : i = 8 := by omega
          have hkr : Kp (fun _ => False) w wr := (HS.out.2.1.trans HZ.out.2.1).trans' hk fun k h => .inr (by have := HS.out.2.1.size; have := HZ.out.2.2; omega)
          have hr0 := hk.blk (HZ.out.2.1.blk HS.out.2.2.1 id) (by have := HS.out.2.2.2; have := HZ.out.2.2; omega)
          have hfin : oN v0 (4 * 8) = shaF bs := by rw [HS.out.1]; unfold oN; rw [List.take_of_length_le (by simp [bytes32])]; simp
          rw [hfin] at hb
          have hsl := shaF_length bs
          obtain ⟨D, hD⟩ : ∃ D, (byteVals (shaF bs)).toArray = D := ⟨_, rfl⟩
          have hDs : D.size = 32 := by rw [← hD, List.size_toArray, byteVals_length, hsl]
          have hD1 : ∀ x ∈ D.toList, x.oneCell' = true := by rw [← hD]; exact bytes_one _
          have hDi : (Tryz.prog.info? 74).map (·.size) = some D.size := by rw [hDs]; kernel_rfl
          have ha32 : ∀ w, (isAgg 74).run Tryz.prog w = .ok true w := fun w => isAgg_run (Tryz.underlying74) rfl w
          rw [hD] at hb
          have HDD := Lib.hid hD
          have hAb : A < wr.heap.size := blk_lt hr0
          have hcell : ∀ (j : Nat) v, D.toList[j]? = some v → wr.cell? ⟨O, 0 + j, none⟩ = some v := fun j v hj => by rw [Nat.zero_add, blk_cell hb]; simpa using hj
          have hAw : w.heap.size ≤ A := by have := H3.out; omega
          have HF := Lib.hid (And.intro hkr (And.intro hr0 (And.intro hcell hAw)))
          clear hk hb hkr hr0 hcell hfin hsl hD hAb hAw
          go_wp2_with (first
            | (refine wpList_load_agg rfl 74 _ rfl rfl D HF.out.2.2.1 ha32 hDi ?_)
            | (refine wpList_store_agg (cells := D) rfl 74 _ _ rfl rfl rfl HF.out.2.1 hDi (by rw [hDs]; exact Nat.le_refl 32) hD1 ?_; rw [splice_all _ _ (by rw [hDs]; rfl)]; refine Hid.out ?_))
          refine Lib.hid ?_
          have hzz := setRow_blk (cs := D) HF.out.2.1
          have hkz := Kp.setRow (F := fun _ => False) (g := A) HF.out.1 (.inr HF.out.2.2.2) D
          generalize hwf : World.setRow wr A D = wf
          rw [hwf] at hzz hkz
          have hres := load_words hzz ha32 hDi
          clear hwf
          go_wp2
          exact bodyPost_ret (v := .agg D) (results_cell Tryz.results65 rfl hres) rfl ⟨by rw [HDD.out], hkz⟩
end Go.Proofs.YtggnohbfdlebiaaGreatDoor

/-
  sum.Chain.
-/
namespace Go.Proofs.YtggnohbfdlebiaaGreatDoor
open Go.RowKit Go.Shelf Go.ChangeMaps Go.ChangeShapes

def chainF (link p : List Int) : List Int := shaF (link ++ p)
theorem chainF_length (link p : List Int) : (chainF link p).length = 32 := shaF_length _
theorem chainF_byts (link p : List Int) : Byts (chainF link p) := shaF_byts _
set_option maxRecDepth 100000 in
/-- append of bytes behind a slice that is full. -/
theorem grow_bytes {w : World} {F G : Nat → Prop} {a b : Addr} {n cap m c : Nat} {bs cs : List Int} (h : BytesAt w F (.slice (some a) n cap) bs) (hx : BytesAt w G (.slice (some b) m c) cs) (hg : cap < n + m) (hl : n + m ≤ 100000000) (ty : TypeId) :
    ∃ v' w', (Builtin.append_ #[33, 33] ty #[.slice (some a) n cap, .slice (some b) m c]).run Tryz.prog w = .ok v' w' ∧ Own8 w' w.heap.size v' (bs ++ cs) ∧ Kp (fun _ => False) w w' := by
  obtain ⟨i, hi, hz, h1, h2⟩ := u8_parts
  obtain ⟨rfl, _⟩ := h.len
  obtain ⟨rfl, _⟩ := hx.len
  have cells : ∀ {a : Addr} {n c : Nat} {F : Nat → Prop} {cs : List Int}, BytesAt w F (.slice (some a) n c) cs → ∀ (j : Nat) u, (byteVals cs)[j]? = some u → w.cell? (a.add j) = some u := by
    intro a n c F cs h j u hj
    simp only [byteVals, List.getElem?_map, Option.map_eq_some_iff] at hj
    obtain ⟨x, hx', rfl⟩ := hj
    obtain ⟨b, o, e, hc⟩ := h.at_ j x hx'
    injection e with e
    subst e
    rw [Addr.add_lit]; exact hc
  obtain ⟨v', w', hr, ho, hgr⟩ := run_append_arg_grows (P := Tryz.prog) w 33 ty 5 i (.int .u8 0) 1 1 (by kernel_rfl) hi hz h1 h2 rfl (by omega) a bs.length cap (byteVals bs) (by rw [byteVals_length]; omega) (cells h)
    b cs.length c (byteVals cs) (by rw [byteVals_length]; omega) (cells hx) hg (by unfold maxLen; omega) (by omega)
  refine ⟨v', w', hr, ?_, Kp.of_grown hgr fun k hk => by cases hk⟩
  unfold Own8
  rw [List.length_append, byteVals_append]
  exact ho

set_option maxRecDepth 100000 in
set_option maxHeartbeats 1000000 in
theorem Chain_any {w : World} {F : Nat → Prop} {b o n c : Nat} {link bs : List Int} (hl : link.length = 32) (hlb : Byts link) (hb : BytesAt w F (.slice (some ⟨b, o, none⟩) n c) bs) (hby : Byts bs) (h1 : 1 ≤ n) (hn : n ≤ 4096) :
    Calls Tryz.prog 34 #[.agg (byteVals link).toArray, .slice (some ⟨b, o, none⟩) n c] w fun e w' => e = .returned (.agg (byteVals (chainF link bs)).toArray) ∧ Kp (fun _ => False) w w' := by
  obtain ⟨rfl, hcap⟩ := hb.len
  obtain ⟨L, hL⟩ : ∃ L, (byteVals link).toArray = L := ⟨_, rfl⟩
  have hLs : L.size = 32 := by rw [← hL, List.size_toArray, byteVals_length, hl]
  have hrow : ∀ W : World, BytesAt (W.alloc (.cells L 74)) (fun _ => False) (.slice (some ⟨W.heap.size, 0, none⟩) 32 32) link := fun W => by
    refine ⟨_, 32, by rw [hl], by rw [hl]; exact Nat.le_refl _, fun j x hj => ⟨_, _, rfl, id, ?_⟩⟩
    rw [Nat.zero_add, blk_cell (heap_alloc_new W _), ← hL, List.getElem?_toArray]
    simp [byteVals, hj]
  have HR := Lib.hid (And.intro hL (And.intro hrow (And.intro hl (And.intro hlb (And.intro hb hby)))))
  rw [hL]
  clear hL hrow hl hlb hb hby
  go_enter Tryz.func34, Tryz.ntmps34
  go_wp2_with (at_builtin; refine Hid.out ?_)
  refine Lib.hid ?_
  change wpList _ _ _ _ _ ((w.alloc (Obj.cells L 74)).alloc (Obj.cells (byteVals (List.replicate 32 0)).toArray 74))
  obtain ⟨B, hB⟩ : ∃ B, w.heap.size = B := ⟨_, rfl⟩
  have hr2 := heap_alloc_new (w.alloc (Obj.cells L 74)) (Obj.cells (byteVals (List.replicate 32 0)).toArray 74)
  have hl2 := (HR.out.2.1 w).kept ((Kp.refl (fun _ => False) (w.alloc (Obj.cells L 74))).alloc (Obj.cells (byteVals (List.replicate 32 0)).toArray 74)) (F' := fun _ => False) fun _ h => .inl h
  have hk2 : Kp (fun _ => False) w ((w.alloc (Obj.cells L 74)).alloc (Obj.cells (byteVals (List.replicate 32 0)).toArray 74)) := ((Kp.refl _ w).alloc _).alloc _
  obtain ⟨w2, hw2⟩ : ∃ w2, (w.alloc (Obj.cells L 74)).alloc (Obj.cells (byteVals (List.replicate 32 0)).toArray 74) = w2 := ⟨_, rfl⟩
  rw [hw2] at hr2 hl2 hk2 ⊢
  rw [World.size_alloc, hB] at hr2
  rw [hB] at hl2
  have hb2 := HR.out.2.2.2.2.1.kept (hk2.mono fun _ h => h.elim) (F' := F) fun _ h => .inl h
  obtain ⟨v3, w3, hap, ho3, hk3⟩ := grow_bytes hl2 hb2 (by omega) (by omega) 33
  have hlen : (link ++ bs).length = 32 + bs.length := by rw [List.length_append, HR.out.2.2.1]
  have hat3 : BytesAt w3 (fun _ => False) v3 (link ++ bs) := ho3.at_ fun _ h => h.elim
  obtain ⟨b3, o3, n3, c3, rfl⟩ := hat3.ptr (by omega)
  have hn3 := hat3.len.1
  have csh := Sha_any hat3 (by
    intro x hx
    rcases List.mem_append.1 hx with h | h
    · exact HR.out.2.2.2.1 x h
    · exact HR.out.2.2.2.2.2 x h) (by omega)
  have hsl := shaF_length (link ++ bs)
  obtain ⟨D, hD⟩ : ∃ D, (byteVals (shaF (link ++ bs))).toArray = D := ⟨_, rfl⟩
  have hDs : D.size = 32 := by rw [← hD, List.size_toArray, byteVals_length, hsl]
  have hD1 : ∀ x ∈ D.toList, x.oneCell' = true := by rw [← hD]; exact bytes_one _
  have hDi : (Tryz.prog.info? 74).map (·.size) = some D.size := by rw [hDs]; kernel_rfl
  have ha32 : ∀ w, (isAgg 74).run Tryz.prog w = .ok true w := fun w => isAgg_run (Tryz.underlying74) rfl w
  rw [hD] at csh
  have H2 := Lib.hid (And.intro hr2 (And.intro (hk2.trans hk3) (And.intro hk3 (And.intro hB hD))))
  simp only [hB]
  clear hr2 hl2 hk2 hw2 hB hb2 ho3 hk3 hlen hat3 hn3 hsl hD
  refine wpList_append_run rfl _ _ _ _ rfl rfl rfl hap ?_
  clear hap
  go_wp2_with (first
    | (go_at_call 65; refine csh.mono ?_; rintro e w4 ⟨rfl, hk4⟩; have HK4 := Lib.hid hk4; clear hk4 csh)
    | (refine wpList_store_agg (cells := D) rfl 74 _ _ rfl rfl rfl (HK4.out.blk (H2.out.2.2.1.blk H2.out.1 id) id) hDi (by rw [hDs]; exact Nat.le_refl 32) hD1 ?_; rw [splice_all _ _ (by rw [hDs]; rfl)]; refine Hid.out ?_))
  refine Lib.hid ?_
  have hzz := setRow_blk (cs := D) (HK4.out.blk (H2.out.2.2.1.blk H2.out.1 id) id)
  have hkz := Kp.setRow (F := fun _ => False) (g := B + 1) (H2.out.2.1.trans HK4.out) (.inr (by have := H2.out.2.2.2.1; omega)) D
  generalize hwf : World.setRow w4 (B + 1) D = wf
  rw [hwf] at hzz hkz
  have hres := load_words hzz ha32 hDi
  clear hwf
  go_wp2
  exact bodyPost_ret (v := .agg D) (results_cell Tryz.results34 rfl hres) rfl ⟨by rw [← H2.out.2.2.2.2]; rfl, hkz⟩
end Go.Proofs.YtggnohbfdlebiaaGreatDoor

/-
  A nil log, and log.Open over a nil disk; the document's answers there.
-/
namespace Go.Proofs.YtggnohbfdlebiaaGreatDoor
open Go.RowKit Go.Shelf Go.ChangeMaps

/-- What a nil log's Append answers. -/
def nilE (n : Nat) : Int := if 4096 < n then 2 else if n = 0 then 3 else 7
theorem LAppend_nilE (w : World) (p : Option Addr) (n c : Nat) : Calls Tryz.prog 12 #[.pointer none, .slice p n c] w fun e w' => e = .returned (.tuple #[.int .i64 0, .int .i64 (nilE n)]) ∧ w' = w := by
  unfold nilE
  by_cases h1 : 4096 < n
  · rw [if_pos h1]; exact LAppend_long w _ p c h1
  · rw [if_neg h1]
    by_cases h2 : n = 0
    · subst h2; exact LAppend_none w _ p c
    · rw [if_neg h2]; exact LAppend_nil w p c (by omega) (by omega)
theorem DocAppend_nil (w : World) (p : Option Addr) (n c : Nat) : Calls Tryz.prog 22 #[.pointer none, .slice p n c] w fun e w' => e = .returned (.tuple #[.int .i64 0, .int .i64 (nilE n)]) ∧ w' = w := by
  unfold nilE
  by_cases h1 : 4096 < n
  · rw [if_pos h1]
    go_enter Tryz.func22, Tryz.ntmps22
    go_wp2
    go_ret2
    exact ⟨rfl, rfl⟩
  · rw [if_neg h1]
    have h3 : decide ((n : Int) > 4096) = false := decide_eq_false (by omega)
    by_cases h2 : n = 0
    · subst h2
      rw [if_pos rfl]
      go_enter Tryz.func22, Tryz.ntmps22
      go_wp2
      go_ret2
      exact ⟨rfl, rfl⟩
    · rw [if_neg h2]
      clear h1
      go_enter Tryz.func22, Tryz.ntmps22
      go_wp2
      go_ret2
      exact ⟨rfl, rfl⟩
/-- What Open of a nil disk answers. -/
def nilO (per : Int) : Int := if per < 1 then 1 else if 1000 < per then 1 else 7
set_option maxRecDepth 100000 in
theorem LOpen_nil (w : World) (per : Int) : Calls Tryz.prog 11 #[.pointer none, .int .i64 per] w fun e w' => e = .returned (.tuple #[.pointer none, .slice none 0 0, .int .i64 (nilO per)]) ∧ w' = w := by
  unfold nilO
  by_cases h1 : per < 1
  · rw [if_pos h1]
    go_enter Tryz.func11, Tryz.ntmps11
    go_wp2
    go_ret3
    exact ⟨rfl, rfl⟩
  · rw [if_neg h1]
    by_cases h2 : 1000 < per
    · rw [if_pos h2]
      go_enter Tryz.func11, Tryz.ntmps11
      go_wp2
      go_ret3
      exact ⟨rfl, rfl⟩
    · rw [if_neg h2]
      go_enter Tryz.func11, Tryz.ntmps11
      go_wp2
      go_ret3
      exact ⟨rfl, rfl⟩
set_option maxRecDepth 100000 in
theorem DocOpen_nil (w : World) (per : Int) : Calls Tryz.prog 23 #[.pointer none, .int .i64 per] w fun e w' => e = .returned (.tuple #[.pointer none, .slice none 0 0, .int .i64 (nilO per)]) ∧ w' = w := by
  unfold nilO
  by_cases h1 : per < 1
  · rw [if_pos h1]
    go_enter Tryz.func23, Tryz.ntmps23
    go_wp2
    go_ret3
    exact ⟨rfl, rfl⟩
  · rw [if_neg h1]
    by_cases h2 : 1000 < per
    · rw [if_pos h2]
      go_enter Tryz.func23, Tryz.ntmps23
      go_wp2
      go_ret3
      exact ⟨rfl, rfl⟩
    · rw [if_neg h2]
      go_enter Tryz.func23, Tryz.ntmps23
      go_wp2
      go_ret3
      exact ⟨rfl, rfl⟩
end Go.Proofs.YtggnohbfdlebiaaGreatDoor

/-
  The records of a log, plainly: their links and sectors, segment by segment; what is read at a segment's end. No program stands in it.
-/
namespace Go.Proofs.YtggnohbfdlebiaaGreatDoor
open Go.RowKit Go.ChangeShapes

/-- The link behind the first i records. -/
def linkAt (rs : List (List Int)) (i : Nat) : List Int := (rs.take i).foldl chainF (List.replicate 32 0)
theorem linkAt_succ {rs : List (List Int)} {i : Nat} (h : i < rs.length) : linkAt rs (i + 1) = chainF (linkAt rs i) rs[i] := by
  unfold linkAt
  rw [List.take_succ_eq_append_getElem h, List.foldl_append]
  rfl
theorem linkAt_append (rs xs : List (List Int)) {i : Nat} (h : i ≤ rs.length) : linkAt (rs ++ xs) i = linkAt rs i := by
  unfold linkAt
  rw [List.take_append_of_le_length h]
theorem foldl_chain (ps : List (List Int)) : ∀ l : List Int, (l.length = 32 ∧ Byts l) → (ps.foldl chainF l).length = 32 ∧ Byts (ps.foldl chainF l) := by
  induction ps with
  | nil => exact fun l h => h
  | cons p ps ih => exact fun l _ => ih _ ⟨chainF_length l p, chainF_byts l p⟩
theorem linkAt_ok (rs : List (List Int)) (i : Nat) : (linkAt rs i).length = 32 ∧ Byts (linkAt rs i) :=
  foldl_chain _ _ ⟨by simp, fun x hx => by rw [(List.mem_replicate.1 hx).2]; omega⟩
/-- The sectors of the record i (from 0). -/
def secOf (rs : List (List Int)) (i : Nat) : List Int := lsecF (i + 1) (rs.getD i []) (linkAt rs (i + 1))
theorem secOf_eq {rs : List (List Int)} {i : Nat} (h : i < rs.length) : secOf rs i = lsecF (i + 1) rs[i] (linkAt rs (i + 1)) := by
  unfold secOf; rw [List.getD_eq_getElem?_getD, List.getElem?_eq_getElem h]; rfl
theorem secOf_append (rs xs : List (List Int)) {i : Nat} (h : i < rs.length) : secOf (rs ++ xs) i = secOf rs i := by
  unfold secOf
  rw [linkAt_append rs xs (by omega)]
  simp only [List.getD_eq_getElem?_getD, List.getElem?_append_left h]
theorem secOf_length (rs : List (List Int)) {i : Nat} (h : i < rs.length) : (secOf rs i).length = 32 * partsN (rs[i].length + 36) := by
  rw [secOf_eq h]; exact lsecF_length _ _ (linkAt_ok rs (i + 1)).1
/-- The sectors of m records from the record a on. -/
def segB (rs : List (List Int)) (a m : Nat) : List Int := (List.range m).flatMap fun j => secOf rs (a + j)
theorem segB_succ (rs : List (List Int)) (a m : Nat) : segB rs a (m + 1) = segB rs a m ++ secOf rs (a + m) := by
  unfold segB; rw [List.range_succ, List.flatMap_append]; simp
theorem segB_zero (rs : List (List Int)) (a : Nat) : segB rs a 0 = [] := rfl
theorem segB_append (rs xs : List (List Int)) {a : Nat} : ∀ {m : Nat}, a + m ≤ rs.length → segB (rs ++ xs) a m = segB rs a m
  | 0, _ => rfl
  | m + 1, h => by rw [segB_succ, segB_succ, segB_append rs xs (m := m) (by omega), secOf_append rs xs (by omega)]
theorem segB_mod (rs : List (List Int)) (a : Nat) : ∀ {m : Nat}, a + m ≤ rs.length → ∃ k, (segB rs a m).length = 32 * k
  | 0, _ => ⟨0, rfl⟩
  | m + 1, h => by
    obtain ⟨k, hk⟩ := segB_mod rs a (m := m) (by omega)
    rw [segB_succ, List.length_append, hk, secOf_length rs (by omega)]
    exact ⟨_, (Nat.mul_add 32 k _).symm⟩
/-- From the record j on. -/
theorem segB_split (rs : List (List Int)) (a : Nat) {j m : Nat} (h : j ≤ m) : ∃ r, segB rs a m = segB rs a j ++ r ∧ (j < m → ∃ s, r = secOf rs (a + j) ++ s) ∧ (j = m → r = []) := by
  induction m with
  | zero =>
    obtain rfl : j = 0 := by omega
    exact ⟨[], by simp, fun h => by omega, fun _ => rfl⟩
  | succ m ih =>
    by_cases hj : j = m + 1
    · subst hj
      exact ⟨[], by simp, fun h => by omega, fun _ => rfl⟩
    · obtain ⟨r, h1, h2, h3⟩ := ih (by omega)
      refine ⟨r ++ secOf rs (a + m), by rw [segB_succ, h1, List.append_assoc], fun _ => ?_, fun h => absurd h hj⟩
      by_cases hm : j = m
      · subst hm
        rw [h3 rfl]
        exact ⟨[], by simp⟩
      · obtain ⟨s, hs⟩ := h2 (by omega)
        exact ⟨s ++ secOf rs (a + m), by rw [hs, List.append_assoc]⟩
/-- Payloads that a log takes. -/
def Loads (rs : List (List Int)) : Prop := ∀ p ∈ rs, 1 ≤ p.length ∧ p.length ≤ 4096 ∧ Byts p
theorem tail4_byts' {c : Int} : Byts (tail4 c) := by
  intro x hx
  simp only [tail4, List.mem_cons, List.not_mem_nil, or_false] at hx
  omega
theorem Byts.append {a b : List Int} (ha : Byts a) (hb : Byts b) : Byts (a ++ b) := fun x hx => (List.mem_append.1 hx).elim (ha x) (hb x)
theorem Byts.drop {a : List Int} (h : Byts a) (k : Nat) : Byts (a.drop k) := fun x hx => h x (List.mem_of_mem_drop hx)
theorem Byts.take {a : List Int} (h : Byts a) (k : Nat) : Byts (a.take k) := fun x hx => h x (List.mem_of_mem_take hx)
theorem partOf_byts {b : List Int} (h : Byts b) (i : Nat) : Byts (partOf b i) := (h.drop _).take _
theorem lsecOne_byts (n : Nat) {b : List Int} (h : Byts b) {parts i : Nat} (hp : parts ≤ 255) (hi : i ≤ 255) : Byts (lsecOne n b parts i) := by
  have hl := partOf_le b i
  refine Byts.append (Byts.append ?_ (partOf_byts h i)) fun x hx => by rw [(List.mem_replicate.1 hx).2]; omega
  intro x hx
  simp only [lheadF, num4, List.mem_cons, List.mem_append, List.not_mem_nil, or_false] at hx
  omega
theorem lcutN_byts (n : Nat) {b : List Int} (h : Byts b) {parts : Nat} (hp : parts ≤ 255) : ∀ {k : Nat}, k ≤ 255 → Byts (lcutN n b parts k)
  | 0, _ => fun x hx => by cases hx
  | k + 1, hk => by rw [lcutN_succ]; exact (lcutN_byts n h hp (by omega)).append (lsecOne_byts n h hp (by omega))
theorem lbodyF_byts {p link : List Int} (hp : Byts p) (hl : Byts link) : Byts (lbodyF p link) := (hp.append tail4_byts').append hl
theorem secOf_byts {rs : List (List Int)} (h : Loads rs) {i : Nat} (hi : i < rs.length) : Byts (secOf rs i) := by
  rw [secOf_eq hi]
  obtain ⟨_, h2, h3⟩ := h _ (List.getElem_mem hi)
  have hl := lbodyF_length rs[i] (linkAt_ok rs (i + 1)).1
  have hb := lbodyF_byts h3 (linkAt_ok rs (i + 1)).2
  unfold lsecF
  rw [hl]
  have hp : partsN (rs[i].length + 36) ≤ 255 := by unfold partsN; omega
  exact lcutN_byts _ hb hp hp
theorem segB_byts {rs : List (List Int)} (h : Loads rs) {a : Nat} : ∀ {m : Nat}, a + m ≤ rs.length → Byts (segB rs a m)
  | 0, _ => fun x hx => by cases hx
  | m + 1, hm => by rw [segB_succ]; exact (segB_byts h (by omega)).append (secOf_byts h (by omega))
end Go.Proofs.YtggnohbfdlebiaaGreatDoor

/-
  The segments of a log's disk, plainly.
-/
namespace Go.Proofs.YtggnohbfdlebiaaGreatDoor
open Go.RowKit Go.ChangeShapes

theorem namesB_iff {fs : Files} {x : Nm} : x ∈ namesB fs ↔ (get fs x).isSome = true := by
  rw [get_isSome]
  refine ⟨namesB_mem x, fun h => ?_⟩
  obtain ⟨p, hp, rfl⟩ := List.mem_map.1 h
  exact List.mem_map.2 ⟨p.1.data.toList, (List.mergeSort_perm _ _).mem_iff.2 (List.mem_map.2 ⟨p, hp, rfl⟩), rfl⟩
theorem segs_mem {fs : Files} (ht : ∀ s ∈ fs.map (·.1), Tidy s) (m : Nat) : m ∈ segsOf fs ↔ m ≤ 99999999 ∧ (get fs (lnm m)).isSome = true := by
  unfold segsOf
  rw [List.mem_filterMap]
  constructor
  · rintro ⟨s, hs, hq⟩
    rcases ht s (namesB_mem s hs) with h | ⟨n, hn, rfl⟩
    · unfold numB at hq; rw [if_neg h] at hq; cases hq
    · rw [numB_lnm n hn] at hq; injection hq with hq; subst hq
      exact ⟨hn, namesB_iff.1 hs⟩
  · rintro ⟨hm, hs⟩
    exact ⟨lnm m, namesB_iff.2 hs, numB_lnm m hm⟩
theorem sortI_mem {ns : List Nat} {m : Nat} : m ∈ sortI ns ↔ m ∈ ns := by
  unfold sortI
  constructor
  · intro h
    obtain ⟨x, hx, rfl⟩ := List.mem_map.1 h
    obtain ⟨n, hn, rfl⟩ := List.mem_map.1 (List.mem_mergeSort.1 hx)
    exact hn
  · intro h
    exact List.mem_map.2 ⟨(m : Int), List.mem_mergeSort.2 (List.mem_map.2 ⟨m, h, rfl⟩), rfl⟩
theorem sortI_sorted (ns : List Nat) : (sortI ns).Pairwise (· ≤ ·) := by
  unfold sortI
  rw [List.pairwise_map]
  have h := List.pairwise_mergeSort (le := fun x y : Int => decide (x ≤ y)) (fun a b c h1 h2 => by simp only [decide_eq_true_eq] at h1 h2 ⊢; omega) (fun a b => by simp only [Bool.or_eq_true, decide_eq_true_eq]; omega) (ns.map fun n : Nat => (n : Int))
  refine h.imp ?_
  intro a b hab
  simp only [decide_eq_true_eq] at hab
  omega
theorem sortI_nil {ns : List Nat} (h : sortI ns = []) : ns = [] := by
  have := congrArg List.length h
  rw [sortI_length] at this
  exact List.eq_nil_of_length_eq_zero this
/-- The least one. -/
theorem sortI_head {ns ms : List Nat} {a : Nat} (h : sortI ns = a :: ms) : a ∈ ns ∧ ∀ m ∈ ns, a ≤ m := by
  have hs := sortI_sorted ns
  rw [h] at hs
  refine ⟨sortI_mem.1 (by rw [h]; simp), fun m hm => ?_⟩
  have hm' := sortI_mem.2 hm
  rw [h] at hm'
  rcases List.mem_cons.1 hm' with rfl | hm'
  · exact Nat.le_refl _
  · exact (List.pairwise_cons.1 hs).1 m hm'
/-- Here the record r is broken off. -/
def Stub (T : List Int) (r : Nat) : Prop := ∃ B i0, 37 ≤ B.length ∧ B.length ≤ 4132 ∧ Front T r B i0 ∧ i0 < partsN B.length ∧ Broken T i0
theorem stub_of {T : List Int} (r : Nat) (h : Broken T 0) : Stub T r :=
  ⟨List.replicate 37 0, 0, by simp, by simp, ⟨by simp, fun j hj => by omega⟩, by simp [partsN], h⟩
theorem byts_nil : Byts [] := fun x hx => by cases hx
theorem stub_nil (r : Nat) : Stub [] r := stub_of r (.inl (by simp))
/-- The files of a log's disk: the records rs, those of the segments from f on; behind the last one there is T. -/
structure Lays (fs : Files) (per f : Nat) (rs : List (List Int)) (T : List Int) : Prop where
  nodup : (fs.map (·.1)).Nodup
  tidy : ∀ s, (get fs s).isSome = true → Tidy s
  loads : Loads rs
  perOk : 1 ≤ per ∧ per ≤ 1000
  count : rs.length ≤ 90000
  first : f * per < rs.length ∨ f = 0
  broke : Stub T (rs.length + 1)
  bytT : Byts T
  whole : ∀ k, f ≤ k → (k + 1) * per ≤ rs.length → (get fs (lnm k)).isSome = true ∧ bytesOf (getF fs (lnm k)) = segB rs (k * per) per
  last : (get fs (lnm (rs.length / per)) = none ∧ rs.length % per = 0 ∧ T = []) ∨ ((get fs (lnm (rs.length / per))).isSome = true ∧ bytesOf (getF fs (lnm (rs.length / per))) = segB rs (rs.length / per * per) (rs.length % per) ++ T)
  only : ∀ k, k ≤ 99999999 → (get fs (lnm k)).isSome = true → f ≤ k ∧ k ≤ rs.length / per
  few : fs.length ≤ 2 + rs.length / per + if (get fs (lnm (rs.length / per))).isSome = true then 1 else 0
theorem Lays.tidyS {fs : Files} {per f : Nat} {rs : List (List Int)} {T : List Int} (h : Lays fs per f rs T) : ∀ s ∈ fs.map (·.1), Tidy s := fun s hs => h.tidy s (get_isSome.2 hs)
theorem Lays.parts {fs : Files} {per f : Nat} {rs : List (List Int)} {T : List Int} (h : Lays fs per f rs T) : rs.length / per * per + rs.length % per = rs.length ∧ rs.length % per < per ∧ rs.length / per ≤ 90000 := by
  have h1 := h.perOk
  have h2 := h.count
  have h3 := Nat.div_add_mod rs.length per
  rw [Nat.mul_comm] at h3
  exact ⟨h3, Nat.mod_lt _ (by omega), Nat.le_trans (Nat.div_le_self _ _) h2⟩
/-- Only what is found by names counts. -/
theorem Lays.congr {fs gs : Files} {per f : Nat} {rs : List (List Int)} {T : List Int} (h : Lays fs per f rs T) (hd : (gs.map (·.1)).Nodup) (hl : gs.length ≤ fs.length) (hg : ∀ s, get gs s = get fs s) : Lays gs per f rs T := by
  have hgf : ∀ s, getF gs s = getF fs s := fun s => by unfold getF; rw [hg]
  refine ⟨hd, fun s hs => h.tidy s (by rw [← hg]; exact hs), h.loads, h.perOk, h.count, h.first, h.broke, h.bytT, fun k h1 h2 => ?_, ?_, fun k h1 h2 => h.only k h1 (by rw [← hg]; exact h2), ?_⟩
  · rw [hg, hgf]; exact h.whole k h1 h2
  · rw [hg, hgf]; exact h.last
  · rw [hg]; exact Nat.le_trans hl h.few
theorem nodup_put {α : Type} {l : List (Nm × α)} (h : (l.map (·.1)).Nodup) (x : Nm) (v : α) : ((put l x v).map (·.1)).Nodup := by
  rw [put_keys]
  split
  · exact h
  · rename_i hx
    rw [List.nodup_append]
    refine ⟨h, by simp, fun a ha b hb e => hx ?_⟩
    rw [List.mem_singleton] at hb
    rw [get_isSome, ← hb, ← e]; exact ha
theorem nodup_del {K : Type} [DecidableEq K] {α : Type} {l : List (K × α)} (h : (l.map (·.1)).Nodup) (x : K) : ((del l x).map (·.1)).Nodup := by
  rw [del_keys]; exact h.erase x
theorem del_mem_length {K : Type} [DecidableEq K] {α : Type} {l : List (K × α)} {x : K} (h : x ∈ l.map (·.1)) : (del l x).length + 1 = l.length := by
  have e1 := congrArg List.length (del_keys l x)
  rw [List.length_map, List.length_erase_of_mem h, List.length_map] at e1
  have := List.length_pos_of_mem h
  rw [List.length_map] at this
  omega
theorem put_len {l : Files} {x : Nm} {v : List Sec} : (put l x v).length = if (get l x).isSome = true then l.length else l.length + 1 := by
  have h := congrArg List.length (put_keys l x v)
  rw [List.length_map] at h
  rw [h]
  split <;> simp
theorem bytes_secs {bs : List Int} {q : Nat} (h : bs.length = 32 * q) : bytesOf (secs bs) = bs := by
  have hn : nsec bs.length = q := by unfold nsec; omega
  have key : ∀ k, k ≤ q → ((List.range k).map (secAt bs)).flatMap (·.bytes) = bs.take (32 * k) := by
    intro k
    induction k with
    | zero => simp
    | succ k ih =>
      intro hk
      rw [List.range_succ, List.map_append, List.flatMap_append, ih (by omega), show 32 * (k + 1) = 32 * k + 32 by omega, List.take_add]
      congr 1
      simp only [List.map_cons, List.map_nil, List.flatMap_cons, List.flatMap_nil, List.append_nil, secAt]
      have : ((bs.drop (32 * k)).take 32).length = 32 := by rw [List.length_take, List.length_drop]; omega
      rw [this, Nat.sub_self, List.replicate_zero, List.append_nil]
  unfold bytesOf secs
  rw [hn]
  rw [key q (Nat.le_refl _), ← h, List.take_length]
theorem nameB_lnm (n : Nat) : nameB (lnm n) = true := by
  have e : (lnm n).data.toList = 108 :: (ldigs n 8).map fun x => UInt8.ofNat x.toNat := by
    unfold lnm; rw [strOfNums_data]; simp [lnameK]
  unfold nameB
  rw [lnm_size, e]
  have : ∀ k, ((ldigs n k).map fun x => UInt8.ofNat x.toNat).all (fun c => (decide (97 ≤ c.toNat) && decide (c.toNat ≤ 122)) || (decide (48 ≤ c.toNat) && decide (c.toNat ≤ 57))) = true := by
    intro k
    induction k with
    | zero => rfl
    | succ k ih =>
      have h10 : n / 10 ^ k % 10 < 10 := Nat.mod_lt _ (by decide)
      simp only [ldigs, List.map_cons, List.all_cons, ih, Bool.and_true]
      have hv : (UInt8.ofNat (48 + ((n / 10 ^ k % 10 : Nat) : Int)).toNat).toNat = 48 + n / 10 ^ k % 10 := by
        rw [UInt8.toNat_ofNat']; omega
      rw [hv]
      have h1 : 48 ≤ 48 + n / 10 ^ k % 10 := by omega
      have h2 : 48 + n / 10 ^ k % 10 ≤ 57 := by omega
      show (_ || (decide (48 ≤ 48 + n / 10 ^ k % 10) && decide (48 + n / 10 ^ k % 10 ≤ 57))) = true
      rw [decide_eq_true h1, decide_eq_true h2]; simp
  rw [List.all_cons, this 8]
  decide
section
variable {fs : Files} {per f : Nat} {rs : List (List Int)} {T : List Int}
/-- What the current segment's file holds. -/
theorem Lays.getF_last (h : Lays fs per f rs T) : bytesOf (getF fs (lnm (rs.length / per))) = segB rs (rs.length / per * per) (rs.length % per) ++ T := by
  rcases h.last with ⟨h1, h2, h3⟩ | ⟨_, h2⟩
  · rw [h2, h3]; unfold getF; rw [h1]; rfl
  · exact h2
theorem lnm_ne {a b : Nat} (ha : a ≤ 99999999) (hb : b ≤ 99999999) (h : a ≠ b) : lnm a ≠ lnm b := fun e => h (lnm_inj ha hb e)
/-- The current segment's file has turned; the records stand. -/
theorem Lays.turn (h : Lays fs per f rs T) {T' : List Int} {L : List Sec} (hL : bytesOf L = segB rs (rs.length / per * per) (rs.length % per) ++ T') (hT : Stub T' (rs.length + 1)) (hB : Byts T') (hf : f ≤ rs.length / per) : Lays (put fs (lnm (rs.length / per)) L) per f rs T' := by
  obtain ⟨h1, h2, h3⟩ := h.parts
  obtain ⟨q, hq⟩ : ∃ q, rs.length / per = q := ⟨_, rfl⟩
  have hfew := h.few
  rw [hq] at hL h1 h3 hf hfew ⊢
  refine ⟨nodup_put h.nodup _ _, fun s hs => ?_, h.loads, h.perOk, h.count, h.first, hT, hB, fun k hk1 hk2 => ?_, .inr ?_, fun k hk1 hk2 => ?_, ?_⟩
  · rw [get_put] at hs
    split at hs
    · rename_i e; exact .inr ⟨q, by omega, e⟩
    · exact h.tidy s hs
  · have hkq : k < q := by
      refine Nat.lt_of_not_le fun hle => ?_
      have := Nat.mul_le_mul_right per (Nat.succ_le_succ hle)
      rw [Nat.succ_mul] at this
      have e : k.succ * per = (k + 1) * per := rfl
      omega
    have hne := lnm_ne (a := k) (b := q) (by omega) (by omega) (by omega)
    rw [get_put_ne hne, getF_put_ne hne]
    exact h.whole k hk1 hk2
  · rw [hq, get_put_eq, getF_put_eq]; exact ⟨rfl, hL⟩
  · rw [get_put] at hk2
    split at hk2
    · rename_i e
      have := lnm_inj hk1 (by omega) e
      omega
    · exact hq ▸ h.only k hk1 hk2
  · rw [hq, put_len, get_put_eq, if_pos (show (some L).isSome = true from rfl)]
    split
    · rename_i e; rw [if_pos e] at hfew; exact hfew
    · rename_i e; rw [if_neg e] at hfew; omega
/-- A record more. -/
theorem Lays.more (h : Lays fs per f rs T) {p : List Int} (hp : 1 ≤ p.length ∧ p.length ≤ 4096 ∧ Byts p) (hc : rs.length < 90000) {L : List Sec} (hL : bytesOf L = segB (rs ++ [p]) (rs.length / per * per) (rs.length % per + 1)) (hf : f ≤ rs.length / per) :
    Lays (put fs (lnm (rs.length / per)) L) per f (rs ++ [p]) [] := by
  obtain ⟨h1, h2, h3⟩ := h.parts
  have hper := h.perOk
  obtain ⟨q, hq⟩ : ∃ q, rs.length / per = q := ⟨_, rfl⟩
  obtain ⟨m, hm⟩ : ∃ m, rs.length % per = m := ⟨_, rfl⟩
  have hfew := h.few
  have honly := h.only
  have hn : (rs ++ [p]).length = rs.length + 1 := by simp
  rw [hq, hm] at h1
  rw [hm] at h2 hL
  rw [hq] at hL h3 hf hfew honly ⊢
  have hsucc : (q + 1) * per = q * per + per := Nat.succ_mul q per
  have hdm : ((rs ++ [p]).length / per = q ∧ (rs ++ [p]).length % per = m + 1 ∧ m + 1 < per) ∨ ((rs ++ [p]).length / per = q + 1 ∧ (rs ++ [p]).length % per = 0 ∧ m + 1 = per) := by
    rw [hn]
    by_cases hmp : m + 1 = per
    · refine .inr ⟨?_, ?_, hmp⟩
      · rw [show rs.length + 1 = (q + 1) * per by omega]; exact Nat.mul_div_cancel _ (by omega)
      · rw [show rs.length + 1 = (q + 1) * per by omega]; exact Nat.mul_mod_left _ _
    · refine .inl ⟨?_, ?_, by omega⟩
      · rw [show rs.length + 1 = (m + 1) + per * q by rw [Nat.mul_comm per q]; omega, Nat.add_mul_div_left _ _ (by omega), Nat.div_eq_of_lt (by omega)]; omega
      · rw [show rs.length + 1 = (m + 1) + per * q by rw [Nat.mul_comm per q]; omega, Nat.add_mul_mod_self_left, Nat.mod_eq_of_lt (by omega)]
  have hlt : ∀ k, (k + 1) * per ≤ rs.length → k < q := fun k hk => by
    refine Nat.lt_of_not_le fun hle => ?_
    have := Nat.mul_le_mul_right per (Nat.succ_le_succ hle)
    have e : k.succ * per = (k + 1) * per := rfl
    have e2 : q.succ * per = (q + 1) * per := rfl
    omega
  refine ⟨nodup_put h.nodup _ _, fun s hs => ?_, ?_, h.perOk, by rw [hn]; omega, ?_, stub_nil _, byts_nil, fun k hk1 hk2 => ?_, ?_, fun k hk1 hk2 => ?_, ?_⟩
  · rw [get_put] at hs
    split at hs
    · rename_i e; exact .inr ⟨q, by omega, e⟩
    · exact h.tidy s hs
  · intro x hx
    rcases List.mem_append.1 hx with hx | hx
    · exact h.loads x hx
    · rw [List.mem_singleton.1 hx]; exact hp
  · rcases h.first with h' | h'
    · exact .inl (by rw [hn]; omega)
    · exact .inr h'
  · rw [hn] at hk2
    by_cases hkq : k = q
    · subst hkq
      have : m + 1 = per := by omega
      rw [get_put_eq, getF_put_eq, hL, this]
      exact ⟨rfl, rfl⟩
    · have hk' : (k + 1) * per ≤ rs.length := by
        by_cases hkq' : k < q
        · have := Nat.mul_le_mul_right per (Nat.succ_le_of_lt hkq')
          have e : k.succ * per = (k + 1) * per := rfl
          omega
        · have := Nat.mul_le_mul_right per (show q + 1 ≤ k by omega)
          have e := Nat.succ_mul k per
          have e' : k.succ * per = (k + 1) * per := rfl
          omega
      have hkl := hlt k hk'
      have hne := lnm_ne (a := k) (b := q) (by omega) (by omega) (by omega)
      rw [get_put_ne hne, getF_put_ne hne, segB_append rs [p] (by have := Nat.succ_mul k per; have e' : k.succ * per = (k + 1) * per := rfl; omega)]
      exact h.whole k hk1 hk'
  · rcases hdm with ⟨e1, e2, e3⟩ | ⟨e1, e2, e3⟩
    · refine .inr ?_
      rw [e1, e2, get_put_eq, getF_put_eq, List.append_nil]
      exact ⟨rfl, hL⟩
    · refine .inl ?_
      have hne := lnm_ne (a := q + 1) (b := q) (by omega) (by omega) (by omega)
      rw [e1, e2, get_put_ne hne]
      refine ⟨?_, rfl, rfl⟩
      cases hg : get fs (lnm (q + 1)) with
      | none => rfl
      | some l =>
        have := (honly (q + 1) (by omega) (by rw [hg]; rfl)).2
        omega
  · rw [get_put] at hk2
    have hge : q ≤ (rs ++ [p]).length / per := by rcases hdm with ⟨e1, _⟩ | ⟨e1, _⟩ <;> omega
    split at hk2
    · rename_i e
      have := lnm_inj hk1 (by omega) e
      omega
    · have := honly k hk1 hk2
      omega
  · rw [put_len]
    rcases hdm with ⟨e1, _, _⟩ | ⟨e1, _, _⟩
    · rw [e1, get_put_eq, if_pos (show (some L).isSome = true from rfl)]
      split
      · rename_i e; rw [if_pos e] at hfew; exact hfew
      · rename_i e; rw [if_neg e] at hfew; omega
    · rw [e1]
      split
      · rename_i e; rw [if_pos e] at hfew; omega
      · rename_i e; rw [if_neg e] at hfew; omega
/-- A segment is taken away. -/
theorem Lays.prune (h : Lays fs per f rs []) (hf : (f + 1) * per < rs.length) : Lays (del fs (lnm f)) per (f + 1) rs [] := by
  obtain ⟨h1, h2, h3⟩ := h.parts
  obtain ⟨q, hq⟩ : ∃ q, rs.length / per = q := ⟨_, rfl⟩
  have hfew := h.few
  have honly := h.only
  have hlast := h.last
  rw [hq] at h1 h3 hfew honly hlast
  have hfq : f < q := by
    refine Nat.lt_of_not_le fun hle => ?_
    have := Nat.mul_le_mul_right per hle
    have e := Nat.succ_mul f per
    have e' : f.succ * per = (f + 1) * per := rfl
    omega
  have hne : ∀ k, k ≤ 99999999 → k ≠ f → lnm k ≠ lnm f := fun k hk hkf => lnm_ne hk (by omega) hkf
  refine ⟨nodup_del h.nodup _, fun s hs => ?_, h.loads, h.perOk, h.count, .inl hf, stub_nil _, byts_nil, fun k hk1 hk2 => ?_, ?_, fun k hk1 hk2 => ?_, ?_⟩
  · rw [get_del h.nodup] at hs
    split at hs
    · cases hs
    · exact h.tidy s hs
  · have hkq : k ≤ rs.length := by
      have := Nat.le_mul_of_pos_right k (show 0 < per by have := h.perOk; omega)
      have e := Nat.succ_mul k per
      have e' : k.succ * per = (k + 1) * per := rfl
      omega
    have hc := h.count
    have hn := hne k (by omega) (by omega)
    rw [get_del_ne hn, getF_del_ne hn]
    exact h.whole k (by omega) hk2
  · have hn := hne q (by omega) (by omega)
    rw [hq, get_del_ne hn, getF_del_ne hn]
    exact hlast
  · rw [get_del h.nodup] at hk2
    split at hk2
    · cases hk2
    · rename_i e
      have := honly k hk1 hk2
      have : k ≠ f := fun e' => e (by rw [e'])
      omega
  · have hn := hne q (by omega) (by omega)
    rw [hq, get_del_ne hn]
    exact Nat.le_trans (del_length _ _) hfew
/-- A file of another name. -/
theorem Lays.other (h : Lays fs per f rs T) {s : Nm} (hs : s.size ≠ 9) {L : List Sec} (hl : (put fs s L).length ≤ 2) : Lays (put fs s L) per f rs T := by
  have hne : ∀ k, lnm k ≠ s := fun k e => hs (by rw [← e]; exact lnm_size k)
  refine ⟨nodup_put h.nodup _ _, fun x hx => ?_, h.loads, h.perOk, h.count, h.first, h.broke, h.bytT, fun k hk1 hk2 => ?_, ?_, fun k hk1 hk2 => h.only k hk1 (by rw [get_put_ne (hne k)] at hk2; exact hk2), Nat.le_trans hl (Nat.le_trans (Nat.le_add_right 2 _) (Nat.le_add_right _ _))⟩
  · rw [get_put] at hx
    split at hx
    · rename_i e; exact .inl (by rw [e]; exact hs)
    · exact h.tidy x hx
  · rw [get_put_ne (hne k), getF_put_ne (hne k)]; exact h.whole k hk1 hk2
  · rw [get_put_ne (hne _), getF_put_ne (hne _)]; exact h.last
end
theorem lays_nil {per : Nat} (h : 1 ≤ per ∧ per ≤ 1000) : Lays [] per 0 [] [] :=
  ⟨by simp, fun s hs => by simp [get] at hs, fun p hp => (by cases hp), h, by simp, .inr rfl, stub_nil _, byts_nil, fun k _ hk => (by
    have := Nat.le_mul_of_pos_right (k + 1) (show 0 < per by omega)
    simp only [List.length_nil] at hk; omega), .inl ⟨rfl, by simp, rfl⟩, fun k _ hk => (by simp [get] at hk), by simp⟩
/-- The file of a record's segment. -/
def segFile (r per : Nat) : Nm := lnm ((r - 1) / per)
/-- What Append answers; what it leaves. -/
def St.lapE (S : St) (nm : Nm) (bs : List Int) : Int := if S.appE nm bs.length ≠ 0 then S.appE nm bs.length else (S.appT nm bs).opE ((S.appT nm bs).check nm true)
def St.lapS (S : St) (nm : Nm) (bs : List Int) : St := if S.appE nm bs.length ≠ 0 then S.appT nm bs else (S.appT nm bs).opS ((S.appT nm bs).check nm true) (Hg.sync nm)
end Go.Proofs.YtggnohbfdlebiaaGreatDoor

/-
  Rows of payloads ([][]byte): of the call's own, and read; passbooklaw10.same.
-/
namespace Go.Proofs.YtggnohbfdlebiaaGreatDoor
open Go.RowKit Go.Shelf Go.ChangeMaps

def OwnV (w : World) (B : Nat) (v : Value) (vs : List Value) : Prop := w.ownsRow B 33 1 v vs.length vs
theorem OwnV.nil (w : World) (B : Nat) : OwnV w B (.slice none 0 0) [] := ⟨rfl, .inl ⟨rfl, rfl⟩⟩
theorem sl_parts : ∃ i, Tryz.prog.info? 33 = some i ∧ i.zero = some (.slice none 0 0) ∧ i.size = 1 ∧ i.bytes = 24 := by
  have h : (Tryz.prog.info? 33).map (fun i => (i.zero, i.size, i.bytes)) = some (some (.slice none 0 0), 1, 24) := by kernel_rfl
  obtain ⟨i, hi, he⟩ := Option.map_eq_some_iff.1 h
  simp only [Prod.mk.injEq] at he
  exact ⟨i, hi, he.1, he.2.1, he.2.2⟩
theorem OwnV.kept {w w' : World} {B : Nat} {v : Value} {vs : List Value} {F : Nat → Prop} (h : OwnV w B v vs) (hk : Kp F w w') (hF : ∀ k, v.ownBlock = some k → ¬ F k) : OwnV w' B v vs := by
  obtain ⟨h1, h2⟩ := h
  refine ⟨h1, h2.imp id ?_⟩
  rintro ⟨g, cap, cur, rfl, hg, hh, r⟩
  exact ⟨g, cap, cur, rfl, hg, hk.blk hh (hF g rfl), r⟩
theorem OwnV.base {w : World} {B B' : Nat} {v : Value} {vs : List Value} (h : OwnV w B v vs) (hB : B' ≤ B) : OwnV w B' v vs := by
  obtain ⟨h1, h2⟩ := h
  refine ⟨h1, h2.imp id ?_⟩
  rintro ⟨g, cap, cur, e, hg, r⟩
  exact ⟨g, cap, cur, e, Nat.le_trans hB hg, r⟩
theorem OwnV.lt {w : World} {B : Nat} {v : Value} {vs : List Value} (h : OwnV w B v vs) : ∀ k, v.ownBlock = some k → B ≤ k ∧ k < w.heap.size := by
  intro k hk
  obtain ⟨_, ⟨rfl, _⟩ | ⟨g, cap, cur, rfl, hg, hh, _⟩⟩ := h
  · cases hk
  · simp only [Value.ownBlock, Option.some.injEq] at hk
    subst hk
    exact ⟨hg, blk_lt hh⟩
set_option maxRecDepth 100000 in
/-- append of one, its row just made. -/
theorem own_val {w : World} {B : Nat} {v : Value} {vs : List Value} (h : OwnV w B v vs) (x : Value) (hx : x.oneCell' = true) (hB : B ≤ w.heap.size) (hn : vs.length ≤ 1000000) (ty : TypeId) :
    ∃ v' w', (Builtin.append_ #[29, 29] ty #[v, .slice (some ⟨w.heap.size, 0, none⟩) 1 1]).run Tryz.prog (w.alloc (.cells #[x] 33)) = .ok v' w' ∧ OwnV w' B v' (vs ++ [x]) ∧ Grew (w.alloc (.cells #[x] 33)) w' v v' := by
  obtain ⟨i, hi, hz, h1, h2⟩ := sl_parts
  have h' : OwnV (w.alloc (.cells #[x] 33)) B v vs := h.kept (F := fun _ => False) ((Kp.refl _ w).alloc _) fun _ _ h => h
  obtain ⟨v', w', hr, ho, hg, _, hb⟩ := run_append_own_at (P := Tryz.prog) (w.alloc (.cells #[x] 33)) B 29 ty 33 i (.slice none 0 0) 1 24 (by kernel_rfl) hi hz h1 h2 rfl (by omega) v vs.length vs h' ⟨w.heap.size, 0, none⟩ 1 1 [x] rfl (fun j u hj => by
      obtain rfl : j = 0 := by
        have := (List.getElem?_eq_some_iff.1 hj).1
        simpa using this
      rw [Addr.add_lit, blk_cell (heap_alloc_new w _)]
      simpa using hj)
    (fun u hu => by
      obtain rfl := List.mem_singleton.1 hu
      exact hx) (by unfold maxLen; omega) (by omega) (by rw [alloc_size']; omega)
  refine ⟨v', w', hr, ?_, hg, hb⟩
  unfold OwnV
  rw [List.length_append]
  exact ho
/-- A row of payloads of the call's own, from block B on; of what lies in F nothing of it lies there. -/
def RowP (w : World) (B : Nat) (F : Nat → Prop) (v : Value) (ps : List (List Int)) : Prop :=
  ∃ vs, OwnV w B v vs ∧ vs.length = ps.length ∧ ∀ (j : Nat) q, ps[j]? = some q → ∃ x, vs[j]? = some x ∧ BytesAt w (fun k => F k ∨ v.ownBlock = some k) x q
theorem RowP.nil (w : World) (B : Nat) (F : Nat → Prop) : RowP w B F (.slice none 0 0) [] := ⟨[], OwnV.nil w B, rfl, fun j q hj => by simp at hj⟩
theorem RowP.kept {w w' : World} {B : Nat} {F F' G : Nat → Prop} {v : Value} {ps : List (List Int)} (h : RowP w B F v ps) (hk : Kp G w w') (hG : ∀ k, G k → F k) (ho : ∀ k, v.ownBlock = some k → ¬ G k) (hF : ∀ k, F' k → F k ∨ w.heap.size ≤ k) : RowP w' B F' v ps := by
  obtain ⟨vs, h1, h2, h3⟩ := h
  refine ⟨vs, h1.kept hk ho, h2, fun j q hj => ?_⟩
  obtain ⟨x, hx, hb⟩ := h3 j q hj
  refine ⟨x, hx, hb.kept (hk.mono fun k hg => .inl (hG k hg)) fun k hk' => ?_⟩
  rcases hk' with h | h
  · rcases hF k h with h | h
    · exact .inl (.inl h)
    · exact .inr h
  · exact .inl (.inr h)
theorem RowP.base {w : World} {B B' : Nat} {F : Nat → Prop} {v : Value} {ps : List (List Int)} (h : RowP w B F v ps) (hB : B' ≤ B) : RowP w B' F v ps := by
  obtain ⟨vs, h1, h2, h3⟩ := h
  exact ⟨vs, h1.base hB, h2, h3⟩
theorem RowP.lt {w : World} {B : Nat} {F : Nat → Prop} {v : Value} {ps : List (List Int)} (h : RowP w B F v ps) : ∀ k, v.ownBlock = some k → B ≤ k ∧ k < w.heap.size := by
  obtain ⟨vs, h1, _⟩ := h
  exact h1.lt
theorem BytesAt.cell {w : World} {F : Nat → Prop} {v : Value} {bs : List Int} (h : BytesAt w F v bs) : v.oneCell' = true := by
  obtain ⟨p, c, rfl, _⟩ := h; rfl
/-- append of a payload. -/
theorem RowP.push {w : World} {B : Nat} {F : Nat → Prop} {v x : Value} {ps : List (List Int)} {q : List Int} (h : RowP w B F v ps) (hx : BytesAt w (fun k => F k ∨ v.ownBlock = some k) x q) (hB : B ≤ w.heap.size) (hF : ∀ k, F k → k < w.heap.size) (hn : ps.length ≤ 1000000) (ty : TypeId) :
    ∃ v' w', (Builtin.append_ #[29, 29] ty #[v, .slice (some ⟨w.heap.size, 0, none⟩) 1 1]).run Tryz.prog (w.alloc (.cells #[x] 33)) = .ok v' w' ∧ RowP w' B F v' (ps ++ [q]) ∧ Kp (fun k => v.ownBlock = some k) w w' ∧ (∀ k, F k → v'.ownBlock = some k → v.ownBlock = some k) ∧ ∀ k, v'.ownBlock = some k → v.ownBlock = some k ∨ w.heap.size ≤ k := by
  obtain ⟨vs, h1, h2, h3⟩ := h
  obtain ⟨v', w', hr, ho, hg⟩ := own_val h1 x hx.cell hB (by omega) ty
  have hk : Kp (fun k => v.ownBlock = some k) w w' := ((Kp.refl _ w).alloc _).trans (hg.kp fun k hk => .inl hk)
  have hown : ∀ k, v'.ownBlock = some k → v.ownBlock = some k ∨ w.heap.size ≤ k := fun k hk' => by
    rcases hg.block with e | e
    · exact .inl (e ▸ hk')
    · rw [e] at hk'
      injection hk' with hk'
      exact .inr (by rw [← hk', alloc_size']; omega)
  refine ⟨v', w', hr, ⟨vs ++ [x], ho, by rw [List.length_append, List.length_append, h2]; rfl, fun j p hj => ?_⟩, hk, fun k hf ho' => ?_, hown⟩
  · have hmove : ∀ y p, BytesAt w (fun k => F k ∨ v.ownBlock = some k) y p → BytesAt w' (fun k => F k ∨ v'.ownBlock = some k) y p := fun y p hb =>
      hb.kept (hk.mono fun k h => .inr h) fun k hk' => by
        rcases hk' with h | h
        · exact .inl (.inl h)
        · rcases hown k h with h | h
          · exact .inl (.inr h)
          · exact .inr h
    by_cases hjl : j < ps.length
    · rw [List.getElem?_append_left hjl] at hj
      obtain ⟨y, hy, hb⟩ := h3 j p hj
      exact ⟨y, by rw [List.getElem?_append_left (by omega)]; exact hy, hmove y p hb⟩
    · have hlt := (List.getElem?_eq_some_iff.1 hj).1
      rw [List.length_append] at hlt
      obtain rfl : j = ps.length := by simp at hlt; omega
      rw [List.getElem?_append_right (Nat.le_refl _), Nat.sub_self] at hj
      simp only [List.getElem?_cons_zero, Option.some.injEq] at hj
      subst hj
      exact ⟨x, by rw [← h2, List.getElem?_append_right (Nat.le_refl _), Nat.sub_self]; rfl, hmove x q hx⟩
  · rcases hown k ho' with h | h
    · exact h
    · have := hF k hf; omega
/-- A row of payloads, read. -/
def PayAt (w : World) (F : Nat → Prop) (v : Value) (ps : List (List Int)) : Prop :=
  ∃ p c, v = .slice p ps.length c ∧ ps.length ≤ c ∧ ∀ (j : Nat) q, ps[j]? = some q → ∃ b o x, p = some ⟨b, o, none⟩ ∧ ¬ F b ∧ w.cell? ⟨b, o + j, none⟩ = some x ∧ BytesAt w F x q
theorem PayAt.kept {w w' : World} {F F' : Nat → Prop} {v : Value} {ps : List (List Int)} (h : PayAt w F v ps) (hk : Kp F w w') (hF : ∀ k, F' k → F k ∨ w.heap.size ≤ k) : PayAt w' F' v ps := by
  obtain ⟨p, c, rfl, hc, h⟩ := h
  refine ⟨p, c, rfl, hc, fun j q hj => ?_⟩
  obtain ⟨b, o, x, e, hb, hx, hq⟩ := h j q hj
  refine ⟨b, o, x, e, fun h' => ?_, hk.cell hx hb, hq.kept hk hF⟩
  rcases hF b h' with h1 | h1
  · exact hb h1
  · have : b < w.heap.size := block_lt_of_cell hx
    omega
theorem PayAt.mono {w : World} {F F' : Nat → Prop} {v : Value} {ps : List (List Int)} (h : PayAt w F v ps) (hF : ∀ k, F' k → F k) : PayAt w F' v ps := by
  obtain ⟨p, c, rfl, hc, h⟩ := h
  refine ⟨p, c, rfl, hc, fun j q hj => ?_⟩
  obtain ⟨b, o, x, e, hb, hx, hq⟩ := h j q hj
  exact ⟨b, o, x, e, fun h' => hb (hF _ h'), hx, hq.mono hF⟩
theorem PayAt.get {w : World} {F : Nat → Prop} {p : Option Addr} {n c j : Nat} {ps : List (List Int)} {q : List Int} (h : PayAt w F (.slice p n c) ps) (hj : ps[j]? = some q) : ∃ b o x, p = some ⟨b, o, none⟩ ∧ w.cell? ⟨b, o + j, none⟩ = some x ∧ BytesAt w F x q := by
  obtain ⟨p', c', e, hc, h⟩ := h
  injection e with e1 e2 e3
  subst e1
  obtain ⟨b, o, x, e, hb, hx, hq⟩ := h j q hj
  exact ⟨b, o, x, e, hx, hq⟩
theorem RowP.pay {w : World} {B : Nat} {F : Nat → Prop} {v : Value} {ps : List (List Int)} (h : RowP w B F v ps) (hF : ∀ k, v.ownBlock = some k → ¬ F k) : PayAt w F v ps := by
  obtain ⟨vs, ⟨_, ⟨rfl, h0⟩ | ⟨g, cap, cur, rfl, hg, hh, hnc, _, _, ht⟩⟩, h2, h3⟩ := h
  · have hp : ps = [] := List.eq_nil_of_length_eq_zero (by omega)
    subst hp
    exact ⟨none, 0, rfl, Nat.le_refl _, fun j q hj => by simp at hj⟩
  · refine ⟨some ⟨g, 0, none⟩, cap, by rw [h2], by omega, fun j q hj => ?_⟩
    obtain ⟨x, hx, hb⟩ := h3 j q hj
    refine ⟨g, 0, x, rfl, hF g rfl, ?_, hb.mono fun k hk => .inl hk⟩
    rw [Nat.zero_add, blk_cell hh]
    have hlt := (List.getElem?_eq_some_iff.1 hx).1
    rw [← ht, List.getElem?_take, if_pos (by omega)] at hx
    simpa using hx
end Go.Proofs.YtggnohbfdlebiaaGreatDoor

/-
  A log's disk, and what Append, Prune and a crash do to it; plain: no program stands in it.
-/
namespace Go.Proofs.YtggnohbfdlebiaaGreatDoor
open Go.RowKit

/-- k operations more, at least, are done. -/
structure Live (k : Nat) (S : St) : Prop where
  off : S.off = false
  armed : S.armed = 0 ∨ (k : Int) < S.armed
theorem Idle.live {S : St} (h : Idle S) (k : Nat) : Live k S := ⟨h.off, .inl h.armed⟩
theorem Live.doE {k : Nat} {S : St} (h : Live (k + 1) S) : S.doE = 0 := by
  unfold St.doE; rw [if_neg]; have := h.armed; omega
theorem Live.did {k : Nat} {S : St} (h : Live (k + 1) S) (hg : Hg) : Live k (S.doS hg) ∧ (S.doS hg).files = hg.run S.files ∧ (S.doS hg).room = S.room ∧ (S.doS hg).armed = if S.armed = 0 then 0 else S.armed - 1 := by
  have h1 : ¬ S.armed = 1 := by have := h.armed; omega
  unfold St.doS
  rw [if_neg h1]
  refine ⟨⟨h.off, ?_⟩, rfl, rfl, rfl⟩
  show (if S.armed = 0 then 0 else S.armed - 1) = 0 ∨ (k : Int) < (if S.armed = 0 then 0 else S.armed - 1)
  have := h.armed
  split <;> omega
theorem crash_doE {S : St} (h : S.armed = 1) : S.doE = 18 := by unfold St.doE; rw [if_pos h]
theorem crash_did {S : St} (h : S.armed = 1) (hg : Hg) : (S.doS hg).off = true ∧ (S.doS hg).hangs = some hg ∧ (S.doS hg).files = S.files ∧ (S.doS hg).room = S.room := by
  unfold St.doS; rw [if_pos h]; exact ⟨rfl, rfl, rfl, rfl⟩
theorem there_on {S : St} (hoff : S.off = false) {n : Nm} (hn : nameB n = true) (hs : (get S.files n).isSome = true) : S.check n true = 0 := by
  unfold St.check
  rw [if_neg (by rw [hn]; simp), hoff]
  cases e : get S.files n with
  | none => rw [e] at hs; cases hs
  | some l => simp
theorem gone_on {S : St} {n : Nm} (hn : nameB n = true) (hs : get S.files n = none) : S.check n true = 7 := by
  unfold St.check
  rw [if_neg (by rw [hn]; simp), if_pos ⟨rfl, hs⟩]
/-- All that lies there was synced. -/
def Safe (fs : Files) : Prop := ∀ s, AllSafe (getF fs s)
theorem Safe.turn {fs : Files} (h : Safe fs) (x : Nm) {l : List Sec} (hl : AllSafe l) : Safe (put fs x l) := by
  intro s
  by_cases e : s = x
  · subst e; rw [getF_put_eq]; exact hl
  · rw [getF_put_ne e]; exact h s
theorem syncAll_twice (l : List Sec) : AllSafe (syncAll l) := syncAll_safe l
theorem put_put_get (fs : Files) (x s : Nm) (a b : List Sec) : get (put (put fs x a) x b) s = get (put fs x b) s := by
  by_cases e : s = x
  · subst e; rw [get_put_eq, get_put_eq]
  · rw [get_put_ne e, get_put_ne e, get_put_ne e]
theorem put_put_len (fs : Files) (x : Nm) (a b : List Sec) : (put (put fs x a) x b).length = (put fs x b).length := by
  have h1 := put_len (l := put fs x a) (x := x) (v := b)
  rw [get_put_eq] at h1
  have h2 := put_len (l := fs) (x := x) (v := a)
  have h3 := put_len (l := fs) (x := x) (v := b)
  rw [h1, h3, if_pos (show (some a).isSome = true from rfl), h2]
theorem put_put_nodup {fs : Files} (h : (fs.map (·.1)).Nodup) (x : Nm) (a b : List Sec) : ((put (put fs x a) x b).map (·.1)).Nodup := nodup_put (nodup_put h _ _) _ _
/-- There is room for a record. -/
theorem Lays.fits {S : St} {per f : Nat} {rs : List (List Int)} {T : List Int} (h : Lays S.files per f rs T) {len : Nat} (hr : ¬ S.room < (used S.files : Int) + nsec len) (hq : rs.length / per ≤ 61) : Fits S (lnm (rs.length / per)) len := by
  refine ⟨nameB_lnm _, hr, fun h2 => ?_⟩
  have hf := h.few
  rw [h2.1, h2.2] at hf
  simp at hf; omega
theorem Fits.liveE {S : St} {n : Nm} {len k : Nat} (h : Fits S n len) (hi : Live (k + 1) S) : S.appE n len = 0 := by rw [h.appE, if_neg (by rw [hi.off]; simp), hi.doE]
theorem Fits.onT {S : St} {n : Nm} {bs : List Int} (h : Fits S n bs.length) (hi : S.off = false) : S.appT n bs = S.appS n bs := by rw [h.appT, if_neg (by rw [hi]; simp)]
/-- The next record's sectors. -/
def nextB (rs : List (List Int)) (p : List Int) : List Int := lsecF (rs.length + 1) p (chainF (linkAt rs rs.length) p)
theorem nextB_eq (rs : List (List Int)) (p : List Int) : nextB rs p = secOf (rs ++ [p]) rs.length := by
  rw [secOf_eq (by simp)]
  unfold nextB
  rw [linkAt_succ (by simp), linkAt_append rs [p] (Nat.le_refl _)]
  simp
theorem nextB_length (rs : List (List Int)) (p : List Int) : (nextB rs p).length = 32 * partsN (p.length + 36) := lsecF_length _ _ (chainF_length _ _)
theorem nsec_nextB (rs : List (List Int)) (p : List Int) : nsec (nextB rs p).length = partsN (p.length + 36) := by rw [nextB_length]; unfold nsec; omega
theorem bytes_nextB (rs : List (List Int)) (p : List Int) : bytesOf (secs (nextB rs p)) = nextB rs p := bytes_secs (nextB_length rs p)
/-- What the file holds behind the new record. -/
theorem Lays.grown {fs : Files} {per f : Nat} {rs : List (List Int)} (h : Lays fs per f rs []) (p : List Int) :
    bytesOf (getF fs (lnm (rs.length / per)) ++ secs (nextB rs p)) = segB (rs ++ [p]) (rs.length / per * per) (rs.length % per + 1) := by
  obtain ⟨h1, _, _⟩ := h.parts
  rw [bytesOf_append, h.getF_last, List.append_nil, bytes_nextB, segB_succ, segB_append rs [p] (by omega), h1, nextB_eq]
theorem Lays.f_le {fs : Files} {per f : Nat} {rs : List (List Int)} {T : List Int} (h : Lays fs per f rs T) : f ≤ rs.length / per := by
  rcases h.first with h1 | h1
  · rw [Nat.le_div_iff_mul_le (by have := h.perOk; omega)]; omega
  · rw [h1]; exact Nat.zero_le _
/-- A record that is appended where the power stays. -/
structure Grown (S S' : St) (per f : Nat) (rs : List (List Int)) (p : List Int) : Prop where
  off : S'.off = false
  armed : S'.armed = if S.armed = 0 then 0 else S.armed - 2
  room : S'.room = S.room
  lays : Lays S'.files per f (rs ++ [p]) []
  used : used S'.files = used S.files + partsN (p.length + 36)
  rest : ∀ s, s ≠ lnm (rs.length / per) → getF S'.files s = getF S.files s
  here : AllSafe (getF S'.files (lnm (rs.length / per)))
theorem live_append {S : St} {per f : Nat} {rs : List (List Int)} (hl : Live 2 S) (h : Lays S.files per f rs []) {p : List Int} (hp : 1 ≤ p.length ∧ p.length ≤ 4096 ∧ Byts p) (hc : rs.length < 90000)
    (hr : ¬ S.room < (used S.files : Int) + partsN (p.length + 36)) (hq : rs.length / per ≤ 61) :
    S.lapE (lnm (rs.length / per)) (nextB rs p) = 0 ∧ Grown S (S.lapS (lnm (rs.length / per)) (nextB rs p)) per f rs p := by
  obtain ⟨nm, hnm⟩ : ∃ nm, lnm (rs.length / per) = nm := ⟨_, rfl⟩
  have hnb : nameB nm = true := by rw [← hnm]; exact nameB_lnm _
  have hfit : Fits S nm (nextB rs p).length := by rw [← hnm]; exact h.fits (by rw [nsec_nextB]; exact hr) hq
  have hg := h.grown p
  rw [hnm] at hg ⊢
  obtain ⟨l1, l2, l3, l4⟩ := hl.did .noop
  have e1 : S.appE nm (nextB rs p).length = 0 := hfit.liveE hl
  have e2 : S.appT nm (nextB rs p) = S.appS nm (nextB rs p) := hfit.onT hl.off
  obtain ⟨S1, hS1⟩ : ∃ S1, S.appS nm (nextB rs p) = S1 := ⟨_, rfl⟩
  have a1 : Live 1 S1 := by rw [← hS1]; exact ⟨l1.off, l1.armed⟩
  have a2 : S1.files = put S.files nm (getF S.files nm ++ secs (nextB rs p)) := by rw [← hS1]; rfl
  have a3 : S1.room = S.room := by rw [← hS1]; exact l3
  have a4 : S1.armed = if S.armed = 0 then 0 else S.armed - 1 := by rw [← hS1]; exact l4
  have c1 : S1.check nm true = 0 := there_on a1.off hnb (by rw [a2, get_put_eq]; rfl)
  obtain ⟨m1, m2, m3, m4⟩ := a1.did (Hg.sync nm)
  have hE : S.lapE nm (nextB rs p) = 0 := by
    unfold St.lapE; rw [e1, e2, hS1, c1]
    show S1.opE 0 = 0
    exact a1.doE
  have hS : S.lapS nm (nextB rs p) = S1.doS (Hg.sync nm) := by
    unfold St.lapS; rw [e1, e2, hS1, c1]; rfl
  refine ⟨hE, ?_⟩
  rw [hS]
  have hgf : getF S1.files nm = getF S.files nm ++ secs (nextB rs p) := by rw [a2, getF_put_eq]
  have hfiles : (S1.doS (Hg.sync nm)).files = put (put S.files nm (getF S.files nm ++ secs (nextB rs p))) nm (syncAll (getF S.files nm ++ secs (nextB rs p))) := by
    rw [m2]; show put S1.files nm (syncAll (getF S1.files nm)) = _; rw [hgf, a2]
  refine ⟨m1.off, ?_, by rw [m3, a3], ?_, ?_, fun s hs => ?_, ?_⟩
  · rw [m4, a4]
    have := hl.armed
    split
    · split <;> omega
    · split <;> omega
  · rw [hfiles]
    have hb := h.more hp hc (L := syncAll (getF S.files nm ++ secs (nextB rs p))) (by rw [bytesOf_sync]; exact hg) h.f_le
    rw [hnm] at hb
    exact hb.congr (put_put_nodup h.nodup _ _ _) (Nat.le_of_eq (put_put_len _ _ _ _)) fun s => put_put_get _ _ _ _ _
  · rw [hfiles, used_put_same _ _ _ (by rw [syncAll_length, getF_put_eq]), used_put_le, secs_length, nsec_nextB]
  · rw [hnm] at hs; rw [hfiles, getF_put_ne hs, getF_put_ne hs]
  · rw [hnm, hfiles, getF_put_eq]; exact syncAll_safe _
theorem Grown.safe {S S' : St} {per f : Nat} {rs : List (List Int)} {p : List Int} (h : Grown S S' per f rs p) (hs : Safe S.files) : Safe S'.files := fun s => by
  by_cases e : s = lnm (rs.length / per)
  · rw [e]; exact h.here
  · rw [h.rest s e]; exact hs s
/-- No room. -/
theorem full_append {S : St} {per : Nat} {rs : List (List Int)} {p : List Int} (hr : S.room < (used S.files : Int) + partsN (p.length + 36)) :
    S.lapE (lnm (rs.length / per)) (nextB rs p) = 17 ∧ S.lapS (lnm (rs.length / per)) (nextB rs p) = S := by
  have h1 : S.room < (used S.files : Int) + nsec (nextB rs p).length := by rw [nsec_nextB]; exact hr
  have e1 : S.appE (lnm (rs.length / per)) (nextB rs p).length = 17 := by
    unfold St.appE; rw [if_neg (by rw [nameB_lnm]; simp), if_pos h1]
  have e2 : S.appT (lnm (rs.length / per)) (nextB rs p) = S := by
    unfold St.appT; rw [if_neg (by rw [nameB_lnm]; simp), if_pos h1]
  unfold St.lapE St.lapS
  rw [e1, e2]
  exact ⟨by simp, by simp⟩
end Go.Proofs.YtggnohbfdlebiaaGreatDoor

/-
  passbooklaw10.same: two rows of the same payloads.
-/
namespace Go.Proofs.YtggnohbfdlebiaaGreatDoor
open Go.RowKit Go.Shelf Go.ChangeMaps Go.ChangeShapes

set_option maxRecDepth 100000 in
set_option maxHeartbeats 2000000 in
theorem same_any {w : World} {F G : Nat → Prop} {v1 v2 : Value} {ps : List (List Int)} (h1 : PayAt w F v1 ps) (h2 : PayAt w G v2 ps) (hl : ps.length ≤ 1000000) (hx : ∀ q ∈ ps, q.length ≤ 140737488351232) :
    Calls Tryz.prog 13 #[v1, v2] w fun e w' => e = .returned (.bool true) ∧ Kp (fun _ => False) w w' := by
  have h1' : PayAt w (fun _ => False) v1 ps := h1.mono fun _ h => h.elim
  have h2' : PayAt w (fun _ => False) v2 ps := h2.mono fun _ h => h.elim
  clear h1 h2
  obtain ⟨p1, c1, rfl, -, -⟩ := id h1'
  obtain ⟨p2, c2, rfl, -, -⟩ := id h2'
  obtain ⟨n, hn⟩ : ∃ n, ps.length = n := ⟨_, rfl⟩
  rw [hn] at hl h1' h2' ⊢
  have HS := Lib.hid (And.intro h1' (And.intro h2' (And.intro hn hx)))
  clear h1' h2' hn hx
  go_enter Tryz.func13, Tryz.ntmps13
  go_wp2
  go_loopw [13] (fun vi wr => ∃ k : Nat, k ≤ n ∧ vi = .int .i64 k ∧ Kp (fun _ => False) w wr) (fun i _ => n - (intOf i).toNat)
  case atStart => exact ⟨0, Nat.zero_le _, rfl, Kp.refl _ _⟩
  case round =>
    obtain ⟨k, hk, rfl, hkp⟩ := hrel
    by_cases hkn : k < n
    · obtain ⟨q, hq⟩ : ∃ q, ps[k]? = some q := ⟨_, List.getElem?_eq_getElem (by rw [HS.out.2.2.1]; exact hkn)⟩
      have hql := HS.out.2.2.2 q (List.mem_of_getElem? hq)
      obtain ⟨b1, o1, x1, rfl, e1, y1⟩ := (HS.out.1.kept hkp (F' := fun _ => False) fun _ h => .inl h).get hq
      obtain ⟨b2, o2, x2, rfl, e2, y2⟩ := (HS.out.2.1.kept hkp (F' := fun _ => False) fun _ h => .inl h).get hq
      have csb := Same_bytes (y1.kept (Kp.refl (fun _ => False) wr).drew (F' := fun _ => False) fun _ h => .inl h) (y2.kept (Kp.refl (fun _ => False) wr).drew (F' := fun _ => False) fun _ h => .inl h) hql
      rw [decide_eq_true rfl] at csb
      have HK := Lib.hid hkp
      clear hkp y1 y2 hq hql
      go_upto_region 6 with fail
      refine wp_region_held_drew (S := fun w' => w'.cell? ⟨b1, o1 + k, none⟩ = some x1 ∧ w'.cell? ⟨b2, o2 + k, none⟩ = some x2) (by kernel_rfl) ⟨e1, e2⟩ (fun hHeld => ?_)
      refine take_yes (i := 0) (v := ?_) (some 16) rfl rfl (by kernel_rfl) (by kernel_rfl) (by kernel_rfl) (fun _ _ _ h => h) (Or.inl ⟨by rfl, ?_⟩) (by assumption) ?_
      rotate_left
      · (intro w hSw; (try dsimp only at hSw); go_simp <;> (try with_reducible rfl))
      ((try simp only [Act.put]); (try simp only [List.setIfInBounds_toArray]); (try simp only [List.set_cons_succ]); (try simp only [List.set_cons_zero]))
      refine take_yes (i := 1) (v := ?_) (some 17) rfl rfl (by kernel_rfl) (by kernel_rfl) (by kernel_rfl) (fun _ _ _ h => h) (Or.inl ⟨by rfl, ?_⟩) (by assumption) ?_
      rotate_left
      · (intro w hSw; (try dsimp only at hSw); go_simp <;> (try with_reducible rfl))
      ((try simp only [Act.put]); (try simp only [List.setIfInBounds_toArray]); (try simp only [List.set_cons_succ]); (try simp only [List.set_cons_zero]))
      refine take_yes (i := 2) (v := ?_) (some 18) rfl rfl (by kernel_rfl) (by kernel_rfl) (by kernel_rfl) (fun _ _ _ h => h) (Or.inl ⟨by rfl, ?_⟩) (by assumption) ?_
      rotate_left
      · (intro w hSw; (try dsimp only at hSw); go_simp <;> (try with_reducible rfl))
      ((try simp only [Act.put]); (try simp only [List.setIfInBounds_toArray]); (try simp only [List.set_cons_succ]); (try simp only [List.set_cons_zero]))
      refine take_yes (i := 3) (v := ?_) (some 19) rfl rfl (by kernel_rfl) (by kernel_rfl) (by kernel_rfl) (fun _ _ _ h => h) (Or.inl ⟨by rfl, ?_⟩) (by assumption) ?_
      rotate_left
      · (intro w hSw; (try dsimp only at hSw); go_simp <;> (try with_reducible rfl))
      ((try simp only [Act.put]); (try simp only [List.setIfInBounds_toArray]); (try simp only [List.set_cons_succ]); (try simp only [List.set_cons_zero]))
      refine take_yes (i := 4) (v := ?_) (some 20) rfl rfl (by kernel_rfl) (by kernel_rfl) (by kernel_rfl) (fun _ _ _ h => h) (Or.inl ⟨by rfl, ?_⟩) (by assumption) ?_
      rotate_left
      · (intro w hSw; (try dsimp only at hSw); go_simp <;> (try with_reducible rfl))
      ((try simp only [Act.put]); (try simp only [List.setIfInBounds_toArray]); (try simp only [List.set_cons_succ]); (try simp only [List.set_cons_zero]))
      refine take_yes (i := 5) (v := ?_) (some 21) rfl rfl (by kernel_rfl) (by kernel_rfl) (by kernel_rfl) (fun _ _ _ h => h) (Or.inl ⟨by rfl, ?_⟩) (by assumption) ?_
      rotate_left
      · (intro w hSw; (try dsimp only at hSw); go_simp <;> (try with_reducible rfl))
      ((try simp only [Act.put]); (try simp only [List.setIfInBounds_toArray]); (try simp only [List.set_cons_succ]); (try simp only [List.set_cons_zero]))
      refine take_yes (i := 6) (v := ?_) (some 22) rfl rfl (by kernel_rfl) (by kernel_rfl) (by kernel_rfl) (fun _ _ _ h => h) (Or.inl ⟨by rfl, ?_⟩) (by assumption) ?_
      rotate_left
      · (intro w hSw; (try dsimp only at hSw); go_simp <;> (try with_reducible rfl))
      ((try simp only [Act.put]); (try simp only [List.setIfInBounds_toArray]); (try simp only [List.set_cons_succ]); (try simp only [List.set_cons_zero]))
      refine take_yes (i := 7) (v := ?_) (some 23) rfl rfl (by kernel_rfl) (by kernel_rfl) (by kernel_rfl) (fun _ _ _ h => h) (Or.inl ⟨by rfl, ?_⟩) (by assumption) ?_
      rotate_left
      · (intro w hSw; (try dsimp only at hSw); go_simp <;> (try with_reducible rfl))
      ((try simp only [Act.put]); (try simp only [List.setIfInBounds_toArray]); (try simp only [List.set_cons_succ]); (try simp only [List.set_cons_zero]))
      refine wpAnyH_ready (rs := [8]) (by kernel_rfl) (by simp) ?_
      refine AllReadyH.cons (o := _) rfl (fun K hK => ?_) AllReadyH.nil
      go_simp
      (go_at_call 21; refine csb.mono ?_; rintro e w2 ⟨rfl, hk2⟩; have HK2 := Lib.hid hk2; clear hk2)
      refine hK.out _ _ ⟨HK2.out.cell e1 id, HK2.out.cell e2 id⟩ (fun hHeld => ?_)
      clear hK K
      ((try simp only [Act.put]); (try simp only [List.setIfInBounds_toArray]); (try simp only [List.set_cons_succ]); (try simp only [List.set_cons_zero]))
      refine take_yes (i := 9) (v := ?_) (some 25) rfl rfl (by kernel_rfl) (by kernel_rfl) (by kernel_rfl) (fun _ _ _ h => h) (Or.inl ⟨by rfl, ?_⟩) (by assumption) ?_
      rotate_left
      · (intro w hSw; (try dsimp only at hSw); go_simp <;> (try with_reducible rfl))
      ((try simp only [Act.put]); (try simp only [List.setIfInBounds_toArray]); (try simp only [List.set_cons_succ]); (try simp only [List.set_cons_zero]))
      refine wpAnyH_done (by kernel_rfl) ?_ _
      go_wp2
      go_roundw
      case rel => exact ⟨k + 1, by omega, by go_num, HK.out.trans ((Kp.refl _ wr).drew.trans HK2.out)⟩
      case measure => simp [intOf]; omega
    · obtain rfl : k = n := by omega
      have HK := Lib.hid hkp
      clear hkp
      go_wp2
      go_ret
      exact ⟨rfl, HK.out⟩
end Go.Proofs.YtggnohbfdlebiaaGreatDoor

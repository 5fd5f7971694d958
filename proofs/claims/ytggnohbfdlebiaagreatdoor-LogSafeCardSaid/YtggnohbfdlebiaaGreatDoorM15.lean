/-
  Merged of my texts, in order: Parts.
-/
import Derived.Test.YtggnohbfdlebiaaGreatDoorM1
import Derived.Test.YtggnohbfdlebiaaGreatDoorM11
import Derived.Test.YtggnohbfdlebiaaGreatDoorM14
import Derived.Deep.RegionHeld3
/-
  log.number, log.sectors: what they return.
-/
namespace Go.Proofs.YtggnohbfdlebiaaGreatDoor
open Go.RowKit Go.Shelf Go.ChangeMaps Go.ChangeShapes

/-- append in a region that draws its order, its run being known. -/
theorem step_append_run {P : Program} {ops : Array Oper} {o : Oper} {a : Act} {w w' : World} {K : Act → World → Prop} {Q : Exit → Act → World → Prop} {E : Prop} (hgd : o.guard = none) (s x : Operand) (t tx : TypeId)
    (ho : o.op = .call { callee := .builtin .append, args := #[s, x], argTypes := #[t, tx] }) {vs vx v : Value} (hs : a.eval s = vs) (hx : a.eval x = vx)
    (hr : (Builtin.append_ #[t, tx] o.type #[vs, vx]).run P w = .ok v w') (h : K (a.put o.dst v) w') : if Region.wanted o (yielded ops a.tmps) = true then Oper.wp P o a w K Q else E := by
  have hw : Region.wanted o (yielded ops a.tmps) = true := by simp [Region.wanted, hgd]
  rw [if_pos hw]
  unfold Oper.wp execOp
  simp only [ho, resolve, invoke, builtin, Sem.run_bind, Sem.run_pure, Result.andThen_ok, List.map_toArray, List.map_cons, List.map_nil, hs, hx, hr]
  exact h
theorem tail4_nat (n : Nat) : tail4 (n : Int) = num4 n := by simp [tail4, num4]
theorem num4_byts (n : Nat) : Byts (num4 n) := by
  intro x hx
  simp only [num4, List.mem_cons, List.not_mem_nil, or_false] at hx
  rcases hx with rfl | rfl | rfl | rfl <;> omega
theorem tail4_byts (c : Int) : Byts (tail4 c) := by
  intro x hx
  simp only [tail4, List.mem_cons, List.not_mem_nil, or_false] at hx
  rcases hx with rfl | rfl | rfl | rfl <;> omega
set_option maxRecDepth 100000 in
set_option maxHeartbeats 400000 in
theorem number_any (w : World) {c : Int} (hc : 0 ≤ c ∧ c ≤ 4294967295) :
    Calls Tryz.prog 67 #[.int .u32 c] w fun e w' => e = .returned (.slice (some ⟨w.heap.size, 0, none⟩) 4 4) ∧ w' = w.alloc (.cells (byteVals (tail4 c)).toArray 5) := by
  have ht4 : tail4 c = [c / 16777216, c / 65536 % 256, c / 256 % 256, c % 256] := by
    unfold tail4; rw [Int.emod_eq_of_lt (by omega) (by omega)]
  have HT := Lib.hid ht4
  clear ht4
  go_enter Tryz.func67, Tryz.ntmps67
  go_wp2
  go_ret
  exact ⟨rfl, by rw [HT.out]; rfl⟩
/-- append onto a row of one's own: what stays. -/
theorem own_more {w : World} {B : Nat} {v : Value} {bs cs : List Int} {F : Nat → Prop} {a : Addr} {n c : Nat} (h : Own8 w B v bs) (hx : BytesAt w F (.slice (some a) n c) cs) (hB : B ≤ w.heap.size) (hn : bs.length + cs.length ≤ 100000000) (ty : TypeId) :
    ∃ v' w', (Builtin.append_ #[33, 33] ty #[v, .slice (some a) n c]).run Tryz.prog w = .ok v' w' ∧ Own8 w' B v' (bs ++ cs) ∧ Kp (fun k => v.ownBlock = some k) w w' ∧ (v'.ownBlock = v.ownBlock ∨ v'.ownBlock = some w.heap.size) := by
  obtain ⟨v', w', hr, ho, hg⟩ := own_append h hx hB hn ty
  exact ⟨v', w', hr, ho, hg.kp fun i hi => .inl hi, hg.block⟩
theorem own_row (w : World) (cs : List Int) (hn : cs.length ≤ 1000000) : Own8 (w.alloc (.cells (byteVals cs).toArray 5)) w.heap.size (.slice (some ⟨w.heap.size, 0, none⟩) cs.length cs.length) cs :=
  ⟨by rw [byteVals_length]; omega, .inr ⟨w.heap.size, cs.length, _, rfl, Nat.le_refl _, heap_alloc_new w _, Nat.le_refl _, by unfold maxLen; omega, by rw [List.size_toArray, byteVals_length]; omega, by rw [Nat.mul_one, ← byteVals_length cs]; exact List.take_length⟩⟩

set_option maxRecDepth 100000 in
set_option maxHeartbeats 4000000 in
theorem lsectors_any {w : World} {F : Nat → Prop} {b o n c : Nat} {bs link : List Int} {r : Nat} (h : BytesAt w F (.slice (some ⟨b, o, none⟩) n c) bs) (hr : Byts bs) (h1 : 1 ≤ n) (hl : n ≤ 4096) (hk : link.length = 32) (hkb : Byts link) (hrn : r ≤ 100000000) :
    Calls Tryz.prog 36 #[.int .i64 (r : Int), .slice (some ⟨b, o, none⟩) n c, .agg (byteVals link).toArray] w fun e w' => ∃ v, e = .returned v ∧ Own8 w' w.heap.size v (lsecF r bs link) ∧ Kp (fun _ => False) w w' := by
  obtain ⟨rfl, hcap⟩ := h.len
  obtain ⟨LK, hLK⟩ : ∃ LK, (byteVals link).toArray = LK := ⟨_, rfl⟩
  rw [hLK]
  obtain ⟨q, hq⟩ : ∃ q, crcF bs = q := ⟨_, rfl⟩
  have hqr : 0 ≤ q ∧ q ≤ 4294967295 := by rw [← hq]; exact bits_u32 _ _ _
  have HIN := Lib.hid (And.intro h (And.intro hr (And.intro hk (And.intro hkb (And.intro hLK hq)))))
  clear h hr hk hkb hLK hq
  go_enter Tryz.func36, Tryz.ntmps36
  go_wp2
  obtain ⟨w1, hw1⟩ : ∃ w1, w.alloc (.cells LK 74) = w1 := ⟨_, rfl⟩
  have hlb : BytesAt w1 (fun k => k ≠ w.heap.size) (.slice (some ⟨w.heap.size, 0, none⟩) 32 32) link := by
    refine ⟨_, 32, by rw [HIN.out.2.2.1], by rw [HIN.out.2.2.1]; exact Nat.le_refl _, fun j x hj => ⟨_, _, rfl, fun h => h rfl, ?_⟩⟩
    rw [Nat.zero_add, ← hw1, blk_cell (heap_alloc_new w _), ← HIN.out.2.2.2.2.1, List.getElem?_toArray]
    simp [byteVals, hj]
  have hk1 : Kp (fun _ => False) w w1 := by rw [← hw1]; exact (Kp.refl _ w).alloc _
  have hs1 : w1.heap.size = w.heap.size + 1 := by rw [← hw1]; simp
  rw [hw1]
  have hp1 := HIN.out.1.kept (hk1.mono fun _ h => h.elim) (F' := F) fun _ h => .inl h
  have ccl : Calls Tryz.prog 66 _ w1.drew _ := Clone_bytes (hp1.kept (Kp.refl F w1).drew (F' := F) fun _ h => .inl h) (by omega)
  have H1 := Lib.hid (And.intro hlb (And.intro hk1 (And.intro hs1 hp1)))
  clear hlb hk1 hs1 hp1 hw1
  refine wp_region_held_drew (S := fun _ => True) (by kernel_rfl) trivial (fun hHeld => ?_)
  refine take_yes (i := 0) (v := ?_) (some 13) rfl rfl (by kernel_rfl) (by kernel_rfl) (by kernel_rfl) (fun _ _ _ h => h) (Or.inl ⟨by rfl, ?_⟩) (by assumption) ?_
  rotate_left
  · (intro w hSw; (try dsimp only at hSw); go_simp <;> (try with_reducible rfl))
  ((try simp only [Act.put]); (try simp only [List.setIfInBounds_toArray]); (try simp only [List.set_cons_succ]); (try simp only [List.set_cons_zero]))
  refine take_yes (i := 2) (v := ?_) (some 15) rfl rfl (by kernel_rfl) (by kernel_rfl) (by kernel_rfl) (fun _ _ _ h => h) (Or.inl ⟨by rfl, ?_⟩) (by assumption) ?_
  rotate_left
  · (intro w hSw; (try dsimp only at hSw); go_simp <;> (try with_reducible rfl))
  ((try simp only [Act.put]); (try simp only [List.setIfInBounds_toArray]); (try simp only [List.set_cons_succ]); (try simp only [List.set_cons_zero]))
  refine take_yes (i := 6) (v := ?_) (some 19) rfl rfl (by kernel_rfl) (by kernel_rfl) (by kernel_rfl) (fun _ _ _ h => h) (Or.inl ⟨by rfl, ?_⟩) (by assumption) ?_
  rotate_left
  · (intro w hSw; (try dsimp only at hSw); go_simp <;> (try with_reducible rfl))
  ((try simp only [Act.put]); (try simp only [List.setIfInBounds_toArray]); (try simp only [List.set_cons_succ]); (try simp only [List.set_cons_zero]))
  refine wpAnyH_ready (rs := [1]) (by kernel_rfl) (by simp) ?_
  refine AllReadyH.cons (o := _) rfl (fun K hK => ?_) AllReadyH.nil
  go_simp
  (go_at_call 66; refine ccl.mono ?_; rintro e w2 ⟨v2, rfl, ho2, hk2⟩; have H2 := Lib.hid (And.intro ho2 hk2); clear ho2 hk2 ccl)
  refine hK.out _ _ trivial (fun hHeld => ?_)
  clear hK K
  ((try simp only [Act.put]); (try simp only [List.setIfInBounds_toArray]); (try simp only [List.set_cons_succ]); (try simp only [List.set_cons_zero]))
  refine wpAnyH_ready (rs := [3]) (by kernel_rfl) (by simp) ?_
  refine AllReadyH.cons (o := _) rfl (fun K hK => ?_) AllReadyH.nil
  go_simp
  (go_at_call 68; refine (Crc_any ((H1.out.2.2.2.kept (Kp.refl F w1).drew (F' := F) fun _ h => .inl h).kept (H2.out.2.mono fun _ h => h.elim) (F' := F) fun _ h => .inl h) HIN.out.2.1 (by omega)).mono ?_; rintro e w' ⟨rfl, rfl⟩; rw [HIN.out.2.2.2.2.2])
  refine hK.out _ _ trivial (fun hHeld => ?_)
  clear hK K
  ((try simp only [Act.put]); (try simp only [List.setIfInBounds_toArray]); (try simp only [List.set_cons_succ]); (try simp only [List.set_cons_zero]))
  refine wpAnyH_ready (rs := [4]) (by kernel_rfl) (by simp) ?_
  refine AllReadyH.cons (o := _) rfl (fun K hK => ?_) AllReadyH.nil
  go_simp
  (go_at_call 67; refine (number_any w2 hqr).mono ?_; rintro e w3 ⟨rfl, rfl⟩)
  refine hK.out _ _ trivial (fun hHeld => ?_)
  clear hK K
  ((try simp only [Act.put]); (try simp only [List.setIfInBounds_toArray]); (try simp only [List.set_cons_succ]); (try simp only [List.set_cons_zero]))
  have hsd : w1.drew.heap.size = w.heap.size + 1 := H1.out.2.2.1
  have hs2 := H2.out.2.size
  obtain ⟨v3, w3, hap3, ho3, hk3⟩ := own_push H2.out.1 hs2 (tail4 q) (by simp [tail4]; omega) 33
  have hap3' : (Builtin.append_ #[33, 33] 33 #[v2, .slice (some ⟨w2.heap.size, 0, none⟩) 4 4]).run Tryz.prog (w2.alloc (.cells (byteVals (tail4 q)).toArray 5)) = .ok v3 w3 := hap3
  have hkw3 : Kp (fun k => w.heap.size + 1 ≤ k) w1 w3 := ((((Kp.refl _ w1).drew).trans (H2.out.2.mono fun _ h => h.elim)).trans (hk3.mono fun k h => by rw [hsd] at h; exact h))
  have hlb3 := H1.out.1.kept (F := fun k => k ≠ w.heap.size) (hkw3.mono fun k h => by omega) (F' := fun k => k ≠ w.heap.size) fun _ h => .inl h
  obtain ⟨v4, w4, hap4, ho4, hk4, hbl4⟩ := own_more ho3 hlb3 (by have := hk3.size; omega) (by simp [tail4, HIN.out.2.2.1]; omega) 33
  have hkw4 : Kp (fun _ => False) w w4 := (H1.out.2.1.trans' hkw3 fun i h => .inr (by omega)).trans' hk4 fun i h => .inr (by have := (ho3.lt i h).1; omega)
  have hbd : bs ++ tail4 q ++ link = lbodyF bs link := by unfold lbodyF; rw [HIN.out.2.2.2.2.2]
  rw [hbd, hsd] at ho4
  have H4 := Lib.hid (And.intro ho4 hkw4)
  clear hap3 ho3 hk3 hkw3 hlb3 hk4 hbl4 hkw4 hbd ho4 hs2 hsd
  refine wpAnyH_ready (rs := [5]) (by kernel_rfl) (by simp) ?_
  refine AllReadyH.cons (o := _) rfl (fun K hK => ?_) AllReadyH.nil
  skip
  refine step_append_run rfl _ _ _ _ rfl rfl rfl hap3' ?_
  refine hK.out _ _ trivial (fun hHeld => ?_)
  clear hK K
  ((try simp only [Act.put]); (try simp only [List.setIfInBounds_toArray]); (try simp only [List.set_cons_succ]); (try simp only [List.set_cons_zero]))
  refine wpAnyH_ready (rs := [7]) (by kernel_rfl) (by simp) ?_
  refine AllReadyH.cons (o := _) rfl (fun K hK => ?_) AllReadyH.nil
  skip
  refine step_append_run rfl _ _ _ _ rfl rfl rfl hap4 ?_
  refine hK.out _ _ trivial (fun hHeld => ?_)
  clear hK K
  ((try simp only [Act.put]); (try simp only [List.setIfInBounds_toArray]); (try simp only [List.set_cons_succ]); (try simp only [List.set_cons_zero]))
  refine wpAnyH_ready (rs := [8]) (by kernel_rfl) (by simp) ?_
  refine AllReadyH.cons (o := _) rfl (fun K hK => ?_) AllReadyH.nil
  go_simp
  skip
  refine hK.out _ _ trivial (fun hHeld => ?_)
  clear hK K
  ((try simp only [Act.put]); (try simp only [List.setIfInBounds_toArray]); (try simp only [List.set_cons_succ]); (try simp only [List.set_cons_zero]))
  refine wpAnyH_done (by kernel_rfl) ?_ _
  obtain ⟨body, hbd⟩ : ∃ body, lbodyF bs link = body := ⟨_, rfl⟩
  have hbl : body.length = bs.length + 36 := by rw [← hbd]; exact lbodyF_length bs HIN.out.2.2.1
  obtain ⟨L, hL⟩ : ∃ L, body.length = L := ⟨_, rfl⟩
  obtain ⟨P, hP⟩ : ∃ P, partsN L = P := ⟨_, rfl⟩
  have H5 : Hid (Own8 w4 (w.heap.size + 1) v4 body) := by have := H4.out.1; rw [hbd] at this; exact Lib.hid this
  obtain ⟨g, cap, rfl⟩ : ∃ g cap, v4 = .slice (some ⟨g, 0, none⟩) L cap := by
    obtain ⟨_, ⟨_, h0⟩ | ⟨g, cap, cur, e, _⟩⟩ := H5.out
    · omega
    · exact ⟨g, cap, by rw [e, hL]⟩
  have hat := H5.out.at_ (F := fun _ => False) fun _ h => h.elim
  have hLc := hat.len.2
  have hPe : ((L : Int) + 24 - 1) / 24 = (P : Int) := by rw [← hP]; unfold partsN; omega
  have hPL : 24 * P < L + 24 ∧ L ≤ 24 * P := by rw [← hP]; unfold partsN; omega
  have hLb : 37 ≤ L ∧ L ≤ 4132 := by omega
  have hPb : 2 ≤ P ∧ P ≤ 173 := by omega
  have HS := Lib.hid (And.intro hbd (And.intro hL hP))
  clear hap3' hap4 hat hbd hbl hL hP
  change Exit.then _ _ _ _ w4
  go_wp2
  rw [hPe]
  clear hPe
  go_loopw [9, 27] (fun vo vi wr => ∃ k : Nat, k ≤ P ∧ vi = .int .i64 k ∧ Own8 wr w.heap.size vo (lcutN r body P k) ∧ vo.ownBlock ≠ some g ∧ Own8 wr (w.heap.size + 1) (.slice (some ⟨g, 0, none⟩) L cap) body ∧ Kp (fun _ => False) w wr) (fun _ i _ => P - (intOf i).toNat)
  case atStart => exact ⟨0, Nat.zero_le _, rfl, Own8.nil _ _, by simp [Value.ownBlock], H5.out, H4.out.2⟩
  case round =>
    obtain ⟨k, hk, rfl, hvo, hne, hvb, hkp⟩ := hrel
    have HKP := Lib.hid hkp
    have HVO := Lib.hid hvo
    have HVB := Lib.hid hvb
    have HNE := Lib.hid hne
    by_cases hkP : k < P
    · have h24 : k * 24 < L := by omega
      obtain ⟨z, hz⟩ : ∃ z, min (24 * (k + 1)) L - 24 * k = z := ⟨_, rfl⟩
      have hz24 : z ≤ 24 := by omega
      have hz1 : 1 ≤ z := by omega
      have hm : min (((k : Int) + 1) * 24) (L : Int) = ((k * 24 + z : Nat) : Int) := by omega
      have hcap2 : ¬ cap = k * 24 := by omega
      have hk173 : k < 173 := by omega
      have hpz : partOf body k = (body.drop (k * 24)).take z := by
        have hl0 := HS.out.2.1
        unfold partOf
        rw [Nat.mul_comm 24 k, List.take_eq_take_iff, List.length_drop, hl0]
        omega
      have hzl : (partOf body k).length = z := by
        have hl0 := HS.out.2.1
        rw [hpz, List.length_take, List.length_drop, hl0]; omega
      have hB1 := hkp.size
      have hgw : g < wr.heap.size := (hvb.lt g rfl).2
      have hgB : w.heap.size + 1 ≤ g := (hvb.lt g rfl).1
      obtain ⟨out, hout⟩ : ∃ out, lcutN r body P k = out := ⟨_, rfl⟩
      have houtl : out.length ≤ 6000 := by rw [← hout, lcutN_length]; omega
      rw [hout] at hvo
      obtain ⟨Bs, hBs⟩ : ∃ Bs, wr.heap.size = Bs := ⟨_, rfl⟩
      -- the head
      have hoA := own_row wr [177, (z : Int)] (by simp)
      obtain ⟨wA, hwA⟩ : ∃ wA, wr.alloc (.cells (byteVals [177, (z : Int)]).toArray 5) = wA := ⟨_, rfl⟩
      have hkA : Kp (fun i => Bs ≤ i) wr wA := by rw [← hwA]; exact (Kp.refl _ wr).alloc _
      rw [hwA, hBs] at hoA
      have hsA : Bs ≤ wA.heap.size := by have := hkA.size; omega
      obtain ⟨vC, wC, hapC, hoC, hkC⟩ := own_push hoA hsA (tail4 (r : Int)) (by simp [tail4]) 33
      have hapC' : (Builtin.append_ #[33, 33] 33 #[.slice (some ⟨Bs, 0, none⟩) 2 2, .slice (some ⟨wA.heap.size, 0, none⟩) 4 4]).run Tryz.prog (wA.alloc (.cells (byteVals (tail4 (r : Int))).toArray 5)) = .ok vC wC := hapC
      have hsC : Bs ≤ wC.heap.size := by have := hkC.size; omega
      obtain ⟨vD, wD, hapD, hoD, hkD⟩ := own_push hoC hsC [(k : Int), (P : Int)] (by simp [tail4]) 33
      have hapD' : (Builtin.append_ #[33, 33] 33 #[vC, .slice (some ⟨wC.heap.size, 0, none⟩) 2 2]).run Tryz.prog (wC.alloc (.cells #[.int .u8 (k : Int), .int .u8 (P : Int)] 5)) = .ok vD wD := hapD
      have hsD : Bs ≤ wD.heap.size := by have := hkD.size; omega
      have hkrD : Kp (fun i => Bs ≤ i) wr wD := (hkA.trans hkC).trans hkD
      have hvbD : Own8 wD (w.heap.size + 1) (.slice (some ⟨g, 0, none⟩) L cap) body := hvb.kept hkrD fun i hi hf => by
        simp only [Value.ownBlock, Option.some.injEq] at hi; omega
      have hbb := ((hvbD.bytes (fun i => i ≠ g) (fun i hi hf => hf (by injection hi with hi; exact hi.symm))).part (i := k * 24) (k := z) (by omega))
      rw [← hpz, Nat.zero_add] at hbb
      obtain ⟨vE, wE, hapE, hoE, hkE, hblE⟩ := own_more hoD hbb hsD (by rw [hzl]; simp [tail4]; omega) 33
      have hkE' : Kp (fun i => Bs ≤ i) wD wE := hkE.mono fun i hi => (hoD.lt i hi).1
      have hkrE : Kp (fun i => Bs ≤ i) wr wE := hkrD.trans hkE'
      have hel : ([177, (z : Int)] ++ tail4 (r : Int) ++ [(k : Int), (P : Int)] ++ partOf body k).length = 8 + z := by simp [tail4, hzl]; omega
      obtain ⟨pE, cE, heE⟩ := hoE.len
      rw [hel] at heE
      have hatE := hoE.at_ (F := fun i => u9.ownBlock = some i) fun i hi => by have := (hvo.lt i hi).2; omega
      obtain ⟨bE, oE, nE, cE2, heE2⟩ := hatE.ptr (by omega)
      obtain rfl : pE = some ⟨bE, oE, none⟩ := by rw [heE] at heE2; injection heE2
      subst heE
      have hvoE : Own8 wE w.heap.size u9 out := hvo.kept hkrE fun i hi hf => by have := (hvo.lt i hi).2; omega
      have hvbE : Own8 wE (w.heap.size + 1) (.slice (some ⟨g, 0, none⟩) L cap) body := hvb.kept hkrE fun i hi hf => by
        simp only [Value.ownBlock, Option.some.injEq] at hi; omega
      have hsE := hkrE.size
      obtain ⟨vF, wF, hapF, hoF, hkF, hblF⟩ := own_more hvoE hatE (by omega) (by rw [hel]; omega) 33
      have hbF : vF.ownBlock ≠ some g := by
        rcases hblF with e | e
        · rw [e]; exact hne
        · rw [e]; intro e2; injection e2 with e2; omega
      have hvbF : Own8 wF (w.heap.size + 1) (.slice (some ⟨g, 0, none⟩) L cap) body := hvbE.kept hkF fun i hi hf => hne (by rw [hf, ← hi]; rfl)
      have hsF := hkF.size
      obtain ⟨vG, wG, hapG, hoG, hgG⟩ := own_zeros hoF (by omega) (24 - z) (by rw [List.length_append, hel]; omega) 33
      have hbG : vG.ownBlock ≠ some g := by
        rcases hgG.block with e | e
        · rw [e]; exact hbF
        · rw [e]; intro e2; injection e2 with e2; omega
      have hkG : Kp (fun i => vF.ownBlock = some i) wF wG := hgG.kp fun i hi => .inl hi
      have hvbG : Own8 wG (w.heap.size + 1) (.slice (some ⟨g, 0, none⟩) L cap) body := hvbF.kept hkG fun i hi hf => hbF (by rw [hf, ← hi]; rfl)
      have hkw : Kp (fun i => w.heap.size ≤ i) w wG := (((hkp.mono fun _ h => h.elim).trans (hkrE.mono fun i hi => by omega)).trans (hkF.mono fun i hi => (hvo.lt i hi).1)).trans (hkG.mono fun i hi => (hoF.lt i hi).1)
      have hone : out ++ ([177, (z : Int)] ++ tail4 (r : Int) ++ [(k : Int), (P : Int)] ++ partOf body k) ++ List.replicate (24 - z) 0 = lcutN r body P (k + 1) := by
        rw [lcutN_succ, hout, lsecOne, hzl, tail4_nat, lheadF]
        simp only [List.append_assoc, List.cons_append, List.nil_append]
      rw [hone] at hoG
      have HG := Lib.hid (And.intro hoG (And.intro hbG (And.intro hvbG (show Kp (fun _ => False) w wG from hkw.mono' fun i hi => .inr hi))))
      have hz0 : (32 : Int) - ((8 + z : Nat) : Int) = ((24 - z : Nat) : Int) := by omega
      have HW := Lib.hid (And.intro hwA hBs)
      have hnum := number_any wA (c := (r : Int)) (by omega)
      have hrw : (r : Int) % 4294967296 = (r : Int) := by omega
      clear hoA hkA hoC hkC hoD hkD hkrD hvbD hbb hoE hkE hkE' hkrE hel hatE heE2 hvoE hvbE hoF hkF hblF hbF hvbF hoG hgG hbG hkG hvbG hkw hone hout hpz hzl hz hvo hvb hne hkp hapC hapD hblE hwA hBs houtl hsA hsC hsD hsE hsF hB1 hgw hgB
      go_wp2_with (go_at_call 67; refine Hid.out ?_)
      refine Lib.hid ?_
      rw [HW.out.2]
      have ewA : wr.alloc (.cells #[.int .u8 177, .int .u8 (z : Int)] 5) = wA := HW.out.1
      rw [ewA]
      refine hnum.mono ?_
      rintro e wB ⟨rfl, rfl⟩
      clear ewA hnum
      have hz0' : (32 : Int) - (8 + (z : Int)) = ((24 - z : Nat) : Int) := by omega
      go_wp2_with (at_builtin; refine Hid.out ?_)
      refine Lib.hid ?_
      refine wpList_append_run rfl _ _ _ _ rfl rfl rfl hapC' ?_
      go_wp2_with (first
        | (at_builtin; refine wpList_append_run rfl _ _ _ _ rfl rfl rfl hapD' ?_)
        | (at_builtin; refine wpList_append_run rfl _ _ _ _ rfl rfl rfl hapE ?_)
        | (at_builtin; refine wpList_append_run rfl _ _ _ _ rfl rfl rfl hapF ?_)
        | (at_builtin; refine wpList_append_run rfl _ _ _ _ rfl rfl rfl hapG ?_))
      go_roundw
      case rel => exact ⟨k + 1, by omega, by go_num, HG.out.1, HG.out.2.1, HG.out.2.2.1, HG.out.2.2.2⟩
      case measure => simp [intOf]; omega
    · obtain rfl : k = P := by omega
      clear hvo hvb hne hkp
      go_wp2
      go_ret
      refine ⟨_, rfl, ?_, HKP.out⟩
      have hv := HVO.out
      unfold lsecF
      rw [HS.out.1, HS.out.2.1, HS.out.2.2]
      exact hv
end Go.Proofs.YtggnohbfdlebiaaGreatDoor

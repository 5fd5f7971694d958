/-
  bytes.Clone; snap.sectors: what they return.
-/
import Derived.Test.YtmcmapaapffadaaDoorOwn
import Derived.Test.YtmcmapaapffadaaDoorCrc
namespace Go.Proofs.YtmcmapaapffadaaDoor
open Go.RowKit Go.Shelf Go.ChangeMaps

theorem Grew.kp {w w' : World} {v v' : Value} (h : Grew w w' v v') {F : Nat → Prop} (hF : ∀ k, v.ownBlock = some k → F k ∨ w.heap.size ≤ k) : Kp F w w' := Kp.of_grown h.grown hF
theorem Own8.base {w : World} {B B' : Nat} {v : Value} {bs : List Int} (h : Own8 w B v bs) (hB : B' ≤ B) : Own8 w B' v bs := by
  obtain ⟨h1, h2⟩ := h
  refine ⟨h1, h2.imp id ?_⟩
  rintro ⟨g, cap, cur, e, hg, r⟩
  exact ⟨g, cap, cur, e, Nat.le_trans hB hg, r⟩
theorem Own8.kept {w w' : World} {B : Nat} {v : Value} {bs : List Int} {F : Nat → Prop} (h : Own8 w B v bs) (hk : Kp F w w') (hF : ∀ k, v.ownBlock = some k → ¬ F k) : Own8 w' B v bs := by
  obtain ⟨h1, h2⟩ := h
  refine ⟨h1, h2.imp id ?_⟩
  rintro ⟨g, cap, cur, rfl, hg, hh, r⟩
  exact ⟨g, cap, cur, rfl, hg, hk.blk hh (hF g rfl), r⟩
theorem Own8.lt {w : World} {B : Nat} {v : Value} {bs : List Int} (h : Own8 w B v bs) : ∀ k, v.ownBlock = some k → B ≤ k ∧ k < w.heap.size := by
  intro k hk
  obtain ⟨_, ⟨rfl, _⟩ | ⟨g, cap, cur, rfl, hg, hh, _⟩⟩ := h
  · cases hk
  · simp only [Value.ownBlock, Option.some.injEq] at hk
    subst hk
    exact ⟨hg, blk_lt hh⟩
theorem Own8.bytes {w : World} {B : Nat} {v : Value} {bs : List Int} (h : Own8 w B v bs) (F : Nat → Prop) (hF : ∀ k, v.ownBlock = some k → ¬ F k) : BytesAt w F v bs := by
  obtain ⟨_, ⟨rfl, h0⟩ | ⟨g, cap, cur, rfl, hg, hh, hnc, _, _, ht⟩⟩ := h
  · have hb0 := List.eq_nil_of_length_eq_zero h0
    subst hb0
    exact ⟨none, 0, rfl, Nat.le_refl _, fun j x hj => by simp at hj⟩
  · refine ⟨_, cap, rfl, hnc, fun j x hj => ⟨g, 0, rfl, hF g rfl, ?_⟩⟩
    rw [Nat.zero_add, blk_cell hh]
    have hlt := (List.getElem?_eq_some_iff.1 hj).1
    have h1 : (byteVals bs)[j]? = some (.int .u8 x) := by simp [byteVals, hj]
    rw [← ht, List.getElem?_take, if_pos (by omega)] at h1
    simpa using h1
theorem own_empty (w : World) (B : Nat) (hB : B ≤ w.heap.size) : Own8 (w.alloc (.cells #[] 5)) B (.slice (some ⟨w.heap.size, 0, none⟩) 0 0) [] :=
  ⟨rfl, .inr ⟨w.heap.size, 0, #[], rfl, hB, heap_alloc_new w _, Nat.le_refl _, Nat.zero_le _, rfl, rfl⟩⟩
theorem Clone_bytes {w : World} {F : Nat → Prop} {a : Addr} {n c : Nat} {bs : List Int} (h : BytesAt w F (.slice (some a) n c) bs) (hl : bs.length ≤ 90000000) :
    Calls Tryd.prog 57 #[.slice (some a) n c] w fun e w' => ∃ v, e = .returned v ∧ Own8 w' w.heap.size v bs ∧ Kp (fun _ => False) w w' := by
  have hq : (binOp .eql 22 (.slice (some a) n c) (.slice none 0 0)).run Tryd.prog w = .ok (.bool false) w := Lib.run_eql_slice_nil w _ 5 _ _ _ _ _ (by kernel_rfl)
  have h2 : BytesAt (w.alloc (.cells #[] 5)) (fun k => F k ∧ k < w.heap.size) (.slice (some a) n c) bs := (h.mono fun _ h => h.1).kept ((Kp.refl _ w).alloc _) fun _ h => .inl h
  obtain ⟨v', w', hap, ho, hg⟩ := own_append (own_empty w w.heap.size (Nat.le_refl _)) h2 (by simp) (by simp; omega) 22
  have HO := Lib.hid ho
  have HG := Lib.hid hg
  clear h h2 ho hg hl
  go_enter Tryd.func57, Tryd.ntmps57
  go_wp2_with (at_builtin; refine wpList_append_run rfl _ _ _ _ rfl rfl rfl hap ?_)
  go_ret
  refine ⟨_, rfl, ?_, ?_⟩
  · have := HO.out; rwa [List.nil_append] at this
  · refine ((Kp.refl (fun _ => False) w).alloc _).trans' (HG.out.kp (F := fun k => w.heap.size ≤ k) fun k hk => ?_) fun k hk => .inr hk
    simp only [Value.ownBlock, Option.some.injEq] at hk
    subst hk
    exact .inl (Nat.le_refl _)

/-- A row just made out of bytes. -/
theorem row_bytes (w : World) (cs : List Int) (F : Nat → Prop) (hF : ∀ k, F k → k < w.heap.size) : BytesAt (w.alloc (.cells (byteVals cs).toArray 5)) F (.slice (some ⟨w.heap.size, 0, none⟩) cs.length cs.length) cs := by
  refine ⟨_, cs.length, rfl, Nat.le_refl _, fun j x hj => ⟨_, _, rfl, fun h => Nat.lt_irrefl _ (hF _ h), ?_⟩⟩
  rw [Nat.zero_add, blk_cell (heap_alloc_new w _), List.getElem?_toArray]
  simp [byteVals, hj]
theorem Own8.alloc {w : World} {B : Nat} {v : Value} {bs : List Int} (h : Own8 w B v bs) (o : Obj) : Own8 (w.alloc o) B v bs := h.kept (F := fun _ => False) ((Kp.refl _ w).alloc o) fun _ _ h => h
set_option maxRecDepth 100000 in
set_option maxHeartbeats 4000000 in
theorem sectors_any {w : World} {F : Nat → Prop} {a : Addr} {n c : Nat} {bs : List Int} (h : BytesAt w F (.slice (some a) n c) bs) (hr : Byts bs) (hl : bs.length ≤ 400000) :
    Calls Tryd.prog 29 #[.slice (some a) n c] w fun e w' => ∃ v, e = .returned v ∧ Own8 w' w.heap.size v (secF bs) ∧ Kp (fun _ => False) w w' := by
  obtain rfl : n = bs.length := h.len.1
  have c1 := Crc_any h hr (by omega)
  have c2 := Clone_bytes h (by omega)
  obtain ⟨q, hq⟩ : ∃ q, crcF bs = q := ⟨_, rfl⟩
  have hqr : 0 ≤ q ∧ q ≤ 4294967295 := by rw [← hq]; exact bits_u32 _ _ _
  rw [hq] at c1
  clear h
  go_enter Tryd.func29, Tryd.ntmps29
  go_wp2_with (first
    | (go_at_call 56; refine c1.mono ?_; rintro e w' ⟨rfl, rfl⟩)
    | (go_at_call 57; refine c2.mono ?_; rintro e w1 ⟨v1, rfl, ho1, hk1⟩; have HO1 := Lib.hid ho1; have HK1 := Lib.hid hk1; clear ho1 hk1)
    | (at_builtin; refine Hid.out ?_))
  refine Lib.hid ?_
  have ht4 : tail4 q = [q / 16777216, q / 65536 % 256, q / 256 % 256, q % 256] := by
    unfold tail4; rw [Int.emod_eq_of_lt (by omega) (by omega)]
  obtain ⟨v2, w2, hap2, ho2, hg2⟩ := own_append (HO1.out.alloc (.cells (byteVals (tail4 q)).toArray 5)) (row_bytes w1 (tail4 q) (fun _ => False) fun _ h => h.elim) (by have := HK1.out.size; rw [alloc_size']; omega) (by rw [ht4]; simp; omega) 22
  have hbody : bs ++ tail4 q = bodyF bs := by unfold bodyF; rw [hq]
  rw [hbody] at ho2
  rw [ht4] at hap2
  refine wpList_append_run rfl _ _ _ _ rfl rfl rfl hap2 ?_
  have hk2 : Kp (fun _ => False) w w2 := by
    have h1 := HK1.out.size
    have h2 : Kp (fun k => w.heap.size ≤ k) (w1.alloc (.cells (byteVals (tail4 q)).toArray 5)) w2 := hg2.kp fun k hk => .inl ((HO1.out.lt k hk).1)
    exact (HK1.out.alloc _).trans' h2 fun k hk => .inr hk
  obtain ⟨body, hbd⟩ : ∃ body, bodyF bs = body := ⟨_, rfl⟩
  rw [hbd] at ho2
  obtain ⟨L, hL⟩ : ∃ L, body.length = L := ⟨_, rfl⟩
  have hLl : L = bs.length + 4 := by rw [← hL, ← hbd, bodyF_length]
  have HO2 := Lib.hid ho2
  have HK2 := Lib.hid hk2
  have HS := Lib.hid hbd
  have HLB := Lib.hid hL
  obtain ⟨_, ⟨_, h0⟩ | ⟨g, cap, cur, rfl, hBg, hgh, hLc, _, _, _⟩⟩ := ho2
  · rw [hL] at h0; omega
  rw [hL] at hLc
  obtain ⟨P, hP⟩ : ∃ P, partsN L = P := ⟨_, rfl⟩
  have hPl : P ≤ 16667 := by rw [← hP]; unfold partsN; omega
  have hPe : ((L : Int) + 24 - 1) / 24 = (P : Int) := by rw [← hP]; unfold partsN; omega
  have hPL : 24 * P < L + 24 ∧ L ≤ 24 * P := by rw [← hP]; unfold partsN; omega
  have hgs := blk_lt hgh
  clear hap2 hg2 hk2 hq hbd c1 c2 hbody ht4 HO1 HK1 hgh
  have HO2 : Hid (Own8 w2 w.heap.size (.slice (some ⟨g, 0, none⟩) L cap) body) := by have h := HO2.out; rw [hL] at h; exact h
  rw [hL]
  have HP := Lib.hid hP
  clear hL hP
  have hLb : 4 ≤ L ∧ L ≤ 400004 := by omega
  have HLl := Lib.hid hLl
  clear hLl hr
  go_wp2
  rw [hPe]
  clear hPe
  go_loopw [6, 32] (fun vo vi wr => ∃ k : Nat, k ≤ P ∧ vi = .int .i64 k ∧ Own8 wr w.heap.size vo (cutN body P k) ∧ vo.ownBlock ≠ some g ∧ Own8 wr w.heap.size (.slice (some ⟨g, 0, none⟩) L cap) body ∧ Kp (fun _ => False) w wr) (fun _ i _ => P - (intOf i).toNat)
  case atStart => exact ⟨0, Nat.zero_le _, rfl, Own8.nil _ _, by simp [Value.ownBlock], HO2.out, HK2.out⟩
  case round =>
    obtain ⟨k, hk, rfl, hvo, hne, hvb, hkp⟩ := hrel
    have HVO := Lib.hid hvo
    have HVB := Lib.hid hvb
    have HKP := Lib.hid hkp
    have HNE := Lib.hid hne
    clear HO2 HK2 hvo hvb hkp hne
    by_cases hkP : k < P
    · have h24 : k * 24 < L := by omega
      obtain ⟨z, hz⟩ : ∃ z, min (24 * (k + 1)) L - 24 * k = z := ⟨_, rfl⟩
      have hz24 : z ≤ 24 := by omega
      have hz1 : 1 ≤ z := by omega
      have hm : min (((k : Int) + 1) * 24) (L : Int) = ((k * 24 + z : Nat) : Int) := by omega
      have hcap : ¬ cap = k * 24 := by omega
      have hk16 : k < 65536 := by omega
      have hpz : partOf body k = (body.drop (k * 24)).take z := by
        have hl0 := HLB.out
        unfold partOf
        rw [Nat.mul_comm 24 k, List.take_eq_take_iff, List.length_drop, hl0]
        omega
      have hzl : (partOf body k).length = z := by
        have hl0 := HLB.out
        rw [hpz, List.length_take, List.length_drop, hl0]; omega
      have hB1 := HKP.out.size
      obtain ⟨out, hout⟩ : ∃ out, cutN body P k = out := ⟨_, rfl⟩
      have houtl : out.length ≤ 600000 := by rw [← hout, cutN_length]; omega
      have hvo := HVO.out
      rw [hout] at hvo
      obtain ⟨hd, hhd⟩ : ∃ hd : List Int, hd = [178, (z : Int), ((k / 256 : Nat) : Int), ((k % 256 : Nat) : Int), ((P / 256 : Nat) : Int), ((P % 256 : Nat) : Int), 0, 0] := ⟨_, rfl⟩
      have hdl : hd.length = 8 := by rw [hhd]; rfl
      obtain ⟨va, wa, hapa, hoa, hga⟩ := own_append (hvo.alloc (.cells (byteVals hd).toArray 5)) (row_bytes wr hd (fun _ => False) fun _ h => h.elim) (by rw [alloc_size']; omega) (by rw [hdl]; omega) 22
      have hblA : va.ownBlock ≠ some g := by
        rcases hga.block with e | e
        · rw [e]; exact HNE.out
        · rw [e, alloc_size']
          intro e2
          injection e2 with e2
          have := (HVB.out.lt g rfl).2
          omega
      have hkA : Kp (fun i => u6.ownBlock = some i) wr wa := ((Kp.refl (fun i => u6.ownBlock = some i) wr).alloc (.cells (byteVals hd).toArray 5)).trans (hga.kp fun i hi => .inl hi)
      have hvbA : Own8 wa w.heap.size (.slice (some ⟨g, 0, none⟩) L cap) body := HVB.out.kept hkA fun i hi hf => HNE.out (by rw [hf, ← hi]; rfl)
      have hsA := hkA.size
      have hbb := ((hvbA.bytes (fun i => i ≠ g) (fun i hi hf => hf (by injection hi with hi; exact hi.symm))).part (i := k * 24) (k := z) (by omega))
      rw [← hpz] at hbb
      obtain ⟨vc, wc, hapc, hoc, hgc⟩ := own_append hoa hbb (by omega) (by rw [List.length_append, hdl, hzl]; omega) 22
      have hblC : vc.ownBlock ≠ some g := by
        rcases hgc.block with e | e
        · rw [e]; exact hblA
        · rw [e]
          intro e2
          injection e2 with e2
          have := (hvbA.lt g rfl).2
          omega
      have hkC : Kp (fun i => va.ownBlock = some i) wa wc := hgc.kp fun i hi => .inl hi
      have hvbC : Own8 wc w.heap.size (.slice (some ⟨g, 0, none⟩) L cap) body := hvbA.kept hkC fun i hi hf => hblA (by rw [hf, ← hi]; rfl)
      have hsC := hkC.size
      obtain ⟨ve, we, hape, hoe, hge⟩ := own_zeros hoc (by omega) (24 - z) (by rw [List.length_append, List.length_append, hdl, hzl]; omega) 22
      have hblE : ve.ownBlock ≠ some g := by
        rcases hge.block with e | e
        · rw [e]; exact hblC
        · rw [e]
          intro e2
          injection e2 with e2
          have := (hvbC.lt g rfl).2
          omega
      have hkE : Kp (fun i => vc.ownBlock = some i) wc we := hge.kp fun i hi => .inl hi
      have hvbE : Own8 we w.heap.size (.slice (some ⟨g, 0, none⟩) L cap) body := hvbC.kept hkE fun i hi hf => hblC (by rw [hf, ← hi]; rfl)
      have hkp1 : Kp (fun i => w.heap.size ≤ i) w we := (((HKP.out.mono fun _ h => h.elim).trans (hkA.mono fun i hi => (hvo.lt i hi).1)).trans (hkC.mono fun i hi => (hoa.lt i hi).1)).trans (hkE.mono fun i hi => (hoc.lt i hi).1)
      have hkp2 : Kp (fun _ => False) w we := hkp1.mono' fun i hi => .inr hi
      have hone : out ++ hd ++ partOf body k ++ List.replicate (24 - z) 0 = cutN body P (k + 1) := by
        rw [cutN_succ, hout, secOne, hzl, hhd, headF, Nat.mod_eq_of_lt (by omega : k / 256 < 256), Nat.mod_eq_of_lt (by omega : P / 256 < 256)]
        simp only [List.append_assoc]
      rw [hone] at hoe
      have HOE := Lib.hid (And.intro hoe (And.intro hblE (And.intro hvbE hkp2)))
      have hz0 : (24 : Int) - (z : Int) = ((24 - z : Nat) : Int) := by omega
      rw [Nat.zero_add] at hapc
      rw [hhd] at hapa
      clear hoe hblE hvbE hkp1 hkp2 hkE hkC hkA hvbC hvbA hoc hoa hgc hge hga hblA hblC hbb hvo hone hout hhd hpz hzl hz houtl hsC hsA hB1 HVO

      go_wp2_with (first
        | (at_builtin; refine wpList_append_run rfl _ _ _ _ rfl rfl rfl hapa ?_)
        | (at_builtin; refine wpList_append_run rfl _ _ _ _ rfl rfl rfl hapc ?_)
        | (at_builtin; refine wpList_append_run rfl _ _ _ _ rfl rfl rfl hape ?_))
      go_roundw
      case rel => exact ⟨k + 1, by omega, by go_num, HOE.out.1, HOE.out.2.1, HOE.out.2.2.1, HOE.out.2.2.2⟩
      case measure => simp [intOf]; omega
    · obtain rfl : k = P := by omega
      go_wp2
      go_ret
      refine ⟨_, rfl, ?_, HKP.out⟩
      have hv := HVO.out
      unfold secF
      rw [HS.out, HLB.out, HP.out]
      exact hv
end Go.Proofs.YtmcmapaapffadaaDoor

/-
  snap.payload of what snap.sectors made: the payload.
-/
import Derived.Test.YtmcmapaapffadaaDoorSectors
import Derived.Test.YtmcmapaapffadaaDoorChunkF
import Derived.Test.YtmcmapaapffadaaDoorEqual
import Derived.Test.YtmcmapaapffadaaDoorSave
import Derived.Stop.RegionWithIn
import Derived.IntWalk
namespace Go.Proofs.YtmcmapaapffadaaDoor
open Go.RowKit Go.Shelf Go.ChangeMaps

attribute [local go_sem] Oper.semAt_some

/-- append, its run being known, inside a fence. -/
theorem oper_appendIn {F : Fence} {n : Nat} {P : Program} {o : Oper} {a : Act} {w w' : World} {K : Act → World → Prop} {Q : Exit → Act → World → Prop} (s x : Operand) (t tx : TypeId)
    (ho : o.op = .call { callee := .builtin .append, args := #[s, x], argTypes := #[t, tx] }) {vs vx v : Value} (hs : a.eval s = vs) (hx : a.eval x = vx)
    (hr : (Builtin.append_ #[t, tx] o.type #[vs, vx]).run P w = .ok v w') (h : K (a.put o.dst v) w') : Oper.wpIn F n P o a w K Q := by
  have hab : o.about P w a.eval = none := by simp [Oper.about, ho, resolve, Target.leads, Sem.run_pure]
  have hrun : (execOp a.eval o).run P w = .ok (.value v) w' := by simp only [execOp, ho, resolve, invoke, builtin, Sem.run_bind, Sem.run_pure, Result.andThen_ok, List.map_toArray, List.map_cons, List.map_nil, hs, hx, hr]
  refine ⟨by rw [hab]; simp, ?_⟩
  rw [Oper.semAt_plain F _ _ (fun c hc => by rw [ho] at hc; cases hc), hrun]
  exact h
theorem Own8.slice {w : World} {B : Nat} {v : Value} {bs : List Int} (h : Own8 w B v bs) : ∃ p n c, v = .slice p n c := by
  obtain ⟨_, ⟨rfl, _⟩ | ⟨g, cap, cur, rfl, _⟩⟩ := h
  · exact ⟨_, _, _, rfl⟩
  · exact ⟨_, _, _, rfl⟩
theorem Own8.row {w : World} {B : Nat} {v : Value} {bs : List Int} (h : Own8 w B v bs) : w.ownsRow B 5 1 v bs.length (byteVals bs) := h
/-- What lies behind one round of the loop that gathers bytes. -/
theorem round_bytes {W w' : World} {n0 L Bs Bn : Nat} {v v' x1 x2 : Value} {bs cs : List Int} (hv : Boxed W L 22 v) (hrow : Own8 W n0 v bs) (h1 : Boxed W Bs 22 x1) (h2 : Boxed W Bn 3 x2)
    (hn : n0 ≤ W.heap.size) (hL : n0 ≤ L) (hs : Bs ≠ L) (hn2 : Bn ≠ L) (hown : Own8 w' n0 v' cs) (hg : Grew W.drew w' v v') (hsep : v'.ownBlock ≠ some L) :
    Boxed w' L 22 v ∧ Boxed (w'.setCell ⟨L, 0, none⟩ v') L 22 v' ∧ Own8 (w'.setCell ⟨L, 0, none⟩ v') n0 v' cs ∧ KeepsOthers W (w'.setCell ⟨L, 0, none⟩ v') ∧ Below n0 W (w'.setCell ⟨L, 0, none⟩ v') ∧
      Boxed (w'.setCell ⟨L, 0, none⟩ v') Bs 22 x1 ∧ Boxed (w'.setCell ⟨L, 0, none⟩ v') Bn 3 x2 := by
  have hv' : Boxed W.drew L 22 v := hv
  have h1' : Boxed W.drew Bs 22 x1 := h1
  have h2' : Boxed W.drew Bn 3 x2 := h2
  have hrow' : W.drew.ownsRow n0 5 1 v bs.length (byteVals bs) := hrow
  have a0 := hv'.kept hg.grown (hv'.not_row (by decide) hrow')
  have hset : Kp (fun k => k = L) w' (w'.setCell ⟨L, 0, none⟩ v') := (Kp.refl (fun k => k = L) w').setCell (.inl rfl) v'
  have hkp : Kp (fun k => n0 ≤ k) W w' := (Kp.refl (fun k => n0 ≤ k) W).drew.trans (hg.kp fun k hk => .inl ((hrow.lt k hk).1))
  refine ⟨a0, a0.set v', hown.kept hset fun k hk hf => hsep (by rw [hf] at hk; exact hk), ?_, ?_, ?_, ?_⟩
  · refine (KeepsOthers.drew W).trans ((KeepsOthers.of_grownBy hg.grown ?_).trans (KeepsOthers.setCell w' _ _))
    intro j o hj ho
    obtain ⟨_, ⟨rfl, _⟩ | ⟨g, cap, cur, rfl, _, hh, _⟩⟩ := hrow
    · cases hj
    · simp only [Value.ownBlock, Option.some.injEq] at hj
      subst hj
      have : W.heap[g]? = some o := ho
      rw [hh] at this
      injection this with this
      subst this; rfl
  · exact (hkp.trans (hset.mono fun k hk => by rw [hk]; exact hL)).below_of n0 hn fun k hk => hk
  · exact (h1'.kept hg.grown (h1'.not_row (by decide) hrow')).other hs _
  · exact (h2'.kept hg.grown (h2'.not_row (by decide) hrow')).other hn2 _
theorem flat_range (body : List Int) : ∀ k, (List.range k).flatMap (partOf body) = body.take (24 * k)
  | 0 => by simp
  | k + 1 => by
    rw [List.range_succ, List.flatMap_append, flat_range body k, show 24 * (k + 1) = 24 * k + 24 by omega, List.take_add]
    simp [partOf]
/-- The payload's bytes out of some sectors. -/
def gatherF (body : List Int) {q : Nat} (pre : List (Fin q)) : List Int := pre.flatMap fun j => partOf body j.val
theorem gatherF_snoc (body : List Int) {q : Nat} (pre : List (Fin q)) (x : Fin q) : gatherF body (pre ++ [x]) = gatherF body pre ++ partOf body x.val := by simp [gatherF]
theorem gatherF_length (body : List Int) {q : Nat} (pre : List (Fin q)) : (gatherF body pre).length ≤ 24 * pre.length := by
  induction pre with
  | nil => simp [gatherF]
  | cons x pre ih =>
    have h := partOf_le body x.val
    show (partOf body x.val ++ gatherF body pre).length ≤ _
    rw [List.length_append, List.length_cons]; omega

set_option maxRecDepth 100000 in
set_option maxHeartbeats 4000000 in
theorem payload_any {w : World} {F : Nat → Prop} {b off len cap : Nat} {bs : List Int} (h : BytesAt w F (.slice (some ⟨b, off, none⟩) len cap) (secF bs)) (hr : Byts bs) (h1 : 1 ≤ bs.length) (h2 : bs.length ≤ 400000) :
    Calls Tryd.prog 23 #[.slice (some ⟨b, off, none⟩) len cap] w fun e w' => ∃ v, e = .returned (.tuple #[v, .bool true]) ∧ BytesAt w' (fun k => k < w.heap.size) v bs ∧ Kp (fun _ => False) w w' := by
  obtain ⟨q, hq⟩ : ∃ q, partsN (bs.length + 4) = q := ⟨_, rfl⟩
  have hlen : len = 32 * q := by rw [h.len.1, secF_length, hq]
  have hq1 : q ≤ 16667 := by rw [← hq]; unfold partsN; omega
  have hcap := h.len.2
  obtain ⟨w1, hw1⟩ : ∃ w1, (w.alloc (.cells #[.slice none 0 0] 22)).alloc (.cells #[.bool false] 4) = w1 := ⟨_, rfl⟩
  have hs1 : w1.heap.size = w.heap.size + 1 + 1 := by rw [← hw1]; simp
  have hk1 : Kp (fun _ => False) w w1 := by rw [← hw1]; exact ((Kp.refl _ w).alloc _).alloc _
  have HH := Lib.hid (h.kept (hk1.mono fun _ h => h.elim) (F' := fun k => F k ∧ k < w.heap.size) fun _ h => .inl h.1)
  have hbR : Boxed w1 w.heap.size 22 (.slice none 0 0) := by rw [← hw1]; exact (Boxed.new w _ _).alloc _
  have hbB : Boxed w1 (w.heap.size + 1) 4 (.bool false) := by
    rw [← hw1]; have := Boxed.new (w.alloc (.cells #[.slice none 0 0] 22)) 4 (.bool false); rwa [World.size_alloc] at this
  have HQ := Lib.hid hq
  have HR := Lib.hid hr
  have HW1 := Lib.hid hw1
  have HK1 := Lib.hid hk1
  have HBR := Lib.hid hbR
  have HBB := Lib.hid hbB
  obtain ⟨len', hl'⟩ : ∃ l, l = len := ⟨_, rfl⟩
  have HLE := Lib.hid hlen
  clear h hq hr hw1 hk1 hbR hbB hlen
  subst hl'
  refine (callsIn_wide (n := 6)).1 ?_
  refine callsIn_of_wp_marks Tryd.func23 rfl trivial ?_ rfl
  simp only [Tryd.ntmps23, List.size_toArray, List.length_cons, List.length_nil, Nat.reduceAdd, Nat.reduceSub, Array.replicate_succ, Array.replicate_zero, List.push_toArray, List.append_toArray, List.nil_append, List.cons_append]
  refine wpIn_wide.2 ?_
  go_wp2_with (go_at_call 46; refine Hid.out ?_)
  rw [HW1.out]
  refine Lib.hid ?_
  refine (callsIn_wide.1 (Chunk_in Fence.wide 6 trivial rfl (some ⟨b, off, none⟩) len' cap _)).mono ?_
  rintro e w2 ⟨rfl, rfl⟩
  go_wp2
  obtain ⟨N, hN⟩ : ∃ N, w.heap.size + 1 + 1 = N := ⟨_, rfl⟩
  obtain ⟨w2, hw2⟩ : ∃ w2, ((w1.alloc (.cells #[.slice none 0 0] 22)).alloc (.cells #[.slice (some ⟨b, off, none⟩) len' cap] 22)).alloc (.cells #[.int .i64 32] 3) = w2 := ⟨_, rfl⟩
  rw [hw2]
  simp only [hN]
  have hs1N : w1.heap.size = N := by omega
  have hs2 : w2.heap.size = N + 1 + 1 + 1 := by rw [← hw2]; simp [hs1N]
  have bL : Boxed w2 N 22 (.slice none 0 0) := by rw [← hw2, ← hs1N]; exact ((Boxed.new w1 _ _).alloc _).alloc _
  have bS : Boxed w2 (N + 1) 22 (.slice (some ⟨b, off, none⟩) len' cap) := by
    rw [← hw2, ← hs1N]; have := (Boxed.new (w1.alloc (.cells #[.slice none 0 0] 22)) 22 (.slice (some ⟨b, off, none⟩) len' cap)).alloc (.cells #[.int .i64 32] 3); rwa [World.size_alloc] at this
  have bN : Boxed w2 (N + 1 + 1) 3 (.int .i64 32) := by
    rw [← hw2, ← hs1N]; have := Boxed.new ((w1.alloc (.cells #[.slice none 0 0] 22)).alloc (.cells #[.slice (some ⟨b, off, none⟩) len' cap] 22)) 3 (.int .i64 32); rwa [World.size_alloc, World.size_alloc] at this
  have hB2 : Below N w1 w2 := by rw [← hw2, ← hs1N]; exact (((Below.refl _ w1).alloc (Nat.le_refl _) _).alloc (by simp) _).alloc (by simp; omega) _
  have hqq : (len' + 31) / 32 = q := by have := HLE.out; omega
  clear hw2 HW1
  refine (wpIn_wide (n := 6)).1 ?_
  refine wpIn_rangeFunc_ownF rfl (by omega) (gf := 71) (lb := #[.pointer (some ⟨N + 1, 0, none⟩), .pointer (some ⟨N + 1 + 1, 0, none⟩)]) rfl trivial (enters_of Tryd.func71 (by kernel_rfl) rfl)
    (chunk_fin Fence.wide 5 trivial rfl (by omega) (N + 1) (N + 1 + 1) b off len' cap hcap (by have := HLE.out; omega) w2 (by omega) (by omega) bS.cell bN.cell) (fun h k => Two.trans h k) (two_putObj (by omega) (by omega)) (Below.refl _ _) (fun _ => rfl)
    (fun pre W => (((∃ v, Boxed W N 22 v ∧ W.ownsRow N 5 1 v (gatherF (bodyF bs) pre).length (byteVals (gatherF (bodyF bs) pre)) ∧ v.ownBlock ≠ some N) ∧ Boxed W (N + 1) 22 (.slice (some ⟨b, off, none⟩) len' cap)) ∧ Boxed W (N + 1 + 1) 3 (.int .i64 32)) ∧ Below N w1 W)
    (fun _ _ _ => False)
    (OwnFrom.and (OwnFrom.and (OwnFrom.and (Own.from (holdsRow_own N N 22 5 1 (fun pre => (gatherF (bodyF bs) pre).length) (fun pre => byteVals (gatherF (bodyF bs) pre)) (fun _ v => v.ownBlock ≠ some N)) _) (Own.from (boxed_own _ _ (fun _ => .slice (some ⟨b, off, none⟩) len' cap)) _)) (Own.from (boxed_own _ _ (fun _ => .int .i64 32)) _)) (ownFrom_below (by omega) (by omega)))
    (fun _ _ _ _ _ hs _ _ => hs) ⟨⟨⟨⟨_, bL, World.ownsRow_nil _ _ _ _, by simp [Value.ownBlock]⟩, bS⟩, bN⟩, hB2⟩ ?a1 ?assign ?body ?done ?stop
  case assign =>
    intro l x W K hK
    simp only [chunk]
    gi_wp2
    exact hK
  case body =>
    rintro l pre x W ⟨⟨⟨⟨v, hv, hrow, hvN⟩, hbS⟩, hbN⟩, hB⟩ hlt
    obtain ⟨body, hbd⟩ : ∃ body, bodyF bs = body := ⟨_, rfl⟩
    have hPq : partsN body.length = q := by rw [← hbd, bodyF_length]; exact HQ.out
    have hsec : secF bs = cutN body q q := by unfold secF; rw [hbd, hPq]
    obtain ⟨xv, hxv⟩ : ∃ xv, x.val = xv := ⟨_, rfl⟩
    have hxq : xv < q := by rw [← hxv]; exact Nat.lt_of_lt_of_le x.isLt (Nat.le_of_eq hqq)
    have hl32 := HLE.out
    have hmin : min 32 (len' - 32 * xv) = 32 := by omega
    have hsrc := (HH.out.kept (Kp.of_below (fun k => F k ∧ k < w.heap.size) (by rw [hs1N]; exact hB)) (F' := fun k => F k ∧ k < w.heap.size) fun _ h => .inl h).part (i := 32 * xv) (k := 32) (by omega)
    rw [hsec] at hsrc
    have hch : ((cutN body q q).drop (32 * xv)).take 32 = secOne body q xv := chunkOf_cut body q q xv hxq
    rw [hch] at hsrc
    obtain ⟨z, hz⟩ : ∃ z, (partOf body xv).length = z := ⟨_, rfl⟩
    have hz24 : z ≤ 24 := by rw [← hz]; exact partOf_le body xv
    have hc1 : W.cell? ⟨b, off + 32 * xv + 1, none⟩ = some (.int .u8 (z : Int)) := by
      obtain ⟨b', o', e, h⟩ := hsrc.at_ 1 (z : Int) (by rw [← hz]; rfl)
      injection e with e
      injection e with e1 e2 _
      subst e1 e2
      exact h
    have hpt := hsrc.part (i := 8) (k := z) (by omega)
    have hb8 : ((secOne body q xv).drop 8).take z = partOf body xv := by
      have := bitOf_one body q xv
      unfold bitOf at this
      rw [lenOf_one, Int.toNat_natCast, hz] at this
      exact this
    rw [hb8] at hpt
    have hpt' : BytesAt W.drew (fun k => F k ∧ k < w.heap.size) (.slice (some ⟨b, off + 32 * xv + 8, none⟩) z 24) (partOf body xv) := by
      obtain ⟨p', c', e, hcc, hx⟩ := hpt
      injection e with e1 e2 e3
      subst e1
      exact ⟨_, 24, by rw [hz], by omega, hx⟩
    have hpre : gatherF (bodyF bs) (pre ++ [x]) = gatherF body pre ++ partOf body xv := by rw [hbd, gatherF_snoc, hxv]
    rw [hbd] at hrow
    have hgl := gatherF_length body pre
    have hlt2 : pre.length < q := Nat.lt_of_lt_of_le hlt (Nat.le_of_eq hqq)
    have hrow' : Own8 W.drew N v (gatherF body pre) := hrow
    obtain ⟨v', w', hap, ho, hg⟩ := own_append hrow' hpt' (by have := hB.size; show N ≤ W.heap.size; omega) (by rw [hz]; omega) 22
    obtain ⟨pv, nv, cv, rfl⟩ := ho.slice
    have hsep : (Value.slice pv nv cv).ownBlock ≠ some N := by
      rcases hg.block with e | e
      · rw [e]; exact hvN
      · rw [e]; intro e2; injection e2 with e2
        have := hv.lt
        have h3 : W.drew.heap.size = W.heap.size := rfl
        omega
    obtain ⟨r1, r2, r3, r4, r5, r6, r7⟩ := round_bytes hv hrow hbS hbN (by have := hB.size; omega) (Nat.le_refl _) (by omega) (by omega) ho hg hsep
    have hcv := hv.cell
    have hcv' : W.drew.cell? ⟨N, 0, none⟩ = some v := hcv
    have hc2 := r1.cell
    have hf2 := r1.frozen
    have HFIN := Lib.hid (And.intro r2 (And.intro r3 (And.intro r4 (And.intro r5 (And.intro r6 r7)))))
    have HSEP := Lib.hid hsep
    have HBB := Lib.hid hB
    have HPRE := Lib.hid hpre
    have HT2 := Lib.hid (And.intro hbS hbN)
    have hz0 : ¬ (24 : Int) < (z : Int) := by omega
    clear hlt2 r1 r2 r3 r4 r5 r6 r7 hsep hpre hg ho hrow' hrow hv hvN hbS hbN hB hgl hpt' hpt hb8 hsrc hch hsec hPq hbd hqq hlt hl32 hs1N hs1 hs2 bL bS bN hB2
    simp only [hxv, hmin]
    gi_wp2
    have hw8 : IntKind.i64.wrap (8 + (z : Int)) = 8 + (z : Int) := IntWalk.i64_in _ (by omega)
    have hA1 : (0 : Int) ≤ 8 + (z : Int) := by omega
    have hA2 : 8 + (z : Int) ≤ 32 := by omega
    have hA3 : (8 + (z : Int)).toNat = 8 + z := by omega
    have hA4 : max (8 + (z : Int)) 0 = 8 + (z : Int) := by omega
    have hA5 : (8 : Int) ≤ 8 + (z : Int) := by omega
    have HPOST : Hid (KeepsOthers W (w'.setCell ⟨N, 0, none⟩ (.slice pv nv cv)) ∧ Two (N + 1) (N + 1 + 1) W (w'.setCell ⟨N, 0, none⟩ (.slice pv nv cv)) ∧ ((((∃ v, Boxed (w'.setCell ⟨N, 0, none⟩ (.slice pv nv cv)) N 22 v ∧ (w'.setCell ⟨N, 0, none⟩ (.slice pv nv cv)).ownsRow N 5 1 v (gatherF (bodyF bs) (pre ++ [x])).length (byteVals (gatherF (bodyF bs) (pre ++ [x]))) ∧ v.ownBlock ≠ some N) ∧ Boxed (w'.setCell ⟨N, 0, none⟩ (.slice pv nv cv)) (N + 1) 22 (.slice (some ⟨b, off, none⟩) len' cap)) ∧ Boxed (w'.setCell ⟨N, 0, none⟩ (.slice pv nv cv)) (N + 1 + 1) 3 (.int .i64 32)) ∧ Below N w1 (w'.setCell ⟨N, 0, none⟩ (.slice pv nv cv)))) := by
      obtain ⟨r2, r3, r4, r5, r6, r7⟩ := HFIN.out
      refine ⟨r4, two_of_boxed HT2.out.1 HT2.out.2 r6 r7, ⟨⟨⟨_, r2, ?_, HSEP.out⟩, r6⟩, r7⟩, HBB.out.trans r5⟩
      rw [HPRE.out]; exact r3
    refine wpIn_region_any (by kernel_rfl) ?_
    change wpAnyIn _ _ _ _ _ _ _ _ _ (World.drew _)
    -- TREE
    refine wpAnyIn_ready (rs := [0, 1, 2]) (by kernel_rfl) (by simp) ?_
    refine AllReadyIn.cons rfl (fun K hK => ?_) (AllReadyIn.cons rfl (fun K hK => ?_) (AllReadyIn.cons rfl (fun K hK => ?_) (AllReadyIn.nil)))
    · go_simp
      refine hK _ _ ?_
      clear hK K
      (try simp only [Act.put, List.setIfInBounds_toArray, List.set_cons_zero, List.set_cons_succ])
      refine wpAnyIn_ready (rs := [1, 2]) (by kernel_rfl) (by simp) ?_
      refine AllReadyIn.cons rfl (fun K hK => ?_) (AllReadyIn.cons rfl (fun K hK => ?_) (AllReadyIn.nil))
      · go_simp
        refine hK _ _ ?_
        clear hK K
        (try simp only [Act.put, List.setIfInBounds_toArray, List.set_cons_zero, List.set_cons_succ])
        refine wpAnyIn_ready (rs := [2]) (by kernel_rfl) (by simp) ?_
        refine AllReadyIn.cons rfl (fun K hK => ?_) (AllReadyIn.nil)
        go_simp
        refine hK _ _ ?_
        clear hK K
        (try simp only [Act.put, List.setIfInBounds_toArray, List.set_cons_zero, List.set_cons_succ])
        refine wpAnyIn_ready (rs := [3]) (by kernel_rfl) (by simp) ?_
        refine AllReadyIn.cons rfl (fun K hK => ?_) (AllReadyIn.nil)
        go_simp
        refine hK _ _ ?_
        clear hK K
        (try simp only [Act.put, List.setIfInBounds_toArray, List.set_cons_zero, List.set_cons_succ])
        refine wpAnyIn_ready (rs := [4]) (by kernel_rfl) (by simp) ?_
        refine AllReadyIn.cons rfl (fun K hK => ?_) (AllReadyIn.nil)
        go_simp
        refine hK _ _ ?_
        clear hK K
        (try simp only [Act.put, List.setIfInBounds_toArray, List.set_cons_zero, List.set_cons_succ])
        refine wpAnyIn_ready (rs := [5]) (by kernel_rfl) (by simp) ?_
        refine AllReadyIn.cons rfl (fun K hK => ?_) AllReadyIn.nil
        rw [if_pos (by rfl)]
        refine oper_appendIn _ _ _ _ rfl rfl rfl hap ?_
        refine hK _ _ ?_
        clear hK K
        (try simp only [Act.put, List.setIfInBounds_toArray])
        refine wpAnyIn_ready (rs := [6]) (by kernel_rfl) (by simp) ?_
        refine AllReadyIn.cons rfl (fun K hK => ?_) AllReadyIn.nil
        go_simp
        refine hK _ _ ?_
        clear hK K
        refine wpAnyIn_done (by kernel_rfl) ?_ _
        exact HPOST.out
      · go_simp
        refine hK _ _ ?_
        clear hK K
        (try simp only [Act.put, List.setIfInBounds_toArray, List.set_cons_zero, List.set_cons_succ])
        refine wpAnyIn_ready (rs := [1, 3]) (by kernel_rfl) (by simp) ?_
        refine AllReadyIn.cons rfl (fun K hK => ?_) (AllReadyIn.cons rfl (fun K hK => ?_) (AllReadyIn.nil))
        · go_simp
          refine hK _ _ ?_
          clear hK K
          (try simp only [Act.put, List.setIfInBounds_toArray, List.set_cons_zero, List.set_cons_succ])
          refine wpAnyIn_ready (rs := [3]) (by kernel_rfl) (by simp) ?_
          refine AllReadyIn.cons rfl (fun K hK => ?_) (AllReadyIn.nil)
          go_simp
          refine hK _ _ ?_
          clear hK K
          (try simp only [Act.put, List.setIfInBounds_toArray, List.set_cons_zero, List.set_cons_succ])
          refine wpAnyIn_ready (rs := [4]) (by kernel_rfl) (by simp) ?_
          refine AllReadyIn.cons rfl (fun K hK => ?_) (AllReadyIn.nil)
          go_simp
          refine hK _ _ ?_
          clear hK K
          (try simp only [Act.put, List.setIfInBounds_toArray, List.set_cons_zero, List.set_cons_succ])
          refine wpAnyIn_ready (rs := [5]) (by kernel_rfl) (by simp) ?_
          refine AllReadyIn.cons rfl (fun K hK => ?_) AllReadyIn.nil
          rw [if_pos (by rfl)]
          refine oper_appendIn _ _ _ _ rfl rfl rfl hap ?_
          refine hK _ _ ?_
          clear hK K
          (try simp only [Act.put, List.setIfInBounds_toArray])
          refine wpAnyIn_ready (rs := [6]) (by kernel_rfl) (by simp) ?_
          refine AllReadyIn.cons rfl (fun K hK => ?_) AllReadyIn.nil
          go_simp
          refine hK _ _ ?_
          clear hK K
          refine wpAnyIn_done (by kernel_rfl) ?_ _
          exact HPOST.out
        · go_simp
          refine hK _ _ ?_
          clear hK K
          (try simp only [Act.put, List.setIfInBounds_toArray, List.set_cons_zero, List.set_cons_succ])
          refine wpAnyIn_ready (rs := [1]) (by kernel_rfl) (by simp) ?_
          refine AllReadyIn.cons rfl (fun K hK => ?_) (AllReadyIn.nil)
          go_simp
          refine hK _ _ ?_
          clear hK K
          (try simp only [Act.put, List.setIfInBounds_toArray, List.set_cons_zero, List.set_cons_succ])
          refine wpAnyIn_ready (rs := [4]) (by kernel_rfl) (by simp) ?_
          refine AllReadyIn.cons rfl (fun K hK => ?_) (AllReadyIn.nil)
          go_simp
          refine hK _ _ ?_
          clear hK K
          (try simp only [Act.put, List.setIfInBounds_toArray, List.set_cons_zero, List.set_cons_succ])
          refine wpAnyIn_ready (rs := [5]) (by kernel_rfl) (by simp) ?_
          refine AllReadyIn.cons rfl (fun K hK => ?_) AllReadyIn.nil
          rw [if_pos (by rfl)]
          refine oper_appendIn _ _ _ _ rfl rfl rfl hap ?_
          refine hK _ _ ?_
          clear hK K
          (try simp only [Act.put, List.setIfInBounds_toArray])
          refine wpAnyIn_ready (rs := [6]) (by kernel_rfl) (by simp) ?_
          refine AllReadyIn.cons rfl (fun K hK => ?_) AllReadyIn.nil
          go_simp
          refine hK _ _ ?_
          clear hK K
          refine wpAnyIn_done (by kernel_rfl) ?_ _
          exact HPOST.out
    · go_simp
      refine hK _ _ ?_
      clear hK K
      (try simp only [Act.put, List.setIfInBounds_toArray, List.set_cons_zero, List.set_cons_succ])
      refine wpAnyIn_ready (rs := [0, 2]) (by kernel_rfl) (by simp) ?_
      refine AllReadyIn.cons rfl (fun K hK => ?_) (AllReadyIn.cons rfl (fun K hK => ?_) (AllReadyIn.nil))
      · go_simp
        refine hK _ _ ?_
        clear hK K
        (try simp only [Act.put, List.setIfInBounds_toArray, List.set_cons_zero, List.set_cons_succ])
        refine wpAnyIn_ready (rs := [2]) (by kernel_rfl) (by simp) ?_
        refine AllReadyIn.cons rfl (fun K hK => ?_) (AllReadyIn.nil)
        go_simp
        refine hK _ _ ?_
        clear hK K
        (try simp only [Act.put, List.setIfInBounds_toArray, List.set_cons_zero, List.set_cons_succ])
        refine wpAnyIn_ready (rs := [3]) (by kernel_rfl) (by simp) ?_
        refine AllReadyIn.cons rfl (fun K hK => ?_) (AllReadyIn.nil)
        go_simp
        refine hK _ _ ?_
        clear hK K
        (try simp only [Act.put, List.setIfInBounds_toArray, List.set_cons_zero, List.set_cons_succ])
        refine wpAnyIn_ready (rs := [4]) (by kernel_rfl) (by simp) ?_
        refine AllReadyIn.cons rfl (fun K hK => ?_) (AllReadyIn.nil)
        go_simp
        refine hK _ _ ?_
        clear hK K
        (try simp only [Act.put, List.setIfInBounds_toArray, List.set_cons_zero, List.set_cons_succ])
        refine wpAnyIn_ready (rs := [5]) (by kernel_rfl) (by simp) ?_
        refine AllReadyIn.cons rfl (fun K hK => ?_) AllReadyIn.nil
        rw [if_pos (by rfl)]
        refine oper_appendIn _ _ _ _ rfl rfl rfl hap ?_
        refine hK _ _ ?_
        clear hK K
        (try simp only [Act.put, List.setIfInBounds_toArray])
        refine wpAnyIn_ready (rs := [6]) (by kernel_rfl) (by simp) ?_
        refine AllReadyIn.cons rfl (fun K hK => ?_) AllReadyIn.nil
        go_simp
        refine hK _ _ ?_
        clear hK K
        refine wpAnyIn_done (by kernel_rfl) ?_ _
        exact HPOST.out
      · go_simp
        refine hK _ _ ?_
        clear hK K
        (try simp only [Act.put, List.setIfInBounds_toArray, List.set_cons_zero, List.set_cons_succ])
        refine wpAnyIn_ready (rs := [0, 3]) (by kernel_rfl) (by simp) ?_
        refine AllReadyIn.cons rfl (fun K hK => ?_) (AllReadyIn.cons rfl (fun K hK => ?_) (AllReadyIn.nil))
        · go_simp
          refine hK _ _ ?_
          clear hK K
          (try simp only [Act.put, List.setIfInBounds_toArray, List.set_cons_zero, List.set_cons_succ])
          refine wpAnyIn_ready (rs := [3]) (by kernel_rfl) (by simp) ?_
          refine AllReadyIn.cons rfl (fun K hK => ?_) (AllReadyIn.nil)
          go_simp
          refine hK _ _ ?_
          clear hK K
          (try simp only [Act.put, List.setIfInBounds_toArray, List.set_cons_zero, List.set_cons_succ])
          refine wpAnyIn_ready (rs := [4]) (by kernel_rfl) (by simp) ?_
          refine AllReadyIn.cons rfl (fun K hK => ?_) (AllReadyIn.nil)
          go_simp
          refine hK _ _ ?_
          clear hK K
          (try simp only [Act.put, List.setIfInBounds_toArray, List.set_cons_zero, List.set_cons_succ])
          refine wpAnyIn_ready (rs := [5]) (by kernel_rfl) (by simp) ?_
          refine AllReadyIn.cons rfl (fun K hK => ?_) AllReadyIn.nil
          rw [if_pos (by rfl)]
          refine oper_appendIn _ _ _ _ rfl rfl rfl hap ?_
          refine hK _ _ ?_
          clear hK K
          (try simp only [Act.put, List.setIfInBounds_toArray])
          refine wpAnyIn_ready (rs := [6]) (by kernel_rfl) (by simp) ?_
          refine AllReadyIn.cons rfl (fun K hK => ?_) AllReadyIn.nil
          go_simp
          refine hK _ _ ?_
          clear hK K
          refine wpAnyIn_done (by kernel_rfl) ?_ _
          exact HPOST.out
        · go_simp
          refine hK _ _ ?_
          clear hK K
          (try simp only [Act.put, List.setIfInBounds_toArray, List.set_cons_zero, List.set_cons_succ])
          refine wpAnyIn_ready (rs := [0, 4]) (by kernel_rfl) (by simp) ?_
          refine AllReadyIn.cons rfl (fun K hK => ?_) (AllReadyIn.cons rfl (fun K hK => ?_) (AllReadyIn.nil))
          · go_simp
            refine hK _ _ ?_
            clear hK K
            (try simp only [Act.put, List.setIfInBounds_toArray, List.set_cons_zero, List.set_cons_succ])
            refine wpAnyIn_ready (rs := [4]) (by kernel_rfl) (by simp) ?_
            refine AllReadyIn.cons rfl (fun K hK => ?_) (AllReadyIn.nil)
            go_simp
            refine hK _ _ ?_
            clear hK K
            (try simp only [Act.put, List.setIfInBounds_toArray, List.set_cons_zero, List.set_cons_succ])
            refine wpAnyIn_ready (rs := [5]) (by kernel_rfl) (by simp) ?_
            refine AllReadyIn.cons rfl (fun K hK => ?_) AllReadyIn.nil
            rw [if_pos (by rfl)]
            refine oper_appendIn _ _ _ _ rfl rfl rfl hap ?_
            refine hK _ _ ?_
            clear hK K
            (try simp only [Act.put, List.setIfInBounds_toArray])
            refine wpAnyIn_ready (rs := [6]) (by kernel_rfl) (by simp) ?_
            refine AllReadyIn.cons rfl (fun K hK => ?_) AllReadyIn.nil
            go_simp
            refine hK _ _ ?_
            clear hK K
            refine wpAnyIn_done (by kernel_rfl) ?_ _
            exact HPOST.out
          · go_simp
            refine hK _ _ ?_
            clear hK K
            (try simp only [Act.put, List.setIfInBounds_toArray, List.set_cons_zero, List.set_cons_succ])
            refine wpAnyIn_ready (rs := [0]) (by kernel_rfl) (by simp) ?_
            refine AllReadyIn.cons rfl (fun K hK => ?_) (AllReadyIn.nil)
            go_simp
            refine hK _ _ ?_
            clear hK K
            (try simp only [Act.put, List.setIfInBounds_toArray, List.set_cons_zero, List.set_cons_succ])
            refine wpAnyIn_ready (rs := [5]) (by kernel_rfl) (by simp) ?_
            refine AllReadyIn.cons rfl (fun K hK => ?_) AllReadyIn.nil
            rw [if_pos (by rfl)]
            refine oper_appendIn _ _ _ _ rfl rfl rfl hap ?_
            refine hK _ _ ?_
            clear hK K
            (try simp only [Act.put, List.setIfInBounds_toArray])
            refine wpAnyIn_ready (rs := [6]) (by kernel_rfl) (by simp) ?_
            refine AllReadyIn.cons rfl (fun K hK => ?_) AllReadyIn.nil
            go_simp
            refine hK _ _ ?_
            clear hK K
            refine wpAnyIn_done (by kernel_rfl) ?_ _
            exact HPOST.out
    · go_simp
      refine hK _ _ ?_
      clear hK K
      (try simp only [Act.put, List.setIfInBounds_toArray, List.set_cons_zero, List.set_cons_succ])
      refine wpAnyIn_ready (rs := [0, 1, 3]) (by kernel_rfl) (by simp) ?_
      refine AllReadyIn.cons rfl (fun K hK => ?_) (AllReadyIn.cons rfl (fun K hK => ?_) (AllReadyIn.cons rfl (fun K hK => ?_) (AllReadyIn.nil)))
      · go_simp
        refine hK _ _ ?_
        clear hK K
        (try simp only [Act.put, List.setIfInBounds_toArray, List.set_cons_zero, List.set_cons_succ])
        refine wpAnyIn_ready (rs := [1, 3]) (by kernel_rfl) (by simp) ?_
        refine AllReadyIn.cons rfl (fun K hK => ?_) (AllReadyIn.cons rfl (fun K hK => ?_) (AllReadyIn.nil))
        · go_simp
          refine hK _ _ ?_
          clear hK K
          (try simp only [Act.put, List.setIfInBounds_toArray, List.set_cons_zero, List.set_cons_succ])
          refine wpAnyIn_ready (rs := [3]) (by kernel_rfl) (by simp) ?_
          refine AllReadyIn.cons rfl (fun K hK => ?_) (AllReadyIn.nil)
          go_simp
          refine hK _ _ ?_
          clear hK K
          (try simp only [Act.put, List.setIfInBounds_toArray, List.set_cons_zero, List.set_cons_succ])
          refine wpAnyIn_ready (rs := [4]) (by kernel_rfl) (by simp) ?_
          refine AllReadyIn.cons rfl (fun K hK => ?_) (AllReadyIn.nil)
          go_simp
          refine hK _ _ ?_
          clear hK K
          (try simp only [Act.put, List.setIfInBounds_toArray, List.set_cons_zero, List.set_cons_succ])
          refine wpAnyIn_ready (rs := [5]) (by kernel_rfl) (by simp) ?_
          refine AllReadyIn.cons rfl (fun K hK => ?_) AllReadyIn.nil
          rw [if_pos (by rfl)]
          refine oper_appendIn _ _ _ _ rfl rfl rfl hap ?_
          refine hK _ _ ?_
          clear hK K
          (try simp only [Act.put, List.setIfInBounds_toArray])
          refine wpAnyIn_ready (rs := [6]) (by kernel_rfl) (by simp) ?_
          refine AllReadyIn.cons rfl (fun K hK => ?_) AllReadyIn.nil
          go_simp
          refine hK _ _ ?_
          clear hK K
          refine wpAnyIn_done (by kernel_rfl) ?_ _
          exact HPOST.out
        · go_simp
          refine hK _ _ ?_
          clear hK K
          (try simp only [Act.put, List.setIfInBounds_toArray, List.set_cons_zero, List.set_cons_succ])
          refine wpAnyIn_ready (rs := [1]) (by kernel_rfl) (by simp) ?_
          refine AllReadyIn.cons rfl (fun K hK => ?_) (AllReadyIn.nil)
          go_simp
          refine hK _ _ ?_
          clear hK K
          (try simp only [Act.put, List.setIfInBounds_toArray, List.set_cons_zero, List.set_cons_succ])
          refine wpAnyIn_ready (rs := [4]) (by kernel_rfl) (by simp) ?_
          refine AllReadyIn.cons rfl (fun K hK => ?_) (AllReadyIn.nil)
          go_simp
          refine hK _ _ ?_
          clear hK K
          (try simp only [Act.put, List.setIfInBounds_toArray, List.set_cons_zero, List.set_cons_succ])
          refine wpAnyIn_ready (rs := [5]) (by kernel_rfl) (by simp) ?_
          refine AllReadyIn.cons rfl (fun K hK => ?_) AllReadyIn.nil
          rw [if_pos (by rfl)]
          refine oper_appendIn _ _ _ _ rfl rfl rfl hap ?_
          refine hK _ _ ?_
          clear hK K
          (try simp only [Act.put, List.setIfInBounds_toArray])
          refine wpAnyIn_ready (rs := [6]) (by kernel_rfl) (by simp) ?_
          refine AllReadyIn.cons rfl (fun K hK => ?_) AllReadyIn.nil
          go_simp
          refine hK _ _ ?_
          clear hK K
          refine wpAnyIn_done (by kernel_rfl) ?_ _
          exact HPOST.out
      · go_simp
        refine hK _ _ ?_
        clear hK K
        (try simp only [Act.put, List.setIfInBounds_toArray, List.set_cons_zero, List.set_cons_succ])
        refine wpAnyIn_ready (rs := [0, 3]) (by kernel_rfl) (by simp) ?_
        refine AllReadyIn.cons rfl (fun K hK => ?_) (AllReadyIn.cons rfl (fun K hK => ?_) (AllReadyIn.nil))
        · go_simp
          refine hK _ _ ?_
          clear hK K
          (try simp only [Act.put, List.setIfInBounds_toArray, List.set_cons_zero, List.set_cons_succ])
          refine wpAnyIn_ready (rs := [3]) (by kernel_rfl) (by simp) ?_
          refine AllReadyIn.cons rfl (fun K hK => ?_) (AllReadyIn.nil)
          go_simp
          refine hK _ _ ?_
          clear hK K
          (try simp only [Act.put, List.setIfInBounds_toArray, List.set_cons_zero, List.set_cons_succ])
          refine wpAnyIn_ready (rs := [4]) (by kernel_rfl) (by simp) ?_
          refine AllReadyIn.cons rfl (fun K hK => ?_) (AllReadyIn.nil)
          go_simp
          refine hK _ _ ?_
          clear hK K
          (try simp only [Act.put, List.setIfInBounds_toArray, List.set_cons_zero, List.set_cons_succ])
          refine wpAnyIn_ready (rs := [5]) (by kernel_rfl) (by simp) ?_
          refine AllReadyIn.cons rfl (fun K hK => ?_) AllReadyIn.nil
          rw [if_pos (by rfl)]
          refine oper_appendIn _ _ _ _ rfl rfl rfl hap ?_
          refine hK _ _ ?_
          clear hK K
          (try simp only [Act.put, List.setIfInBounds_toArray])
          refine wpAnyIn_ready (rs := [6]) (by kernel_rfl) (by simp) ?_
          refine AllReadyIn.cons rfl (fun K hK => ?_) AllReadyIn.nil
          go_simp
          refine hK _ _ ?_
          clear hK K
          refine wpAnyIn_done (by kernel_rfl) ?_ _
          exact HPOST.out
        · go_simp
          refine hK _ _ ?_
          clear hK K
          (try simp only [Act.put, List.setIfInBounds_toArray, List.set_cons_zero, List.set_cons_succ])
          refine wpAnyIn_ready (rs := [0, 4]) (by kernel_rfl) (by simp) ?_
          refine AllReadyIn.cons rfl (fun K hK => ?_) (AllReadyIn.cons rfl (fun K hK => ?_) (AllReadyIn.nil))
          · go_simp
            refine hK _ _ ?_
            clear hK K
            (try simp only [Act.put, List.setIfInBounds_toArray, List.set_cons_zero, List.set_cons_succ])
            refine wpAnyIn_ready (rs := [4]) (by kernel_rfl) (by simp) ?_
            refine AllReadyIn.cons rfl (fun K hK => ?_) (AllReadyIn.nil)
            go_simp
            refine hK _ _ ?_
            clear hK K
            (try simp only [Act.put, List.setIfInBounds_toArray, List.set_cons_zero, List.set_cons_succ])
            refine wpAnyIn_ready (rs := [5]) (by kernel_rfl) (by simp) ?_
            refine AllReadyIn.cons rfl (fun K hK => ?_) AllReadyIn.nil
            rw [if_pos (by rfl)]
            refine oper_appendIn _ _ _ _ rfl rfl rfl hap ?_
            refine hK _ _ ?_
            clear hK K
            (try simp only [Act.put, List.setIfInBounds_toArray])
            refine wpAnyIn_ready (rs := [6]) (by kernel_rfl) (by simp) ?_
            refine AllReadyIn.cons rfl (fun K hK => ?_) AllReadyIn.nil
            go_simp
            refine hK _ _ ?_
            clear hK K
            refine wpAnyIn_done (by kernel_rfl) ?_ _
            exact HPOST.out
          · go_simp
            refine hK _ _ ?_
            clear hK K
            (try simp only [Act.put, List.setIfInBounds_toArray, List.set_cons_zero, List.set_cons_succ])
            refine wpAnyIn_ready (rs := [0]) (by kernel_rfl) (by simp) ?_
            refine AllReadyIn.cons rfl (fun K hK => ?_) (AllReadyIn.nil)
            go_simp
            refine hK _ _ ?_
            clear hK K
            (try simp only [Act.put, List.setIfInBounds_toArray, List.set_cons_zero, List.set_cons_succ])
            refine wpAnyIn_ready (rs := [5]) (by kernel_rfl) (by simp) ?_
            refine AllReadyIn.cons rfl (fun K hK => ?_) AllReadyIn.nil
            rw [if_pos (by rfl)]
            refine oper_appendIn _ _ _ _ rfl rfl rfl hap ?_
            refine hK _ _ ?_
            clear hK K
            (try simp only [Act.put, List.setIfInBounds_toArray])
            refine wpAnyIn_ready (rs := [6]) (by kernel_rfl) (by simp) ?_
            refine AllReadyIn.cons rfl (fun K hK => ?_) AllReadyIn.nil
            go_simp
            refine hK _ _ ?_
            clear hK K
            refine wpAnyIn_done (by kernel_rfl) ?_ _
            exact HPOST.out
      · go_simp
        refine hK _ _ ?_
        clear hK K
        (try simp only [Act.put, List.setIfInBounds_toArray, List.set_cons_zero, List.set_cons_succ])
        refine wpAnyIn_ready (rs := [0, 1]) (by kernel_rfl) (by simp) ?_
        refine AllReadyIn.cons rfl (fun K hK => ?_) (AllReadyIn.cons rfl (fun K hK => ?_) (AllReadyIn.nil))
        · go_simp
          refine hK _ _ ?_
          clear hK K
          (try simp only [Act.put, List.setIfInBounds_toArray, List.set_cons_zero, List.set_cons_succ])
          refine wpAnyIn_ready (rs := [1]) (by kernel_rfl) (by simp) ?_
          refine AllReadyIn.cons rfl (fun K hK => ?_) (AllReadyIn.nil)
          go_simp
          refine hK _ _ ?_
          clear hK K
          (try simp only [Act.put, List.setIfInBounds_toArray, List.set_cons_zero, List.set_cons_succ])
          refine wpAnyIn_ready (rs := [4]) (by kernel_rfl) (by simp) ?_
          refine AllReadyIn.cons rfl (fun K hK => ?_) (AllReadyIn.nil)
          go_simp
          refine hK _ _ ?_
          clear hK K
          (try simp only [Act.put, List.setIfInBounds_toArray, List.set_cons_zero, List.set_cons_succ])
          refine wpAnyIn_ready (rs := [5]) (by kernel_rfl) (by simp) ?_
          refine AllReadyIn.cons rfl (fun K hK => ?_) AllReadyIn.nil
          rw [if_pos (by rfl)]
          refine oper_appendIn _ _ _ _ rfl rfl rfl hap ?_
          refine hK _ _ ?_
          clear hK K
          (try simp only [Act.put, List.setIfInBounds_toArray])
          refine wpAnyIn_ready (rs := [6]) (by kernel_rfl) (by simp) ?_
          refine AllReadyIn.cons rfl (fun K hK => ?_) AllReadyIn.nil
          go_simp
          refine hK _ _ ?_
          clear hK K
          refine wpAnyIn_done (by kernel_rfl) ?_ _
          exact HPOST.out
        · go_simp
          refine hK _ _ ?_
          clear hK K
          (try simp only [Act.put, List.setIfInBounds_toArray, List.set_cons_zero, List.set_cons_succ])
          refine wpAnyIn_ready (rs := [0, 4]) (by kernel_rfl) (by simp) ?_
          refine AllReadyIn.cons rfl (fun K hK => ?_) (AllReadyIn.cons rfl (fun K hK => ?_) (AllReadyIn.nil))
          · go_simp
            refine hK _ _ ?_
            clear hK K
            (try simp only [Act.put, List.setIfInBounds_toArray, List.set_cons_zero, List.set_cons_succ])
            refine wpAnyIn_ready (rs := [4]) (by kernel_rfl) (by simp) ?_
            refine AllReadyIn.cons rfl (fun K hK => ?_) (AllReadyIn.nil)
            go_simp
            refine hK _ _ ?_
            clear hK K
            (try simp only [Act.put, List.setIfInBounds_toArray, List.set_cons_zero, List.set_cons_succ])
            refine wpAnyIn_ready (rs := [5]) (by kernel_rfl) (by simp) ?_
            refine AllReadyIn.cons rfl (fun K hK => ?_) AllReadyIn.nil
            rw [if_pos (by rfl)]
            refine oper_appendIn _ _ _ _ rfl rfl rfl hap ?_
            refine hK _ _ ?_
            clear hK K
            (try simp only [Act.put, List.setIfInBounds_toArray])
            refine wpAnyIn_ready (rs := [6]) (by kernel_rfl) (by simp) ?_
            refine AllReadyIn.cons rfl (fun K hK => ?_) AllReadyIn.nil
            go_simp
            refine hK _ _ ?_
            clear hK K
            refine wpAnyIn_done (by kernel_rfl) ?_ _
            exact HPOST.out
          · go_simp
            refine hK _ _ ?_
            clear hK K
            (try simp only [Act.put, List.setIfInBounds_toArray, List.set_cons_zero, List.set_cons_succ])
            refine wpAnyIn_ready (rs := [0]) (by kernel_rfl) (by simp) ?_
            refine AllReadyIn.cons rfl (fun K hK => ?_) (AllReadyIn.nil)
            go_simp
            refine hK _ _ ?_
            clear hK K
            (try simp only [Act.put, List.setIfInBounds_toArray, List.set_cons_zero, List.set_cons_succ])
            refine wpAnyIn_ready (rs := [5]) (by kernel_rfl) (by simp) ?_
            refine AllReadyIn.cons rfl (fun K hK => ?_) AllReadyIn.nil
            rw [if_pos (by rfl)]
            refine oper_appendIn _ _ _ _ rfl rfl rfl hap ?_
            refine hK _ _ ?_
            clear hK K
            (try simp only [Act.put, List.setIfInBounds_toArray])
            refine wpAnyIn_ready (rs := [6]) (by kernel_rfl) (by simp) ?_
            refine AllReadyIn.cons rfl (fun K hK => ?_) AllReadyIn.nil
            go_simp
            refine hK _ _ ?_
            clear hK K
            refine wpAnyIn_done (by kernel_rfl) ?_ _
            exact HPOST.out
  case done =>
    rintro D ys W hD hys ⟨⟨⟨⟨v, hv, hrow, -⟩, -⟩, -⟩, hB⟩ hK
    obtain ⟨body, hbd⟩ : ∃ body, bodyF bs = body := ⟨_, rfl⟩
    have hbl : body.length = bs.length + 4 := by rw [← hbd, bodyF_length]
    have hall : gatherF (bodyF bs) ys = body := by
      have h3 : gatherF (bodyF bs) ys = (ys.map fun j => j.val).flatMap (partOf (bodyF bs)) := by unfold gatherF; rw [List.flatMap_map]
      rw [h3, hys, hqq, flat_range, ← HQ.out, hbd, List.take_of_length_le]
      rw [← hbl]; exact partsN_le _
    rw [hall] at hrow
    have hrow' : Own8 W N v body := hrow
    have hkW : Kp (fun _ => False) w1 W := Kp.of_below _ (by rw [hs1N]; exact hB)
    have hkw := HK1.out.trans hkW
    have hbR : Boxed W w.heap.size 22 (.slice none 0 0) := hkW.blk HBR.out id
    have hbB : Boxed W (w.heap.size + 1) 4 (.bool false) := hkW.blk HBB.out id
    have hgD : ∀ k, v.ownBlock = some k → k ≠ D := by
      rintro k hk rfl
      obtain ⟨_, ⟨rfl, _⟩ | ⟨g, cap', cur, rfl, _, hh, _⟩⟩ := hrow'
      · cases hk
      · simp only [Value.ownBlock, Option.some.injEq] at hk
        subst hk
        rw [hh] at hK; cases hK
    have hby := hrow'.bytes (fun k => k < N ∨ k = D) fun k hk hf => by
      rcases hf with hf | hf
      · have := (hrow'.lt k hk).1; omega
      · exact hgD k hk hf
    have HSD : Hid (w.heap.size ≤ D) := by have := hD; rw [hs2] at this; show w.heap.size ≤ D; omega
    have hsrc := HH.out.kept (hkW.mono fun _ h => h.elim) (F' := fun k => F k ∧ k < w.heap.size) fun _ h => .inl h
    have hvN := hrow'.lt
    have hnvN : v.ownBlock ≠ some N := by
      intro e
      have h4 := hv.not_row (by decide) hrow
      exact h4 e.symm
    obtain ⟨_, ⟨_, h0⟩ | ⟨g, cap', cur, rfl, hNg, hgh, hLc, _, _, _⟩⟩ := hrow
    · omega
    have htk := hby.take (k := bs.length) (by omega)
    rw [show body.take bs.length = bs by rw [← hbd]; unfold bodyF; exact List.take_left] at htk
    have csec := sectors_any htk HR.out h2
    have hcv := hv.cell
    have hDW := blk_lt hK
    have HV := Lib.hid hv
    have HKW := Lib.hid hkw
    have HKK := Lib.hid hK
    have HBR2 := Lib.hid hbR
    have HBB2 := Lib.hid hbB
    have HTK := Lib.hid htk
    have HSR := Lib.hid hsrc
    obtain ⟨BL, hBL⟩ : ∃ BL, body.length = BL := ⟨_, rfl⟩
    rw [hBL] at HV hcv
    have hn1 : ((BL : Int) - 4) = (bs.length : Int) := by omega
    have hb4 : bs.length ≤ cap' := by omega
    have hBL5 : 5 ≤ BL := by omega
    clear hgD hbl hrow' hkW hkw hbR hbB hby hsrc hvN hnvN hv hK htk hbd hall hys hB hBL hs1N hs1 hs2 bL bS bN hB2 hqq hgh hLc
    go_wp2_with (first
      | (go_at_call 29; refine csec.mono ?_; rintro e w5 ⟨vs, rfl, hos, hks⟩; have HOS := Lib.hid hos; have HKS := Lib.hid hks; obtain ⟨ps, ns, cs, rfl⟩ := hos.slice; clear hos hks csec)
      | (go_at_call 47; refine Hid.out ?_))
    refine Lib.hid ?_
    obtain ⟨gs, gns, gcs, hgs⟩ : ∃ gs n c, Value.slice ps ns cs = .slice (some ⟨gs, 0, none⟩) n c := by
      obtain ⟨_, ⟨_, h0⟩ | ⟨g5, c5, cur5, e5, _⟩⟩ := HOS.out
      · rw [secF_length] at h0
        have : 1 ≤ partsN (bs.length + 4) := by unfold partsN; omega
        omega
      · exact ⟨g5, _, _, e5⟩
    rw [hgs]
    have hos := HOS.out
    rw [hgs] at hos
    have hks := HKS.out
    have hbs := hos.bytes (fun k => k < W.heap.size) fun k hk hf => by have := (hos.lt k hk).1; omega
    have hsr := HSR.out.kept (hks.mono fun _ h => h.elim) (F' := fun k => F k ∧ k < w.heap.size) fun _ h => .inl h
    refine (Equal_same hbs hsr).mono ?_
    rintro e w' ⟨rfl, rfl⟩
    have hN5 : Boxed w5 N 22 (.slice (some ⟨g, 0, none⟩) BL cap') := hks.blk HV.out id
    have hvN5 := hN5.cell
    have hR5 : Boxed w5 w.heap.size 22 (.slice none 0 0) := hks.blk HBR2.out id
    have hB5 : Boxed w5 (w.heap.size + 1) 4 (.bool false) := hks.blk HBB2.out id
    have hcR := hR5.cell
    have hfR := hR5.frozen
    have hcB := hB5.cell
    have hfB := hB5.frozen
    have HR5 := Lib.hid hR5
    have HB5 := Lib.hid hB5
    clear hos hks hbs hsr hR5 hB5 hN5
    go_wp2
    obtain ⟨w6, hw6⟩ : ∃ w6, ((w5.setCell ⟨w.heap.size, 0, none⟩ (.slice (some ⟨g, 0, none⟩) bs.length cap')).setCell ⟨w.heap.size + 1, 0, none⟩ (.bool true)) = w6 := ⟨_, rfl⟩
    rw [hw6]
    have hks := HKS.out
    have hR6 : Boxed w6 w.heap.size 22 (.slice (some ⟨g, 0, none⟩) bs.length cap') := by rw [← hw6]; exact (HR5.out.set _).other (by omega) _
    have hB6 : Boxed w6 (w.heap.size + 1) 4 (.bool true) := by rw [← hw6]; exact (HB5.out.other (by omega) _).set _
    have hk56 : Kp (fun k => k = w.heap.size ∨ k = w.heap.size + 1) w5 w6 := by
      rw [← hw6]; exact ((Kp.refl _ w5).setCell (.inl (.inl rfl)) _).setCell (.inl (.inr rfl)) _
    have hD1 : ¬ (D = w.heap.size ∨ D = w.heap.size + 1) := by
      rintro (h | h)
      · have h4 := HBR2.out; unfold Boxed at h4; rw [← h, HKK.out] at h4; cases h4
      · have h4 := HBB2.out; unfold Boxed at h4; rw [← h, HKK.out] at h4; cases h4
    have hD5 : w5.heap[D]? = some (.deferred (some [])) := hks.blk HKK.out id
    have hD6 : w6.heap[D]? = some (.deferred (some [])) := hk56.blk hD5 hD1
    have hpD := kp_putObj w6 D (.deferred none)
    have cR := (show Boxed (w6.putObj D (.deferred none)) w.heap.size 22 _ from hpD.blk hR6 fun e => hD1 (.inl e.symm)).cell
    have cB := (show Boxed (w6.putObj D (.deferred none)) (w.heap.size + 1) 4 _ from hpD.blk hB6 fun e => hD1 (.inr e.symm)).cell
    refine ⟨by simp, .inl ⟨_, _, rfl, run_takeDeferred hD6, ?_⟩⟩
    refine ⟨.tuple #[.slice (some ⟨g, 0, none⟩) bs.length cap', .bool true], ?_, _, rfl, ?_, ?_⟩
    · simp [results, Tryd.results23, go_sem, cR, cB]
    · have h1 := HTK.out.kept (hks.mono fun _ h => h.elim) (F' := fun k => k < N ∨ k = D) fun _ h => .inl h
      have h2 := h1.kept (F' := fun k => k < N ∨ k = D) (hk56.mono fun k hk => .inl (by omega)) fun _ h => .inl h
      exact h2.kept (F' := fun k => k < w.heap.size) (hpD.mono fun k hk => .inr hk) fun k h => .inl (.inl (by omega))
    · have h1 := (HKW.out.trans hks).trans' hk56 fun i hi => .inr (by omega)
      exact h1.trans' hpD fun i hi => .inr (by rw [hi]; exact HSD.out)
  case stop =>
    rintro D c pre W _ _ h _
    exact h.elim
end Go.Proofs.YtmcmapaapffadaaDoor

/-
  Merged of my texts, in order: Record.
-/
import Derived.Test.YtggnohbfdlebiaaGreatDoorM11
import Derived.Test.YtggnohbfdlebiaaGreatDoorM16
/-
  log.record: the next whole record, or none.
-/
namespace Go.Proofs.YtggnohbfdlebiaaGreatDoor
open Go.RowKit Go.Shelf Go.ChangeMaps Go.ChangeShapes

/-- Four results, the second one a variable's cells. -/
theorem results_rec {P : Program} {fn : Func} {tmps : Array Value} {w : World} {t : TypeId} {a c d e b : Nat} {v : Value} (hr : fn.results = #[.tmp a, .cell c t, .tmp d, .tmp e]) (ha : tmps.getD c undef = .pointer (some ⟨b, 0, none⟩))
    (hl : (loadVar t ⟨b, 0, none⟩).run P w = .ok v w) : (results fn tmps).run P w = .ok (.tuple #[tmps.getD a undef, v, tmps.getD d undef, tmps.getD e undef]) w := by
  unfold results
  rw [hr]
  simp only [Array.getD_eq_getD_getElem?] at ha
  simp [ha, asAddr, hl]
/-- A store of an array in a region that draws its order. -/
theorem step_store_agg {P : Program} {ops : Array Oper} {o : Oper} {a : Act} {w : World} {K : Act → World → Prop} {Q : Exit → Act → World → Prop} {E : Prop} (hgd : o.guard = none) (ty : TypeId) (x y : Operand) (ho : o.op = .store ty x y)
    {g : Nat} {t : TypeId} {cur cells : Array Value} (hx : a.eval x = .pointer (some ⟨g, 0, none⟩)) (hy : a.eval y = .agg cells) (hg : w.heap[g]? = some (.cells cur t (0, 0)))
    (hi : (P.info? ty).map (·.size) = some cells.size) (hl : cur.size = cells.size) (h1 : ∀ v ∈ cells.toList, v.oneCell' = true)
    (h : K (a.put o.dst undef) (w.setRow g cells)) : if Region.wanted o (yielded ops a.tmps) = true then Oper.wp P o a w K Q else E := by
  have hw : Region.wanted o (yielded ops a.tmps) = true := by simp [Region.wanted, hgd]
  rw [if_pos hw]
  obtain ⟨i, hi1, hi2⟩ := Option.map_eq_some_iff.1 hi
  have hs := storeCells_run (P := P) hg cells.toList (off := 0) (by simp [hl]) h1
  rw [splice_all _ _ hl] at hs
  unfold Oper.wp execOp
  simp only [ho, hx, hy, Instr.storeAt, Instr.sureAddr, Sem.run_bind, Sem.run_pure, Result.andThen_ok]
  have hsv : (storeVar ty ⟨g, 0, none⟩ (.agg cells)).run P w = .ok () (w.setRow g cells) := by
    simp [storeVar, sizeOf, typeInfo, hi1, Value.cells, ← hi2, hs]
  simp only [hsv, Result.andThen_ok]
  exact h
/-- A load of an array, ahead of all that writes. -/
theorem load_take {P : Program} {o : Oper} {a : Act} {w : World} {g off : Nat} {C : Array Value} (ty : TypeId) (x : Operand) (ho : o.op = .load ty x) (hx : a.eval x = .pointer (some ⟨g, off, none⟩)) (hc : ∀ j v, C.toList[j]? = some v → w.cell? ⟨g, off + j, none⟩ = some v)
    (ha : ∀ w, (isAgg ty).run P w = .ok true w) (hi : (P.info? ty).map (·.size) = some C.size) : (execOp a.eval o).run P w = .ok (.value (.agg C)) w := by
  unfold execOp
  simp only [ho, hx, Instr.loadAt, Instr.sureAddr, Sem.run_bind, Sem.run_pure, Result.andThen_ok, load_agg_run C hc ha hi]
theorem lbody_nil (w : World) (r : Int) : Calls Tryz.prog 87 #[.slice none 0 0, .int .i64 r] w fun e w' => e = .returned (.tuple #[.slice none 0 0, .int .i64 0, .bool false]) ∧ w' = w := by
  go_enter Tryz.func87, Tryz.ntmps87
  go_wp2
  go_loopw [8, 9] (fun vp vi wr => vp = .int .i64 1 ∧ vi = .int .i64 0 ∧ wr = w) (fun _ _ _ => 0)
  case atStart => exact ⟨rfl, rfl, rfl⟩
  case round =>
    obtain ⟨rfl, rfl, rfl⟩ := hrel
    go_wp2
    go_ret3
    exact ⟨rfl, rfl⟩

set_option maxRecDepth 100000 in
set_option maxHeartbeats 4000000 in
/-- Where log.body has none there is none. -/
theorem record_none {w : World} {pv : Value} {r : Int} {link : List Int} {known : Bool} (hl : link.length = 32)
    (cb : ∀ W : World, Kp (fun _ => False) w W → Calls Tryz.prog 87 #[pv, .int .i64 r] W fun e w' => e = .returned (.tuple #[.slice none 0 0, .int .i64 0, .bool false]) ∧ Kp (fun _ => False) W w') :
    Calls Tryz.prog 61 #[pv, .int .i64 r, .agg (byteVals link).toArray, .bool known] w fun e w' => e = .returned (.tuple #[.slice none 0 0, .agg (byteVals link).toArray, .int .i64 0, .bool false]) ∧ Kp (fun _ => False) w w' := by
  obtain ⟨LK, hLK⟩ : ∃ L, (byteVals link).toArray = L := ⟨_, rfl⟩
  have hLs : LK.size = 32 := by rw [← hLK, List.size_toArray, byteVals_length, hl]
  have h1 : ∀ x ∈ LK.toList, x.oneCell' = true := by rw [← hLK]; exact bytes_one _
  have hi : (Tryz.prog.info? 74).map (·.size) = some LK.size := by rw [hLs]; kernel_rfl
  have ha : ∀ w, (isAgg 74).run Tryz.prog w = .ok true w := fun w => isAgg_run (Tryz.underlying74) rfl w
  rw [hLK]
  clear hLK hl
  go_enter Tryz.func61, Tryz.ntmps61
  go_wp2_with (go_at_call 87; refine Hid.out ?_)
  refine Lib.hid ?_
  obtain ⟨w1, hw1⟩ : ∃ w1, (w.alloc (Obj.cells LK 74)).alloc (Obj.cells (byteVals (List.replicate 32 0)).toArray 74) = w1 := ⟨_, rfl⟩
  have hk1 : Kp (fun _ => False) w w1 := by rw [← hw1]; exact ((Kp.refl _ w).alloc _).alloc _
  have hb1 : w1.heap[w.heap.size]? = some (.cells LK 74 (0, 0)) := by
    rw [← hw1]; exact ((Kp.refl (fun _ => False) (w.alloc (Obj.cells LK 74))).alloc _).blk (heap_alloc_new w _) id
  have hb2 : w1.heap[w.heap.size + 1]? = some (.cells (byteVals (List.replicate 32 0)).toArray 74 (0, 0)) := by
    rw [← hw1]; have := heap_alloc_new (w.alloc (Obj.cells LK 74)) (Obj.cells (byteVals (List.replicate 32 0)).toArray 74)
    rw [World.size_alloc] at this; exact this
  have ccb := cb w1 hk1
  have H1 := Lib.hid (And.intro hk1 (And.intro hb1 hb2))
  clear hk1 hb1 hb2 cb
  change Calls _ _ _ ((w.alloc (Obj.cells LK 74)).alloc (Obj.cells (byteVals (List.replicate 32 0)).toArray 74)) _
  rw [hw1]
  clear hw1
  refine ccb.mono ?_
  clear ccb
  rintro e w2 ⟨rfl, hk2⟩
  have hb1 := hk2.blk H1.out.2.1 id
  have hb2 := hk2.blk H1.out.2.2 id
  have hkw := H1.out.1.trans hk2
  obtain ⟨B, hB⟩ : ∃ B, w.heap.size = B := ⟨_, rfl⟩
  rw [hB] at hb1 hb2
  have hb2 : w2.drew.heap[B + 1]? = some (.cells (byteVals (List.replicate 32 0)).toArray 74 (0, 0)) := hb2
  have hz := setRow_blk (cs := LK) hb2
  have hkz := Kp.setRow (F := fun _ => False) (g := B + 1) hkw.drew (.inr (by omega)) LK
  have hz1 : (w2.drew.setRow (B + 1) LK).heap[B]? = some (.cells LK 74 (0, 0)) := (setRow_other w2.drew (B + 1) B _ (by omega)).trans hb1
  have HZ := Lib.hid (And.intro hz (And.intro hkz hz1))
  have hld : ∀ j v, LK.toList[j]? = some v → w2.cell? ⟨B, 0 + j, none⟩ = some v := fun j v hj => by
    rw [Nat.zero_add, blk_cell hb1]; simpa using hj
  have HLD := Lib.hid hld
  simp only [hB]
  clear H1 hk2 hkw hz hkz hz1 hb1 hld hB
  go_upto_region 4 with fail
  refine wp_region_held_drew (S := (fun w' => ∀ j v, LK.toList[j]? = some v → w'.cell? ⟨B, 0 + j, none⟩ = some v)) (by kernel_rfl) HLD.out (fun hHeld => ?_)
  refine take_yes (i := 0) (v := .agg LK) (some 39) rfl rfl (by kernel_rfl) (by kernel_rfl) (by kernel_rfl) (fun _ _ _ h => h) (Or.inl ⟨by rfl, ?_⟩) (by assumption) ?_
  · exact fun w hSw => load_take _ _ rfl (by rfl) hSw ha hi
  ((try simp only [Act.put]); (try simp only [List.setIfInBounds_toArray]); (try simp only [List.set_cons_succ]); (try simp only [List.set_cons_zero]))
  refine take_yes (i := 1) (v := ?_) (some 8) rfl rfl (by kernel_rfl) (by kernel_rfl) (by kernel_rfl) (fun _ _ _ h => h) (Or.inl ⟨by rfl, ?_⟩) (by assumption) ?_
  rotate_left
  · (intro w hSw; (try dsimp only at hSw); go_simp <;> (try with_reducible rfl))
  ((try simp only [Act.put]); (try simp only [List.setIfInBounds_toArray]); (try simp only [List.set_cons_succ]); (try simp only [List.set_cons_zero]))
  refine wpAnyH_ready (rs := [2]) (by kernel_rfl) (by simp) ?_
  refine AllReadyH.cons (o := _) rfl (fun K hK => ?_) AllReadyH.nil
  skip
  refine step_store_agg rfl _ _ _ rfl rfl rfl hb2 hi (by rw [hLs]; rfl) h1 ?_
  refine hK.out _ _ (fun j v hj => by rw [Nat.zero_add, blk_cell (HZ.out.2.2 )]; simpa using hj) (fun hHeld => ?_)
  clear hK K
  ((try simp only [Act.put]); (try simp only [List.setIfInBounds_toArray]); (try simp only [List.set_cons_succ]); (try simp only [List.set_cons_zero]))
  refine take_yes (i := 3) (v := ?_) (some 10) rfl rfl (by kernel_rfl) (by kernel_rfl) (by kernel_rfl) (fun _ _ _ h => h) (Or.inl ⟨by rfl, ?_⟩) (by assumption) ?_
  rotate_left
  · (intro w hSw; (try dsimp only at hSw); go_simp <;> (try with_reducible rfl))
  ((try simp only [Act.put]); (try simp only [List.setIfInBounds_toArray]); (try simp only [List.set_cons_succ]); (try simp only [List.set_cons_zero]))
  refine take_yes (i := 4) (v := ?_) (some 11) rfl rfl (by kernel_rfl) (by kernel_rfl) (by kernel_rfl) (fun _ _ _ h => h) (Or.inl ⟨by rfl, ?_⟩) (by assumption) ?_
  rotate_left
  · (intro w hSw; (try dsimp only at hSw); go_simp <;> (try with_reducible rfl))
  ((try simp only [Act.put]); (try simp only [List.setIfInBounds_toArray]); (try simp only [List.set_cons_succ]); (try simp only [List.set_cons_zero]))
  refine wpAnyH_done (by kernel_rfl) ?_ _
  go_wp2
  exact bodyPost_ret (v := .tuple #[_, .agg LK, _, _]) (results_rec rfl rfl (load_words HZ.out.1 ha hi)) rfl ⟨rfl, HZ.out.2.1⟩

set_option maxRecDepth 100000 in
set_option maxHeartbeats 4000000 in
/-- Where log.body has a record whole, with the link that should be there, it is read. -/
theorem record_good {w : World} {pv : Value} {x : Int} {r : Int} {load lk link : List Int} {known : Bool} (hm1 : 1 ≤ load.length) (hm2 : load.length ≤ 4096) (hlb : Byts load) (hlk : lk.length = 32) (hlink : link.length = 32) (hlinkb : Byts link) (hkn : known = true → chainF link load = lk)
    (cb : ∀ W : World, Kp (fun _ => False) w W → Calls Tryz.prog 87 #[pv, .int .i64 r] W fun e w' => ∃ v, e = .returned (.tuple #[v, .int .i64 x, .bool true]) ∧ Own8 w' W.heap.size v (lbodyF load lk) ∧ Kp (fun _ => False) W w') :
    Calls Tryz.prog 61 #[pv, .int .i64 r, .agg (byteVals link).toArray, .bool known] w fun e w' => ∃ v, e = .returned (.tuple #[v, .agg (byteVals lk).toArray, .int .i64 x, .bool true]) ∧ BytesAt w' (fun k => k < w.heap.size) v load ∧ Kp (fun _ => False) w w' := by
  obtain ⟨LK, hLK⟩ : ∃ L, (byteVals link).toArray = L := ⟨_, rfl⟩
  obtain ⟨DK, hDK⟩ : ∃ L, (byteVals lk).toArray = L := ⟨_, rfl⟩
  have hDs : DK.size = 32 := by rw [← hDK, List.size_toArray, byteVals_length, hlk]
  have hD1 : ∀ x ∈ DK.toList, x.oneCell' = true := by rw [← hDK]; exact bytes_one _
  have hDi : (Tryz.prog.info? 74).map (·.size) = some DK.size := by rw [hDs]; kernel_rfl
  have hLs : LK.size = 32 := by rw [← hLK, List.size_toArray, byteVals_length, hlink]
  have hLi : (Tryz.prog.info? 74).map (·.size) = some LK.size := by rw [hLs]; kernel_rfl
  have ha : ∀ w, (isAgg 74).run Tryz.prog w = .ok true w := fun w => isAgg_run (Tryz.underlying74) rfl w
  obtain ⟨m, hm⟩ : ∃ m, load.length = m := ⟨_, rfl⟩
  rw [hm] at hm1 hm2
  rw [hLK, hDK]
  have HS := Lib.hid (And.intro hLK (And.intro hDK (And.intro hlb (And.intro hlk (And.intro hlink (And.intro hlinkb (And.intro hkn hm)))))))
  clear hLK hDK hlb hlk hlink hlinkb hkn hm
  go_enter Tryz.func61, Tryz.ntmps61
  go_wp2_with (go_at_call 87; refine Hid.out ?_)
  refine Lib.hid ?_
  obtain ⟨w1, hw1⟩ : ∃ w1, (w.alloc (Obj.cells LK 74)).alloc (Obj.cells (byteVals (List.replicate 32 0)).toArray 74) = w1 := ⟨_, rfl⟩
  have hk1 : Kp (fun _ => False) w w1 := by rw [← hw1]; exact ((Kp.refl _ w).alloc _).alloc _
  have hb1 : w1.heap[w.heap.size]? = some (.cells LK 74 (0, 0)) := by
    rw [← hw1]; exact ((Kp.refl (fun _ => False) (w.alloc (Obj.cells LK 74))).alloc _).blk (heap_alloc_new w _) id
  have hb2 : w1.heap[w.heap.size + 1]? = some (.cells (byteVals (List.replicate 32 0)).toArray 74 (0, 0)) := by
    rw [← hw1]; have := heap_alloc_new (w.alloc (Obj.cells LK 74)) (Obj.cells (byteVals (List.replicate 32 0)).toArray 74)
    rw [World.size_alloc] at this; exact this
  have ccb := cb w1 hk1
  have hs1 : w1.heap.size = w.heap.size + 2 := by rw [← hw1]; simp
  have H1 := Lib.hid (And.intro hk1 (And.intro hb1 (And.intro hb2 hs1)))
  clear hk1 hb1 hb2 cb hs1
  change Calls _ _ _ ((w.alloc (Obj.cells LK 74)).alloc (Obj.cells (byteVals (List.replicate 32 0)).toArray 74)) _
  rw [hw1]
  clear hw1
  refine ccb.mono ?_
  clear ccb
  rintro e w2 ⟨v, rfl, ho, hk2⟩
  have hbl := lbodyF_length load HS.out.2.2.2.1
  rw [HS.out.2.2.2.2.2.2.2] at hbl
  obtain ⟨L, hL⟩ : ∃ L, m + 36 = L := ⟨_, rfl⟩
  obtain ⟨M4, hM4⟩ : ∃ M, m + 4 = M := ⟨_, rfl⟩
  rw [hL] at hbl
  obtain ⟨g, cap, rfl⟩ : ∃ g cap, v = .slice (some ⟨g, 0, none⟩) L cap := by
    obtain ⟨_, ⟨_, h0⟩ | ⟨g, cap, cur, e, _⟩⟩ := ho
    · omega
    · exact ⟨g, cap, by rw [e, hbl]⟩
  have hat : BytesAt w2 (fun k => k < w.heap.size + 2) (.slice (some ⟨g, 0, none⟩) L cap) (lbodyF load lk) := ho.at_ fun k hk => by have := H1.out.2.2.2; omega
  have hcap := hat.len.2
  have hgB := ho.lt g rfl
  have hp0 := hat.take (k := m) (by omega)
  have hp1 := hat.part (i := m) (k := 4) (by omega)
  have hp2 := hat.part (i := m + 4) (k := 32) (by omega)
  have e0 : (lbodyF load lk).take m = load := by unfold lbodyF; rw [List.append_assoc, List.take_append_of_le_length (by rw [HS.out.2.2.2.2.2.2.2]; exact Nat.le_refl _), List.take_of_length_le (by rw [HS.out.2.2.2.2.2.2.2]; exact Nat.le_refl _)]
  have e1 : ((lbodyF load lk).drop m).take 4 = tail4 (crcF load) := by unfold lbodyF; rw [← HS.out.2.2.2.2.2.2.2, List.append_assoc, List.drop_left]; exact List.take_left' (by simp [tail4])
  have e2 : ((lbodyF load lk).drop (m + 4)).take 32 = lk := by
    unfold lbodyF
    rw [List.drop_left' (by rw [List.length_append, HS.out.2.2.2.2.2.2.2]; simp [tail4]), List.take_of_length_le (by rw [HS.out.2.2.2.1]; exact Nat.le_refl _)]
  rw [e0] at hp0
  rw [e1, Nat.zero_add] at hp1
  rw [e2, Nat.zero_add, hM4] at hp2
  obtain ⟨B, hB⟩ : ∃ B, w.heap.size = B := ⟨_, rfl⟩
  obtain ⟨B3, hB3⟩ : ∃ B, w2.heap.size = B := ⟨_, rfl⟩
  have hL4 : L - M4 = 32 := by omega
  have hDc : ∀ j v, DK.toList[j]? = some v → w2.cell? ⟨g, M4 + j, none⟩ = some v := fun j v hj => by
    rw [← HS.out.2.1] at hj
    simp only [byteVals, List.getElem?_map, Option.map_eq_some_iff] at hj
    obtain ⟨x, hx, rfl⟩ := hj
    obtain ⟨b', o', e, hc⟩ := hp2.at_ j x hx
    injection e with e
    injection e with ea eb _
    subst ea eb
    exact hc
  obtain ⟨w4, hw4⟩ : ∃ w4, (w2.drew.alloc (Obj.cells (byteVals (List.replicate 32 0)).toArray 74)).setRow B3 DK = w4 := ⟨_, rfl⟩
  have hk24 : Kp (fun _ => False) w2 w4 := by rw [← hw4]; exact (((Kp.refl _ w2).drew).alloc _).setRow (.inr (by omega)) DK
  have hn3 : (w2.drew.alloc (Obj.cells (byteVals (List.replicate 32 0)).toArray 74)).heap[B3]? = some (.cells (byteVals (List.replicate 32 0)).toArray 74 (0, 0)) := by rw [← hB3]; exact heap_alloc_new w2.drew _
  have hD4 : w4.heap[B3]? = some (.cells DK 74 (0, 0)) := by rw [← hw4]; exact setRow_blk hn3
  have hL4' : w4.heap[B]? = some (.cells LK 74 (0, 0)) := by rw [← hB]; exact hk24.blk (hk2.blk H1.out.2.1 id) id
  have hZ4 : w4.heap[B + 1]? = some (.cells (byteVals (List.replicate 32 0)).toArray 74 (0, 0)) := by rw [← hB]; exact hk24.blk (hk2.blk H1.out.2.2.1 id) id
  have hBB : B + 2 ≤ B3 := by have := hk2.size; have := H1.out.2.2.2; omega
  have H4 := Lib.hid (And.intro (H1.out.1.trans (hk2.trans hk24)) (And.intro hD4 (And.intro hL4' (And.intro hZ4 (And.intro (hp0.kept (hk24.mono fun _ h => h.elim) (F' := fun k => k < w.heap.size + 2) fun _ h => .inl h) (And.intro (hp1.kept (hk24.mono fun _ h => h.elim) (F' := fun k => k < w.heap.size + 2) fun _ h => .inl h) (And.intro hw4 (And.intro hB (And.intro hB3 hBB)))))))))
  have HDC := Lib.hid (And.intro hDc (And.intro hn3 fun j v hj => hk24.cell (hDc j v hj) id))
  have hLm : (L : Int) - 36 = (m : Int) := by omega
  have hwM : IntKind.i64.wrap ((m : Int) + 4) = (M4 : Int) := by rw [IntWalk.i64_in _ (by omega)]; omega
  have hd1 : decide ((m : Int) < 1) = false := decide_eq_false (by omega)
  have hd2 : decide ((m : Int) > 4096) = false := decide_eq_false (by omega)
  have hmM : (m : Int) ≤ (M4 : Int) := by omega
  have hML : (M4 : Int) ≤ (L : Int) := by omega
  have hMC : (M4 : Int) ≤ (cap : Int) := by omega
  have hmC : (m : Int) ≤ (cap : Int) := by omega
  have hmL : (m : Int) ≤ (L : Int) := by omega
  have hcm : ¬ cap = m := by omega
  have hcM : ¬ cap = M4 := by omega
  have hMm : M4 - m = 4 := by omega
  simp only [hB]
  clear H1 hk2 hk24 hn3 hD4 hL4' hZ4 hDc hw4 hB hp0 hp1 hp2 hat ho hbl e0 e1 e2 hL hM4 hBB hgB
  go_upto_region 5 with fail
  refine wp_region_held_drew (S := (fun w' => ∀ j v, DK.toList[j]? = some v → w'.cell? ⟨g, M4 + j, none⟩ = some v)) (by kernel_rfl) HDC.out.1 (fun hHeld => ?_)
  refine take_yes (i := 0) (v := ?_) (some 40) rfl rfl (by kernel_rfl) (by kernel_rfl) (by kernel_rfl) (fun _ _ _ h => h) (Or.inl ⟨by rfl, ?_⟩) (by assumption) ?_
  rotate_left
  · (intro w hSw; (try dsimp only at hSw); go_simp <;> (try with_reducible rfl))
  ((try simp only [Act.put]); (try simp only [List.setIfInBounds_toArray]); (try simp only [List.set_cons_succ]); (try simp only [List.set_cons_zero]))
  refine take_yes (i := 1) (v := ?_) (some 41) rfl rfl (by kernel_rfl) (by kernel_rfl) (by kernel_rfl) (fun _ _ _ h => h) (Or.inl ⟨by rfl, ?_⟩) (by assumption) ?_
  rotate_left
  · (intro w hSw; (try dsimp only at hSw); go_simp <;> (try with_reducible rfl))
  ((try simp only [Act.put]); (try simp only [List.setIfInBounds_toArray]); (try simp only [List.set_cons_succ]); (try simp only [List.set_cons_zero]))
  refine take_yes (i := 2) (v := ?_) (some 42) rfl rfl (by kernel_rfl) (by kernel_rfl) (by kernel_rfl) (fun _ _ _ h => h) (Or.inl ⟨by rfl, ?_⟩) (by assumption) ?_
  rotate_left
  · (intro w hSw; (try dsimp only at hSw); go_simp <;> (try with_reducible rfl))
  ((try simp only [Act.put]); (try simp only [List.setIfInBounds_toArray]); (try simp only [List.set_cons_succ]); (try simp only [List.set_cons_zero]))
  refine take_yes (i := 3) (v := ?_) (some 43) rfl rfl (by kernel_rfl) (by kernel_rfl) (by kernel_rfl) (fun _ _ _ h => h) (Or.inl ⟨by rfl, ?_⟩) (by assumption) ?_
  rotate_left
  · (intro w hSw; (try dsimp only at hSw); go_simp <;> (try with_reducible rfl))
  ((try simp only [Act.put]); (try simp only [List.setIfInBounds_toArray]); (try simp only [List.set_cons_succ]); (try simp only [List.set_cons_zero]))
  refine take_yes (i := 4) (v := ?_) (some 44) rfl rfl (by kernel_rfl) (by kernel_rfl) (by kernel_rfl) (fun _ _ _ h => h) (Or.inl ⟨by rfl, ?_⟩) (by assumption) ?_
  rotate_left
  · (intro w hSw; (try dsimp only at hSw); go_simp <;> (try with_reducible rfl))
  ((try simp only [Act.put]); (try simp only [List.setIfInBounds_toArray]); (try simp only [List.set_cons_succ]); (try simp only [List.set_cons_zero]))
  refine take_yes (i := 5) (v := ?_) (some 45) rfl rfl (by kernel_rfl) (by kernel_rfl) (by kernel_rfl) (fun _ _ _ h => h) (Or.inl ⟨by rfl, ?_⟩) (by assumption) ?_
  rotate_left
  · (intro w hSw; (try dsimp only at hSw); go_simp <;> (try with_reducible rfl))
  ((try simp only [Act.put]); (try simp only [List.setIfInBounds_toArray]); (try simp only [List.set_cons_succ]); (try simp only [List.set_cons_zero]))
  refine take_yes (i := 6) (v := ?_) (some 46) rfl rfl (by kernel_rfl) (by kernel_rfl) (by kernel_rfl) (fun _ _ _ h => h) (Or.inl ⟨by rfl, ?_⟩) (by assumption) ?_
  rotate_left
  · (intro w hSw; (try dsimp only at hSw); go_simp <;> (try with_reducible rfl))
  ((try simp only [Act.put]); (try simp only [List.setIfInBounds_toArray]); (try simp only [List.set_cons_succ]); (try simp only [List.set_cons_zero]))
  refine take_yes (i := 7) (v := ?_) (some 47) rfl rfl (by kernel_rfl) (by kernel_rfl) (by kernel_rfl) (fun _ _ _ h => h) (Or.inl ⟨by rfl, ?_⟩) (by assumption) ?_
  rotate_left
  · (intro w hSw; (try dsimp only at hSw); go_simp <;> (try with_reducible rfl))
  ((try simp only [Act.put]); (try simp only [List.setIfInBounds_toArray]); (try simp only [List.set_cons_succ]); (try simp only [List.set_cons_zero]))
  refine take_yes (i := 8) (v := ?_) (some 48) rfl rfl (by kernel_rfl) (by kernel_rfl) (by kernel_rfl) (fun _ _ _ h => h) (Or.inl ⟨by rfl, ?_⟩) (by assumption) ?_
  rotate_left
  · (intro w hSw; (try dsimp only at hSw); go_simp <;> (try with_reducible rfl))
  ((try simp only [Act.put]); (try simp only [List.setIfInBounds_toArray]); (try simp only [List.set_cons_succ]); (try simp only [List.set_cons_zero]))
  refine take_yes (i := 9) (v := ?_) (some 49) rfl rfl (by kernel_rfl) (by kernel_rfl) (by kernel_rfl) (fun _ _ _ h => h) (Or.inl ⟨by rfl, ?_⟩) (by assumption) ?_
  rotate_left
  · (intro w hSw; (try dsimp only at hSw); go_simp <;> (try with_reducible rfl))
  ((try simp only [Act.put]); (try simp only [List.setIfInBounds_toArray]); (try simp only [List.set_cons_succ]); (try simp only [List.set_cons_zero]))
  refine take_yes (i := 10) (v := ?_) (some 50) rfl rfl (by kernel_rfl) (by kernel_rfl) (by kernel_rfl) (fun _ _ _ h => h) (Or.inl ⟨by rfl, ?_⟩) (by assumption) ?_
  rotate_left
  · (intro w hSw; (try dsimp only at hSw); go_simp <;> (try with_reducible rfl))
  ((try simp only [Act.put]); (try simp only [List.setIfInBounds_toArray]); (try simp only [List.set_cons_succ]); (try simp only [List.set_cons_zero]))
  refine take_yes (i := 11) (v := ?_) (some 51) rfl rfl (by kernel_rfl) (by kernel_rfl) (by kernel_rfl) (fun _ _ _ h => h) (Or.inl ⟨by rfl, ?_⟩) (by assumption) ?_
  rotate_left
  · (intro w hSw; (try dsimp only at hSw); go_simp <;> (try with_reducible rfl))
  ((try simp only [Act.put]); (try simp only [List.setIfInBounds_toArray]); (try simp only [List.set_cons_succ]); (try simp only [List.set_cons_zero]))
  refine take_yes (i := 12) (v := .pointer (some ⟨g, M4, none⟩)) (some 52) rfl rfl (by kernel_rfl) (by kernel_rfl) (by kernel_rfl) (fun _ _ _ h => h) (Or.inl ⟨by rfl, ?_⟩) (by assumption) ?_
  · exact fun w _ => array_take (n := 32) (Nat.le_refl _) _ rfl (by rfl)
  ((try simp only [Act.put]); (try simp only [List.setIfInBounds_toArray]); (try simp only [List.set_cons_succ]); (try simp only [List.set_cons_zero]))
  refine take_yes (i := 13) (v := .agg DK) (some 53) rfl rfl (by kernel_rfl) (by kernel_rfl) (by kernel_rfl) (fun _ _ _ h => h) (Or.inl ⟨by rfl, ?_⟩) (by assumption) ?_
  · exact fun w hSw => load_take _ _ rfl (by rfl) hSw ha hDi
  ((try simp only [Act.put]); (try simp only [List.setIfInBounds_toArray]); (try simp only [List.set_cons_succ]); (try simp only [List.set_cons_zero]))
  refine wpAnyH_ready (rs := [14]) (by kernel_rfl) (by simp) ?_
  refine AllReadyH.cons (o := _) rfl (fun K hK => ?_) AllReadyH.nil
  go_simp
  skip
  refine hK.out _ _ (fun j v hj => ((Kp.refl (fun _ => False) w2.drew).alloc _).cell (HDC.out.1 j v hj) id) (fun hHeld => ?_)
  clear hK K
  ((try simp only [Act.put]); (try simp only [List.setIfInBounds_toArray]); (try simp only [List.set_cons_succ]); (try simp only [List.set_cons_zero]))
  refine take_yes (i := 15) (v := ?_) (some 16) rfl rfl (by kernel_rfl) (by kernel_rfl) (by kernel_rfl) (fun _ _ _ h => h) (Or.inl ⟨by rfl, ?_⟩) (by assumption) ?_
  rotate_left
  · (intro w hSw; (try dsimp only at hSw); go_simp <;> (try with_reducible rfl))
  ((try simp only [Act.put]); (try simp only [List.setIfInBounds_toArray]); (try simp only [List.set_cons_succ]); (try simp only [List.set_cons_zero]))
  refine take_yes (i := 16) (v := ?_) (some 17) rfl rfl (by kernel_rfl) (by kernel_rfl) (by kernel_rfl) (fun _ _ _ h => h) (Or.inl ⟨by rfl, ?_⟩) (by assumption) ?_
  rotate_left
  · (intro w hSw; (try dsimp only at hSw); go_simp <;> (try with_reducible rfl))
  ((try simp only [Act.put]); (try simp only [List.setIfInBounds_toArray]); (try simp only [List.set_cons_succ]); (try simp only [List.set_cons_zero]))
  refine wpAnyH_ready (rs := [17]) (by kernel_rfl) (by simp) ?_
  refine AllReadyH.cons (o := _) rfl (fun K hK => ?_) AllReadyH.nil
  skip
  (refine step_store_agg rfl _ _ _ rfl rfl rfl HDC.out.2.1 hDi (by rw [hDs]; rfl) hD1 ?_; change K _ ((w2.drew.alloc (Obj.cells (byteVals (List.replicate 32 0)).toArray 74)).setRow B3 DK); rw [H4.out.2.2.2.2.2.2.1])
  refine hK.out _ _ HDC.out.2.2 (fun hHeld => ?_)
  clear hK K
  ((try simp only [Act.put]); (try simp only [List.setIfInBounds_toArray]); (try simp only [List.set_cons_succ]); (try simp only [List.set_cons_zero]))
  refine wpAnyH_done (by kernel_rfl) ?_ _
  obtain ⟨q, hq⟩ : ∃ q, crcF load = q := ⟨_, rfl⟩
  have hqr : 0 ≤ q ∧ q ≤ 4294967295 := by rw [← hq]; exact bits_u32 _ _ _
  obtain ⟨w5, hw5⟩ : ∃ w5, w4.drew.alloc (Obj.cells (byteVals (tail4 q)).toArray 5) = w5 := ⟨_, rfl⟩
  have hk5 : Kp (fun _ => False) w4 w5 := by rw [← hw5]; exact (Kp.refl _ w4).drew.alloc _
  have hp15 := H4.out.2.2.2.2.2.1.kept (hk5.mono fun _ h => h.elim) (F' := fun k => k < w.heap.size + 2) fun _ h => .inl h
  have hp05 := H4.out.2.2.2.2.1.kept (hk5.mono fun _ h => h.elim) (F' := fun k => k < w.heap.size + 2) fun _ h => .inl h
  rw [hq] at hp15
  have hnb : BytesAt w5 (fun _ => False) (.slice (some ⟨w4.drew.heap.size, 0, none⟩) 4 4) (tail4 q) := by rw [← hw5]; exact row_bytes w4.drew (tail4 q) _ fun _ h => h.elim
  have hS4 : (∀ j v, DK.toList[j]? = some v → w4.drew.cell? ⟨B3, 0 + j, none⟩ = some v) ∧ (∀ j v, LK.toList[j]? = some v → w4.drew.cell? ⟨B, 0 + j, none⟩ = some v) :=
    ⟨fun j v hj => by rw [Nat.zero_add]; exact (blk_cell H4.out.2.1 j).trans (by simpa using hj), fun j v hj => by rw [Nat.zero_add]; exact (blk_cell H4.out.2.2.1 j).trans (by simpa using hj)⟩
  have hS5 : (∀ j v, DK.toList[j]? = some v → w5.cell? ⟨B3, 0 + j, none⟩ = some v) ∧ (∀ j v, LK.toList[j]? = some v → w5.cell? ⟨B, 0 + j, none⟩ = some v) :=
    ⟨fun j v hj => hk5.cell (hS4.1 j v hj) id, fun j v hj => hk5.cell (hS4.2 j v hj) id⟩
  have HQ := Lib.hid (And.intro hq (And.intro hw5 (And.intro hk5 (And.intro hp15 (And.intro hp05 (And.intro hnb (And.intro hS4 hS5)))))))
  clear hq hw5 hk5 hp15 hp05 hnb hS4 hS5
  cases known
  · go_upto_region 6 with fail
    refine wp_region_held_drew (S := (fun w' => (∀ j v, DK.toList[j]? = some v → w'.cell? ⟨B3, 0 + j, none⟩ = some v) ∧ (∀ j v, LK.toList[j]? = some v → w'.cell? ⟨B, 0 + j, none⟩ = some v))) (by kernel_rfl) HQ.out.2.2.2.2.2.2.1 (fun hHeld => ?_)
    refine take_yes (i := 0) (v := ?_) (some 54) rfl rfl (by kernel_rfl) (by kernel_rfl) (by kernel_rfl) (fun _ _ _ h => h) (Or.inl ⟨by rfl, ?_⟩) (by assumption) ?_
    rotate_left
    · (intro w hSw; (try dsimp only at hSw); go_simp <;> (try with_reducible rfl))
    ((try simp only [Act.put]); (try simp only [List.setIfInBounds_toArray]); (try simp only [List.set_cons_succ]); (try simp only [List.set_cons_zero]))
    refine take_yes (i := 1) (v := ?_) (some 55) rfl rfl (by kernel_rfl) (by kernel_rfl) (by kernel_rfl) (fun _ _ _ h => h) (Or.inl ⟨by rfl, ?_⟩) (by assumption) ?_
    rotate_left
    · (intro w hSw; (try dsimp only at hSw); go_simp <;> (try with_reducible rfl))
    ((try simp only [Act.put]); (try simp only [List.setIfInBounds_toArray]); (try simp only [List.set_cons_succ]); (try simp only [List.set_cons_zero]))
    refine wpAnyH_ready (rs := [2]) (by kernel_rfl) (by simp) ?_
    refine AllReadyH.cons (o := _) rfl (fun K hK => ?_) AllReadyH.nil
    go_simp
    (go_at_call 68; refine (Crc_any (H4.out.2.2.2.2.1.kept (Kp.refl (fun k => k < w.heap.size + 2) w4).drew (F' := fun k => k < w.heap.size + 2) fun _ h => .inl h) HS.out.2.2.1 (by omega)).mono ?_; rintro e w' ⟨rfl, rfl⟩; rw [HQ.out.1])
    refine hK.out _ _ HQ.out.2.2.2.2.2.2.1 (fun hHeld => ?_)
    clear hK K
    ((try simp only [Act.put]); (try simp only [List.setIfInBounds_toArray]); (try simp only [List.set_cons_succ]); (try simp only [List.set_cons_zero]))
    refine wpAnyH_ready (rs := [3]) (by kernel_rfl) (by simp) ?_
    refine AllReadyH.cons (o := _) rfl (fun K hK => ?_) AllReadyH.nil
    go_simp
    (go_at_call 67; refine (number_any w4.drew hqr).mono ?_; rintro e w' ⟨rfl, rfl⟩; rw [HQ.out.2.1])
    refine hK.out _ _ HQ.out.2.2.2.2.2.2.2 (fun hHeld => ?_)
    clear hK K
    ((try simp only [Act.put]); (try simp only [List.setIfInBounds_toArray]); (try simp only [List.set_cons_succ]); (try simp only [List.set_cons_zero]))
    refine wpAnyH_ready (rs := [4]) (by kernel_rfl) (by simp) ?_
    refine AllReadyH.cons (o := _) rfl (fun K hK => ?_) AllReadyH.nil
    go_simp
    (go_at_call 88; refine (Equal_same HQ.out.2.2.2.1 HQ.out.2.2.2.2.2.1).mono ?_; rintro e w' ⟨rfl, rfl⟩)
    refine hK.out _ _ HQ.out.2.2.2.2.2.2.2 (fun hHeld => ?_)
    clear hK K
    ((try simp only [Act.put]); (try simp only [List.setIfInBounds_toArray]); (try simp only [List.set_cons_succ]); (try simp only [List.set_cons_zero]))
    refine take_yes (i := 5) (v := ?_) (some 59) rfl rfl (by kernel_rfl) (by kernel_rfl) (by kernel_rfl) (fun _ _ _ h => h) (Or.inl ⟨by rfl, ?_⟩) (by assumption) ?_
    rotate_left
    · (intro w hSw; (try dsimp only at hSw); go_simp <;> (try with_reducible rfl))
    ((try simp only [Act.put]); (try simp only [List.setIfInBounds_toArray]); (try simp only [List.set_cons_succ]); (try simp only [List.set_cons_zero]))
    refine take_yes (i := 6) (v := ?_) (some 60) rfl rfl (by kernel_rfl) (by kernel_rfl) (by kernel_rfl) (fun _ _ _ h => h) (Or.inl ⟨by rfl, ?_⟩) (by assumption) ?_
    rotate_left
    · (intro w hSw; (try dsimp only at hSw); go_simp <;> (try with_reducible rfl))
    ((try simp only [Act.put]); (try simp only [List.setIfInBounds_toArray]); (try simp only [List.set_cons_succ]); (try simp only [List.set_cons_zero]))
    refine take_yes (i := 7) (v := ?_) (some 61) rfl rfl (by kernel_rfl) (by kernel_rfl) (by kernel_rfl) (fun _ _ _ h => h) (Or.inl ⟨by rfl, ?_⟩) (by assumption) ?_
    rotate_left
    · (intro w hSw; (try dsimp only at hSw); go_simp <;> (try with_reducible rfl))
    ((try simp only [Act.put]); (try simp only [List.setIfInBounds_toArray]); (try simp only [List.set_cons_succ]); (try simp only [List.set_cons_zero]))
    refine take_yes (i := 8) (v := ?_) (some 62) rfl rfl (by kernel_rfl) (by kernel_rfl) (by kernel_rfl) (fun _ _ _ h => h) (Or.inl ⟨by rfl, ?_⟩) (by assumption) ?_
    rotate_left
    · (intro w hSw; (try dsimp only at hSw); go_simp <;> (try with_reducible rfl))
    ((try simp only [Act.put]); (try simp only [List.setIfInBounds_toArray]); (try simp only [List.set_cons_succ]); (try simp only [List.set_cons_zero]))
    refine take_no (i := 9) (some 63) rfl rfl (by kernel_rfl) (by kernel_rfl) (by kernel_rfl) (fun _ _ _ h => h) (by kernel_rfl) (by assumption) ?_
    ((try simp only [Act.put]); (try simp only [List.setIfInBounds_toArray]); (try simp only [List.set_cons_succ]); (try simp only [List.set_cons_zero]))
    refine take_no (i := 10) (some 64) rfl rfl (by kernel_rfl) (by kernel_rfl) (by kernel_rfl) (fun _ _ _ h => h) (by kernel_rfl) (by assumption) ?_
    ((try simp only [Act.put]); (try simp only [List.setIfInBounds_toArray]); (try simp only [List.set_cons_succ]); (try simp only [List.set_cons_zero]))
    refine take_no (i := 11) (some 65) rfl rfl (by kernel_rfl) (by kernel_rfl) (by kernel_rfl) (fun _ _ _ h => h) (by kernel_rfl) (by assumption) ?_
    ((try simp only [Act.put]); (try simp only [List.setIfInBounds_toArray]); (try simp only [List.set_cons_succ]); (try simp only [List.set_cons_zero]))
    refine take_no (i := 12) (some 66) rfl rfl (by kernel_rfl) (by kernel_rfl) (by kernel_rfl) (fun _ _ _ h => h) (by kernel_rfl) (by assumption) ?_
    ((try simp only [Act.put]); (try simp only [List.setIfInBounds_toArray]); (try simp only [List.set_cons_succ]); (try simp only [List.set_cons_zero]))
    refine take_no (i := 13) (some 67) rfl rfl (by kernel_rfl) (by kernel_rfl) (by kernel_rfl) (fun _ _ _ h => h) (by kernel_rfl) (by assumption) ?_
    ((try simp only [Act.put]); (try simp only [List.setIfInBounds_toArray]); (try simp only [List.set_cons_succ]); (try simp only [List.set_cons_zero]))
    refine take_yes (i := 14) (v := ?_) (some 68) rfl rfl (by kernel_rfl) (by kernel_rfl) (by kernel_rfl) (fun _ _ _ h => h) (Or.inl ⟨by rfl, ?_⟩) (by assumption) ?_
    rotate_left
    · (intro w hSw; (try dsimp only at hSw); go_simp <;> (try with_reducible rfl))
    ((try simp only [Act.put]); (try simp only [List.setIfInBounds_toArray]); (try simp only [List.set_cons_succ]); (try simp only [List.set_cons_zero]))
    refine take_yes (i := 15) (v := ?_) (some 69) rfl rfl (by kernel_rfl) (by kernel_rfl) (by kernel_rfl) (fun _ _ _ h => h) (Or.inl ⟨by rfl, ?_⟩) (by assumption) ?_
    rotate_left
    · (intro w hSw; (try dsimp only at hSw); go_simp <;> (try with_reducible rfl))
    ((try simp only [Act.put]); (try simp only [List.setIfInBounds_toArray]); (try simp only [List.set_cons_succ]); (try simp only [List.set_cons_zero]))
    refine wpAnyH_done (by kernel_rfl) ?_ _
    have hkX : Kp (fun _ => False) w4 w5 := HQ.out.2.2.1
    have hzx : w5.drew.heap[B + 1]? = some (.cells (byteVals (List.replicate 32 0)).toArray 74 (0, 0)) := hkX.blk H4.out.2.2.2.1 id
    have hdx : ∀ j v, DK.toList[j]? = some v → w5.drew.cell? ⟨B3, 0 + j, none⟩ = some v := HQ.out.2.2.2.2.2.2.2.1
    have hfz := setRow_blk (cs := DK) hzx
    have hBs : w.heap.size = B := H4.out.2.2.2.2.2.2.2.1
    have hkz : Kp (fun _ => False) w (w5.drew.setRow (B + 1) DK) := Kp.setRow (H4.out.1.trans hkX).drew (.inr (by omega)) DK
    have hpz := (H4.out.2.2.2.2.1.kept (Kp.setRow (F := fun k => k < w.heap.size + 2) (hkX.drew.mono fun _ h => h.elim) (g := B + 1) (.inl (by omega)) DK) (F' := fun k => k < w.heap.size + 2) fun _ h => .inl h).mono (F' := fun k => k < w.heap.size) fun k hk => by omega
    have HZ := Lib.hid (And.intro hfz (And.intro hkz hpz))
    have hdz : ∀ j v, DK.toList[j]? = some v → (w5.drew.setRow (B + 1) DK).cell? ⟨B3, 0 + j, none⟩ = some v := fun j v hj => by
      rw [Nat.zero_add]
      exact (blk_cell ((setRow_other w5.drew (B + 1) B3 _ (by have := H4.out.2.2.2.2.2.2.2.2.2; omega)).trans (hkX.drew.blk H4.out.2.1 id)) j).trans (by simpa using hj)
    have HDX := Lib.hid (And.intro hdx hdz)
    clear hkX hdx hdz hfz hBs hkz hpz
    go_upto_region 8 with fail
    refine wp_region_held_drew (S := (fun w' => ∀ j v, DK.toList[j]? = some v → w'.cell? ⟨B3, 0 + j, none⟩ = some v)) (by kernel_rfl) HDX.out.1 (fun hHeld => ?_)
    refine take_yes (i := 0) (v := ?_) (some 71) rfl rfl (by kernel_rfl) (by kernel_rfl) (by kernel_rfl) (fun _ _ _ h => h) (Or.inl ⟨by rfl, ?_⟩) (by assumption) ?_
    rotate_left
    · (intro w hSw; (try dsimp only at hSw); go_simp <;> (try with_reducible rfl))
    ((try simp only [Act.put]); (try simp only [List.setIfInBounds_toArray]); (try simp only [List.set_cons_succ]); (try simp only [List.set_cons_zero]))
    refine take_yes (i := 1) (v := .agg DK) (some 72) rfl rfl (by kernel_rfl) (by kernel_rfl) (by kernel_rfl) (fun _ _ _ h => h) (Or.inl ⟨by rfl, ?_⟩) (by assumption) ?_
    · exact fun w hSw => load_take _ _ rfl (by rfl) hSw ha hDi
    ((try simp only [Act.put]); (try simp only [List.setIfInBounds_toArray]); (try simp only [List.set_cons_succ]); (try simp only [List.set_cons_zero]))
    refine take_yes (i := 2) (v := ?_) (some 73) rfl rfl (by kernel_rfl) (by kernel_rfl) (by kernel_rfl) (fun _ _ _ h => h) (Or.inl ⟨by rfl, ?_⟩) (by assumption) ?_
    rotate_left
    · (intro w hSw; (try dsimp only at hSw); go_simp <;> (try with_reducible rfl))
    ((try simp only [Act.put]); (try simp only [List.setIfInBounds_toArray]); (try simp only [List.set_cons_succ]); (try simp only [List.set_cons_zero]))
    refine take_yes (i := 3) (v := ?_) (some 8) rfl rfl (by kernel_rfl) (by kernel_rfl) (by kernel_rfl) (fun _ _ _ h => h) (Or.inl ⟨by rfl, ?_⟩) (by assumption) ?_
    rotate_left
    · (intro w hSw; (try dsimp only at hSw); go_simp <;> (try with_reducible rfl))
    ((try simp only [Act.put]); (try simp only [List.setIfInBounds_toArray]); (try simp only [List.set_cons_succ]); (try simp only [List.set_cons_zero]))
    refine wpAnyH_ready (rs := [4]) (by kernel_rfl) (by simp) ?_
    refine AllReadyH.cons (o := _) rfl (fun K hK => ?_) AllReadyH.nil
    skip
    refine step_store_agg rfl _ _ _ rfl rfl rfl hzx hDi (by rw [hDs]; rfl) hD1 ?_
    refine hK.out _ _ HDX.out.2 (fun hHeld => ?_)
    clear hK K
    ((try simp only [Act.put]); (try simp only [List.setIfInBounds_toArray]); (try simp only [List.set_cons_succ]); (try simp only [List.set_cons_zero]))
    refine take_yes (i := 5) (v := ?_) (some 10) rfl rfl (by kernel_rfl) (by kernel_rfl) (by kernel_rfl) (fun _ _ _ h => h) (Or.inl ⟨by rfl, ?_⟩) (by assumption) ?_
    rotate_left
    · (intro w hSw; (try dsimp only at hSw); go_simp <;> (try with_reducible rfl))
    ((try simp only [Act.put]); (try simp only [List.setIfInBounds_toArray]); (try simp only [List.set_cons_succ]); (try simp only [List.set_cons_zero]))
    refine take_yes (i := 6) (v := ?_) (some 11) rfl rfl (by kernel_rfl) (by kernel_rfl) (by kernel_rfl) (fun _ _ _ h => h) (Or.inl ⟨by rfl, ?_⟩) (by assumption) ?_
    rotate_left
    · (intro w hSw; (try dsimp only at hSw); go_simp <;> (try with_reducible rfl))
    ((try simp only [Act.put]); (try simp only [List.setIfInBounds_toArray]); (try simp only [List.set_cons_succ]); (try simp only [List.set_cons_zero]))
    refine wpAnyH_done (by kernel_rfl) ?_ _
    go_wp2
    exact bodyPost_ret (v := .tuple #[_, .agg DK, _, _]) (results_rec rfl rfl (load_words HZ.out.1 ha hDi)) rfl ⟨_, rfl, HZ.out.2.2, HZ.out.2.1⟩
  · have hch : (byteVals (chainF link load)).toArray = DK := by rw [HS.out.2.2.2.2.2.2.1 rfl, HS.out.2.1]
    go_upto_region 6 with fail
    refine wp_region_held_drew (S := (fun w' => (∀ j v, DK.toList[j]? = some v → w'.cell? ⟨B3, 0 + j, none⟩ = some v) ∧ (∀ j v, LK.toList[j]? = some v → w'.cell? ⟨B, 0 + j, none⟩ = some v))) (by kernel_rfl) HQ.out.2.2.2.2.2.2.1 (fun hHeld => ?_)
    refine take_yes (i := 0) (v := ?_) (some 54) rfl rfl (by kernel_rfl) (by kernel_rfl) (by kernel_rfl) (fun _ _ _ h => h) (Or.inl ⟨by rfl, ?_⟩) (by assumption) ?_
    rotate_left
    · (intro w hSw; (try dsimp only at hSw); go_simp <;> (try with_reducible rfl))
    ((try simp only [Act.put]); (try simp only [List.setIfInBounds_toArray]); (try simp only [List.set_cons_succ]); (try simp only [List.set_cons_zero]))
    refine take_yes (i := 1) (v := ?_) (some 55) rfl rfl (by kernel_rfl) (by kernel_rfl) (by kernel_rfl) (fun _ _ _ h => h) (Or.inl ⟨by rfl, ?_⟩) (by assumption) ?_
    rotate_left
    · (intro w hSw; (try dsimp only at hSw); go_simp <;> (try with_reducible rfl))
    ((try simp only [Act.put]); (try simp only [List.setIfInBounds_toArray]); (try simp only [List.set_cons_succ]); (try simp only [List.set_cons_zero]))
    refine wpAnyH_ready (rs := [2]) (by kernel_rfl) (by simp) ?_
    refine AllReadyH.cons (o := _) rfl (fun K hK => ?_) AllReadyH.nil
    go_simp
    (go_at_call 68; refine (Crc_any (H4.out.2.2.2.2.1.kept (Kp.refl (fun k => k < w.heap.size + 2) w4).drew (F' := fun k => k < w.heap.size + 2) fun _ h => .inl h) HS.out.2.2.1 (by omega)).mono ?_; rintro e w' ⟨rfl, rfl⟩; rw [HQ.out.1])
    refine hK.out _ _ HQ.out.2.2.2.2.2.2.1 (fun hHeld => ?_)
    clear hK K
    ((try simp only [Act.put]); (try simp only [List.setIfInBounds_toArray]); (try simp only [List.set_cons_succ]); (try simp only [List.set_cons_zero]))
    refine wpAnyH_ready (rs := [3]) (by kernel_rfl) (by simp) ?_
    refine AllReadyH.cons (o := _) rfl (fun K hK => ?_) AllReadyH.nil
    go_simp
    (go_at_call 67; refine (number_any w4.drew hqr).mono ?_; rintro e w' ⟨rfl, rfl⟩; rw [HQ.out.2.1])
    refine hK.out _ _ HQ.out.2.2.2.2.2.2.2 (fun hHeld => ?_)
    clear hK K
    ((try simp only [Act.put]); (try simp only [List.setIfInBounds_toArray]); (try simp only [List.set_cons_succ]); (try simp only [List.set_cons_zero]))
    refine wpAnyH_ready (rs := [4]) (by kernel_rfl) (by simp) ?_
    refine AllReadyH.cons (o := _) rfl (fun K hK => ?_) AllReadyH.nil
    go_simp
    (go_at_call 88; refine (Equal_same HQ.out.2.2.2.1 HQ.out.2.2.2.2.2.1).mono ?_; rintro e w' ⟨rfl, rfl⟩)
    refine hK.out _ _ HQ.out.2.2.2.2.2.2.2 (fun hHeld => ?_)
    clear hK K
    ((try simp only [Act.put]); (try simp only [List.setIfInBounds_toArray]); (try simp only [List.set_cons_succ]); (try simp only [List.set_cons_zero]))
    refine take_yes (i := 5) (v := ?_) (some 59) rfl rfl (by kernel_rfl) (by kernel_rfl) (by kernel_rfl) (fun _ _ _ h => h) (Or.inl ⟨by rfl, ?_⟩) (by assumption) ?_
    rotate_left
    · (intro w hSw; (try dsimp only at hSw); go_simp <;> (try with_reducible rfl))
    ((try simp only [Act.put]); (try simp only [List.setIfInBounds_toArray]); (try simp only [List.set_cons_succ]); (try simp only [List.set_cons_zero]))
    refine take_yes (i := 6) (v := ?_) (some 60) rfl rfl (by kernel_rfl) (by kernel_rfl) (by kernel_rfl) (fun _ _ _ h => h) (Or.inl ⟨by rfl, ?_⟩) (by assumption) ?_
    rotate_left
    · (intro w hSw; (try dsimp only at hSw); go_simp <;> (try with_reducible rfl))
    ((try simp only [Act.put]); (try simp only [List.setIfInBounds_toArray]); (try simp only [List.set_cons_succ]); (try simp only [List.set_cons_zero]))
    refine take_yes (i := 7) (v := ?_) (some 61) rfl rfl (by kernel_rfl) (by kernel_rfl) (by kernel_rfl) (fun _ _ _ h => h) (Or.inl ⟨by rfl, ?_⟩) (by assumption) ?_
    rotate_left
    · (intro w hSw; (try dsimp only at hSw); go_simp <;> (try with_reducible rfl))
    ((try simp only [Act.put]); (try simp only [List.setIfInBounds_toArray]); (try simp only [List.set_cons_succ]); (try simp only [List.set_cons_zero]))
    refine take_yes (i := 8) (v := ?_) (some 62) rfl rfl (by kernel_rfl) (by kernel_rfl) (by kernel_rfl) (fun _ _ _ h => h) (Or.inl ⟨by rfl, ?_⟩) (by assumption) ?_
    rotate_left
    · (intro w hSw; (try dsimp only at hSw); go_simp <;> (try with_reducible rfl))
    ((try simp only [Act.put]); (try simp only [List.setIfInBounds_toArray]); (try simp only [List.set_cons_succ]); (try simp only [List.set_cons_zero]))
    refine take_yes (i := 9) (v := .agg DK) (some 63) rfl rfl (by kernel_rfl) (by kernel_rfl) (by kernel_rfl) (fun _ _ _ h => h) (Or.inl ⟨by rfl, ?_⟩) (by assumption) ?_
    · exact fun w hSw => load_take _ _ rfl (by rfl) hSw.1 ha hDi
    ((try simp only [Act.put]); (try simp only [List.setIfInBounds_toArray]); (try simp only [List.set_cons_succ]); (try simp only [List.set_cons_zero]))
    refine take_yes (i := 10) (v := .agg LK) (some 64) rfl rfl (by kernel_rfl) (by kernel_rfl) (by kernel_rfl) (fun _ _ _ h => h) (Or.inl ⟨by rfl, ?_⟩) (by assumption) ?_
    · exact fun w hSw => load_take _ _ rfl (by rfl) hSw.2 ha hLi
    ((try simp only [Act.put]); (try simp only [List.setIfInBounds_toArray]); (try simp only [List.set_cons_succ]); (try simp only [List.set_cons_zero]))
    refine take_yes (i := 11) (v := ?_) (some 65) rfl rfl (by kernel_rfl) (by kernel_rfl) (by kernel_rfl) (fun _ _ _ h => h) (Or.inl ⟨by rfl, ?_⟩) (by assumption) ?_
    rotate_left
    · (intro w hSw; (try dsimp only at hSw); go_simp <;> (try with_reducible rfl))
    ((try simp only [Act.put]); (try simp only [List.setIfInBounds_toArray]); (try simp only [List.set_cons_succ]); (try simp only [List.set_cons_zero]))
    refine wpAnyH_ready (rs := [12]) (by kernel_rfl) (by simp) ?_
    refine AllReadyH.cons (o := _) rfl (fun K hK => ?_) AllReadyH.nil
    go_simp
    (go_at_call 34; rw [← HS.out.1]; refine (Chain_any HS.out.2.2.2.2.1 HS.out.2.2.2.2.2.1 HQ.out.2.2.2.2.1 HS.out.2.2.1 hm1 hm2).mono ?_; rintro e w6 ⟨rfl, hk6⟩; rw [hch, HS.out.1]; have HK6 := Lib.hid hk6; clear hk6)
    refine hK.out _ _ ⟨fun j v hj => HK6.out.cell (HQ.out.2.2.2.2.2.2.2.1 j v hj) id, fun j v hj => HK6.out.cell (HQ.out.2.2.2.2.2.2.2.2 j v hj) id⟩ (fun hHeld => ?_)
    clear hK K
    ((try simp only [Act.put]); (try simp only [List.setIfInBounds_toArray]); (try simp only [List.set_cons_succ]); (try simp only [List.set_cons_zero]))
    refine take_yes (i := 13) (v := .bool false) (some 67) rfl rfl (by kernel_rfl) (by kernel_rfl) (by kernel_rfl) (fun _ _ _ h => h) (Or.inl ⟨by rfl, ?_⟩) (by assumption) ?_
    · exact fun w _ => neq_take HS.out.2.2.2.1 HS.out.2.1 _ _ _ rfl (by rfl) (by rfl)
    ((try simp only [Act.put]); (try simp only [List.setIfInBounds_toArray]); (try simp only [List.set_cons_succ]); (try simp only [List.set_cons_zero]))
    refine take_yes (i := 14) (v := ?_) (some 68) rfl rfl (by kernel_rfl) (by kernel_rfl) (by kernel_rfl) (fun _ _ _ h => h) (Or.inl ⟨by rfl, ?_⟩) (by assumption) ?_
    rotate_left
    · (intro w hSw; (try dsimp only at hSw); go_simp <;> (try with_reducible rfl))
    ((try simp only [Act.put]); (try simp only [List.setIfInBounds_toArray]); (try simp only [List.set_cons_succ]); (try simp only [List.set_cons_zero]))
    refine take_yes (i := 15) (v := ?_) (some 69) rfl rfl (by kernel_rfl) (by kernel_rfl) (by kernel_rfl) (fun _ _ _ h => h) (Or.inl ⟨by rfl, ?_⟩) (by assumption) ?_
    rotate_left
    · (intro w hSw; (try dsimp only at hSw); go_simp <;> (try with_reducible rfl))
    ((try simp only [Act.put]); (try simp only [List.setIfInBounds_toArray]); (try simp only [List.set_cons_succ]); (try simp only [List.set_cons_zero]))
    refine wpAnyH_done (by kernel_rfl) ?_ _
    have hkX : Kp (fun _ => False) w4 w6 := HQ.out.2.2.1.trans HK6.out
    have hzx : w6.drew.heap[B + 1]? = some (.cells (byteVals (List.replicate 32 0)).toArray 74 (0, 0)) := hkX.blk H4.out.2.2.2.1 id
    have hdx : ∀ j v, DK.toList[j]? = some v → w6.drew.cell? ⟨B3, 0 + j, none⟩ = some v := fun j v hj => HK6.out.cell (HQ.out.2.2.2.2.2.2.2.1 j v hj) id
    have hfz := setRow_blk (cs := DK) hzx
    have hBs : w.heap.size = B := H4.out.2.2.2.2.2.2.2.1
    have hkz : Kp (fun _ => False) w (w6.drew.setRow (B + 1) DK) := Kp.setRow (H4.out.1.trans hkX).drew (.inr (by omega)) DK
    have hpz := (H4.out.2.2.2.2.1.kept (Kp.setRow (F := fun k => k < w.heap.size + 2) (hkX.drew.mono fun _ h => h.elim) (g := B + 1) (.inl (by omega)) DK) (F' := fun k => k < w.heap.size + 2) fun _ h => .inl h).mono (F' := fun k => k < w.heap.size) fun k hk => by omega
    have HZ := Lib.hid (And.intro hfz (And.intro hkz hpz))
    have hdz : ∀ j v, DK.toList[j]? = some v → (w6.drew.setRow (B + 1) DK).cell? ⟨B3, 0 + j, none⟩ = some v := fun j v hj => by
      rw [Nat.zero_add]
      exact (blk_cell ((setRow_other w6.drew (B + 1) B3 _ (by have := H4.out.2.2.2.2.2.2.2.2.2; omega)).trans (hkX.drew.blk H4.out.2.1 id)) j).trans (by simpa using hj)
    have HDX := Lib.hid (And.intro hdx hdz)
    clear hkX hdx hdz hfz hBs hkz hpz
    go_upto_region 8 with fail
    refine wp_region_held_drew (S := (fun w' => ∀ j v, DK.toList[j]? = some v → w'.cell? ⟨B3, 0 + j, none⟩ = some v)) (by kernel_rfl) HDX.out.1 (fun hHeld => ?_)
    refine take_yes (i := 0) (v := ?_) (some 71) rfl rfl (by kernel_rfl) (by kernel_rfl) (by kernel_rfl) (fun _ _ _ h => h) (Or.inl ⟨by rfl, ?_⟩) (by assumption) ?_
    rotate_left
    · (intro w hSw; (try dsimp only at hSw); go_simp <;> (try with_reducible rfl))
    ((try simp only [Act.put]); (try simp only [List.setIfInBounds_toArray]); (try simp only [List.set_cons_succ]); (try simp only [List.set_cons_zero]))
    refine take_yes (i := 1) (v := .agg DK) (some 72) rfl rfl (by kernel_rfl) (by kernel_rfl) (by kernel_rfl) (fun _ _ _ h => h) (Or.inl ⟨by rfl, ?_⟩) (by assumption) ?_
    · exact fun w hSw => load_take _ _ rfl (by rfl) hSw ha hDi
    ((try simp only [Act.put]); (try simp only [List.setIfInBounds_toArray]); (try simp only [List.set_cons_succ]); (try simp only [List.set_cons_zero]))
    refine take_yes (i := 2) (v := ?_) (some 73) rfl rfl (by kernel_rfl) (by kernel_rfl) (by kernel_rfl) (fun _ _ _ h => h) (Or.inl ⟨by rfl, ?_⟩) (by assumption) ?_
    rotate_left
    · (intro w hSw; (try dsimp only at hSw); go_simp <;> (try with_reducible rfl))
    ((try simp only [Act.put]); (try simp only [List.setIfInBounds_toArray]); (try simp only [List.set_cons_succ]); (try simp only [List.set_cons_zero]))
    refine take_yes (i := 3) (v := ?_) (some 8) rfl rfl (by kernel_rfl) (by kernel_rfl) (by kernel_rfl) (fun _ _ _ h => h) (Or.inl ⟨by rfl, ?_⟩) (by assumption) ?_
    rotate_left
    · (intro w hSw; (try dsimp only at hSw); go_simp <;> (try with_reducible rfl))
    ((try simp only [Act.put]); (try simp only [List.setIfInBounds_toArray]); (try simp only [List.set_cons_succ]); (try simp only [List.set_cons_zero]))
    refine wpAnyH_ready (rs := [4]) (by kernel_rfl) (by simp) ?_
    refine AllReadyH.cons (o := _) rfl (fun K hK => ?_) AllReadyH.nil
    skip
    refine step_store_agg rfl _ _ _ rfl rfl rfl hzx hDi (by rw [hDs]; rfl) hD1 ?_
    refine hK.out _ _ HDX.out.2 (fun hHeld => ?_)
    clear hK K
    ((try simp only [Act.put]); (try simp only [List.setIfInBounds_toArray]); (try simp only [List.set_cons_succ]); (try simp only [List.set_cons_zero]))
    refine take_yes (i := 5) (v := ?_) (some 10) rfl rfl (by kernel_rfl) (by kernel_rfl) (by kernel_rfl) (fun _ _ _ h => h) (Or.inl ⟨by rfl, ?_⟩) (by assumption) ?_
    rotate_left
    · (intro w hSw; (try dsimp only at hSw); go_simp <;> (try with_reducible rfl))
    ((try simp only [Act.put]); (try simp only [List.setIfInBounds_toArray]); (try simp only [List.set_cons_succ]); (try simp only [List.set_cons_zero]))
    refine take_yes (i := 6) (v := ?_) (some 11) rfl rfl (by kernel_rfl) (by kernel_rfl) (by kernel_rfl) (fun _ _ _ h => h) (Or.inl ⟨by rfl, ?_⟩) (by assumption) ?_
    rotate_left
    · (intro w hSw; (try dsimp only at hSw); go_simp <;> (try with_reducible rfl))
    ((try simp only [Act.put]); (try simp only [List.setIfInBounds_toArray]); (try simp only [List.set_cons_succ]); (try simp only [List.set_cons_zero]))
    refine wpAnyH_done (by kernel_rfl) ?_ _
    go_wp2
    exact bodyPost_ret (v := .tuple #[_, .agg DK, _, _]) (results_rec rfl rfl (load_words HZ.out.1 ha hDi)) rfl ⟨_, rfl, HZ.out.2.2, HZ.out.2.1⟩
end Go.Proofs.YtggnohbfdlebiaaGreatDoor

/-
  Merged of my texts, in order: AppC.
-/
import Derived.Test.YtggnohbfdlebiaaGreatDoorM7
/-
  Append: what goes through.
-/
namespace Go.Proofs.YtggnohbfdlebiaaGreatDoor
open Go.RowKit Go.Shelf Go.ChangeMaps

attribute [local go_sem] Oper.semAt_some

set_option maxRecDepth 100000 in
set_option maxHeartbeats 8000000 in
theorem Append_ok {w : World} {d m : Nat} {es : Array MapEntry} {clock : Nat} {hv : Value} {S : St} {F : Nat → Prop} (h : DiskIs w d m es clock hv S F) (name : Nm) (hs : name.size ≤ maxLen) (hn : nameB name = true) (p : Option Addr) (len cap : Nat)
    (hlen : len ≤ 140737488351232) (hf : ¬ S.fullA name len) (hfb : ¬ S.fullB name) (hoff : S.off = false)
    (hcap : len ≤ cap) (bs : List Int) (hbl : bs.length = len) (b off : Nat) (hp : len ≠ 0 → p = some ⟨b, off, none⟩) (hsrc : Holds8 w b off bs) :
    Calls Tryz.prog 16 #[.pointer (some ⟨d, 0, none⟩), .string name, .slice p len cap] w (Does w d S.doE (S.appS name bs) F) := by
  have hc := check_any h name hs false
  rw [check_false, if_neg (by simp [hn])] at hc
  obtain ⟨q, hq⟩ : ∃ q : Nat, q = nsec len := ⟨_, rfl⟩
  have hq1 : ((len : Int) + 32 - 1) / 32 = (q : Int) := by rw [hq]; unfold nsec; omega
  have hqb : q ≤ 140737488351232 := by rw [hq]; unfold nsec; omega
  have hub : used S.files ≤ 65536 := by have := h.ok.used; have := h.ok.room; omega
  have hfA := hf
  unfold St.fullA at hf
  rw [← hq] at hf
  have hd := h.drew
  obtain ⟨us, hus⟩ : ∃ us, us = used S.files := ⟨_, rfl⟩
  have hu := used_any hd
  rw [← hus] at hu hf hub
  obtain ⟨c0, c1, _⟩ := h.cells
  have e0 := hd.cells.1
  have e1 := hd.cells.2.1
  obtain ⟨room, hroom⟩ : ∃ room, room = S.room := ⟨_, rfl⟩
  rw [← hroom] at c1 e1 hf
  have hq6 : q ≤ 65536 := by have := h.ok.room; rw [← hroom] at this; omega
  clear hq hus hroom
  have hfd : decide (room < (us : Int) + (q : Int)) = false := by simpa using hf
  have hmm := h.hm
  rw [if_neg (by rw [hoff]; simp)] at hc
  have H := Lib.hid h
  have HO := Lib.hid hoff
  have HP := Lib.hid hp
  have HS := Lib.hid hsrc
  have HA := Lib.hid hfA
  have HB := Lib.hid hfb
  have HBL := Lib.hid hbl
  have HN := Lib.hid hn
  cases hg : get S.files name
  · skip
    have hl := look_none h hg true
    simp only [if_true] at hl
    obtain ⟨cnt, hcnt⟩ : ∃ cnt, cnt = S.files.length := ⟨_, rfl⟩
    have hln : ∀ w', w'.heap[m]? = w.heap[m]? → ∀ ty, (Builtin.len_ #[71] ty #[.map (some m)]).run Tryz.prog w' = .ok (.int .i64 (cnt : Int)) w' := fun w' hw' ty => by
      rw [len_run map_type (hw'.trans h.hm) h.ents ty, hcnt]
    have hne : ((cnt : Int) == 64) = false := by
      have h1 : cnt ≠ 64 := fun e => hfb ⟨hg, by rw [← hcnt]; exact e⟩
      simp; omega
    have HL := Lib.hid hln
    clear hln hcnt
    clear h hn hd hoff hg hfA hfb hp hsrc hbl
    refine (callsIn_wide (n := 6)).1 ?_
    refine callsIn_of_wp_marks Tryz.func16 rfl trivial ?_ rfl
    simp only [Tryz.ntmps16, List.size_toArray, List.length_cons, List.length_nil, Nat.reduceAdd, Nat.reduceSub, Array.replicate_succ, Array.replicate_zero, List.push_toArray, List.append_toArray, List.nil_append, List.cons_append]
    refine wpIn_wide.2 ?_
    go_wp2_with (go_at_call 38; refine hc.mono ?_; rintro e w' ⟨rfl, rfl⟩)
    have hw : IntKind.i64.wrap ((us : Int) + (q : Int)) = (us : Int) + (q : Int) := IntWalk.i64_in _ (by omega)
    refine wp_region_noPanic ?_
    refine wp_region_held_drew (S := (fun w' => (w'.cell? ⟨d, 0, none⟩ = some (.map (some m)) ∧ w'.cell? ⟨d, 1, none⟩ = some (.int .i64 room)) ∧ ∀ ty, (Builtin.len_ #[71] ty #[.map (some m)]).run Tryz.prog w' = .ok (.int .i64 (cnt : Int)) w')) (by kernel_rfl) ⟨⟨e0, e1⟩, HL.out w.drew rfl⟩ (fun hHeld => ?_)
    refine take_yes (i := 0) (v := ?_) (some 38) rfl rfl (by kernel_rfl) (by kernel_rfl) (by kernel_rfl) (fun _ _ _ h => h) (Or.inl ⟨by rfl, ?_⟩) (by assumption) ?_
    rotate_left
    · (intro w hSw; (try dsimp only at hSw); go_simp <;> (try with_reducible rfl))
    (try simp only [Act.put, List.setIfInBounds_toArray, List.set_cons_zero, List.set_cons_succ])
    refine take_yes (i := 2) (v := ?_) (some 40) rfl rfl (by kernel_rfl) (by kernel_rfl) (by kernel_rfl) (fun _ _ _ h => h) (Or.inl ⟨by rfl, ?_⟩) (by assumption) ?_
    rotate_left
    · (intro w hSw; (try dsimp only at hSw); go_simp <;> (try with_reducible rfl))
    (try simp only [Act.put, List.setIfInBounds_toArray, List.set_cons_zero, List.set_cons_succ])
    refine take_yes (i := 4) (v := ?_) (some 42) rfl rfl (by kernel_rfl) (by kernel_rfl) (by kernel_rfl) (fun _ _ _ h => h) (Or.inl ⟨by rfl, ?_⟩) (by assumption) ?_
    rotate_left
    · (intro w hSw; (try dsimp only at hSw); go_simp <;> (try with_reducible rfl))
    (try simp only [Act.put, List.setIfInBounds_toArray, List.set_cons_zero, List.set_cons_succ])
    refine take_yes (i := 5) (v := ?_) (some 43) rfl rfl (by kernel_rfl) (by kernel_rfl) (by kernel_rfl) (fun _ _ _ h => h) (Or.inl ⟨by rfl, ?_⟩) (by assumption) ?_
    rotate_left
    · (intro w hSw; (try dsimp only at hSw); go_simp <;> (try with_reducible rfl))
    (try simp only [Act.put, List.setIfInBounds_toArray, List.set_cons_zero, List.set_cons_succ])
    refine take_yes (i := 6) (v := ?_) (some 44) rfl rfl (by kernel_rfl) (by kernel_rfl) (by kernel_rfl) (fun _ _ _ h => h) (Or.inl ⟨by rfl, ?_⟩) (by assumption) ?_
    rotate_left
    · (intro w hSw; (try dsimp only at hSw); go_simp <;> (try with_reducible rfl))
    (try simp only [Act.put, List.setIfInBounds_toArray, List.set_cons_zero, List.set_cons_succ])
    refine take_yes (i := 7) (v := ?_) (some 45) rfl rfl (by kernel_rfl) (by kernel_rfl) (by kernel_rfl) (fun _ _ _ h => h) (Or.inl ⟨by rfl, ?_⟩) (by assumption) ?_
    rotate_left
    · (intro w hSw; (try dsimp only at hSw); go_simp <;> (try with_reducible rfl))
    (try simp only [Act.put, List.setIfInBounds_toArray, List.set_cons_zero, List.set_cons_succ])
    refine wpAnyH_ready (rs := [1]) (by kernel_rfl) (by simp) ?_
    refine AllReadyH.cons (o := _) rfl (fun K hK => ?_) AllReadyH.nil
    go_simp
    refine hu.mono ?_
    rintro e w1 ⟨rfl, hk⟩
    have f0 := hk.cell e0 id
    have f1 := hk.cell e1 id
    refine hK.out _ _ ⟨⟨f0, f1⟩, HL.out w1 (hk.block m (blk_lt hmm) id)⟩ (fun hHeld => ?_)
    clear hK K
    (try simp only [Act.put, List.setIfInBounds_toArray, List.set_cons_zero, List.set_cons_succ])
    refine take_yes (i := 3) (v := ?_) (some 41) rfl rfl (by kernel_rfl) (by kernel_rfl) (by kernel_rfl) (fun _ _ _ h => h) (Or.inl ⟨by rfl, ?_⟩) (by assumption) ?_
    rotate_left
    · (intro w hSw; (try dsimp only at hSw); go_simp <;> (try with_reducible rfl))
    (try simp only [Act.put, List.setIfInBounds_toArray, List.set_cons_zero, List.set_cons_succ])
    refine take_yes (i := 8) (v := ?_) (some 46) rfl rfl (by kernel_rfl) (by kernel_rfl) (by kernel_rfl) (fun _ _ _ h => h) (Or.inl ⟨by rfl, ?_⟩) (by assumption) ?_
    rotate_left
    · (intro w hSw; (try dsimp only at hSw); go_simp <;> (try with_reducible rfl))
    (try simp only [Act.put, List.setIfInBounds_toArray, List.set_cons_zero, List.set_cons_succ])
    refine take_yes (i := 9) (v := ?_) (some 47) rfl rfl (by kernel_rfl) (by kernel_rfl) (by kernel_rfl) (fun _ _ _ h => h) (Or.inl ⟨by rfl, ?_⟩) (by assumption) ?_
    rotate_left
    · (intro w hSw; (try dsimp only at hSw); go_simp <;> (try with_reducible rfl))
    (try simp only [Act.put, List.setIfInBounds_toArray, List.set_cons_zero, List.set_cons_succ])
    refine take_yes (i := 10) (v := ?_) (some 48) rfl rfl (by kernel_rfl) (by kernel_rfl) (by kernel_rfl) (fun _ _ _ h => h) (Or.inl ⟨by rfl, ?_⟩) (by assumption) ?_
    rotate_left
    · (intro w hSw; (try dsimp only at hSw); go_simp <;> (try with_reducible rfl))
    (try simp only [Act.put, List.setIfInBounds_toArray, List.set_cons_zero, List.set_cons_succ])
    refine take_yes (i := 11) (v := ?_) (some 49) rfl rfl (by kernel_rfl) (by kernel_rfl) (by kernel_rfl) (fun _ _ _ h => h) (Or.inl ⟨by rfl, ?_⟩) (by assumption) ?_
    rotate_left
    · (intro w hSw; (try dsimp only at hSw); go_simp <;> (try with_reducible rfl))
    (try simp only [Act.put, List.setIfInBounds_toArray, List.set_cons_zero, List.set_cons_succ])
    refine take_yes (i := 12) (v := ?_) (some 50) rfl rfl (by kernel_rfl) (by kernel_rfl) (by kernel_rfl) (fun _ _ _ h => h) (Or.inl ⟨by rfl, ?_⟩) (by assumption) ?_
    rotate_left
    · (intro w hSw; (try dsimp only at hSw); go_simp <;> (try with_reducible rfl))
    (try simp only [Act.put, List.setIfInBounds_toArray, List.set_cons_zero, List.set_cons_succ])
    refine take_yes (i := 13) (v := ?_) (some 51) rfl rfl (by kernel_rfl) (by kernel_rfl) (by kernel_rfl) (fun _ _ _ h => h) (Or.inl ⟨by rfl, ?_⟩) (by assumption) ?_
    rotate_left
    · (intro w hSw; (try dsimp only at hSw); go_simp <;> (try with_reducible rfl))
    (try simp only [Act.put, List.setIfInBounds_toArray, List.set_cons_zero, List.set_cons_succ])
    refine take_yes (i := 14) (v := ?_) (some 52) rfl rfl (by kernel_rfl) (by kernel_rfl) (by kernel_rfl) (fun _ _ _ h => h) (Or.inl ⟨by rfl, ?_⟩) (by assumption) ?_
    rotate_left
    · (intro w hSw; (try dsimp only at hSw); go_simp <;> (try with_reducible rfl))
    (try simp only [Act.put, List.setIfInBounds_toArray, List.set_cons_zero, List.set_cons_succ])
    refine take_yes (i := 15) (v := ?_) (some 53) rfl rfl (by kernel_rfl) (by kernel_rfl) (by kernel_rfl) (fun _ _ _ h => h) (Or.inl ⟨by rfl, ?_⟩) (by assumption) ?_
    rotate_left
    · (intro w hSw; (try dsimp only at hSw); go_simp <;> (try with_reducible rfl))
    (try simp only [Act.put, List.setIfInBounds_toArray, List.set_cons_zero, List.set_cons_succ])
    refine take_yes (i := 16) (v := ?_) (some 54) rfl rfl (by kernel_rfl) (by kernel_rfl) (by kernel_rfl) (fun _ _ _ h => h) (Or.inl ⟨by rfl, ?_⟩) (by assumption) ?_
    rotate_left
    · (intro w hSw; (try dsimp only at hSw); go_simp <;> (try with_reducible rfl))
    (try simp only [Act.put, List.setIfInBounds_toArray, List.set_cons_zero, List.set_cons_succ])
    refine take_yes (i := 17) (v := ?_) (some 55) rfl rfl (by kernel_rfl) (by kernel_rfl) (by kernel_rfl) (fun _ _ _ h => h) (Or.inl ⟨by rfl, ?_⟩) (by assumption) ?_
    rotate_left
    · (intro w hSw; (try dsimp only at hSw); go_simp <;> (try with_reducible rfl))
    (try simp only [Act.put, List.setIfInBounds_toArray, List.set_cons_zero, List.set_cons_succ])
    refine take_yes (i := 18) (v := ?_) (some 56) rfl rfl (by kernel_rfl) (by kernel_rfl) (by kernel_rfl) (fun _ _ _ h => h) (Or.inl ⟨by rfl, ?_⟩) (by assumption) ?_
    rotate_left
    · (intro w hSw; (try dsimp only at hSw); go_simp <;> (try with_reducible rfl))
    (try simp only [Act.put, List.setIfInBounds_toArray, List.set_cons_zero, List.set_cons_succ])
    refine take_yes (i := 19) (v := ?_) (some 57) rfl rfl (by kernel_rfl) (by kernel_rfl) (by kernel_rfl) (fun _ _ _ h => h) (Or.inl ⟨by rfl, ?_⟩) (by assumption) ?_
    rotate_left
    · (intro w hSw; (try dsimp only at hSw); go_simp <;> (try with_reducible rfl))
    (try simp only [Act.put, List.setIfInBounds_toArray, List.set_cons_zero, List.set_cons_succ])
    refine take_yes (i := 20) (v := ?_) (some 58) rfl rfl (by kernel_rfl) (by kernel_rfl) (by kernel_rfl) (fun _ _ _ h => h) (Or.inl ⟨by rfl, ?_⟩) (by assumption) ?_
    rotate_left
    · (intro w hSw; (try dsimp only at hSw); go_simp <;> (try with_reducible rfl))
    (try simp only [Act.put, List.setIfInBounds_toArray, List.set_cons_zero, List.set_cons_succ])
    refine wpAnyH_done (by kernel_rfl) ?_ _
    clear hw
    refine NoPanic.normal ?_
    go_wp2_with (go_at_call 40; refine (callsIn_wide.1 (Chunk_in Fence.wide 6 trivial rfl p len cap _)).mono ?_; rintro e w2 ⟨rfl, rfl⟩)
    obtain ⟨w2, hw2⟩ : ∃ w2, ((w1.alloc (.cells #[.slice none 0 0] 87)).alloc (.cells #[.slice p len cap] 33)).alloc (.cells #[.int .i64 32] 3) = w2 := ⟨_, rfl⟩
    have hs2 : w2.heap.size = w1.heap.size + 3 := by rw [← hw2]; simp
    have bL : Boxed w2 w1.heap.size 87 (.slice none 0 0) := by rw [← hw2]; exact ((Boxed.new w1 _ _).alloc _).alloc _
    have bS : Boxed w2 (w1.heap.size + 1) 33 (.slice p len cap) := by
      rw [← hw2]; have := (Boxed.new (w1.alloc (.cells #[.slice none 0 0] 87)) 33 (.slice p len cap)).alloc (.cells #[.int .i64 32] 3); rwa [World.size_alloc] at this
    have bN : Boxed w2 (w1.heap.size + 1 + 1) 3 (.int .i64 32) := by
      rw [← hw2]; have := Boxed.new ((w1.alloc (.cells #[.slice none 0 0] 87)).alloc (.cells #[.slice p len cap] 33)) 3 (.int .i64 32); rwa [World.size_alloc, World.size_alloc] at this
    have HS1 : Hid (Holds8 w1 b off bs) := fun j v hj => hk.cell (HS.out j v hj) id
    have hB2 : Below w1.heap.size w1 w2 := by rw [← hw2]; exact (((Below.refl _ w1).alloc (Nat.le_refl _) _).alloc (by simp) _).alloc (by simp; omega) _
    rw [hw2]
    clear hw2
    refine (wpIn_wide (n := 6)).1 ?_
    refine wpIn_rangeFunc_ownF rfl (by omega) (gf := 71) (lb := #[.pointer (some ⟨w1.heap.size + 1, 0, none⟩), .pointer (some ⟨w1.heap.size + 1 + 1, 0, none⟩)]) rfl trivial (enters_of Tryz.func71 (by kernel_rfl) rfl)
      (chunk_stops Fence.wide 5 trivial rfl (by omega) (w1.heap.size + 1) (w1.heap.size + 1 + 1) p b off len cap HP.out hcap hlen w2 (by omega) (by omega) bS.cell bN.cell) (fun h k => Two.trans h k) (two_putObj (by omega) (by omega)) (Below.refl _ _) (fun _ => rfl)
      (fun pre W => (((∃ v, Boxed W w1.heap.size 87 v ∧ W.ownsRow w1.heap.size 93 33 v pre.length (fileCells (pre.map (secAt bs))) ∧ True) ∧ Boxed W (w1.heap.size + 1) 33 (.slice p len cap)) ∧ Boxed W (w1.heap.size + 1 + 1) 3 (.int .i64 32)) ∧ Below w1.heap.size w1 W)
      (fun _ _ _ => False)
      (OwnFrom.and (OwnFrom.and (OwnFrom.and (Own.from (holdsRow_own w1.heap.size w1.heap.size 87 93 33 (fun (pre : List Nat) => pre.length) (fun pre => fileCells (pre.map (secAt bs))) (fun _ _ => True)) _) (Own.from (boxed_own _ _ (fun _ => .slice p len cap)) _)) (Own.from (boxed_own _ _ (fun _ => .int .i64 32)) _)) (ownFrom_below (Nat.le_refl _) (by omega)))
      (fun _ _ _ _ _ hs _ _ => hs) ⟨⟨⟨⟨_, bL, World.ownsRow_nil _ _ _ _, trivial⟩, bS⟩, bN⟩, hB2⟩ ?a1 ?assign ?body ?done ?stop
    case assign =>
      intro l x W K hK
      simp only [chunk]
      gi_wp2
      exact hK
    case body =>
      rintro l pre x W ⟨⟨⟨⟨v, hv, hrow, -⟩, hbS⟩, hbN⟩, hB⟩ hlt
      have hcv := (hv.alloc (.cells (secCells (secAt bs x)).toArray 93)).cell
      obtain ⟨e, he⟩ : ∃ e, e = min 32 (len - 32 * x) := ⟨_, rfl⟩
      have he1 : ((bs.drop (32 * x)).take 32).length = e := by rw [he]; exact chunk_bytes HBL.out x
      have he2 : e ≤ 32 := by omega
      have hsrc := fun A => chunk_src (x := x) HS1.out hB (Nat.le_refl _) A
      have hs33 : (secCells (secAt bs x)).toArray.size = 33 := by simpa using secCells_length (secAt_len bs x)
      have hi33 : (Tryz.prog.info? 93).map (·.size) = some (secCells (secAt bs x)).toArray.size := by rw [hs33]; exact size_sec
      obtain ⟨i0, z0, hi, hz, hsz, hby, hzs⟩ := info_sec_zero
      have hpq : pre.length < q := by omega
      have hb1 : pre.length + 1 ≤ maxLen := by unfold maxLen; omega
      have hb2 : (pre.length + 1) * 33 ≤ 140737488355328 := by omega
      have hnw : ∀ j u, (secCells (secAt bs x))[j]? = some u → ((W.alloc (.cells (secCells (secAt bs x)).toArray 93)).alloc (.cells (secCells (secAt bs x)).toArray 93)).cell? ((⟨W.heap.size + 1, 0, none⟩ : Addr).add j) = some u := by
        intro j u hu
        have := cells_new (W.alloc (.cells (secCells (secAt bs x)).toArray 93)) (secCells (secAt bs x)).toArray 93 j u (by simpa using hu)
        rw [World.size_alloc] at this
        rw [addr_add]; exact this
      have hoc : ∀ u ∈ secCells (secAt bs x), u.oneCell' = true := fun u hu => oneCell_file (l := [secAt bs x]) u (by simpa [fileCells] using hu)
      simp only [← he]
      gi_wp2_with (first
        | (refine wpListIn_copy_run rfl _ _ _ _ rfl rfl rfl (copy_run (cur := zeros33) (heap_alloc_new W (.cells zeros33 93)) rfl _ he1 he2 (hsrc _) _) ?_; rw [setRow_new, splice_secAt])
        | (refine wpListIn_load_agg rfl 93 _ rfl rfl (secCells (secAt bs x)).toArray (cells_new W _ _) agg_sec hi33 ?_)
        | (refine wpListIn_buildSlice_run rfl 87 1 0 _ rfl rfl (build_one _ hs33) ?_)
        | (gi_at_builtin; refine Hid.out ?_))
      refine Lib.hid ?_
      refine wpListIn_append_own _ rfl _ _ 87 rfl w1.heap.size 93 i0 z0 33 33 slice_type hi hz hsz hby hzs (by decide) _ _ _ rfl ((hrow.alloc _).alloc _) ⟨W.heap.size + 1, 0, none⟩ 1 1 (secCells (secAt bs x)) rfl (by rw [secCells_length (secAt_len bs x)]) hnw hoc hb1 hb2 (by have := hB.size; simp; omega) ?_
      intro v' w' hown' hgrow _
      obtain ⟨g', cap', rfl⟩ := ownsRow_succ hown'
      obtain ⟨r1, r2, r3, r4, r5, r6, r7⟩ := round_own hv hrow hbS hbN hB.size (Nat.le_refl _) (by omega) (by omega) hown' hgrow
      have hc1 := r1.cell
      have hf1 := r1.frozen
      gi_wp2
      exact ⟨r4, two_of_boxed hbS hbN r6 r7, ⟨⟨⟨⟨_, r2, by simpa [fileCells] using r3, trivial⟩, r6⟩, r7⟩, hB.trans r5⟩⟩
    case done =>
      rintro D ys W hD rfl ⟨⟨⟨⟨v, hv, hrow, -⟩, -⟩, -⟩, hB⟩ hK
      have hkW : Kp (fun _ => False) w W := ((Kp.refl _ w).drew.trans hk).trans (Kp.of_below _ hB)
      have hdW := H.out.kept hkW fun _ _ h => h
      have hdo := do_noop_all hdW HO.out
      have hDW : D < W.heap.size := blk_lt hK
      have hvL := hv.lt
      have hnl : (fun l : List Sec => l) ((List.range ((len + 31) / 32)).map (secAt bs)) = (List.range (nsec bs.length)).map (secAt bs) := by rw [HBL.out]; rfl
      have hx := fileRep_row (l := (List.range (nsec bs.length)).map (secAt bs)) (by simp [secAt_len]) (by rw [← hnl]; simpa using hrow)
      have hcL := hv.cell
      go_wp2_with (go_at_call 41; refine hdo.mono ?_; rintro e w3 ⟨rfl, F3, ⟨m3, es3, clock3, hv3, h3⟩, hF3, hk3⟩)
      have hks : w.heap.size ≤ w1.heap.size := hk.size
      have hFlt := H.out.flt
      have hx3 : FileRep w3.drew (fun k => w1.heap.size ≤ k) v ((List.range (nsec bs.length)).map (secAt bs)) := hx.kept hk3.drew fun k hk hF => by have := hFlt k hF; omega
      have h3d := h3.drew
      have hlen3 : (getF (S.doS .noop).files name).length + ((List.range (nsec bs.length)).map (secAt bs)).length ≤ 1000000 := by
        have g1 := getF_le S.files name
        have g2 := H.out.ok.used
        have g3 := H.out.ok.room
        rw [doS_files, List.length_map, List.length_range, HBL.out]
        unfold nsec; omega
      obtain ⟨p0, n0, c0', hn0, hc0, hlk, v', w4, hap, hk4, es2, clock2, hup, F5, hd5, hF5, hk5⟩ := save_any (S' := S.appS name bs) h3d name (by unfold St.appS; rw [doS_files]) (appS_ok H.out.ok h3.ok HO.out HN.out (by rw [HBL.out]; exact HA.out) HB.out) hx3 hlen3
      have HFin := Lib.hid (append_fin S.doE hFlt ((Kp.refl _ w).drew.trans hk) hB hk3 hF3 (by omega) hK hd5 hF5 ((Kp.refl F3 w3).drew.trans hk5))
      have g0 := h3d.cells.1
      have gL : w3.drew.cell? ⟨w1.heap.size, 0, none⟩ = some v := hk3.drew.cell hcL fun hF => by have := hFlt _ hF; omega
      have g0' := hk4.cell g0 id
      have gL' := hk4.cell gL id
      have h4m : w4.heap[m3]? = some (.map es3 clock3) := hk4.blk h3d.hm id
      have g0'' := cell_put h4m (.map es2 clock2) g0'
      have gL'' := cell_put h4m (.map es2 clock2) gL'
      clear hd5 hF5 hk5 hk4 h4m hlen3 h3d hx3 h3 hF3 hk3 hx hnl hcL hvL hdo hdW hkW hK hB hrow hv hD hFlt hl hne hf
      refine wp_region_noPanic ?_
      refine wp_region_held_drew (S := (fun w' => w'.cell? ⟨d, 0, none⟩ = some (.map (some m3)) ∧ w'.cell? ⟨w1.heap.size, 0, none⟩ = some v)) (by kernel_rfl) ⟨g0, gL⟩ (fun hHeld => ?_)
      refine take_yes (i := 0) (v := ?_) (some 75) rfl rfl (by kernel_rfl) (by kernel_rfl) (by kernel_rfl) (fun _ _ _ h => h) (Or.inl ⟨by rfl, ?_⟩) (by assumption) ?_
      rotate_left
      · (intro w hSw; (try dsimp only at hSw); go_simp <;> (try with_reducible rfl))
      (try simp only [Act.put, List.setIfInBounds_toArray, List.set_cons_zero, List.set_cons_succ])
      refine take_yes (i := 1) (v := ?_) (some 76) rfl rfl (by kernel_rfl) (by kernel_rfl) (by kernel_rfl) (fun _ _ _ h => h) (Or.inl ⟨by rfl, ?_⟩) (by assumption) ?_
      rotate_left
      · (intro w hSw; (try dsimp only at hSw); go_simp <;> (try with_reducible rfl))
      (try simp only [Act.put, List.setIfInBounds_toArray, List.set_cons_zero, List.set_cons_succ])
      refine take_yes (i := 2) (v := ?_) (some 77) rfl rfl (by kernel_rfl) (by kernel_rfl) (by kernel_rfl) (fun _ _ _ h => h) (Or.inl ⟨by rfl, ?_⟩) (by assumption) ?_
      rotate_left
      · (intro w hSw; (try dsimp only at hSw); go_simp <;> (try with_reducible rfl))
      (try simp only [Act.put, List.setIfInBounds_toArray, List.set_cons_zero, List.set_cons_succ])
      refine take_yes (i := 3) (v := ?_) (some 78) rfl rfl (by kernel_rfl) (by kernel_rfl) (by kernel_rfl) (fun _ _ _ h => h) (Or.inl ⟨by rfl, ?_⟩) (by assumption) ?_
      rotate_left
      · (intro w hSw; (try dsimp only at hSw); go_simp <;> (try with_reducible rfl))
      (try simp only [Act.put, List.setIfInBounds_toArray, List.set_cons_zero, List.set_cons_succ])
      refine take_yes (i := 4) (v := ?_) (some 79) rfl rfl (by kernel_rfl) (by kernel_rfl) (by kernel_rfl) (fun _ _ _ h => h) (Or.inl ⟨by rfl, ?_⟩) (by assumption) ?_
      rotate_left
      · (intro w hSw; (try dsimp only at hSw); go_simp <;> (try with_reducible rfl))
      (try simp only [Act.put, List.setIfInBounds_toArray, List.set_cons_zero, List.set_cons_succ])
      refine take_yes (i := 5) (v := ?_) (some 80) rfl rfl (by kernel_rfl) (by kernel_rfl) (by kernel_rfl) (fun _ _ _ h => h) (Or.inl ⟨by rfl, ?_⟩) (by assumption) ?_
      rotate_left
      · (intro w hSw; (try dsimp only at hSw); go_simp <;> (try with_reducible rfl))
      (try simp only [Act.put, List.setIfInBounds_toArray, List.set_cons_zero, List.set_cons_succ])
      refine take_yes (i := 6) (v := ?_) (some 81) rfl rfl (by kernel_rfl) (by kernel_rfl) (by kernel_rfl) (fun _ _ _ h => h) (Or.inl ⟨by rfl, ?_⟩) (by assumption) ?_
      rotate_left
      · (intro w hSw; (try dsimp only at hSw); go_simp <;> (try with_reducible rfl))
      (try simp only [Act.put, List.setIfInBounds_toArray, List.set_cons_zero, List.set_cons_succ])
      refine take_yes (i := 7) (v := ?_) (some 82) rfl rfl (by kernel_rfl) (by kernel_rfl) (by kernel_rfl) (fun _ _ _ h => h) (Or.inl ⟨by rfl, ?_⟩) (by assumption) ?_
      rotate_left
      · (intro w hSw; (try dsimp only at hSw); go_simp <;> (try with_reducible rfl))
      (try simp only [Act.put, List.setIfInBounds_toArray, List.set_cons_zero, List.set_cons_succ])
      refine take_yes (i := 8) (v := ?_) (some 83) rfl rfl (by kernel_rfl) (by kernel_rfl) (by kernel_rfl) (fun _ _ _ h => h) (Or.inl ⟨by rfl, ?_⟩) (by assumption) ?_
      rotate_left
      · (intro w hSw; (try dsimp only at hSw); go_simp <;> (try with_reducible rfl))
      (try simp only [Act.put, List.setIfInBounds_toArray, List.set_cons_zero, List.set_cons_succ])
      refine take_yes (i := 9) (v := ?_) (some 84) rfl rfl (by kernel_rfl) (by kernel_rfl) (by kernel_rfl) (fun _ _ _ h => h) (Or.inl ⟨by rfl, ?_⟩) (by assumption) ?_
      rotate_left
      · (intro w hSw; (try dsimp only at hSw); go_simp <;> (try with_reducible rfl))
      (try simp only [Act.put, List.setIfInBounds_toArray, List.set_cons_zero, List.set_cons_succ])
      refine take_yes (i := 12) (v := ?_) (some 87) rfl rfl (by kernel_rfl) (by kernel_rfl) (by kernel_rfl) (fun _ _ _ h => h) (Or.inl ⟨by rfl, ?_⟩) (by assumption) ?_
      rotate_left
      · (intro w hSw; (try dsimp only at hSw); go_simp <;> (try with_reducible rfl))
      (try simp only [Act.put, List.setIfInBounds_toArray, List.set_cons_zero, List.set_cons_succ])
      refine wpAnyH_ready (rs := [10]) (by kernel_rfl) (by simp) ?_
      refine AllReadyH.cons (o := _) rfl (fun K hK => ?_) AllReadyH.nil
      go_simp
      skip
      refine hK.out _ _ ⟨g0, gL⟩ (fun hHeld => ?_)
      clear hK K
      (try simp only [Act.put, List.setIfInBounds_toArray, List.set_cons_zero, List.set_cons_succ])
      refine wpAnyH_ready (rs := [11]) (by kernel_rfl) (by simp) ?_
      refine AllReadyH.cons (o := _) rfl (fun K hK => ?_) AllReadyH.nil
      go_simp
      refine (Clip_any p0 n0 c0' hn0 hc0 _).mono ?_
      rintro e w' ⟨rfl, rfl⟩
      refine hK.out _ _ ⟨g0, gL⟩ (fun hHeld => ?_)
      clear hK K
      (try simp only [Act.put, List.setIfInBounds_toArray, List.set_cons_zero, List.set_cons_succ])
      refine wpAnyH_ready (rs := [13]) (by kernel_rfl) (by simp) ?_
      refine AllReadyH.cons (o := _) rfl (fun K hK => ?_) AllReadyH.nil
      (try rw [if_pos (by rfl)])
      refine oper_append _ _ _ _ rfl rfl rfl hap ?_
      skip
      refine hK.out _ _ ⟨g0', gL'⟩ (fun hHeld => ?_)
      clear hK K
      (try simp only [Act.put, List.setIfInBounds_toArray])
      refine wpAnyH_ready (rs := [14]) (by kernel_rfl) (by simp) ?_
      refine AllReadyH.cons (o := _) rfl (fun K hK => ?_) AllReadyH.nil
      go_simp
      skip
      refine hK.out _ _ ⟨g0'', gL''⟩ (fun hHeld => ?_)
      clear hK K
      (try simp only [Act.put, List.setIfInBounds_toArray, List.set_cons_zero, List.set_cons_succ])
      refine wpAnyH_done (by kernel_rfl) ?_ _
      refine NoPanic.normal ?_
      go_wp2
      refine ⟨by simp, .inl ⟨_, _, rfl, run_takeDeferred HFin.out.1, ?_⟩⟩
      refine ⟨_, results_tmp rfl _ _ _, ?_⟩
      exact HFin.out.2
    case stop =>
      rintro D c pre W _ _ h _
      exact h.elim
  · skip
    obtain ⟨u, hl, _⟩ := look_some h hg true
    simp only [if_true] at hl
    clear h hn hd hoff hg hfA hfb hp hsrc hbl
    refine (callsIn_wide (n := 6)).1 ?_
    refine callsIn_of_wp_marks Tryz.func16 rfl trivial ?_ rfl
    simp only [Tryz.ntmps16, List.size_toArray, List.length_cons, List.length_nil, Nat.reduceAdd, Nat.reduceSub, Array.replicate_succ, Array.replicate_zero, List.push_toArray, List.append_toArray, List.nil_append, List.cons_append]
    refine wpIn_wide.2 ?_
    go_wp2_with (go_at_call 38; refine hc.mono ?_; rintro e w' ⟨rfl, rfl⟩)
    have hw : IntKind.i64.wrap ((us : Int) + (q : Int)) = (us : Int) + (q : Int) := IntWalk.i64_in _ (by omega)
    refine wp_region_noPanic ?_
    refine wp_region_held_drew (S := (fun w' => w'.cell? ⟨d, 0, none⟩ = some (.map (some m)) ∧ w'.cell? ⟨d, 1, none⟩ = some (.int .i64 room))) (by kernel_rfl) ⟨e0, e1⟩ (fun hHeld => ?_)
    refine take_yes (i := 0) (v := ?_) (some 38) rfl rfl (by kernel_rfl) (by kernel_rfl) (by kernel_rfl) (fun _ _ _ h => h) (Or.inl ⟨by rfl, ?_⟩) (by assumption) ?_
    rotate_left
    · (intro w hSw; (try dsimp only at hSw); go_simp <;> (try with_reducible rfl))
    (try simp only [Act.put, List.setIfInBounds_toArray, List.set_cons_zero, List.set_cons_succ])
    refine take_yes (i := 2) (v := ?_) (some 40) rfl rfl (by kernel_rfl) (by kernel_rfl) (by kernel_rfl) (fun _ _ _ h => h) (Or.inl ⟨by rfl, ?_⟩) (by assumption) ?_
    rotate_left
    · (intro w hSw; (try dsimp only at hSw); go_simp <;> (try with_reducible rfl))
    (try simp only [Act.put, List.setIfInBounds_toArray, List.set_cons_zero, List.set_cons_succ])
    refine take_yes (i := 4) (v := ?_) (some 42) rfl rfl (by kernel_rfl) (by kernel_rfl) (by kernel_rfl) (fun _ _ _ h => h) (Or.inl ⟨by rfl, ?_⟩) (by assumption) ?_
    rotate_left
    · (intro w hSw; (try dsimp only at hSw); go_simp <;> (try with_reducible rfl))
    (try simp only [Act.put, List.setIfInBounds_toArray, List.set_cons_zero, List.set_cons_succ])
    refine take_yes (i := 5) (v := ?_) (some 43) rfl rfl (by kernel_rfl) (by kernel_rfl) (by kernel_rfl) (fun _ _ _ h => h) (Or.inl ⟨by rfl, ?_⟩) (by assumption) ?_
    rotate_left
    · (intro w hSw; (try dsimp only at hSw); go_simp <;> (try with_reducible rfl))
    (try simp only [Act.put, List.setIfInBounds_toArray, List.set_cons_zero, List.set_cons_succ])
    refine take_yes (i := 6) (v := ?_) (some 44) rfl rfl (by kernel_rfl) (by kernel_rfl) (by kernel_rfl) (fun _ _ _ h => h) (Or.inl ⟨by rfl, ?_⟩) (by assumption) ?_
    rotate_left
    · (intro w hSw; (try dsimp only at hSw); go_simp <;> (try with_reducible rfl))
    (try simp only [Act.put, List.setIfInBounds_toArray, List.set_cons_zero, List.set_cons_succ])
    refine take_yes (i := 7) (v := ?_) (some 45) rfl rfl (by kernel_rfl) (by kernel_rfl) (by kernel_rfl) (fun _ _ _ h => h) (Or.inl ⟨by rfl, ?_⟩) (by assumption) ?_
    rotate_left
    · (intro w hSw; (try dsimp only at hSw); go_simp <;> (try with_reducible rfl))
    (try simp only [Act.put, List.setIfInBounds_toArray, List.set_cons_zero, List.set_cons_succ])
    refine wpAnyH_ready (rs := [1]) (by kernel_rfl) (by simp) ?_
    refine AllReadyH.cons (o := _) rfl (fun K hK => ?_) AllReadyH.nil
    go_simp
    refine hu.mono ?_
    rintro e w1 ⟨rfl, hk⟩
    have f0 := hk.cell e0 id
    have f1 := hk.cell e1 id
    refine hK.out _ _ ⟨f0, f1⟩ (fun hHeld => ?_)
    clear hK K
    (try simp only [Act.put, List.setIfInBounds_toArray, List.set_cons_zero, List.set_cons_succ])
    refine take_yes (i := 3) (v := ?_) (some 41) rfl rfl (by kernel_rfl) (by kernel_rfl) (by kernel_rfl) (fun _ _ _ h => h) (Or.inl ⟨by rfl, ?_⟩) (by assumption) ?_
    rotate_left
    · (intro w hSw; (try dsimp only at hSw); go_simp <;> (try with_reducible rfl))
    (try simp only [Act.put, List.setIfInBounds_toArray, List.set_cons_zero, List.set_cons_succ])
    refine take_yes (i := 8) (v := ?_) (some 46) rfl rfl (by kernel_rfl) (by kernel_rfl) (by kernel_rfl) (fun _ _ _ h => h) (Or.inl ⟨by rfl, ?_⟩) (by assumption) ?_
    rotate_left
    · (intro w hSw; (try dsimp only at hSw); go_simp <;> (try with_reducible rfl))
    (try simp only [Act.put, List.setIfInBounds_toArray, List.set_cons_zero, List.set_cons_succ])
    refine take_yes (i := 9) (v := ?_) (some 47) rfl rfl (by kernel_rfl) (by kernel_rfl) (by kernel_rfl) (fun _ _ _ h => h) (Or.inl ⟨by rfl, ?_⟩) (by assumption) ?_
    rotate_left
    · (intro w hSw; (try dsimp only at hSw); go_simp <;> (try with_reducible rfl))
    (try simp only [Act.put, List.setIfInBounds_toArray, List.set_cons_zero, List.set_cons_succ])
    refine take_yes (i := 10) (v := ?_) (some 48) rfl rfl (by kernel_rfl) (by kernel_rfl) (by kernel_rfl) (fun _ _ _ h => h) (Or.inl ⟨by rfl, ?_⟩) (by assumption) ?_
    rotate_left
    · (intro w hSw; (try dsimp only at hSw); go_simp <;> (try with_reducible rfl))
    (try simp only [Act.put, List.setIfInBounds_toArray, List.set_cons_zero, List.set_cons_succ])
    refine take_yes (i := 11) (v := ?_) (some 49) rfl rfl (by kernel_rfl) (by kernel_rfl) (by kernel_rfl) (fun _ _ _ h => h) (Or.inl ⟨by rfl, ?_⟩) (by assumption) ?_
    rotate_left
    · (intro w hSw; (try dsimp only at hSw); go_simp <;> (try with_reducible rfl))
    (try simp only [Act.put, List.setIfInBounds_toArray, List.set_cons_zero, List.set_cons_succ])
    refine take_yes (i := 12) (v := ?_) (some 50) rfl rfl (by kernel_rfl) (by kernel_rfl) (by kernel_rfl) (fun _ _ _ h => h) (Or.inl ⟨by rfl, ?_⟩) (by assumption) ?_
    rotate_left
    · (intro w hSw; (try dsimp only at hSw); go_simp <;> (try with_reducible rfl))
    (try simp only [Act.put, List.setIfInBounds_toArray, List.set_cons_zero, List.set_cons_succ])
    refine take_no (i := 13) (some 51) rfl rfl (by kernel_rfl) (by kernel_rfl) (by kernel_rfl) (fun _ _ _ h => h) (by kernel_rfl) (by assumption) ?_
    (try simp only [Act.put, List.setIfInBounds_toArray, List.set_cons_zero, List.set_cons_succ])
    refine take_no (i := 14) (some 52) rfl rfl (by kernel_rfl) (by kernel_rfl) (by kernel_rfl) (fun _ _ _ h => h) (by kernel_rfl) (by assumption) ?_
    (try simp only [Act.put, List.setIfInBounds_toArray, List.set_cons_zero, List.set_cons_succ])
    refine take_no (i := 15) (some 53) rfl rfl (by kernel_rfl) (by kernel_rfl) (by kernel_rfl) (fun _ _ _ h => h) (by kernel_rfl) (by assumption) ?_
    (try simp only [Act.put, List.setIfInBounds_toArray, List.set_cons_zero, List.set_cons_succ])
    refine take_no (i := 16) (some 54) rfl rfl (by kernel_rfl) (by kernel_rfl) (by kernel_rfl) (fun _ _ _ h => h) (by kernel_rfl) (by assumption) ?_
    (try simp only [Act.put, List.setIfInBounds_toArray, List.set_cons_zero, List.set_cons_succ])
    refine take_no (i := 17) (some 55) rfl rfl (by kernel_rfl) (by kernel_rfl) (by kernel_rfl) (fun _ _ _ h => h) (by kernel_rfl) (by assumption) ?_
    (try simp only [Act.put, List.setIfInBounds_toArray, List.set_cons_zero, List.set_cons_succ])
    refine take_no (i := 18) (some 56) rfl rfl (by kernel_rfl) (by kernel_rfl) (by kernel_rfl) (fun _ _ _ h => h) (by kernel_rfl) (by assumption) ?_
    (try simp only [Act.put, List.setIfInBounds_toArray, List.set_cons_zero, List.set_cons_succ])
    refine take_yes (i := 19) (v := ?_) (some 57) rfl rfl (by kernel_rfl) (by kernel_rfl) (by kernel_rfl) (fun _ _ _ h => h) (Or.inl ⟨by rfl, ?_⟩) (by assumption) ?_
    rotate_left
    · (intro w hSw; (try dsimp only at hSw); go_simp <;> (try with_reducible rfl))
    (try simp only [Act.put, List.setIfInBounds_toArray, List.set_cons_zero, List.set_cons_succ])
    refine take_yes (i := 20) (v := ?_) (some 58) rfl rfl (by kernel_rfl) (by kernel_rfl) (by kernel_rfl) (fun _ _ _ h => h) (Or.inl ⟨by rfl, ?_⟩) (by assumption) ?_
    rotate_left
    · (intro w hSw; (try dsimp only at hSw); go_simp <;> (try with_reducible rfl))
    (try simp only [Act.put, List.setIfInBounds_toArray, List.set_cons_zero, List.set_cons_succ])
    refine wpAnyH_done (by kernel_rfl) ?_ _
    clear hw
    refine NoPanic.normal ?_
    go_wp2_with (go_at_call 40; refine (callsIn_wide.1 (Chunk_in Fence.wide 6 trivial rfl p len cap _)).mono ?_; rintro e w2 ⟨rfl, rfl⟩)
    obtain ⟨w2, hw2⟩ : ∃ w2, ((w1.alloc (.cells #[.slice none 0 0] 87)).alloc (.cells #[.slice p len cap] 33)).alloc (.cells #[.int .i64 32] 3) = w2 := ⟨_, rfl⟩
    have hs2 : w2.heap.size = w1.heap.size + 3 := by rw [← hw2]; simp
    have bL : Boxed w2 w1.heap.size 87 (.slice none 0 0) := by rw [← hw2]; exact ((Boxed.new w1 _ _).alloc _).alloc _
    have bS : Boxed w2 (w1.heap.size + 1) 33 (.slice p len cap) := by
      rw [← hw2]; have := (Boxed.new (w1.alloc (.cells #[.slice none 0 0] 87)) 33 (.slice p len cap)).alloc (.cells #[.int .i64 32] 3); rwa [World.size_alloc] at this
    have bN : Boxed w2 (w1.heap.size + 1 + 1) 3 (.int .i64 32) := by
      rw [← hw2]; have := Boxed.new ((w1.alloc (.cells #[.slice none 0 0] 87)).alloc (.cells #[.slice p len cap] 33)) 3 (.int .i64 32); rwa [World.size_alloc, World.size_alloc] at this
    have HS1 : Hid (Holds8 w1 b off bs) := fun j v hj => hk.cell (HS.out j v hj) id
    have hB2 : Below w1.heap.size w1 w2 := by rw [← hw2]; exact (((Below.refl _ w1).alloc (Nat.le_refl _) _).alloc (by simp) _).alloc (by simp; omega) _
    rw [hw2]
    clear hw2
    refine (wpIn_wide (n := 6)).1 ?_
    refine wpIn_rangeFunc_ownF rfl (by omega) (gf := 71) (lb := #[.pointer (some ⟨w1.heap.size + 1, 0, none⟩), .pointer (some ⟨w1.heap.size + 1 + 1, 0, none⟩)]) rfl trivial (enters_of Tryz.func71 (by kernel_rfl) rfl)
      (chunk_stops Fence.wide 5 trivial rfl (by omega) (w1.heap.size + 1) (w1.heap.size + 1 + 1) p b off len cap HP.out hcap hlen w2 (by omega) (by omega) bS.cell bN.cell) (fun h k => Two.trans h k) (two_putObj (by omega) (by omega)) (Below.refl _ _) (fun _ => rfl)
      (fun pre W => (((∃ v, Boxed W w1.heap.size 87 v ∧ W.ownsRow w1.heap.size 93 33 v pre.length (fileCells (pre.map (secAt bs))) ∧ True) ∧ Boxed W (w1.heap.size + 1) 33 (.slice p len cap)) ∧ Boxed W (w1.heap.size + 1 + 1) 3 (.int .i64 32)) ∧ Below w1.heap.size w1 W)
      (fun _ _ _ => False)
      (OwnFrom.and (OwnFrom.and (OwnFrom.and (Own.from (holdsRow_own w1.heap.size w1.heap.size 87 93 33 (fun (pre : List Nat) => pre.length) (fun pre => fileCells (pre.map (secAt bs))) (fun _ _ => True)) _) (Own.from (boxed_own _ _ (fun _ => .slice p len cap)) _)) (Own.from (boxed_own _ _ (fun _ => .int .i64 32)) _)) (ownFrom_below (Nat.le_refl _) (by omega)))
      (fun _ _ _ _ _ hs _ _ => hs) ⟨⟨⟨⟨_, bL, World.ownsRow_nil _ _ _ _, trivial⟩, bS⟩, bN⟩, hB2⟩ ?a2 ?assign2 ?body2 ?done2 ?stop2
    case assign2 =>
      intro l x W K hK
      simp only [chunk]
      gi_wp2
      exact hK
    case body2 =>
      rintro l pre x W ⟨⟨⟨⟨v, hv, hrow, -⟩, hbS⟩, hbN⟩, hB⟩ hlt
      have hcv := (hv.alloc (.cells (secCells (secAt bs x)).toArray 93)).cell
      obtain ⟨e, he⟩ : ∃ e, e = min 32 (len - 32 * x) := ⟨_, rfl⟩
      have he1 : ((bs.drop (32 * x)).take 32).length = e := by rw [he]; exact chunk_bytes HBL.out x
      have he2 : e ≤ 32 := by omega
      have hsrc := fun A => chunk_src (x := x) HS1.out hB (Nat.le_refl _) A
      have hs33 : (secCells (secAt bs x)).toArray.size = 33 := by simpa using secCells_length (secAt_len bs x)
      have hi33 : (Tryz.prog.info? 93).map (·.size) = some (secCells (secAt bs x)).toArray.size := by rw [hs33]; exact size_sec
      obtain ⟨i0, z0, hi, hz, hsz, hby, hzs⟩ := info_sec_zero
      have hpq : pre.length < q := by omega
      have hb1 : pre.length + 1 ≤ maxLen := by unfold maxLen; omega
      have hb2 : (pre.length + 1) * 33 ≤ 140737488355328 := by omega
      have hnw : ∀ j u, (secCells (secAt bs x))[j]? = some u → ((W.alloc (.cells (secCells (secAt bs x)).toArray 93)).alloc (.cells (secCells (secAt bs x)).toArray 93)).cell? ((⟨W.heap.size + 1, 0, none⟩ : Addr).add j) = some u := by
        intro j u hu
        have := cells_new (W.alloc (.cells (secCells (secAt bs x)).toArray 93)) (secCells (secAt bs x)).toArray 93 j u (by simpa using hu)
        rw [World.size_alloc] at this
        rw [addr_add]; exact this
      have hoc : ∀ u ∈ secCells (secAt bs x), u.oneCell' = true := fun u hu => oneCell_file (l := [secAt bs x]) u (by simpa [fileCells] using hu)
      simp only [← he]
      gi_wp2_with (first
        | (refine wpListIn_copy_run rfl _ _ _ _ rfl rfl rfl (copy_run (cur := zeros33) (heap_alloc_new W (.cells zeros33 93)) rfl _ he1 he2 (hsrc _) _) ?_; rw [setRow_new, splice_secAt])
        | (refine wpListIn_load_agg rfl 93 _ rfl rfl (secCells (secAt bs x)).toArray (cells_new W _ _) agg_sec hi33 ?_)
        | (refine wpListIn_buildSlice_run rfl 87 1 0 _ rfl rfl (build_one _ hs33) ?_)
        | (gi_at_builtin; refine Hid.out ?_))
      refine Lib.hid ?_
      refine wpListIn_append_own _ rfl _ _ 87 rfl w1.heap.size 93 i0 z0 33 33 slice_type hi hz hsz hby hzs (by decide) _ _ _ rfl ((hrow.alloc _).alloc _) ⟨W.heap.size + 1, 0, none⟩ 1 1 (secCells (secAt bs x)) rfl (by rw [secCells_length (secAt_len bs x)]) hnw hoc hb1 hb2 (by have := hB.size; simp; omega) ?_
      intro v' w' hown' hgrow _
      obtain ⟨g', cap', rfl⟩ := ownsRow_succ hown'
      obtain ⟨r1, r2, r3, r4, r5, r6, r7⟩ := round_own hv hrow hbS hbN hB.size (Nat.le_refl _) (by omega) (by omega) hown' hgrow
      have hc1 := r1.cell
      have hf1 := r1.frozen
      gi_wp2
      exact ⟨r4, two_of_boxed hbS hbN r6 r7, ⟨⟨⟨⟨_, r2, by simpa [fileCells] using r3, trivial⟩, r6⟩, r7⟩, hB.trans r5⟩⟩
    case done2 =>
      rintro D ys W hD rfl ⟨⟨⟨⟨v, hv, hrow, -⟩, -⟩, -⟩, hB⟩ hK
      have hkW : Kp (fun _ => False) w W := ((Kp.refl _ w).drew.trans hk).trans (Kp.of_below _ hB)
      have hdW := H.out.kept hkW fun _ _ h => h
      have hdo := do_noop_all hdW HO.out
      have hDW : D < W.heap.size := blk_lt hK
      have hvL := hv.lt
      have hnl : (fun l : List Sec => l) ((List.range ((len + 31) / 32)).map (secAt bs)) = (List.range (nsec bs.length)).map (secAt bs) := by rw [HBL.out]; rfl
      have hx := fileRep_row (l := (List.range (nsec bs.length)).map (secAt bs)) (by simp [secAt_len]) (by rw [← hnl]; simpa using hrow)
      have hcL := hv.cell
      go_wp2_with (go_at_call 41; refine hdo.mono ?_; rintro e w3 ⟨rfl, F3, ⟨m3, es3, clock3, hv3, h3⟩, hF3, hk3⟩)
      have hks : w.heap.size ≤ w1.heap.size := hk.size
      have hFlt := H.out.flt
      have hx3 : FileRep w3.drew (fun k => w1.heap.size ≤ k) v ((List.range (nsec bs.length)).map (secAt bs)) := hx.kept hk3.drew fun k hk hF => by have := hFlt k hF; omega
      have h3d := h3.drew
      have hlen3 : (getF (S.doS .noop).files name).length + ((List.range (nsec bs.length)).map (secAt bs)).length ≤ 1000000 := by
        have g1 := getF_le S.files name
        have g2 := H.out.ok.used
        have g3 := H.out.ok.room
        rw [doS_files, List.length_map, List.length_range, HBL.out]
        unfold nsec; omega
      obtain ⟨p0, n0, c0', hn0, hc0, hlk, v', w4, hap, hk4, es2, clock2, hup, F5, hd5, hF5, hk5⟩ := save_any (S' := S.appS name bs) h3d name (by unfold St.appS; rw [doS_files]) (appS_ok H.out.ok h3.ok HO.out HN.out (by rw [HBL.out]; exact HA.out) HB.out) hx3 hlen3
      have HFin := Lib.hid (append_fin S.doE hFlt ((Kp.refl _ w).drew.trans hk) hB hk3 hF3 (by omega) hK hd5 hF5 ((Kp.refl F3 w3).drew.trans hk5))
      have g0 := h3d.cells.1
      have gL : w3.drew.cell? ⟨w1.heap.size, 0, none⟩ = some v := hk3.drew.cell hcL fun hF => by have := hFlt _ hF; omega
      have g0' := hk4.cell g0 id
      have gL' := hk4.cell gL id
      have h4m : w4.heap[m3]? = some (.map es3 clock3) := hk4.blk h3d.hm id
      have g0'' := cell_put h4m (.map es2 clock2) g0'
      have gL'' := cell_put h4m (.map es2 clock2) gL'
      clear hd5 hF5 hk5 hk4 h4m hlen3 h3d hx3 h3 hF3 hk3 hx hnl hcL hvL hdo hdW hkW hK hB hrow hv hD hFlt hl hf
      refine wp_region_noPanic ?_
      refine wp_region_held_drew (S := (fun w' => w'.cell? ⟨d, 0, none⟩ = some (.map (some m3)) ∧ w'.cell? ⟨w1.heap.size, 0, none⟩ = some v)) (by kernel_rfl) ⟨g0, gL⟩ (fun hHeld => ?_)
      refine take_yes (i := 0) (v := ?_) (some 75) rfl rfl (by kernel_rfl) (by kernel_rfl) (by kernel_rfl) (fun _ _ _ h => h) (Or.inl ⟨by rfl, ?_⟩) (by assumption) ?_
      rotate_left
      · (intro w hSw; (try dsimp only at hSw); go_simp <;> (try with_reducible rfl))
      (try simp only [Act.put, List.setIfInBounds_toArray, List.set_cons_zero, List.set_cons_succ])
      refine take_yes (i := 1) (v := ?_) (some 76) rfl rfl (by kernel_rfl) (by kernel_rfl) (by kernel_rfl) (fun _ _ _ h => h) (Or.inl ⟨by rfl, ?_⟩) (by assumption) ?_
      rotate_left
      · (intro w hSw; (try dsimp only at hSw); go_simp <;> (try with_reducible rfl))
      (try simp only [Act.put, List.setIfInBounds_toArray, List.set_cons_zero, List.set_cons_succ])
      refine take_yes (i := 2) (v := ?_) (some 77) rfl rfl (by kernel_rfl) (by kernel_rfl) (by kernel_rfl) (fun _ _ _ h => h) (Or.inl ⟨by rfl, ?_⟩) (by assumption) ?_
      rotate_left
      · (intro w hSw; (try dsimp only at hSw); go_simp <;> (try with_reducible rfl))
      (try simp only [Act.put, List.setIfInBounds_toArray, List.set_cons_zero, List.set_cons_succ])
      refine take_yes (i := 3) (v := ?_) (some 78) rfl rfl (by kernel_rfl) (by kernel_rfl) (by kernel_rfl) (fun _ _ _ h => h) (Or.inl ⟨by rfl, ?_⟩) (by assumption) ?_
      rotate_left
      · (intro w hSw; (try dsimp only at hSw); go_simp <;> (try with_reducible rfl))
      (try simp only [Act.put, List.setIfInBounds_toArray, List.set_cons_zero, List.set_cons_succ])
      refine take_yes (i := 4) (v := ?_) (some 79) rfl rfl (by kernel_rfl) (by kernel_rfl) (by kernel_rfl) (fun _ _ _ h => h) (Or.inl ⟨by rfl, ?_⟩) (by assumption) ?_
      rotate_left
      · (intro w hSw; (try dsimp only at hSw); go_simp <;> (try with_reducible rfl))
      (try simp only [Act.put, List.setIfInBounds_toArray, List.set_cons_zero, List.set_cons_succ])
      refine take_yes (i := 5) (v := ?_) (some 80) rfl rfl (by kernel_rfl) (by kernel_rfl) (by kernel_rfl) (fun _ _ _ h => h) (Or.inl ⟨by rfl, ?_⟩) (by assumption) ?_
      rotate_left
      · (intro w hSw; (try dsimp only at hSw); go_simp <;> (try with_reducible rfl))
      (try simp only [Act.put, List.setIfInBounds_toArray, List.set_cons_zero, List.set_cons_succ])
      refine take_yes (i := 6) (v := ?_) (some 81) rfl rfl (by kernel_rfl) (by kernel_rfl) (by kernel_rfl) (fun _ _ _ h => h) (Or.inl ⟨by rfl, ?_⟩) (by assumption) ?_
      rotate_left
      · (intro w hSw; (try dsimp only at hSw); go_simp <;> (try with_reducible rfl))
      (try simp only [Act.put, List.setIfInBounds_toArray, List.set_cons_zero, List.set_cons_succ])
      refine take_yes (i := 7) (v := ?_) (some 82) rfl rfl (by kernel_rfl) (by kernel_rfl) (by kernel_rfl) (fun _ _ _ h => h) (Or.inl ⟨by rfl, ?_⟩) (by assumption) ?_
      rotate_left
      · (intro w hSw; (try dsimp only at hSw); go_simp <;> (try with_reducible rfl))
      (try simp only [Act.put, List.setIfInBounds_toArray, List.set_cons_zero, List.set_cons_succ])
      refine take_yes (i := 8) (v := ?_) (some 83) rfl rfl (by kernel_rfl) (by kernel_rfl) (by kernel_rfl) (fun _ _ _ h => h) (Or.inl ⟨by rfl, ?_⟩) (by assumption) ?_
      rotate_left
      · (intro w hSw; (try dsimp only at hSw); go_simp <;> (try with_reducible rfl))
      (try simp only [Act.put, List.setIfInBounds_toArray, List.set_cons_zero, List.set_cons_succ])
      refine take_yes (i := 9) (v := ?_) (some 84) rfl rfl (by kernel_rfl) (by kernel_rfl) (by kernel_rfl) (fun _ _ _ h => h) (Or.inl ⟨by rfl, ?_⟩) (by assumption) ?_
      rotate_left
      · (intro w hSw; (try dsimp only at hSw); go_simp <;> (try with_reducible rfl))
      (try simp only [Act.put, List.setIfInBounds_toArray, List.set_cons_zero, List.set_cons_succ])
      refine take_yes (i := 12) (v := ?_) (some 87) rfl rfl (by kernel_rfl) (by kernel_rfl) (by kernel_rfl) (fun _ _ _ h => h) (Or.inl ⟨by rfl, ?_⟩) (by assumption) ?_
      rotate_left
      · (intro w hSw; (try dsimp only at hSw); go_simp <;> (try with_reducible rfl))
      (try simp only [Act.put, List.setIfInBounds_toArray, List.set_cons_zero, List.set_cons_succ])
      refine wpAnyH_ready (rs := [10]) (by kernel_rfl) (by simp) ?_
      refine AllReadyH.cons (o := _) rfl (fun K hK => ?_) AllReadyH.nil
      go_simp
      skip
      refine hK.out _ _ ⟨g0, gL⟩ (fun hHeld => ?_)
      clear hK K
      (try simp only [Act.put, List.setIfInBounds_toArray, List.set_cons_zero, List.set_cons_succ])
      refine wpAnyH_ready (rs := [11]) (by kernel_rfl) (by simp) ?_
      refine AllReadyH.cons (o := _) rfl (fun K hK => ?_) AllReadyH.nil
      go_simp
      refine (Clip_any p0 n0 c0' hn0 hc0 _).mono ?_
      rintro e w' ⟨rfl, rfl⟩
      refine hK.out _ _ ⟨g0, gL⟩ (fun hHeld => ?_)
      clear hK K
      (try simp only [Act.put, List.setIfInBounds_toArray, List.set_cons_zero, List.set_cons_succ])
      refine wpAnyH_ready (rs := [13]) (by kernel_rfl) (by simp) ?_
      refine AllReadyH.cons (o := _) rfl (fun K hK => ?_) AllReadyH.nil
      (try rw [if_pos (by rfl)])
      refine oper_append _ _ _ _ rfl rfl rfl hap ?_
      skip
      refine hK.out _ _ ⟨g0', gL'⟩ (fun hHeld => ?_)
      clear hK K
      (try simp only [Act.put, List.setIfInBounds_toArray])
      refine wpAnyH_ready (rs := [14]) (by kernel_rfl) (by simp) ?_
      refine AllReadyH.cons (o := _) rfl (fun K hK => ?_) AllReadyH.nil
      go_simp
      skip
      refine hK.out _ _ ⟨g0'', gL''⟩ (fun hHeld => ?_)
      clear hK K
      (try simp only [Act.put, List.setIfInBounds_toArray, List.set_cons_zero, List.set_cons_succ])
      refine wpAnyH_done (by kernel_rfl) ?_ _
      refine NoPanic.normal ?_
      go_wp2
      refine ⟨by simp, .inl ⟨_, _, rfl, run_takeDeferred HFin.out.1, ?_⟩⟩
      refine ⟨_, results_tmp rfl _ _ _, ?_⟩
      exact HFin.out.2
    case stop2 =>
      rintro D c pre W _ _ h _
      exact h.elim
end Go.Proofs.YtggnohbfdlebiaaGreatDoor

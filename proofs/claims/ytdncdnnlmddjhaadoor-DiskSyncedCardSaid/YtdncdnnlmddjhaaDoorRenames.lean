/-
  DiskRenames: a file that was synced and renamed is there under its new name alone, whole, behind any crash that comes later.
-/
import Derived.Test.YtdncdnnlmddjhaaDoorCrash
namespace Go.Proofs.YtdncdnnlmddjhaaDoor
open Go.RowKit Go.Shelf Go.ChangeMaps

theorem blk_drewN {w : World} {b : Nat} {o : Obj} (n : Nat) (h : w.heap[b]? = some o) : (w.drewN n).heap[b]? = some o := h
def nmNew : Nm := { data := #[110, 101, 119] }
def nmOld : Nm := { data := #[111, 108, 100] }
def nmX : Nm := { data := #[120] }
/-- The disk, step by step. -/
structure RenPath (ys zs : List Int) (dn : Bool) (L : List Bool) (S1 S2 S3 S4 S5 S6 : St) : Prop where
  e1 : (St.new 100).appE nmNew ys.length = 0
  s1 : (St.new 100).appT nmNew ys = S1
  e2 : S1.appE nmOld zs.length = 0
  s2 : S1.appT nmOld zs = S2
  e3 : S2.opE (S2.check nmNew true) = 0
  s3 : S2.opS (S2.check nmNew true) (.sync nmNew) = S3
  c3 : S3.check nmNew true = 0
  b3 : bytesOf (getF S3.files nmNew) = bytesOf (secs ys)
  e4 : S3.renE nmNew nmOld = 0
  s4 : S3.renS nmNew nmOld = S4
  o4 : S4.off = false
  e5 : ({ S4 with armed := 1 } : St).appE nmX zs.length = 18
  s5 : ({ S4 with armed := 1 } : St).appT nmX zs = S5
  o5 : S5.off = true
  s6 : S5.restart dn L = S6
  c6 : S6.check nmOld true = 0
  b6 : bytesOf (getF S6.files nmOld) = bytesOf (secs ys)
  d6 : S6.check nmNew true = 7
theorem ren_path (ys zs : List Int) (hy : ys.length ≤ 300) (hz : zs.length ≤ 300) (dn : Bool) (L : List Bool) : ∃ S1 S2 S3 S4 S5 S6, RenPath ys zs dn L S1 S2 S3 S4 S5 S6 := by
  have ny : nsec ys.length ≤ 10 := nsec_le (by omega)
  have nz : nsec zs.length ≤ 10 := nsec_le (by omega)
  have ly := secs_length ys
  have lz := secs_length zs
  have x1 : nmNew ≠ nmOld := by decide
  have x2 : nmX ≠ nmOld := by decide
  have x3 : nmNew ≠ nmX := by decide
  obtain ⟨a1, a2, a3, a4⟩ := first_write (m := 100) (n := nmNew) (bs := ys) (by decide) (by omega)
  obtain ⟨S1, hS1⟩ : ∃ S1, (St.new 100).appT nmNew ys = S1 := ⟨_, rfl⟩
  rw [hS1] at a2 a3 a4
  have f2 : Fits S1 nmOld zs.length := Fits.of (u := 10) (by decide) (by rw [a3]; simp [used]; omega) (by rw [a4]; omega) (by rw [a3]; simp)
  obtain ⟨S2, hS2⟩ : ∃ S2, S1.appT nmOld zs = S2 := ⟨_, rfl⟩
  have b2 : Idle S2 := by rw [← hS2]; exact a2.appT nmOld zs
  have b3 : S2.files = [(nmNew, secs ys), (nmOld, secs zs)] := by
    rw [← hS2, f2.idleT a2, appS_files, a3]; simp [put, getF, get, x1.symm]
  have b4 : S2.room = 100 := by rw [← hS2, f2.idleT a2, appS_room, a4]
  have b5 : S2.check nmNew true = 0 := b2.there (by decide) (by rw [b3]; simp [get])
  obtain ⟨S3, hS3⟩ : ∃ S3, S2.opS (S2.check nmNew true) (.sync nmNew) = S3 := ⟨_, rfl⟩
  have hS3' : S2.doS (.sync nmNew) = S3 := by rw [← hS3, b5]; rfl
  have c2 : Idle S3 := by rw [← hS3']; exact b2.did _
  have c3 : S3.files = [(nmNew, syncAll (secs ys)), (nmOld, secs zs)] := by
    rw [← hS3', b2.did_files, b3]; simp [Hg.run, put, getF, get]
  have c4 : S3.room = 100 := by rw [← hS3', b2.did_room, b4]
  have c5 : S3.check nmNew true = 0 := c2.there (by decide) (by rw [c3]; simp [get])
  obtain ⟨S4, hS4⟩ : ∃ S4, S3.renS nmNew nmOld = S4 := ⟨_, rfl⟩
  have hn : ¬ nameB nmOld = false := by decide
  have hS4' : S3.doS (.rename nmNew nmOld) = S4 := by rw [← hS4]; unfold St.renS; rw [if_neg hn, c5]; rfl
  have d2 : Idle S4 := by rw [← hS4']; exact c2.did _
  have d3 : S4.files = [(nmOld, syncAll (secs ys))] := by
    rw [← hS4', c2.did_files, c3]; simp [Hg.run, put, del, getF, get]
  have d4 : S4.room = 100 := by rw [← hS4', c2.did_room, c4]
  have f5 : Fits S4 nmX zs.length := Fits.of (u := 10) (by decide) (by rw [d3]; simp [used, syncAll_length]; omega) (by rw [d4]; omega) (by rw [d3]; simp)
  obtain ⟨g1, g2⟩ := armed_append f5 d2.off
  obtain ⟨S5, hS5⟩ : ∃ S5, ({ S4 with armed := 1 } : St).appT nmX zs = S5 := ⟨_, rfl⟩
  rw [hS5] at g2
  have h3 : S5.files = [(nmOld, syncAll (secs ys)), (nmX, secs zs)] := by rw [g2, d3]; simp [put, getF, get, x2]
  have h4 : S5.hangs = some .noop := by rw [g2]
  have i2 := restart_idle S5 dn L
  have i3 := restart_files h4 dn L
  have k1 : (get S5.files nmOld).isSome = true := by rw [h3]; simp [get]
  have k2 : (get S5.files nmNew).isSome = false := by rw [h3]; simp [get, x1, x3]
  refine ⟨S1, S2, S3, S4, S5, S5.restart dn L, a1, hS1, f2.idleE a2, hS2, by rw [b2.opE, b5], hS3, c5, ?_, ?_, hS4, d2.off, g1, hS5, by rw [g2], rfl, ?_, ?_, ?_⟩
  · rw [c3]; simp [getF, get, bytesOf_sync]
  · unfold St.renE; rw [if_neg hn, c5, c2.opE]
  · exact i2.there (by decide) (by rw [i3, fated_isSome, k1])
  · rw [i3]
    obtain ⟨i, hi⟩ := fated_getF L k1
    rw [hi, fateN_safe]
    · rw [h3]; simp [getF, get, bytesOf_sync]
    · rw [h3]; simp only [getF, get, if_true, Option.getD_some]; exact syncAll_safe _
  · refine i2.gone (by decide) ?_
    have : (get (S5.restart dn L).files nmNew).isSome = false := by rw [i3, fated_isSome, k2]
    simpa using this

set_option maxRecDepth 100000 in
set_option maxHeartbeats 8000000 in
theorem DiskRenames_any (w : World) (p q : Option Addr) (pn pc qn qc : Nat) (bp bq : List Int) (hp : BytesAt w (fun _ => False) (.slice p pn pc) bp) (hq : BytesAt w (fun _ => False) (.slice q qn qc) bq) (hpm : pn ≤ 9223372036854775807) (hqm : qn ≤ 9223372036854775807)
    (dn : Bool) (L : List Bool) (kp : Option Addr) (kc : Nat) (hL : CellsAt w (fun _ => False) (.slice kp L.length kc) (L.map Value.bool)) (hLl : L.length ≤ 140737488351232) :
    Calls Tryd.prog 7 #[.slice p pn pc, .slice q qn qc, .agg #[.bool dn, .slice kp L.length kc]] w (fun e w' => e = .returned (.bool true) ∧ Kp (fun _ => False) w w') := by
  have ha := awake_any (w.alloc (.cells #[.bool dn, .slice kp L.length kc] 35))
  obtain ⟨wb, hwb⟩ : ∃ wb, w.alloc (.cells #[.bool dn, .slice kp L.length kc] 35) = wb := ⟨_, rfl⟩
  have hbx : wb.heap[w.heap.size]? = some (.cells #[.bool dn, .slice kp L.length kc] 35 (0, 0)) := by rw [← hwb]; exact heap_alloc_new w _
  have hkw : Kp (fun _ => False) w wb := by rw [← hwb]; exact (Kp.refl (fun _ => False) w).alloc _
  have HP := Lib.hid hp
  have HQ := Lib.hid hq
  have HL := Lib.hid (hL.kept hkw (F' := fun _ => False) fun _ h => .inl h)
  have HLL := Lib.hid hLl
  have hpc := hp.len.2
  have hqc := hq.len.2
  have HBX := Lib.hid hbx
  have HKW := Lib.hid hkw
  have HWB := Lib.hid hwb
  clear hp hq hL hLl hbx hwb
  go_enter Tryd.func7, Tryd.ntmps7
  go_wp2_with (first
    | (go_at_call 9; refine ha.mono ?_; rintro e w1 ⟨rfl, hk1⟩; rw [HWB.out] at hk1; clear HWB ha)
    | (go_at_call 10; refine Hid.out ?_))
  go_quiet (fail)
  go_wp2_with (go_at_call 10; refine Hid.out ?_)
  obtain ⟨n, hn⟩ : ∃ n, (min (pn : Int) 300).toNat = n := ⟨_, rfl⟩
  obtain ⟨m, hm⟩ : ∃ n, (min (qn : Int) 300).toNat = n := ⟨_, rfl⟩
  have hn5 : n ≤ 300 := by omega
  have hm5 : m ≤ 300 := by omega
  have hnl : n ≤ pn := by omega
  have hml : m ≤ qn := by omega
  rw [hn, hm]
  refine Lib.hid ?_
  refine (New_dsk 100 (by omega) (by omega) wb _ (hk1.drewN _)).mono ?_
  rintro e w2 ⟨d, F, rfl, h2, -, -⟩
  obtain ⟨ys, hys⟩ : ∃ ys, bp.take n = ys := ⟨_, rfl⟩
  have hp := HP.out.take hnl
  rw [hys] at hp
  obtain rfl : n = ys.length := hp.len.1
  obtain ⟨zs, hzs⟩ : ∃ zs, bq.take m = zs := ⟨_, rfl⟩
  have hq := HQ.out.take hml
  rw [hzs] at hq
  obtain rfl : m = zs.length := hq.len.1
  have ctp := Twin_bytes (hp.kept (hkw.trans h2.kp) (F' := fun _ => False) fun _ h => .inl h) (by omega)
  have HQ2 := Lib.hid (hq.kept hkw (F' := fun _ => False) fun _ h => .inl h)
  obtain ⟨S1, S2, S3, S4, S5, S6, path⟩ := ren_path ys zs hn5 hm5 dn L
  have PA := Lib.hid path
  have H2 := Lib.hid h2
  have hB : (bytesOf (secs ys)).length ≤ 320 := by
    rw [bytesOf_length (secs_len ys), secs_length]; have : nsec ys.length ≤ 10 := nsec_le (by omega)
    omega
  obtain ⟨B, hBB⟩ : ∃ B, bytesOf (secs ys) = B := ⟨_, rfl⟩
  rw [hBB] at hB
  have HBB := Lib.hid hBB
  clear hp hq HP HQ h2 path hkw hk1 hBB
  go_wp2_with (first
    | (go_at_call 13; refine ctp.mono ?_; rintro e w3 ⟨g, c, rfl, hgc, -, -, hgh, hgk⟩; have cap := H2.out.append_new hgc hgh hgk nmNew (by decide) (by omega); rw [PA.out.e1, PA.out.s1] at cap; clear hgh hgk ctp)
    | (go_at_call 12; refine cap.mono ?_; rintro e w4 ⟨rfl, F4, h4, -, -⟩; have ctq := Twin_bytes (HQ2.out.kept h4.kp (F' := fun _ => False) fun _ h => .inl h) (by omega); have H4 := Lib.hid h4; clear h4 cap)
    | (go_at_call 13; refine ctq.mono ?_; rintro e w5 ⟨g5, c5, rfl, hgc5, -, -, hgh, hgk⟩; have caq := H4.out.append_new hgc5 hgh hgk nmOld (by decide) (by omega); rw [PA.out.e2, PA.out.s2] at caq; clear hgh hgk ctq)
    | (go_at_call 12; refine caq.mono ?_; rintro e w6 ⟨rfl, F6, h6, -, -⟩; have csy := h6.sync nmNew (by decide); rw [PA.out.e3, PA.out.s3] at csy; clear h6 caq)
    | (go_at_call 14; refine csy.mono ?_; rintro e w7 ⟨rfl, F7, h7, -, -⟩; have crd := h7.read_ok nmNew (by decide) PA.out.c3; rw [PA.out.b3, HBB.out] at crd; clear h7 csy)
    | (go_at_call 15; refine Hid.out ?_))
  refine Lib.hid ?_
  refine crd.mono ?_
  rintro e w8 ⟨v, rfl, h8, -, hb8⟩
  have hb8' := hb8
  obtain ⟨wp, wc, rfl, -, -⟩ := hb8'
  have cre := h8.rename nmNew nmOld (by decide) (by decide)
  rw [PA.out.e4, PA.out.s4] at cre
  have HB8 := Lib.hid hb8
  clear h8 hb8 crd H2 H4
  go_wp2_with (first
    | (go_at_call 24; refine cre.mono ?_; rintro e w9 ⟨rfl, F9, h9, hF9, hk9⟩; have HB9 := Lib.hid (HB8.out.kept hk9 hF9); have car := h9.arm PA.out.o4 1 (by omega); clear h9 hF9 hk9 cre)
    | (go_at_call 16; refine car.mono ?_; rintro e wa ⟨rfl, Fa, ha, hFa, hka⟩; have HBa := Lib.hid (HB9.out.kept hka hFa); have ctq := Twin_bytes (HQ2.out.kept ha.kp (F' := fun _ => False) fun _ h => .inl h) (by omega); have Ha := Lib.hid ha; clear ha hFa hka car)
    | (go_at_call 13; refine ctq.mono ?_; rintro e wt ⟨g5, c5, rfl, hgc5, -, -, hgh, hgk⟩; have caq := Ha.out.append_new hgc5 hgh hgk nmX (by decide) (by omega); rw [PA.out.e5, PA.out.s5] at caq; have HBt := Lib.hid (HBa.out.kept (F' := Fa) (hgk.mono fun _ h => h.elim) fun _ h => .inl h); clear hgh hgk ctq)
    | (go_at_call 12; refine caq.mono ?_; rintro e w6 ⟨rfl, F6, h6, hF6, hk6⟩; have HB6 := Lib.hid (HBt.out.kept hk6 hF6); have cfa := fate_any (dn := dn) (HL.out.kept h6.kp (F' := fun _ => False) fun _ h => .inl h) HLL.out; have hbx := h6.kp.blk HBX.out id; have q0 := blk_cell hbx 0; have q1 := blk_cell hbx 1; simp only [List.getElem?_toArray, List.getElem?_cons_zero, List.getElem?_cons_succ] at q0 q1; have H6 := Lib.hid h6; clear h6 hF6 hk6 caq)
    | (go_at_call 18; refine cfa.mono ?_; rintro e w7 ⟨gf, cf, rfl, hcf, hgf, hgfs, hfx, hfk⟩; have crs := H6.out.restart_new PA.out.o5 dn HLL.out hcf hgf hgfs hfx hfk; rw [PA.out.s6] at crs; have HB7 := Lib.hid (HB6.out.kept (F' := F6) (hfk.mono fun _ h => h.elim) fun _ h => .inl h); clear hfx hfk cfa hgf hgfs q0 q1)
    | (go_at_call 17; refine crs.mono ?_; rintro e w8 ⟨rfl, F8, h8, hF8, hk8⟩; have HB8 := Lib.hid (HB7.out.kept hk8 hF8); have crd := h8.read_ok nmOld (by decide) PA.out.c6; rw [PA.out.b6, HBB.out] at crd; clear h8 hF8 hk8 crs)
    | (go_at_call 15; refine Hid.out ?_))
  refine Lib.hid ?_
  refine crd.mono ?_
  rintro e w9 ⟨v, rfl, h9, hk9, hb9⟩
  have hbw := HB8.out.kept (F' := F8) (hk9.mono fun _ h => h.elim) fun _ h => .inl h
  have csm := Same_bytes hb9 hbw (by omega)
  rw [decide_eq_true rfl] at csm
  obtain ⟨vp, vc, rfl, -, -⟩ := hb9
  have cre := h9.read_err nmNew (by decide) (by rw [PA.out.d6]; omega)
  rw [PA.out.d6] at cre
  have HK9 := Lib.hid (HKW.out.trans h9.kp)
  clear h9 hk9 hbw crd H6 Ha
  go_wp2_with (first
    | (go_at_call 15; refine cre.mono ?_; rintro e w' ⟨rfl, rfl⟩)
    | (go_at_call 19; refine csm.mono ?_; rintro e wz ⟨rfl, hkz⟩; have HKZ := Lib.hid hkz; clear hkz))
  go_ret
  exact ⟨rfl, HK9.out.trans HKZ.out⟩
end Go.Proofs.YtdncdnnlmddjhaaDoor

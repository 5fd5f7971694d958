/-
  SnapSafe: the elder one or the new one.
-/
import Derived.Test.YtmcmapaapffadaaDoorSafeLaw
import Derived.Test.YtmcmapaapffadaaDoorAwakeS
import Derived.Test.YtmcmapaapffadaaDoorCrash
namespace Go.Proofs.YtmcmapaapffadaaDoor
open Go.RowKit Go.Shelf Go.ChangeMaps

/-- What was handed in, copied, is written as a snapshot. -/
theorem own_at {w w' : World} {F : Nat → Prop} {bs : List Int} {g c : Nat} (hF : ∀ k, F k → k < w.heap.size) (hc : bs.length ≤ c) (hg : w.heap.size ≤ g) (hh : Holds8 w' g 0 bs) : BytesAt w' F (.slice (some ⟨g, 0, none⟩) bs.length c) bs := by
  refine ⟨_, c, rfl, hc, fun j x hj => ⟨g, 0, rfl, fun hf => by have := hF g hf; omega, ?_⟩⟩
  exact hh j _ (by simp only [byteVals, List.getElem?_map, hj]; rfl)
theorem Dsk.write_new {w0 w w' : World} {d : Nat} {S : St} {F : Nat → Prop} (h : Dsk w0 w d S F) (hoff : S.off = false) {n : Nat} (hn : n ≤ 999999999999) {bs : List Int} (hp : Pay bs) {g c : Nat} (hc : bs.length ≤ c) (hg : w.heap.size ≤ g) (hh : Holds8 w' g 0 bs) (hk : Kp (fun _ => False) w w') :
    Calls Tryd.prog 8 #[.pointer (some ⟨d, 0, none⟩), .int .i64 (n : Int), .slice (some ⟨g, 0, none⟩) bs.length c] w' (Goes w0 w' d (S.wrE n bs) (S.wrS n bs) F) :=
  Write_any (h.step hk) hoff hn (own_at h.flt hc hg hh) hp.byts hp.one hp.most
/-- From the state behind the write (and a restart) on. -/
structure Tail (S3 : St) (n : Nat) (bs ss : List Int) (S5 S6 : St) (ns ns5 : List Nat) : Prop where
  tidy3 : TidyS S3.files
  list3 : snapsOf S3.files = ns ++ [n]
  chk3 : S3.check (nmOf n) true = 0
  byt3 : bytesOf (getF S3.files (nmOf n)) = secF bs
  pay : Pay bs
  e5 : ({ S3 with armed := 0 } : St).wrE 9 ss = 0
  s5 : ({ S3 with armed := 0 } : St).wrS 9 ss = S5
  i5 : Idle S5
  tidy5 : TidyS S5.files
  nodup5 : (S5.files.map (·.1)).Nodup
  list5 : snapsOf S5.files = ns5 ++ [9]
  chk5 : S5.check (nmOf 9) true = 0
  byt5 : bytesOf (getF S5.files (nmOf 9)) = secF ss
  s6 : S5.rmAll 9 (snapsOf S5.files) = S6
  o6 : S6.off = false
  tidy6 : TidyS S6.files
  list6 : snapsOf S6.files = [] ++ [9]
  chk6 : S6.check (nmOf 9) true = 0
  byt6 : bytesOf (getF S6.files (nmOf 9)) = secF ss
theorem tail_of {S3 : St} {M : Nat → Option (List Int)} {n : Nat} {bs ss : List Int} (hoff : S3.off = false) (hW : Whole S3.files M) (hn : n ≤ 8) (e : M n = some bs) (hmax : ∀ m, (M m).isSome = true → m ≤ n) (hss : Pay ss)
    (hu : (used S3.files : Int) + partsN (ss.length + 4) ≤ S3.room) (hc : S3.files.length < 64) : ∃ S5 S6 ns ns5, Tail S3 n bs ss S5 S6 ns ns5 := by
  obtain ⟨pp, ⟨ns, hns⟩, hch, hby⟩ := hW.newest hoff (by omega) e fun m _ h => hmax m h
  have hi : Idle ({ S3 with armed := 0 } : St) := ⟨hoff, rfl⟩
  obtain ⟨b1, b2, b3, _⟩ := write_calm (n := 9) hi (show Whole ({ S3 with armed := 0 } : St).files M from hW) (by decide) hss hu hc
  obtain ⟨S5, hS5⟩ : ∃ S5, ({ S3 with armed := 0 } : St).wrS 9 ss = S5 := ⟨_, rfl⟩
  rw [hS5] at b2 b3
  have h9 : upd M 9 ss 9 = some ss := by unfold upd; rw [if_pos rfl]
  obtain ⟨_, ⟨ns5, hns5⟩, hch5, hby5⟩ := b3.newest b2.off (n := 9) (by decide) h9 fun m _ h => by
    unfold upd at h
    by_cases hm : m = 9
    · omega
    · rw [if_neg hm] at h; have := hmax m h; omega
  have c3 := b3.cleaned b2 9
  have ci := rmAll_idle (n := 9) (snapsOf S5.files) b2
  have h6 : only (upd M 9 ss) 9 9 = some ss := by unfold only; rw [if_pos rfl, h9]
  have hl6 : snapsOf (S5.rmAll 9 (snapsOf S5.files)).files = [9] := c3.listed (by simp) fun m => by
    unfold only
    by_cases hm : m = 9
    · subst hm; rw [if_pos rfl, h9]; simp
    · rw [if_neg hm]; simp [hm]
  obtain ⟨_, _, hch6, hby6⟩ := c3.newest ci.off (n := 9) (by decide) h6 fun m _ h => by
    unfold only at h
    by_cases hm : m = 9
    · omega
    · rw [if_neg hm] at h; cases h
  exact ⟨S5, _, ns, ns5, hW.tidyS, hns, hch, hby, pp, b1, hS5, b2, b3.tidyS, b3.nodup, hns5, hch5, hby5, rfl, ci.off, c3.tidyS, hl6, hch6, hby6⟩
def M3 (ps : List Int) : Nat → Option (List Int) := upd (fun _ => none) 3 ps
theorem M3_max {ps : List Int} (m : Nat) (h : (M3 ps m).isSome = true) : m ≤ 3 := by
  unfold M3 upd at h
  by_cases hm : m = 3
  · omega
  · rw [if_neg hm] at h; cases h
theorem M8_max {ps qs : List Int} (m : Nat) (h : (upd (M3 ps) 8 qs m).isSome = true) : m ≤ 8 := by
  unfold upd at h
  by_cases hm : m = 8
  · omega
  · rw [if_neg hm] at h; have := M3_max m h; omega
/-- The three ways. -/
inductive Way (ps qs ss : List Int) (dn : Bool) (L : List Bool) (S2 : St) (f : Int) : Prop
  | done (S5 S6 : St) (ns ns5 : List Nat) (hf : f = 0) (hoff : S2.off = false) (t : Tail S2 8 qs ss S5 S6 ns ns5) : Way ps qs ss dn L S2 f
  | elder (S3 S5 S6 : St) (ns ns5 : List Nat) (hf : f = 18) (hoff : S2.off = true) (hr : S2.restart dn L = S3) (ho : S3.off = false) (t : Tail S3 3 ps ss S5 S6 ns ns5) : Way ps qs ss dn L S2 f
  | newer (S3 S5 S6 : St) (ns ns5 : List Nat) (hf : f = 18) (hoff : S2.off = true) (hr : S2.restart dn L = S3) (ho : S3.off = false) (t : Tail S3 8 qs ss S5 S6 ns ns5) : Way ps qs ss dn L S2 f
theorem partsN_500 {n : Nat} (h : n ≤ 500) : partsN (n + 4) ≤ 21 := by unfold partsN; omega
theorem safe_way {ps qs ss : List Int} (hp : Pay ps) (hq : Pay qs) (hs : Pay ss) (lp : ps.length ≤ 500) (lq : qs.length ≤ 500) (ls : ss.length ≤ 500) (a : Nat) (dn : Bool) (L : List Bool) :
    ∃ S1 S2 f, (St.new 1000).wrE 3 ps = 0 ∧ (St.new 1000).wrS 3 ps = S1 ∧ S1.off = false ∧ ({ S1 with armed := (a : Int) } : St).wrE 8 qs = f ∧ ({ S1 with armed := (a : Int) } : St).wrS 8 qs = S2 ∧ Way ps qs ss dn L S2 f := by
  have pp := partsN_500 lp
  have pq := partsN_500 lq
  have ps' := partsN_500 ls
  have hi : Idle (St.new 1000) := ⟨rfl, rfl⟩
  have u0 : used (St.new 1000).files = 0 := rfl
  have l0 : (St.new 1000).files.length = 0 := rfl
  have r0 : (St.new 1000).room = 1000 := rfl
  obtain ⟨a1, a2, a3, a4, a5, a6, a7⟩ := write_calm (n := 3) hi (whole_new 1000) (by decide) hp (by rw [u0, r0]; omega) (by omega)
  obtain ⟨S1, hS1⟩ : ∃ S1, (St.new 1000).wrS 3 ps = S1 := ⟨_, rfl⟩
  rw [hS1] at a2 a3 a4 a5 a6 a7
  have a3' : Whole S1.files (M3 ps) := a3
  have w := write_armed (S := { S1 with armed := (a : Int) }) (n := 8) a2.off (Int.natCast_nonneg a) a3' a5 (by decide) hq (by show (used S1.files : Int) + _ ≤ S1.room; omega) (by show S1.files.length < 64; omega)
  obtain ⟨S2, hS2⟩ : ∃ S2, ({ S1 with armed := (a : Int) } : St).wrS 8 qs = S2 := ⟨_, rfl⟩
  obtain ⟨f, hf⟩ : ∃ f, ({ S1 with armed := (a : Int) } : St).wrE 8 qs = f := ⟨_, rfl⟩
  rw [hS2, hf] at w
  obtain ⟨w1, w2, w3, w4⟩ := w
  have w1' : S2.room = S1.room := w1
  have w2' : used S2.files ≤ used S1.files + partsN (qs.length + 4) := w2
  have w3' : S2.files.length ≤ S1.files.length + 1 := w3
  have m8 : upd (M3 ps) 8 qs 8 = some qs := by unfold upd; rw [if_pos rfl]
  have m3 : M3 ps 3 = some ps := by unfold M3 upd; rw [if_pos rfl]
  refine ⟨S1, S2, f, a1, hS1, a2.off, hf, hS2, ?_⟩
  rcases w4 with ⟨hf0, ho, hw⟩ | ⟨hf1, ho, hw⟩
  · obtain ⟨S5, S6, ns, ns5, t⟩ := tail_of ho hw (Nat.le_refl 8) m8 M8_max hs (by omega) (by omega)
    exact .done S5 S6 ns ns5 hf0 ho t
  · obtain ⟨h1, h2, h3⟩ := hw dn
    have h2' : used (S2.fated dn) ≤ used S1.files + partsN (qs.length + 4) := h2
    have h3' : (S2.fated dn).length ≤ S1.files.length + 1 := h3
    have hoff3 : (S2.restart dn L).off = false := (restart_idle S2 dn L).off
    have hr3 : (S2.restart dn L).room = S2.room := rfl
    have hu3 : used (S2.restart dn L).files = used (S2.fated dn) := used_fate L _ _
    have hl3 : (S2.restart dn L).files.length = (S2.fated dn).length := fated_length L _
    rcases h1 with h1 | h1
    · obtain ⟨S5, S6, ns, ns5, t⟩ := tail_of hoff3 (show Whole (S2.restart dn L).files _ from h1.fated L) (by decide) m3 M3_max hs (by rw [hr3, hu3]; omega) (by omega)
      exact .elder _ S5 S6 ns ns5 hf1 ho rfl hoff3 t
    · obtain ⟨S5, S6, ns, ns5, t⟩ := tail_of hoff3 (show Whole (S2.restart dn L).files _ from h1.fated L) (Nat.le_refl 8) m8 M8_max hs (by rw [hr3, hu3]; omega) (by omega)
      exact .newer _ S5 S6 ns ns5 hf1 ho rfl hoff3 t

set_option maxRecDepth 100000 in
set_option maxHeartbeats 8000000 in
theorem SnapSafe_any (w : World) (p q s : Option Addr) (pn pc qn qc sn sc : Nat) (bp bq bs : List Int) (hp : BytesAt w (fun _ => False) (.slice p pn pc) bp) (hq : BytesAt w (fun _ => False) (.slice q qn qc) bq) (hs : BytesAt w (fun _ => False) (.slice s sn sc) bs)
    (hpb : Byts bp) (hqb : Byts bq) (hsb : Byts bs) (hpm : pn ≤ 9223372036854775807) (hqm : qn ≤ 9223372036854775807) (hsm : sn ≤ 9223372036854775807) (r : Int) (hr : 0 ≤ r ∧ r ≤ 255)
    (dn : Bool) (L : List Bool) (kp : Option Addr) (kc : Nat) (hL : CellsAt w (fun _ => False) (.slice kp L.length kc) (L.map Value.bool)) (hLl : L.length ≤ 140737488351232) :
    Calls Tryd.prog 5 #[.slice p pn pc, .slice q qn qc, .slice s sn sc, .int .u8 r, .agg #[.bool dn, .slice kp L.length kc]] w (fun e w' => e = .returned (.bool true) ∧ Kp (fun _ => False) w w') := by
  have ha := awake11_any (w.alloc (.cells #[.bool dn, .slice kp L.length kc] 45))
  obtain ⟨t, ht⟩ : ∃ t : Nat, r % 6 = (t : Int) := ⟨(r % 6).toNat, by omega⟩
  have ht6 : t < 6 := by omega
  obtain ⟨wb, hwb⟩ : ∃ wb, w.alloc (.cells #[.bool dn, .slice kp L.length kc] 45) = wb := ⟨_, rfl⟩
  have hbx : wb.heap[w.heap.size]? = some (.cells #[.bool dn, .slice kp L.length kc] 45 (0, 0)) := by rw [← hwb]; exact heap_alloc_new w _
  have hkw : Kp (fun _ => False) w wb := by rw [← hwb]; exact (Kp.refl (fun _ => False) w).alloc _
  have HP := Lib.hid (And.intro hp hpb)
  have HQ := Lib.hid (And.intro hq hqb)
  have HS := Lib.hid (And.intro hs hsb)
  have HL := Lib.hid (hL.kept hkw (F' := fun _ => False) fun _ h => .inl h)
  have HLL := Lib.hid hLl
  have hpc := hp.len.2
  have hqc := hq.len.2
  have hsc := hs.len.2
  have HBX := Lib.hid hbx
  have HKW := Lib.hid hkw
  have HWB := Lib.hid hwb
  clear hp hq hs hL hLl hbx hwb hpb hqb hsb
  go_enter Tryd.func5, Tryd.ntmps5
  go_wp2_with (first
    | (go_at_call 7; refine ha.mono ?_; rintro e w1 ⟨rfl, hk1⟩; rw [HWB.out] at hk1; clear HWB ha)
    | (go_at_call 13; refine Hid.out ?_))
  go_quiet (fail)
  obtain ⟨n, hn⟩ : ∃ n, (min (pn : Int) 500).toNat = n := ⟨_, rfl⟩
  obtain ⟨m, hm⟩ : ∃ n, (min (qn : Int) 500).toNat = n := ⟨_, rfl⟩
  obtain ⟨l, hl⟩ : ∃ n, (min (sn : Int) 500).toNat = n := ⟨_, rfl⟩
  have hn5 : n ≤ 500 := by omega
  have hm5 : m ≤ 500 := by omega
  have hl5 : l ≤ 500 := by omega
  have hnl : n ≤ pn := by omega
  have hml : m ≤ qn := by omega
  have hll : l ≤ sn := by omega
  rw [hn, hm, hl]
  clear hn hm hl
  obtain ⟨ys, hys⟩ : ∃ ys, bp.take n = ys := ⟨_, rfl⟩
  have hp := HP.out.1.take hnl
  have hpb : Byts ys := by rw [← hys]; exact fun x hx => HP.out.2 x (List.mem_of_mem_take hx)
  rw [hys] at hp
  obtain rfl : n = ys.length := hp.len.1
  obtain ⟨zs, hzs⟩ : ∃ zs, bq.take m = zs := ⟨_, rfl⟩
  have hq := HQ.out.1.take hml
  have hqb : Byts zs := by rw [← hzs]; exact fun x hx => HQ.out.2 x (List.mem_of_mem_take hx)
  rw [hzs] at hq
  obtain rfl : m = zs.length := hq.len.1
  obtain ⟨xs, hxs⟩ : ∃ xs, bs.take l = xs := ⟨_, rfl⟩
  have hs := HS.out.1.take hll
  have hsb : Byts xs := by rw [← hxs]; exact fun x hx => HS.out.2 x (List.mem_of_mem_take hx)
  rw [hxs] at hs
  obtain rfl : l = xs.length := hs.len.1
  have hk1n := hk1.drewN (w := w1) 0
  have HK1 := Lib.hid hk1
  have HY := Lib.hid (And.intro hp hpb)
  have HZ := Lib.hid (And.intro hq hqb)
  have HX := Lib.hid (And.intro hs hsb)
  clear hp hq hs hpb hqb hsb hys hzs hxs HP HQ HS hk1 hk1n hkw hpc hqc hsc hnl hml hll
  by_cases z1 : ys.length = 0
  · have z1b : ((ys.length : Int) == 0) = true := by rw [z1]; rfl
    clear z1
    go_wp2
    go_ret
    exact ⟨rfl, HKW.out.trans (HK1.out.drewN _)⟩
  have z1b : ((ys.length : Int) == 0) = false := beq_eq_false_iff_ne.2 (by omega)
  by_cases z2 : zs.length = 0
  · have z2b : ((zs.length : Int) == 0) = true := by rw [z2]; rfl
    clear z2 z1
    go_wp2
    go_ret
    exact ⟨rfl, HKW.out.trans (HK1.out.drewN _)⟩
  have z2b : ((zs.length : Int) == 0) = false := beq_eq_false_iff_ne.2 (by omega)
  by_cases z3 : xs.length = 0
  · have z3b : ((xs.length : Int) == 0) = true := by rw [z3]; rfl
    clear z2 z1 z3
    go_wp2
    go_ret
    exact ⟨rfl, HKW.out.trans (HK1.out.drewN _)⟩
  have z3b : ((xs.length : Int) == 0) = false := beq_eq_false_iff_ne.2 (by omega)
  have yp : Pay ys := ⟨HY.out.2, by omega, by omega⟩
  have zp : Pay zs := ⟨HZ.out.2, by omega, by omega⟩
  have xp : Pay xs := ⟨HX.out.2, by omega, by omega⟩
  obtain ⟨S1, S2, f, e1, s1, o1, ef, s2, way⟩ := safe_way yp zp xp hn5 hm5 hl5 t dn L
  have PA := Lib.hid (And.intro e1 (And.intro s1 (And.intro o1 (And.intro ef (And.intro s2 (And.intro yp (And.intro zp xp)))))))
  have HW := Lib.hid way
  clear z1 z2 z3 e1 s1 o1 ef s2 way yp zp xp
  go_wp2_with (go_at_call 13; refine Hid.out ?_)
  refine Lib.hid ?_
  refine (New_dsk 1000 (by omega) (by omega) wb _ (HK1.out.drewN _)).mono ?_
  rintro e w2 ⟨d, F, rfl, h2, -, -⟩
  have H2 := Lib.hid h2
  have ctp := Twin_bytes (HY.out.1.kept (HKW.out.trans h2.kp) (F' := fun _ => False) fun _ h => .inl h) (by omega)
  clear h2 HK1
  go_wp2_with (first
    | (go_at_call 9; refine ctp.mono ?_; rintro e w3 ⟨g, c, rfl, hgc, hg1, -, hgh, hgk⟩; have cwr := H2.out.write_new (n := 3) rfl (by decide) PA.out.2.2.2.2.2.1 hgc hg1 hgh hgk; rw [PA.out.1, PA.out.2.1] at cwr; clear hgh hgk ctp hg1)
    | (go_at_call 8; refine cwr.mono ?_; rintro e w4 ⟨rfl, F4, h4, -, -⟩; have car := h4.arm PA.out.2.2.1 (t : Int) (by omega); clear h4 cwr)
    | (go_at_call 16; refine car.mono ?_; rintro e w5 ⟨rfl, F5, h5, -, -⟩; have H5 := Lib.hid h5; clear h5 car)
    | (go_at_call 9; refine Hid.out ?_))
  have ctq := Twin_bytes (HZ.out.1.kept (HKW.out.trans H5.out.kp) (F' := fun _ => False) fun _ h => .inl h) (by omega)
  refine Lib.hid ?_
  refine ctq.mono ?_
  rintro e w6 ⟨g6, c6, rfl, hgc6, hg6, -, hgh6, hgk6⟩
  have cwr := H5.out.write_new (n := 8) PA.out.2.2.1 (by decide) PA.out.2.2.2.2.2.2.1 hgc6 hg6 hgh6 hgk6
  rw [PA.out.2.2.2.1, PA.out.2.2.2.2.1] at cwr
  clear hgh6 hgk6 ctq hg6
  go_wp2_with (go_at_call 8; refine Hid.out ?_)
  refine Lib.hid ?_
  refine cwr.mono ?_
  rintro e w7 ⟨rfl, F7, h7, -, -⟩
  clear cwr
  rcases HW.out with ⟨S5, S6, ns, ns5, rfl, hoff, tl⟩ | ⟨S3, S5, S6, ns, ns5, rfl, hoff, hr3, ho, tl⟩ | ⟨S3, S5, S6, ns, ns5, rfl, hoff, hr3, ho, tl⟩
  · have ho3 := hoff
    have HO3 := Lib.hid hoff
    have TL := Lib.hid tl
    have h9 := h7
    clear tl h7 hoff
    go_wp2_with (go_at_call 6; refine Hid.out ?_)
    have hl := Load_some (n := 8) h9 ho3 TL.out.tidy3 TL.out.list3 (by decide) TL.out.chk3 TL.out.byt3 TL.out.pay.byts TL.out.pay.one TL.out.pay.most
    have car := fun (wz : World) (hk : Kp (fun _ => False) _ wz) => (h9.step hk).arm ho3 0 (by omega)
    have HAR := Lib.hid car
    have HKP := Lib.hid (HKW.out.trans h9.kp)
    clear car h9 ho3
    refine Lib.hid ?_
    refine hl.mono ?_
    rintro e wa ⟨va, rfl, hba, hka⟩
    obtain ⟨ba, oa, na, ca, rfl⟩ := hba.ptr TL.out.pay.one
    have csm := Same_bytes hba (HZ.out.1.kept (F' := fun _ => False) (HKP.out.trans hka) fun _ h => .inl h) (by omega)
    rw [decide_eq_true rfl] at csm
    have HKA := Lib.hid hka
    clear hba hka hl
    go_wp2_with (first
      | (go_at_call 14; refine csm.mono ?_; rintro e wc ⟨rfl, hkc⟩; have HKC := Lib.hid hkc; clear hkc csm)
      | (go_at_call 16; refine (HAR.out _ (HKA.out.trans HKC.out)).mono ?_; rintro e wd ⟨rfl, Fd, hd, -, -⟩; have HD := Lib.hid hd; have cts := Twin_bytes (HX.out.1.kept (HKW.out.trans hd.kp) (F' := fun _ => False) fun _ h => .inl h) (by omega); clear hd)
      | (go_at_call 9; (refine cts.mono ?_; rintro e we ⟨ge, ce, rfl, hgce, hge, -, hghe, hgke⟩; have cwr := HD.out.write_new (n := 9) HO3.out (by decide) PA.out.2.2.2.2.2.2.2 hgce hge hghe hgke; rw [TL.out.e5, TL.out.s5] at cwr; clear hghe hgke cts hge))
      | (go_at_call 8; refine cwr.mono ?_; rintro e wf ⟨rfl, Ff, hf, -, -⟩; have ccl := Clean_some (n := 9) hf TL.out.i5 TL.out.tidy5 TL.out.nodup5 TL.out.list5 (by decide) TL.out.chk5 TL.out.byt5 PA.out.2.2.2.2.2.2.2.byts PA.out.2.2.2.2.2.2.2.one PA.out.2.2.2.2.2.2.2.most; rw [TL.out.s6] at ccl; clear hf cwr)
      | (go_at_call 11; refine ccl.mono ?_; rintro e wg ⟨rfl, Fg, hg, -, -⟩; have HG := Lib.hid hg; clear hg ccl)
      | (go_at_call 6; refine Hid.out ?_))
    refine Lib.hid ?_
    refine (Load_some (n := 9) HG.out TL.out.o6 TL.out.tidy6 TL.out.list6 (by decide) TL.out.chk6 TL.out.byt6 PA.out.2.2.2.2.2.2.2.byts PA.out.2.2.2.2.2.2.2.one PA.out.2.2.2.2.2.2.2.most).mono ?_
    rintro e wh ⟨vh, rfl, hbh, hkh⟩
    obtain ⟨bh, oh, nh, ch, rfl⟩ := hbh.ptr PA.out.2.2.2.2.2.2.2.one
    have csm := Same_bytes hbh (HX.out.1.kept (F' := fun _ => False) (HKW.out.trans (HG.out.step hkh).kp) fun _ h => .inl h) (by omega)
    rw [decide_eq_true rfl] at csm
    have HG2 := Lib.hid (HG.out.step hkh)
    clear hbh hkh HG HD
    go_wp2_with (first
      | (go_at_call 14; refine csm.mono ?_; rintro e wi ⟨rfl, hki⟩; have hL := List_any (HG2.out.step hki) TL.out.o6 TL.out.tidy6; rw [TL.out.list6] at hL; have HKI := Lib.hid (HKW.out.trans (HG2.out.step hki).kp); clear hki csm)
      | (go_at_call 12; refine hL.mono ?_; rintro e wj ⟨vj, rfl, hrj, hkj⟩; have HR := Lib.hid hrj; have HKJ := Lib.hid hkj; clear hrj hkj)
      | (go_at_call 15; refine Hid.out ?_))
    refine Lib.hid ?_
    have h5 : RowI (wj.alloc (.cells #[.int .i64 9] 2)) vj [9] := (HR.out.kept (F := fun _ => False) ((Kp.refl _ wj).alloc _) fun _ _ h => h).row
    have h6 : RowI (wj.alloc (.cells #[.int .i64 9] 2)) (.slice (some ⟨wj.heap.size, 0, none⟩) 1 1) [9] := ⟨_, _, rfl, fun j n hj => ⟨_, rfl, by
      rw [blk_cell (heap_alloc_new wj _)]
      match j, hj with
      | 0, hj => injection hj with hj; subst hj; rfl⟩⟩
    refine (SameInts_same h5 h6 (by decide)).mono ?_
    rintro e wk ⟨rfl, hkk⟩
    have HK := Lib.hid (HKI.out.trans (HKJ.out.trans (((Kp.refl (fun _ => False) wj).alloc _).trans hkk)))
    clear h5 h6 hL hkk
    go_wp2
    go_ret
    exact ⟨rfl, HK.out⟩
  · have hbx := h7.kp.blk HBX.out id
    have q0 := blk_cell hbx 0
    have q1 := blk_cell hbx 1
    simp only [List.getElem?_toArray, List.getElem?_cons_zero, List.getElem?_cons_succ] at q0 q1
    have cfa := fate_any (dn := dn) (HL.out.kept h7.kp (F' := fun _ => False) fun _ h => .inl h) HLL.out
    have H7 := Lib.hid h7
    have HO := Lib.hid (And.intro hoff (And.intro hr3 ho))
    have TL := Lib.hid tl
    clear h7 hbx hoff hr3 ho tl
    go_wp2_with (first
      | (go_at_call 18; refine cfa.mono ?_; rintro e w8 ⟨gf, cf, rfl, hcf, hgf, hgfs, hfx, hfk⟩; have crs := H7.out.restart_new HO.out.1 dn HLL.out hcf hgf hgfs hfx hfk; rw [HO.out.2.1] at crs; clear hfx hfk cfa hgf hgfs q0 q1)
      | (go_at_call 17; refine crs.mono ?_; rintro e w9 ⟨rfl, F9, h9, -, -⟩; have H9 := Lib.hid h9; clear h9 crs)
      | (go_at_call 6; refine Hid.out ?_))
    have ho3 := HO.out.2.2
    have h9 := H9.out
    have hl := Load_some (n := 3) h9 ho3 TL.out.tidy3 TL.out.list3 (by decide) TL.out.chk3 TL.out.byt3 TL.out.pay.byts TL.out.pay.one TL.out.pay.most
    have car := fun (wz : World) (hk : Kp (fun _ => False) _ wz) => (h9.step hk).arm ho3 0 (by omega)
    have HAR := Lib.hid car
    have HKP := Lib.hid (HKW.out.trans h9.kp)
    clear car h9 ho3
    refine Lib.hid ?_
    refine hl.mono ?_
    rintro e wa ⟨va, rfl, hba, hka⟩
    obtain ⟨ba, oa, na, ca, rfl⟩ := hba.ptr TL.out.pay.one
    have csm := Same_bytes hba (HY.out.1.kept (F' := fun _ => False) (HKP.out.trans hka) fun _ h => .inl h) (by omega)
    rw [decide_eq_true rfl] at csm
    have HKA := Lib.hid hka
    clear hba hka hl
    go_wp2_with (first
      | (go_at_call 14; refine csm.mono ?_; rintro e wc ⟨rfl, hkc⟩; have HKC := Lib.hid hkc; clear hkc csm)
      | (go_at_call 16; refine (HAR.out _ (HKA.out.trans HKC.out)).mono ?_; rintro e wd ⟨rfl, Fd, hd, -, -⟩; have HD := Lib.hid hd; have cts := Twin_bytes (HX.out.1.kept (HKW.out.trans hd.kp) (F' := fun _ => False) fun _ h => .inl h) (by omega); clear hd)
      | (go_at_call 9; (refine cts.mono ?_; rintro e we ⟨ge, ce, rfl, hgce, hge, -, hghe, hgke⟩; have cwr := HD.out.write_new (n := 9) HO.out.2.2 (by decide) PA.out.2.2.2.2.2.2.2 hgce hge hghe hgke; rw [TL.out.e5, TL.out.s5] at cwr; clear hghe hgke cts hge))
      | (go_at_call 8; refine cwr.mono ?_; rintro e wf ⟨rfl, Ff, hf, -, -⟩; have ccl := Clean_some (n := 9) hf TL.out.i5 TL.out.tidy5 TL.out.nodup5 TL.out.list5 (by decide) TL.out.chk5 TL.out.byt5 PA.out.2.2.2.2.2.2.2.byts PA.out.2.2.2.2.2.2.2.one PA.out.2.2.2.2.2.2.2.most; rw [TL.out.s6] at ccl; clear hf cwr)
      | (go_at_call 11; refine ccl.mono ?_; rintro e wg ⟨rfl, Fg, hg, -, -⟩; have HG := Lib.hid hg; clear hg ccl)
      | (go_at_call 6; refine Hid.out ?_))
    refine Lib.hid ?_
    refine (Load_some (n := 9) HG.out TL.out.o6 TL.out.tidy6 TL.out.list6 (by decide) TL.out.chk6 TL.out.byt6 PA.out.2.2.2.2.2.2.2.byts PA.out.2.2.2.2.2.2.2.one PA.out.2.2.2.2.2.2.2.most).mono ?_
    rintro e wh ⟨vh, rfl, hbh, hkh⟩
    obtain ⟨bh, oh, nh, ch, rfl⟩ := hbh.ptr PA.out.2.2.2.2.2.2.2.one
    have csm := Same_bytes hbh (HX.out.1.kept (F' := fun _ => False) (HKW.out.trans (HG.out.step hkh).kp) fun _ h => .inl h) (by omega)
    rw [decide_eq_true rfl] at csm
    have HG2 := Lib.hid (HG.out.step hkh)
    clear hbh hkh HG HD
    go_wp2_with (first
      | (go_at_call 14; refine csm.mono ?_; rintro e wi ⟨rfl, hki⟩; have hL := List_any (HG2.out.step hki) TL.out.o6 TL.out.tidy6; rw [TL.out.list6] at hL; have HKI := Lib.hid (HKW.out.trans (HG2.out.step hki).kp); clear hki csm)
      | (go_at_call 12; refine hL.mono ?_; rintro e wj ⟨vj, rfl, hrj, hkj⟩; have HR := Lib.hid hrj; have HKJ := Lib.hid hkj; clear hrj hkj)
      | (go_at_call 15; refine Hid.out ?_))
    refine Lib.hid ?_
    have h5 : RowI (wj.alloc (.cells #[.int .i64 9] 2)) vj [9] := (HR.out.kept (F := fun _ => False) ((Kp.refl _ wj).alloc _) fun _ _ h => h).row
    have h6 : RowI (wj.alloc (.cells #[.int .i64 9] 2)) (.slice (some ⟨wj.heap.size, 0, none⟩) 1 1) [9] := ⟨_, _, rfl, fun j n hj => ⟨_, rfl, by
      rw [blk_cell (heap_alloc_new wj _)]
      match j, hj with
      | 0, hj => injection hj with hj; subst hj; rfl⟩⟩
    refine (SameInts_same h5 h6 (by decide)).mono ?_
    rintro e wk ⟨rfl, hkk⟩
    have HK := Lib.hid (HKI.out.trans (HKJ.out.trans (((Kp.refl (fun _ => False) wj).alloc _).trans hkk)))
    clear h5 h6 hL hkk
    go_wp2
    go_ret
    exact ⟨rfl, HK.out⟩
  · have hbx := h7.kp.blk HBX.out id
    have q0 := blk_cell hbx 0
    have q1 := blk_cell hbx 1
    simp only [List.getElem?_toArray, List.getElem?_cons_zero, List.getElem?_cons_succ] at q0 q1
    have cfa := fate_any (dn := dn) (HL.out.kept h7.kp (F' := fun _ => False) fun _ h => .inl h) HLL.out
    have H7 := Lib.hid h7
    have HO := Lib.hid (And.intro hoff (And.intro hr3 ho))
    have TL := Lib.hid tl
    clear h7 hbx hoff hr3 ho tl
    go_wp2_with (first
      | (go_at_call 18; refine cfa.mono ?_; rintro e w8 ⟨gf, cf, rfl, hcf, hgf, hgfs, hfx, hfk⟩; have crs := H7.out.restart_new HO.out.1 dn HLL.out hcf hgf hgfs hfx hfk; rw [HO.out.2.1] at crs; clear hfx hfk cfa hgf hgfs q0 q1)
      | (go_at_call 17; refine crs.mono ?_; rintro e w9 ⟨rfl, F9, h9, -, -⟩; have H9 := Lib.hid h9; clear h9 crs)
      | (go_at_call 6; refine Hid.out ?_))
    have ho3 := HO.out.2.2
    have h9 := H9.out
    have hl := Load_some (n := 8) h9 ho3 TL.out.tidy3 TL.out.list3 (by decide) TL.out.chk3 TL.out.byt3 TL.out.pay.byts TL.out.pay.one TL.out.pay.most
    have car := fun (wz : World) (hk : Kp (fun _ => False) _ wz) => (h9.step hk).arm ho3 0 (by omega)
    have HAR := Lib.hid car
    have HKP := Lib.hid (HKW.out.trans h9.kp)
    clear car h9 ho3
    refine Lib.hid ?_
    refine hl.mono ?_
    rintro e wa ⟨va, rfl, hba, hka⟩
    obtain ⟨ba, oa, na, ca, rfl⟩ := hba.ptr TL.out.pay.one
    have csm := Same_bytes hba (HZ.out.1.kept (F' := fun _ => False) (HKP.out.trans hka) fun _ h => .inl h) (by omega)
    rw [decide_eq_true rfl] at csm
    have HKA := Lib.hid hka
    clear hba hka hl
    go_wp2_with (first
      | (go_at_call 14; refine csm.mono ?_; rintro e wc ⟨rfl, hkc⟩; have HKC := Lib.hid hkc; clear hkc csm)
      | (go_at_call 16; refine (HAR.out _ (HKA.out.trans HKC.out)).mono ?_; rintro e wd ⟨rfl, Fd, hd, -, -⟩; have HD := Lib.hid hd; have cts := Twin_bytes (HX.out.1.kept (HKW.out.trans hd.kp) (F' := fun _ => False) fun _ h => .inl h) (by omega); clear hd)
      | (go_at_call 9; (refine cts.mono ?_; rintro e we ⟨ge, ce, rfl, hgce, hge, -, hghe, hgke⟩; have cwr := HD.out.write_new (n := 9) HO.out.2.2 (by decide) PA.out.2.2.2.2.2.2.2 hgce hge hghe hgke; rw [TL.out.e5, TL.out.s5] at cwr; clear hghe hgke cts hge))
      | (go_at_call 8; refine cwr.mono ?_; rintro e wf ⟨rfl, Ff, hf, -, -⟩; have ccl := Clean_some (n := 9) hf TL.out.i5 TL.out.tidy5 TL.out.nodup5 TL.out.list5 (by decide) TL.out.chk5 TL.out.byt5 PA.out.2.2.2.2.2.2.2.byts PA.out.2.2.2.2.2.2.2.one PA.out.2.2.2.2.2.2.2.most; rw [TL.out.s6] at ccl; clear hf cwr)
      | (go_at_call 11; refine ccl.mono ?_; rintro e wg ⟨rfl, Fg, hg, -, -⟩; have HG := Lib.hid hg; clear hg ccl)
      | (go_at_call 6; refine Hid.out ?_))
    refine Lib.hid ?_
    refine (Load_some (n := 9) HG.out TL.out.o6 TL.out.tidy6 TL.out.list6 (by decide) TL.out.chk6 TL.out.byt6 PA.out.2.2.2.2.2.2.2.byts PA.out.2.2.2.2.2.2.2.one PA.out.2.2.2.2.2.2.2.most).mono ?_
    rintro e wh ⟨vh, rfl, hbh, hkh⟩
    obtain ⟨bh, oh, nh, ch, rfl⟩ := hbh.ptr PA.out.2.2.2.2.2.2.2.one
    have csm := Same_bytes hbh (HX.out.1.kept (F' := fun _ => False) (HKW.out.trans (HG.out.step hkh).kp) fun _ h => .inl h) (by omega)
    rw [decide_eq_true rfl] at csm
    have HG2 := Lib.hid (HG.out.step hkh)
    clear hbh hkh HG HD
    go_wp2_with (first
      | (go_at_call 14; refine csm.mono ?_; rintro e wi ⟨rfl, hki⟩; have hL := List_any (HG2.out.step hki) TL.out.o6 TL.out.tidy6; rw [TL.out.list6] at hL; have HKI := Lib.hid (HKW.out.trans (HG2.out.step hki).kp); clear hki csm)
      | (go_at_call 12; refine hL.mono ?_; rintro e wj ⟨vj, rfl, hrj, hkj⟩; have HR := Lib.hid hrj; have HKJ := Lib.hid hkj; clear hrj hkj)
      | (go_at_call 15; refine Hid.out ?_))
    refine Lib.hid ?_
    have h5 : RowI (wj.alloc (.cells #[.int .i64 9] 2)) vj [9] := (HR.out.kept (F := fun _ => False) ((Kp.refl _ wj).alloc _) fun _ _ h => h).row
    have h6 : RowI (wj.alloc (.cells #[.int .i64 9] 2)) (.slice (some ⟨wj.heap.size, 0, none⟩) 1 1) [9] := ⟨_, _, rfl, fun j n hj => ⟨_, rfl, by
      rw [blk_cell (heap_alloc_new wj _)]
      match j, hj with
      | 0, hj => injection hj with hj; subst hj; rfl⟩⟩
    refine (SameInts_same h5 h6 (by decide)).mono ?_
    rintro e wk ⟨rfl, hkk⟩
    have HK := Lib.hid (HKI.out.trans (HKJ.out.trans (((Kp.refl (fun _ => False) wj).alloc _).trans hkk)))
    clear h5 h6 hL hkk
    go_wp2
    go_ret
    exact ⟨rfl, HK.out⟩
end Go.Proofs.YtmcmapaapffadaaDoor

/-
  DiskSynced: what was synced is there behind any crash, to the byte; and a sector that was not synced is what was written, or noughts.
-/
import Derived.Test.YtdncdnnlmddjhaaDoorScript
import Derived.Test.YtdncdnnlmddjhaaDoorSyncLaw
import Derived.Test.YtdncdnnlmddjhaaDoorRenames
import Derived.Deep.CutBlock
import Derived.Deep.DeepCutAuto
import Derived.IntWalk
namespace Go.Proofs.YtdncdnnlmddjhaaDoor
open Go.RowKit Go.Shelf Go.ChangeMaps

theorem BytesAt.ptr {w : World} {F : Nat → Prop} {p : Option Addr} {n c : Nat} {bs : List Int} (h : BytesAt w F (.slice p n c) bs) (hn : 0 < n) : ∃ b o, p = some ⟨b, o, none⟩ := by
  obtain ⟨p', c', e, _, h⟩ := h
  injection e with e1 e2 e3
  subst e1 e2 e3
  obtain ⟨b, o, rfl, _⟩ := h 0 bs[0] (List.getElem?_eq_getElem hn)
  exact ⟨b, o, rfl⟩
def Sync1 (w : World) (d i : Nat) (e : Ending) (w' : World) : Prop := (∃ n, e = .returned (.int .i64 n)) ∧ ∃ S F, Dsk w w' d S F ∧ SyncInv (i + 1) S
theorem sync_of {w0 w : World} {d i : Nat} {n : Int} {S : St} {F : Nat → Prop} (hS : SyncInv (i + 1) S) {e : Ending} {w' : World} (h : Goes w0 w d n S F e w') : Sync1 w0 d i e w' := by
  obtain ⟨he, F', h', _⟩ := h
  exact ⟨⟨n, he⟩, S, F', h', hS⟩

set_option maxRecDepth 100000 in
set_option maxHeartbeats 2000000 in
theorem DiskSynced_any (w : World) (sp : Option Addr) (sl sc : Nat) (hsc : ScriptAt w sp sl) (hsl : sl ≤ 9223372036854775807) (p : Option Addr) (len cap : Nat) (hlen : len ≤ 9223372036854775807) (bs : List Int) (hb : BytesAt w (fun _ => False) (.slice p len cap) bs)
    (dn : Bool) (L : List Bool) (kp : Option Addr) (kc : Nat) (hL : CellsAt w (fun _ => False) (.slice kp L.length kc) (L.map Value.bool)) (hLl : L.length ≤ 140737488351232) :
    Calls Tryd.prog 4 #[.slice sp sl sc, .slice p len cap, .agg #[.bool dn, .slice kp L.length kc]] w (fun e w' => e = .returned (.bool true) ∧ Kp (fun _ => False) w w') := by
  have ha := awake_any (w.alloc (.cells #[.bool dn, .slice kp L.length kc] 35))
  obtain ⟨wb, hwb⟩ : ∃ wb, w.alloc (.cells #[.bool dn, .slice kp L.length kc] 35) = wb := ⟨_, rfl⟩
  have hbx : wb.heap[w.heap.size]? = some (.cells #[.bool dn, .slice kp L.length kc] 35 (0, 0)) := by rw [← hwb]; exact heap_alloc_new w _
  have hkw : Kp (fun _ => False) w wb := by rw [← hwb]; exact (Kp.refl (fun _ => False) w).alloc _
  have HB := Lib.hid (hb.kept hkw (F' := fun _ => False) fun _ h => .inl h)
  have HSC := Lib.hid (hsc.kept hkw)
  have HSL := Lib.hid hsl
  have HL := Lib.hid (hL.kept hkw (F' := fun _ => False) fun _ h => .inl h)
  have HLL := Lib.hid hLl
  have hlc := hb.len.2
  have HBX := Lib.hid hbx
  have HKW := Lib.hid hkw
  have HWB := Lib.hid hwb
  clear hb hsc hsl hL hLl hbx hwb hkw
  go_enter Tryd.func4, Tryd.ntmps4
  go_wp2_with (first
    | (go_at_call 9; refine ha.mono ?_; rintro e w1 ⟨rfl, hk1⟩; rw [HWB.out] at hk1; clear HWB ha)
    | (go_at_call 10; refine Hid.out ?_))
  refine Lib.hid ?_
  refine (New_dsk 5000 (by omega) (by omega) wb _ hk1).mono ?_
  rintro e w2 ⟨d, F, rfl, h2, -, -⟩
  have H2 := Lib.hid h2
  clear h2 hk1
  go_upto_block 0 with (fail)
  go_cut [9, 10] (fun _ _ wx => ∃ i : Nat, ∃ S F, i ≤ 60 ∧ Dsk wb wx d S F ∧ SyncInv i S)
  case first =>
    go_wp2_with (fail)
    go_loopw [33] (fun vi wr => ∃ i : Nat, i ≤ sl ∧ i ≤ 60 ∧ vi = .int .i64 i ∧ ∃ S F, Dsk wb wr d S F ∧ SyncInv i S) (fun i _ => sl - (intOf i).toNat)
    case atStart => exact ⟨0, Nat.zero_le _, Nat.zero_le _, rfl, _, _, H2.out, ⟨rfl, rfl⟩, rfl, Nat.le_refl _, Nat.le_refl _, fun s hs => by simp [St.new, getF, get] at hs⟩
    case round =>
      obtain ⟨i, hi, hi6, rfl, S, F, hD, hST⟩ := hrel
      clear H2
      have HD := Lib.hid hD
      have HT := Lib.hid hST
      by_cases hil : i < sl
      · obtain ⟨sb, so, x, rfl, hc, hok⟩ := HSC.out i hil
        have hcr := hc.kept hD.kp
        have HOK := Lib.hid (hok.kept hD.kp)
        obtain ⟨xk, xA, xB, xP, xn, xm, xbs, xN, xdn, xL, xkp, xkc⟩ := x
        obtain ⟨q0, q1, q2, q3, q4, q5, q6⟩ := hcr
        have hkk := hok.kind
        have hxc := hok.bytes.len.2
        have hxl := hok.len
        simp only at q0 q1 q2 q3 q4 q5 q6 hkk hxc hxl
        clear hc hok hD hST
        by_cases h60 : i < 60
        · obtain ⟨z, hz⟩ : ∃ z, (min (xn : Int) 200).toNat = z := ⟨_, rfl⟩
          have hz5 : z ≤ 200 := by omega
          have hzn : z ≤ xn := by omega
          obtain ⟨wc, hwc⟩ : ∃ wc, wr.alloc (.cells #[.int .u8 xk, .string xA, .string xB, .slice xP z xm, .int .i64 xN, .bool xdn, .slice xkp xL.length xkc] 37) = wc := ⟨_, rfl⟩
          have hD' : Dsk wb wc d S F := by rw [← hwc]; exact HD.out.alloc _
          have hkw : Kp (fun _ => False) wr wc := by rw [← hwc]; exact (Kp.refl _ wr).alloc _
          have cSync : Calls Tryd.prog 14 #[.pointer (some ⟨d, 0, none⟩), .string nmA] wc (Sync1 wb d i) := (hD'.sync nmA (by decide)).mono fun _ _ h => sync_of HT.out.sync h
          obtain ⟨zs, hzs⟩ : ∃ zs, xbs.take z = zs := ⟨_, rfl⟩
          have hz8 := HOK.out.bytes.take hzn
          simp only [hzs] at hz8
          obtain rfl : z = zs.length := hz8.len.1
          have hns : nsec zs.length ≤ 7 := nsec_le (by omega)
          have cTwi := Twin_bytes (hz8.kept hkw (F' := fun _ => False) fun _ h => .inl h) (by omega)
          have cApA : ∀ w3 g c, zs.length ≤ c → Holds8 w3 g 0 zs → Kp (fun _ => False) wc w3 → Calls Tryd.prog 12 #[.pointer (some ⟨d, 0, none⟩), .string nmA, .slice (some ⟨g, 0, none⟩) zs.length c] w3 (Sync1 wb d i) :=
            fun w3 g c h1 h2 h3 => (hD'.append_new h1 h2 h3 nmA (by decide) (by omega)).mono fun e w' h => sync_of (HT.out.app (by omega) (by decide) hns) h
          have cApB : ∀ w3 g c, zs.length ≤ c → Holds8 w3 g 0 zs → Kp (fun _ => False) wc w3 → Calls Tryd.prog 12 #[.pointer (some ⟨d, 0, none⟩), .string nmB, .slice (some ⟨g, 0, none⟩) zs.length c] w3 (Sync1 wb d i) :=
            fun w3 g c h1 h2 h3 => (hD'.append_new h1 h2 h3 nmB (by decide) (by omega)).mono fun e w' h => sync_of (HT.out.app (by omega) (by decide) hns) h
          have HCA := Lib.hid cApA
          have HCB := Lib.hid cApB
          have HWC := Lib.hid hwc
          clear hz8 hzs hwc hD' hkw cApA cApB
          rcases (by omega : xk % 3 = 0 ∨ xk % 3 = 1 ∨ xk % 3 = 2) with hm | hm | hm
          · go_wp2_with (first
              | (go_at_call 13; rw [HWC.out]; refine cTwi.mono ?_; rintro e w8 ⟨gg, gc, rfl, gh, -, -, gx, gk⟩; have cA := HCA.out w8 gg gc gh gx gk; clear gx gk)
              | (go_at_call 12; refine cA.mono ?_; rintro e w9 ⟨⟨nr, rfl⟩, S9, F9, h9, s9⟩; have H9 := Lib.hid h9; have S9 := Lib.hid s9; clear h9 s9))
            go_roundw
            case rel => exact ⟨i + 1, by omega, by omega, by go_num, _, F9, H9.out, S9.out⟩
            case measure => simp [intOf]; omega
          · go_wp2_with (go_at_call 14; rw [HWC.out]; refine cSync.mono ?_; rintro e w9 ⟨⟨nr, rfl⟩, S9, F9, h9, s9⟩; have H9 := Lib.hid h9; have S9 := Lib.hid s9; clear h9 s9)
            go_roundw
            case rel => exact ⟨i + 1, by omega, by omega, by go_num, _, F9, H9.out, S9.out⟩
            case measure => simp [intOf]; omega
          · go_wp2_with (first
              | (go_at_call 13; rw [HWC.out]; refine cTwi.mono ?_; rintro e w8 ⟨gg, gc, rfl, gh, -, -, gx, gk⟩; have cA := HCB.out w8 gg gc gh gx gk; clear gx gk)
              | (go_at_call 12; refine cA.mono ?_; rintro e w9 ⟨⟨nr, rfl⟩, S9, F9, h9, s9⟩; have H9 := Lib.hid h9; have S9 := Lib.hid s9; clear h9 s9))
            go_roundw
            case rel => exact ⟨i + 1, by omega, by omega, by go_num, _, F9, H9.out, S9.out⟩
            case measure => simp [intOf]; omega
        · go_wp2_with (fail)
          go_meet
          exact ⟨i, S, F, hi6, HD.out.alloc _, HT.out⟩
      · go_wp2_with (fail)
        go_meet
        exact ⟨i, S, F, hi6, HD.out, HT.out⟩
  case rest =>
    obtain ⟨i, S, F0, hi6, hD, hST⟩ := hcut
    obtain ⟨n, hn⟩ : ∃ n, (min (len : Int) 300).toNat = n := ⟨_, rfl⟩
    have hn5 : n ≤ 300 := by omega
    have hnl : n ≤ len := by omega
    obtain ⟨ys, hys⟩ : ∃ ys, bs.take n = ys := ⟨_, rfl⟩
    have hb := HB.out.take hnl
    rw [hys] at hb
    obtain rfl : n = ys.length := hb.len.1
    obtain ⟨S1, S2, S3, S5, S6, X, Y, Z, x, m, path⟩ := syn_path hST hi6 ys hn5 dn L
    have PA := Lib.hid path
    obtain ⟨xl, hxl⟩ : ∃ xl, X.length = xl := ⟨_, rfl⟩
    obtain ⟨nl, hnl'⟩ : ∃ nl, (X ++ Y).length = nl := ⟨_, rfl⟩
    have hnz : (X ++ Z).length = nl := by rw [← hnl', List.length_append, List.length_append, path.ly, path.lz]
    have hxe : xl = 32 * x := by rw [← hxl]; exact path.lx
    have hne : nl = 32 * x + 32 * m := by rw [← hnl', List.length_append, path.lx, path.ly]
    have hsm := path.small
    have hxn : xl ≤ nl := by omega
    have hns : nl ≤ 19200 := by omega
    have c1 := hD.append_nil nmA (by decide)
    rw [path.e1, path.s1] at c1
    have HB2 := Lib.hid hb
    have HLN := Lib.hid (And.intro hxl (And.intro hnl' hnz))
    have HXE := Lib.hid (And.intro hxe (And.intro hne hsm))
    clear HB hb path hD hST H2 HSC HSL hxl hnl' hnz hxe hne hsm
    go_wp2_with (first
      | (go_at_call 12; refine c1.mono ?_; rintro e w3 ⟨rfl, F3, h3, -, -⟩; have c2 := h3.sync nmA (by decide); rw [PA.out.e2, PA.out.s2] at c2; clear h3 c1)
      | (go_at_call 14; refine c2.mono ?_; rintro e w4 ⟨rfl, F4, h4, -, -⟩; have c3 := h4.read_ok nmA (by decide) PA.out.c2; rw [PA.out.b2] at c3; clear h4 c2)
      | (go_at_call 15; refine Hid.out ?_))
    refine Lib.hid ?_
    refine c3.mono ?_
    rintro e w5 ⟨v, rfl, h5, -, hb5⟩
    have hb5' := hb5
    obtain ⟨ap, ac, rfl, -, -⟩ := hb5'
    rw [HLN.out.1]
    have ctl := Twin_bytes (HB2.out.kept h5.kp (F' := fun _ => False) fun _ h => .inl h) (by omega)
    have HX5 := Lib.hid hb5
    have H5 := Lib.hid h5
    clear h5 hb5 c3
    go_wp2_with (first
      | (go_at_call 13; refine ctl.mono ?_; rintro e w6 ⟨g, c, rfl, hgc, -, -, hgh, hgk⟩; have cap := H5.out.append_new hgc hgh hgk nmA (by decide) (by omega); rw [PA.out.e3, PA.out.s3] at cap; have HX6 := Lib.hid (HX5.out.kept (F' := F4) (hgk.mono fun _ h => h.elim) fun _ h => .inl h); clear hgh hgk ctl)
      | (go_at_call 12; refine cap.mono ?_; rintro e w7 ⟨rfl, F7, h7, hF7, hk7⟩; have c8 := h7.read_ok nmA (by decide) PA.out.c3; rw [PA.out.b3] at c8; have HX7 := Lib.hid (HX6.out.kept hk7 hF7); clear h7 hF7 hk7 cap)
      | (go_at_call 15; refine Hid.out ?_))
    refine Lib.hid ?_
    refine c8.mono ?_
    rintro e w8 ⟨v, rfl, h8, k8, hb8⟩
    have HX8 := Lib.hid (HX7.out.kept (F' := F7) (k8.mono fun _ h => h.elim) fun _ h => .inl h)
    have hb8' := hb8
    obtain ⟨bp, bc, rfl, -, -⟩ := hb8'
    rw [HLN.out.2.1]
    have HY8 := Lib.hid hb8
    have car := h8.arm PA.out.o3 1 (by omega)
    clear h8 k8 hb8 c8 HX5 HX6 HX7 H5
    go_wp2_with (first
      | (go_at_call 16; refine car.mono ?_; rintro e w9 ⟨rfl, F9, h9, hF9, hk9⟩; have HX9 := Lib.hid (HX8.out.kept hk9 hF9); have HY9 := Lib.hid (HY8.out.kept hk9 hF9); have cap := h9.append_nil nmB (by decide); rw [PA.out.e5, PA.out.s5] at cap; clear h9 hF9 hk9 car)
      | (go_at_call 12; refine cap.mono ?_; rintro e wA ⟨rfl, FA, hA, hFA, hkA⟩; have HXA := Lib.hid (HX9.out.kept hkA hFA); have HYA := Lib.hid (HY9.out.kept hkA hFA); have cfa := fate_any (dn := dn) (HL.out.kept hA.kp (F' := fun _ => False) fun _ h => .inl h) HLL.out; have hbx := hA.kp.blk HBX.out id; have q0 := blk_cell hbx 0; have q1 := blk_cell hbx 1; simp only [List.getElem?_toArray, List.getElem?_cons_zero, List.getElem?_cons_succ] at q0 q1; have HA := Lib.hid hA; clear hA hFA hkA cap)
      | (go_at_call 18; refine cfa.mono ?_; rintro e wB ⟨gf, cf, rfl, hcf, hgf, hgfs, hfx, hfk⟩; have crs := HA.out.restart_new PA.out.o5 dn HLL.out hcf hgf hgfs hfx hfk; rw [PA.out.s6] at crs; have HXB := Lib.hid (HXA.out.kept (F' := FA) (hfk.mono fun _ h => h.elim) fun _ h => .inl h); have HYB := Lib.hid (HYA.out.kept (F' := FA) (hfk.mono fun _ h => h.elim) fun _ h => .inl h); clear hfx hfk cfa hgf hgfs q0 q1)
      | (go_at_call 17; refine crs.mono ?_; rintro e wC ⟨rfl, FC, hC, hFC, hkC⟩; have HXC := Lib.hid (HXB.out.kept hkC hFC); have HYC := Lib.hid (HYB.out.kept hkC hFC); have crd := hC.read_ok nmA (by decide) PA.out.c6; rw [PA.out.b6] at crd; clear hC hFC hkC crs)
      | (go_at_call 15; refine Hid.out ?_))
    refine Lib.hid ?_
    refine crd.mono ?_
    rintro e wD ⟨v, rfl, hD, kD, hbD⟩
    have hXD := HXC.out.kept (F' := FC) (kD.mono fun _ h => h.elim) fun _ h => .inl h
    have hYD := HYC.out.kept (F' := FC) (kD.mono fun _ h => h.elim) fun _ h => .inl h
    have hbD' := hbD
    obtain ⟨cp, cc, rfl, -, -⟩ := hbD'
    rw [HLN.out.2.2] at hbD ⊢
    rw [HLN.out.2.1] at hYD
    rw [HLN.out.1] at hXD
    have hnc := hbD.len.2
    have hnb := hYD.len.2
    have hpre := hbD.take (k := xl) hxn
    rw [show (X ++ Z).take xl = X by rw [← HLN.out.1, List.take_left]] at hpre
    have csm := Same_bytes hpre hXD (by have := HLN.out.1; omega)
    rw [decide_eq_true rfl] at csm
    have HND := Lib.hid hbD
    have HYD := Lib.hid hYD
    have HKD := Lib.hid hD.kp
    clear hXD hYD hbD hD kD crd hpre HA HXA HYA HXB HYB HXC HYC HX8 HY8 HX9 HY9
    have hdf : decide (nl < xl) = false := by rw [decide_eq_false_iff_not]; omega
    go_wp2_with (go_at_call 19; refine csm.mono ?_; rintro e wE ⟨rfl, hkE⟩; have HKE := Lib.hid hkE; clear hkE csm)
    -- LOOP
    have HKS := Lib.hid (HKW.out.trans HKD.out)
    go_loopw [18] (fun vi wr => ∃ j k : Nat, j = xl + 32 * k ∧ k ≤ m ∧ vi = .int .i64 j ∧ Kp (fun _ => False) wD wr) (fun i _ => nl - (intOf i).toNat)
    case atStart => exact ⟨xl, 0, rfl, Nat.zero_le _, rfl, HKE.out⟩
    case round =>
      obtain ⟨j, k, hj, hk, rfl, hkp⟩ := hrel
      obtain ⟨hx1, hx2, hx3⟩ := HXE.out
      have HKP := Lib.hid hkp
      by_cases hjn : j < nl
      · have hkm : k < m := by omega
        have hj32 : j + 32 ≤ nl := by omega
        have hN := HND.out.kept (F' := fun _ => False) (hkp.mono fun _ h => h.elim) fun _ h => h.elim
        have hY := HYD.out.kept (F' := fun _ => False) (hkp.mono fun _ h => h.elim) fun _ h => h.elim
        obtain ⟨cb, co, rfl⟩ := hN.ptr (by omega)
        obtain ⟨bb, bo, rfl⟩ := hY.ptr (by omega)
        have pN := hN.part (i := j) (k := 32) hj32
        have pY := hY.part (i := j) (k := 32) hj32
        have eN : ((X ++ Z).drop j).take 32 = (Z.drop (32 * k)).take 32 := by rw [hj, ← HLN.out.1, List.drop_append, Nat.add_sub_cancel_left, List.drop_eq_nil_of_le (by omega), List.nil_append]
        have eY : ((X ++ Y).drop j).take 32 = (Y.drop (32 * k)).take 32 := by rw [hj, ← HLN.out.1, List.drop_append, Nat.add_sub_cancel_left, List.drop_eq_nil_of_le (by omega), List.nil_append]
        rw [eN] at pN
        rw [eY] at pY
        have hbits := PA.out.bits k hkm
        have cN := Same_bytes (pN.kept (Kp.refl _ wr).drew (F' := fun _ => False) fun _ h => .inl h) (pY.kept (Kp.refl _ wr).drew (F' := fun _ => False) fun _ h => .inl h) (by rw [List.length_take]; omega)
        have m32 := fun w => make_bytes 32 (by omega) w
        simp only [Int.cast_ofNat_Int] at m32
        have hwr : IntKind.i64.wrap ((j : Int) + 32) = (j : Int) + 32 := IntWalk.i64_in _ (by omega)
        have hb1 : ((j : Int) + 32).toNat = j + 32 := by omega
        have hA1 : (0 : Int) ≤ (j : Int) + 32 := by omega
        have hA2 : (j : Int) + 32 ≤ (cc : Int) := by omega
        have hA3 : (j : Int) + 32 ≤ (bc : Int) := by omega
        have hA4 : max ((j : Int) + 32) 0 = (j : Int) + 32 := by omega
        have hA5 : ¬ cc = j := by omega
        have hA6 : ¬ bc = j := by omega
        have hA7 : (j : Int) ≤ (j : Int) + 32 := by omega
        have HJ := Lib.hid (And.intro hj (And.intro hjn (And.intro hkm (And.intro hk hj32))))
        by_cases heq : (Z.drop (32 * k)).take 32 = (Y.drop (32 * k)).take 32
        · rw [decide_eq_true heq] at cN
          clear hN hY pN pY eN eY hbits heq hx3 hkp hj hkm hk hj32
          clear hx1 hx2
          go_wp2
          clear hjn
          refine wp_region_held_drew (S := (fun _ => True)) (by kernel_rfl) trivial (fun hHeld => ?_)
          refine take_yes (i := 0) (v := ?_) (some 160) rfl rfl (by kernel_rfl) (by kernel_rfl) (by kernel_rfl) (fun _ _ _ h => h) (Or.inl ⟨by rfl, ?_⟩) (by assumption) ?_
          rotate_left
          · (intro w hSw; (try dsimp only at hSw); go_simp <;> (try with_reducible rfl))
          (try simp only [Act.put, List.setIfInBounds_toArray, List.set_cons_zero, List.set_cons_succ])
          refine take_yes (i := 1) (v := ?_) (some 161) rfl rfl (by kernel_rfl) (by kernel_rfl) (by kernel_rfl) (fun _ _ _ h => h) (Or.inl ⟨by rfl, ?_⟩) (by assumption) ?_
          rotate_left
          · (intro w hSw; (try dsimp only at hSw); go_simp <;> (try with_reducible rfl))
          (try simp only [Act.put, List.setIfInBounds_toArray, List.set_cons_zero, List.set_cons_succ])
          refine take_yes (i := 2) (v := ?_) (some 162) rfl rfl (by kernel_rfl) (by kernel_rfl) (by kernel_rfl) (fun _ _ _ h => h) (Or.inl ⟨by rfl, ?_⟩) (by assumption) ?_
          rotate_left
          · (intro w hSw; (try dsimp only at hSw); go_simp <;> (try with_reducible rfl))
          (try simp only [Act.put, List.setIfInBounds_toArray, List.set_cons_zero, List.set_cons_succ])
          refine take_yes (i := 3) (v := ?_) (some 163) rfl rfl (by kernel_rfl) (by kernel_rfl) (by kernel_rfl) (fun _ _ _ h => h) (Or.inl ⟨by rfl, ?_⟩) (by assumption) ?_
          rotate_left
          · (intro w hSw; (try dsimp only at hSw); go_simp <;> (try with_reducible rfl))
          (try simp only [Act.put, List.setIfInBounds_toArray, List.set_cons_zero, List.set_cons_succ])
          refine take_yes (i := 4) (v := ?_) (some 164) rfl rfl (by kernel_rfl) (by kernel_rfl) (by kernel_rfl) (fun _ _ _ h => h) (Or.inl ⟨by rfl, ?_⟩) (by assumption) ?_
          rotate_left
          · (intro w hSw; (try dsimp only at hSw); go_simp <;> (try with_reducible rfl))
          (try simp only [Act.put, List.setIfInBounds_toArray, List.set_cons_zero, List.set_cons_succ])
          refine take_yes (i := 5) (v := ?_) (some 165) rfl rfl (by kernel_rfl) (by kernel_rfl) (by kernel_rfl) (fun _ _ _ h => h) (Or.inl ⟨by rfl, ?_⟩) (by assumption) ?_
          rotate_left
          · (intro w hSw; (try dsimp only at hSw); go_simp <;> (try with_reducible rfl))
          (try simp only [Act.put, List.setIfInBounds_toArray, List.set_cons_zero, List.set_cons_succ])
          refine take_yes (i := 6) (v := ?_) (some 166) rfl rfl (by kernel_rfl) (by kernel_rfl) (by kernel_rfl) (fun _ _ _ h => h) (Or.inl ⟨by rfl, ?_⟩) (by assumption) ?_
          rotate_left
          · (intro w hSw; (try dsimp only at hSw); go_simp <;> (try with_reducible rfl))
          (try simp only [Act.put, List.setIfInBounds_toArray, List.set_cons_zero, List.set_cons_succ])
          refine take_yes (i := 7) (v := ?_) (some 167) rfl rfl (by kernel_rfl) (by kernel_rfl) (by kernel_rfl) (fun _ _ _ h => h) (Or.inl ⟨by rfl, ?_⟩) (by assumption) ?_
          rotate_left
          · (intro w hSw; (try dsimp only at hSw); go_simp <;> (try with_reducible rfl))
          (try simp only [Act.put, List.setIfInBounds_toArray, List.set_cons_zero, List.set_cons_succ])
          refine take_yes (i := 8) (v := ?_) (some 168) rfl rfl (by kernel_rfl) (by kernel_rfl) (by kernel_rfl) (fun _ _ _ h => h) (Or.inl ⟨by rfl, ?_⟩) (by assumption) ?_
          rotate_left
          · (intro w hSw; (try dsimp only at hSw); go_simp <;> (try with_reducible rfl))
          (try simp only [Act.put, List.setIfInBounds_toArray, List.set_cons_zero, List.set_cons_succ])
          refine take_yes (i := 9) (v := ?_) (some 169) rfl rfl (by kernel_rfl) (by kernel_rfl) (by kernel_rfl) (fun _ _ _ h => h) (Or.inl ⟨by rfl, ?_⟩) (by assumption) ?_
          rotate_left
          · (intro w hSw; (try dsimp only at hSw); go_simp <;> (try with_reducible rfl))
          (try simp only [Act.put, List.setIfInBounds_toArray, List.set_cons_zero, List.set_cons_succ])
          refine wpAnyH_ready (rs := [10]) (by kernel_rfl) (by simp) ?_
          refine AllReadyH.cons (o := _) rfl (fun K hK => ?_) AllReadyH.nil
          go_simp
          refine cN.mono ?_
          rintro e w1 ⟨rfl, hk1⟩
          refine hK.out _ _ trivial (fun hHeld => ?_)
          clear hK K
          (try simp only [Act.put, List.setIfInBounds_toArray, List.set_cons_zero, List.set_cons_succ])
          refine take_yes (i := 11) (v := ?_) (some 171) rfl rfl (by kernel_rfl) (by kernel_rfl) (by kernel_rfl) (fun _ _ _ h => h) (Or.inl ⟨by rfl, ?_⟩) (by assumption) ?_
          rotate_left
          · (intro w hSw; (try dsimp only at hSw); go_simp <;> (try with_reducible rfl))
          (try simp only [Act.put, List.setIfInBounds_toArray, List.set_cons_zero, List.set_cons_succ])
          refine take_yes (i := 12) (v := ?_) (some 172) rfl rfl (by kernel_rfl) (by kernel_rfl) (by kernel_rfl) (fun _ _ _ h => h) (Or.inl ⟨by rfl, ?_⟩) (by assumption) ?_
          rotate_left
          · (intro w hSw; (try dsimp only at hSw); go_simp <;> (try with_reducible rfl))
          (try simp only [Act.put, List.setIfInBounds_toArray, List.set_cons_zero, List.set_cons_succ])
          refine take_no (i := 13) (some 173) rfl rfl (by kernel_rfl) (by kernel_rfl) (by kernel_rfl) (fun _ _ _ h => h) (by kernel_rfl) (by assumption) ?_
          (try simp only [Act.put, List.setIfInBounds_toArray, List.set_cons_zero, List.set_cons_succ])
          refine take_no (i := 14) (some 174) rfl rfl (by kernel_rfl) (by kernel_rfl) (by kernel_rfl) (fun _ _ _ h => h) (by kernel_rfl) (by assumption) ?_
          (try simp only [Act.put, List.setIfInBounds_toArray, List.set_cons_zero, List.set_cons_succ])
          refine take_no (i := 15) (some 175) rfl rfl (by kernel_rfl) (by kernel_rfl) (by kernel_rfl) (fun _ _ _ h => h) (by kernel_rfl) (by assumption) ?_
          (try simp only [Act.put, List.setIfInBounds_toArray, List.set_cons_zero, List.set_cons_succ])
          refine take_no (i := 16) (some 176) rfl rfl (by kernel_rfl) (by kernel_rfl) (by kernel_rfl) (fun _ _ _ h => h) (by kernel_rfl) (by assumption) ?_
          (try simp only [Act.put, List.setIfInBounds_toArray, List.set_cons_zero, List.set_cons_succ])
          refine take_no (i := 17) (some 177) rfl rfl (by kernel_rfl) (by kernel_rfl) (by kernel_rfl) (fun _ _ _ h => h) (by kernel_rfl) (by assumption) ?_
          (try simp only [Act.put, List.setIfInBounds_toArray, List.set_cons_zero, List.set_cons_succ])
          refine take_no (i := 18) (some 178) rfl rfl (by kernel_rfl) (by kernel_rfl) (by kernel_rfl) (fun _ _ _ h => h) (by kernel_rfl) (by assumption) ?_
          (try simp only [Act.put, List.setIfInBounds_toArray, List.set_cons_zero, List.set_cons_succ])
          refine take_no (i := 19) (some 179) rfl rfl (by kernel_rfl) (by kernel_rfl) (by kernel_rfl) (fun _ _ _ h => h) (by kernel_rfl) (by assumption) ?_
          (try simp only [Act.put, List.setIfInBounds_toArray, List.set_cons_zero, List.set_cons_succ])
          refine take_no (i := 20) (some 180) rfl rfl (by kernel_rfl) (by kernel_rfl) (by kernel_rfl) (fun _ _ _ h => h) (by kernel_rfl) (by assumption) ?_
          (try simp only [Act.put, List.setIfInBounds_toArray, List.set_cons_zero, List.set_cons_succ])
          refine take_yes (i := 21) (v := ?_) (some 181) rfl rfl (by kernel_rfl) (by kernel_rfl) (by kernel_rfl) (fun _ _ _ h => h) (Or.inl ⟨by rfl, ?_⟩) (by assumption) ?_
          rotate_left
          · (intro w hSw; (try dsimp only at hSw); go_simp <;> (try with_reducible rfl))
          (try simp only [Act.put, List.setIfInBounds_toArray, List.set_cons_zero, List.set_cons_succ])
          refine wpAnyH_done (by kernel_rfl) ?_ _
          go_wp2
          obtain ⟨hj, hjn, hkm, hk, hj32⟩ := HJ.out
          go_roundw
          case rel => exact ⟨j + 32, k + 1, by omega, by omega, by go_num, HKP.out.trans ((Kp.refl (fun _ => False) wr).drew.trans hk1)⟩
          case measure => simp [intOf]; omega
        · rw [decide_eq_false heq] at cN
          rcases hbits with h | h
          · exact absurd h heq
          have HZ : Hid (∀ w1, Kp (fun _ => False) wr.drew w1 → Calls Tryd.prog 19 #[.slice (some ⟨cb, co + j, none⟩) 32 (cc - j), .slice (some ⟨w1.heap.size, 0, none⟩) 32 32] (w1.alloc (.cells (madeCells #[.int .u8 0] 32) 5)) (fun e w' => e = .returned (.bool true) ∧ Kp (fun _ => False) w1 w')) := by
            intro w1 hk1
            have h1 := (pN.kept (Kp.refl _ wr).drew (F' := fun _ => False) fun _ h => .inl h).kept (hk1.mono fun _ h => h.elim) (F' := fun _ => False) fun _ h => .inl h
            have h2 := h1.kept ((Kp.refl _ w1).alloc (.cells (madeCells #[.int .u8 0] 32) 5)) (F' := fun _ => False) fun _ h => .inl h
            have h3 := Same_bytes h2 (made_bytes 32 w1 (fun _ => False) fun _ h => h.elim) (by rw [List.length_take]; omega)
            rw [h, decide_eq_true rfl] at h3
            exact h3.mono fun e w' ⟨h4, h5⟩ => ⟨h4, ((Kp.refl _ w1).alloc _).trans h5⟩
          clear hN hY pN pY eN eY h heq hx3 hkp hj hkm hk hj32
          clear hx1 hx2
          go_wp2
          clear hjn
          refine wp_region_held_drew (S := (fun _ => True)) (by kernel_rfl) trivial (fun hHeld => ?_)
          refine take_yes (i := 0) (v := ?_) (some 160) rfl rfl (by kernel_rfl) (by kernel_rfl) (by kernel_rfl) (fun _ _ _ h => h) (Or.inl ⟨by rfl, ?_⟩) (by assumption) ?_
          rotate_left
          · (intro w hSw; (try dsimp only at hSw); go_simp <;> (try with_reducible rfl))
          (try simp only [Act.put, List.setIfInBounds_toArray, List.set_cons_zero, List.set_cons_succ])
          refine take_yes (i := 1) (v := ?_) (some 161) rfl rfl (by kernel_rfl) (by kernel_rfl) (by kernel_rfl) (fun _ _ _ h => h) (Or.inl ⟨by rfl, ?_⟩) (by assumption) ?_
          rotate_left
          · (intro w hSw; (try dsimp only at hSw); go_simp <;> (try with_reducible rfl))
          (try simp only [Act.put, List.setIfInBounds_toArray, List.set_cons_zero, List.set_cons_succ])
          refine take_yes (i := 2) (v := ?_) (some 162) rfl rfl (by kernel_rfl) (by kernel_rfl) (by kernel_rfl) (fun _ _ _ h => h) (Or.inl ⟨by rfl, ?_⟩) (by assumption) ?_
          rotate_left
          · (intro w hSw; (try dsimp only at hSw); go_simp <;> (try with_reducible rfl))
          (try simp only [Act.put, List.setIfInBounds_toArray, List.set_cons_zero, List.set_cons_succ])
          refine take_yes (i := 3) (v := ?_) (some 163) rfl rfl (by kernel_rfl) (by kernel_rfl) (by kernel_rfl) (fun _ _ _ h => h) (Or.inl ⟨by rfl, ?_⟩) (by assumption) ?_
          rotate_left
          · (intro w hSw; (try dsimp only at hSw); go_simp <;> (try with_reducible rfl))
          (try simp only [Act.put, List.setIfInBounds_toArray, List.set_cons_zero, List.set_cons_succ])
          refine take_yes (i := 4) (v := ?_) (some 164) rfl rfl (by kernel_rfl) (by kernel_rfl) (by kernel_rfl) (fun _ _ _ h => h) (Or.inl ⟨by rfl, ?_⟩) (by assumption) ?_
          rotate_left
          · (intro w hSw; (try dsimp only at hSw); go_simp <;> (try with_reducible rfl))
          (try simp only [Act.put, List.setIfInBounds_toArray, List.set_cons_zero, List.set_cons_succ])
          refine take_yes (i := 5) (v := ?_) (some 165) rfl rfl (by kernel_rfl) (by kernel_rfl) (by kernel_rfl) (fun _ _ _ h => h) (Or.inl ⟨by rfl, ?_⟩) (by assumption) ?_
          rotate_left
          · (intro w hSw; (try dsimp only at hSw); go_simp <;> (try with_reducible rfl))
          (try simp only [Act.put, List.setIfInBounds_toArray, List.set_cons_zero, List.set_cons_succ])
          refine take_yes (i := 6) (v := ?_) (some 166) rfl rfl (by kernel_rfl) (by kernel_rfl) (by kernel_rfl) (fun _ _ _ h => h) (Or.inl ⟨by rfl, ?_⟩) (by assumption) ?_
          rotate_left
          · (intro w hSw; (try dsimp only at hSw); go_simp <;> (try with_reducible rfl))
          (try simp only [Act.put, List.setIfInBounds_toArray, List.set_cons_zero, List.set_cons_succ])
          refine take_yes (i := 7) (v := ?_) (some 167) rfl rfl (by kernel_rfl) (by kernel_rfl) (by kernel_rfl) (fun _ _ _ h => h) (Or.inl ⟨by rfl, ?_⟩) (by assumption) ?_
          rotate_left
          · (intro w hSw; (try dsimp only at hSw); go_simp <;> (try with_reducible rfl))
          (try simp only [Act.put, List.setIfInBounds_toArray, List.set_cons_zero, List.set_cons_succ])
          refine take_yes (i := 8) (v := ?_) (some 168) rfl rfl (by kernel_rfl) (by kernel_rfl) (by kernel_rfl) (fun _ _ _ h => h) (Or.inl ⟨by rfl, ?_⟩) (by assumption) ?_
          rotate_left
          · (intro w hSw; (try dsimp only at hSw); go_simp <;> (try with_reducible rfl))
          (try simp only [Act.put, List.setIfInBounds_toArray, List.set_cons_zero, List.set_cons_succ])
          refine take_yes (i := 9) (v := ?_) (some 169) rfl rfl (by kernel_rfl) (by kernel_rfl) (by kernel_rfl) (fun _ _ _ h => h) (Or.inl ⟨by rfl, ?_⟩) (by assumption) ?_
          rotate_left
          · (intro w hSw; (try dsimp only at hSw); go_simp <;> (try with_reducible rfl))
          (try simp only [Act.put, List.setIfInBounds_toArray, List.set_cons_zero, List.set_cons_succ])
          refine wpAnyH_ready (rs := [10]) (by kernel_rfl) (by simp) ?_
          refine AllReadyH.cons (o := _) rfl (fun K hK => ?_) AllReadyH.nil
          go_simp
          refine cN.mono ?_
          rintro e w1 ⟨rfl, hk1⟩
          have cZ := HZ.out w1 hk1
          refine hK.out _ _ trivial (fun hHeld => ?_)
          clear hK K
          (try simp only [Act.put, List.setIfInBounds_toArray, List.set_cons_zero, List.set_cons_succ])
          refine take_yes (i := 11) (v := ?_) (some 171) rfl rfl (by kernel_rfl) (by kernel_rfl) (by kernel_rfl) (fun _ _ _ h => h) (Or.inl ⟨by rfl, ?_⟩) (by assumption) ?_
          rotate_left
          · (intro w hSw; (try dsimp only at hSw); go_simp <;> (try with_reducible rfl))
          (try simp only [Act.put, List.setIfInBounds_toArray, List.set_cons_zero, List.set_cons_succ])
          refine take_yes (i := 12) (v := ?_) (some 172) rfl rfl (by kernel_rfl) (by kernel_rfl) (by kernel_rfl) (fun _ _ _ h => h) (Or.inl ⟨by rfl, ?_⟩) (by assumption) ?_
          rotate_left
          · (intro w hSw; (try dsimp only at hSw); go_simp <;> (try with_reducible rfl))
          (try simp only [Act.put, List.setIfInBounds_toArray, List.set_cons_zero, List.set_cons_succ])
          refine take_yes (i := 13) (v := ?_) (some 173) rfl rfl (by kernel_rfl) (by kernel_rfl) (by kernel_rfl) (fun _ _ _ h => h) (Or.inl ⟨by rfl, ?_⟩) (by assumption) ?_
          rotate_left
          · (intro w hSw; (try dsimp only at hSw); go_simp <;> (try with_reducible rfl))
          (try simp only [Act.put, List.setIfInBounds_toArray, List.set_cons_zero, List.set_cons_succ])
          refine take_yes (i := 14) (v := ?_) (some 174) rfl rfl (by kernel_rfl) (by kernel_rfl) (by kernel_rfl) (fun _ _ _ h => h) (Or.inl ⟨by rfl, ?_⟩) (by assumption) ?_
          rotate_left
          · (intro w hSw; (try dsimp only at hSw); go_simp <;> (try with_reducible rfl))
          (try simp only [Act.put, List.setIfInBounds_toArray, List.set_cons_zero, List.set_cons_succ])
          refine take_yes (i := 15) (v := ?_) (some 175) rfl rfl (by kernel_rfl) (by kernel_rfl) (by kernel_rfl) (fun _ _ _ h => h) (Or.inl ⟨by rfl, ?_⟩) (by assumption) ?_
          rotate_left
          · (intro w hSw; (try dsimp only at hSw); go_simp <;> (try with_reducible rfl))
          (try simp only [Act.put, List.setIfInBounds_toArray, List.set_cons_zero, List.set_cons_succ])
          refine take_yes (i := 16) (v := ?_) (some 176) rfl rfl (by kernel_rfl) (by kernel_rfl) (by kernel_rfl) (fun _ _ _ h => h) (Or.inl ⟨by rfl, ?_⟩) (by assumption) ?_
          rotate_left
          · (intro w hSw; (try dsimp only at hSw); go_simp <;> (try with_reducible rfl))
          (try simp only [Act.put, List.setIfInBounds_toArray, List.set_cons_zero, List.set_cons_succ])
          refine take_yes (i := 17) (v := ?_) (some 177) rfl rfl (by kernel_rfl) (by kernel_rfl) (by kernel_rfl) (fun _ _ _ h => h) (Or.inl ⟨by rfl, ?_⟩) (by assumption) ?_
          rotate_left
          · (intro w hSw; (try dsimp only at hSw); go_simp <;> (try with_reducible rfl))
          (try simp only [Act.put, List.setIfInBounds_toArray, List.set_cons_zero, List.set_cons_succ])
          refine wpAnyH_ready (rs := [18]) (by kernel_rfl) (by simp) ?_
          refine AllReadyH.cons (o := _) rfl (fun K hK => ?_) AllReadyH.nil
          go_simp
          skip
          refine hK.out _ _ trivial (fun hHeld => ?_)
          clear hK K
          (try simp only [Act.put, List.setIfInBounds_toArray, List.set_cons_zero, List.set_cons_succ])
          refine wpAnyH_ready (rs := [19]) (by kernel_rfl) (by simp) ?_
          refine AllReadyH.cons (o := _) rfl (fun K hK => ?_) AllReadyH.nil
          go_simp
          refine cZ.mono ?_
          rintro e w2 ⟨rfl, hk2⟩
          refine hK.out _ _ trivial (fun hHeld => ?_)
          clear hK K
          (try simp only [Act.put, List.setIfInBounds_toArray, List.set_cons_zero, List.set_cons_succ])
          refine take_yes (i := 20) (v := ?_) (some 180) rfl rfl (by kernel_rfl) (by kernel_rfl) (by kernel_rfl) (fun _ _ _ h => h) (Or.inl ⟨by rfl, ?_⟩) (by assumption) ?_
          rotate_left
          · (intro w hSw; (try dsimp only at hSw); go_simp <;> (try with_reducible rfl))
          (try simp only [Act.put, List.setIfInBounds_toArray, List.set_cons_zero, List.set_cons_succ])
          refine take_yes (i := 21) (v := ?_) (some 181) rfl rfl (by kernel_rfl) (by kernel_rfl) (by kernel_rfl) (fun _ _ _ h => h) (Or.inl ⟨by rfl, ?_⟩) (by assumption) ?_
          rotate_left
          · (intro w hSw; (try dsimp only at hSw); go_simp <;> (try with_reducible rfl))
          (try simp only [Act.put, List.setIfInBounds_toArray, List.set_cons_zero, List.set_cons_succ])
          refine wpAnyH_done (by kernel_rfl) ?_ _
          go_wp2
          obtain ⟨hj, hjn, hkm, hk, hj32⟩ := HJ.out
          go_roundw
          case rel => exact ⟨j + 32, k + 1, by omega, by omega, by go_num, HKP.out.trans (((Kp.refl (fun _ => False) wr).drew.trans hk1).trans hk2)⟩
          case measure => simp [intOf]; omega
      · clear hx1 hx2 hx3 hkp
        go_wp2
        go_ret
        exact ⟨rfl, HKS.out.trans HKP.out⟩
end Go.Proofs.YtdncdnnlmddjhaaDoor

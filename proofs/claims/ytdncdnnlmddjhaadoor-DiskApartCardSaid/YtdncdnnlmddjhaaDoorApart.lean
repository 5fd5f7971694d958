/-
  DiskApart: what is done to a file leaves all other ones as they were.
-/
import Derived.Test.YtdncdnnlmddjhaaDoorScript
import Derived.Deep.RegionHeld3
namespace Go.Proofs.YtdncdnnlmddjhaaDoor
open Go.RowKit Go.Shelf Go.ChangeMaps

def nmZ : Nm := { data := #[122, 57] }
/-- The file is there, as it was. -/
structure Stays (A : List Sec) (S : St) : Prop where
  idle : Idle S
  here : get S.files nmZ = some A
theorem Stays.app {A : List Sec} {S : St} (h : Stays A S) {n : Nm} (hn : nmZ ≠ n) (bs : List Int) : Stays A (S.appT n bs) := by
  refine ⟨h.idle.appT n bs, ?_⟩
  unfold St.appT
  split
  · exact h.here
  · split
    · exact h.here
    · split
      · exact h.here
      · split
        · exact h.here
        · rw [appS_files, get_put_ne hn]; exact h.here
theorem Stays.op {A : List Sec} {S : St} (h : Stays A S) (c : Int) {hg : Hg} (hr : get (hg.run S.files) nmZ = get S.files nmZ) : Stays A (S.opS c hg) := by
  refine ⟨h.idle.opS c hg, ?_⟩
  unfold St.opS
  split
  · rw [h.idle.did_files, hr]; exact h.here
  · exact h.here
theorem Stays.sync {A : List Sec} {S : St} (h : Stays A S) {n : Nm} (hn : nmZ ≠ n) (c : Int) : Stays A (S.opS c (.sync n)) := h.op c (get_put_ne hn _)
theorem Stays.remove {A : List Sec} {S : St} (h : Stays A S) {n : Nm} (hn : nmZ ≠ n) (c : Int) : Stays A (S.opS c (.remove n)) := h.op c (get_del_ne hn)
theorem Stays.trunc {A : List Sec} {S : St} (h : Stays A S) {n : Nm} (hn : nmZ ≠ n) (k : Int) : Stays A (S.truncS n k) := by
  unfold St.truncS; split
  · exact h
  · exact h.op _ (get_put_ne hn _)
theorem Stays.ren {A : List Sec} {S : St} (h : Stays A S) {x y : Nm} (hx : nmZ ≠ x) (hy : nmZ ≠ y) : Stays A (S.renS x y) := by
  unfold St.renS; split
  · exact h
  · exact h.op _ ((get_put_ne hy _).trans (get_del_ne hx))

theorem nmZ_list : ByteArray.toList nmZ = [122, 57] := by decide +kernel
/-- A call on another file: the file is there, as it was, and so is what was read of it. -/
def Apart1 (w : World) (d : Nat) (A : List Sec) (wv : Value) (B : List Int) (e : Ending) (w' : World) : Prop :=
  (∃ n, e = .returned (.int .i64 n)) ∧ ∃ S F, Dsk w w' d S F ∧ Stays A S ∧ BytesAt w' F wv B
theorem apart_of {w0 w : World} {d : Nat} {n : Int} {S : St} {F : Nat → Prop} {A : List Sec} {wv : Value} {B : List Int} (hS : Stays A S) (hB : BytesAt w F wv B) {e : Ending} {w' : World} (h : Goes w0 w d n S F e w') : Apart1 w0 d A wv B e w' := by
  obtain ⟨he, F', h', hF, hk⟩ := h
  exact ⟨⟨n, he⟩, S, F', h', hS, hB.kept hk hF⟩
/-- The end: it is read, and is what it was. -/
theorem apart_end {w0 wE : World} {d : Nat} {S : St} {F : Nat → Prop} {A : List Sec} {B : List Int} {wp : Option Addr} {wc : Nat} (h : Dsk w0 wE d S F) (hS : Stays A S) (hW : BytesAt wE F (.slice wp B.length wc) B) (hB : bytesOf A = B) (hBl : B.length ≤ 140737488351232) :
    Calls Tryd.prog 15 #[.pointer (some ⟨d, 0, none⟩), .string nmZ] wE (fun e w' => ∃ v, e = .returned (.tuple #[v, .int .i64 0]) ∧ Dsk w0 w' d S F ∧ BytesAt w' F v B ∧ Kp (fun _ => False) wE w') ∧
      ∀ w' v, (Dsk w0 w' d S F ∧ BytesAt w' F v B ∧ Kp (fun _ => False) wE w') → ∃ q qc, v = .slice q B.length qc ∧
        Calls Tryd.prog 19 #[.slice q B.length qc, .slice wp B.length wc] w' (fun e w2 => e = .returned (.bool true) ∧ Kp (fun _ => False) w0 w2) := by
  constructor
  · refine (h.read_ok nmZ (by decide) (hS.idle.there (by decide) (by rw [hS.here]; rfl))).mono ?_
    rintro e w' ⟨v, rfl, h1, h2, h3⟩
    rw [getF, hS.here, Option.getD_some, hB] at h3
    exact ⟨v, rfl, h1, h3, h2⟩
  · rintro w' v ⟨h1, h2, h3⟩
    have hW' := hW.kept (F' := F) (h3.mono fun _ h => h.elim) fun _ h => .inl h
    have hc := Same_bytes h2 hW' hBl
    obtain ⟨q, qc, rfl, _, _⟩ := h2
    refine ⟨q, qc, rfl, hc.mono ?_⟩
    rintro e w2 ⟨rfl, hk⟩
    exact ⟨by rw [decide_eq_true rfl], h1.kp.trans hk⟩
set_option maxRecDepth 100000 in
set_option maxHeartbeats 8000000 in
theorem DiskApart_any (w : World) (sp : Option Addr) (sl sc : Nat) (hsc : ScriptAt w sp sl) (hsl : sl ≤ 9223372036854775807) (p : Option Addr) (len cap : Nat) (hlen : len ≤ 9223372036854775807) (bs : List Int) (hb : BytesAt w (fun _ => False) (.slice p len cap) bs) :
    Calls Tryd.prog 8 #[.slice sp sl sc, .slice p len cap] w (fun e w' => e = .returned (.bool true) ∧ Kp (fun _ => False) w w') := by
  have ha := awake_any w
  have HB := Lib.hid hb
  have HSC := Lib.hid hsc
  have HSL := Lib.hid hsl
  have hlc := hb.len.2
  clear hb hsc hsl
  go_enter Tryd.func8, Tryd.ntmps8
  go_wp2_with (first
    | (go_at_call 9; refine ha.mono ?_; rintro e w1 ⟨rfl, hk1⟩)
    | (go_at_call 10; refine Hid.out ?_))
  obtain ⟨n, hn⟩ : ∃ n, (min (len : Int) 200).toNat = n := ⟨_, rfl⟩
  have hn5 : n ≤ 200 := by omega
  have hnl : n ≤ len := by omega
  rw [hn]
  refine Lib.hid ?_
  refine (New_dsk 60000 (by omega) (by omega) w w1 hk1).mono ?_
  rintro e w2 ⟨d, F, rfl, h2, -, -⟩
  obtain ⟨ys, hys⟩ : ∃ ys, bs.take n = ys := ⟨_, rfl⟩
  have hb := HB.out.take hnl
  rw [hys] at hb
  obtain rfl : n = ys.length := hb.len.1
  have htw := Twin_bytes (hb.kept h2.kp (F' := fun _ => False) fun _ h => .inl h) (by omega)
  have hns : nsec ys.length ≤ 7 := nsec_le (by omega)
  obtain ⟨a1, a2, a3, -⟩ := first_write (m := 60000) (n := nmZ) (bs := ys) (by decide) (by omega)
  obtain ⟨S1, hS1⟩ : ∃ S1, (St.new 60000).appT nmZ ys = S1 := ⟨_, rfl⟩
  rw [hS1] at a2 a3
  have hst : Stays (secs ys) S1 := ⟨a2, by rw [a3]; simp [get]⟩
  have hck : S1.check nmZ true = 0 := a2.there (by decide) (by rw [hst.here]; rfl)
  have hgf : bytesOf (getF S1.files nmZ) = bytesOf (secs ys) := by rw [getF, hst.here]; rfl
  obtain ⟨A, hA⟩ : ∃ A, secs ys = A := ⟨_, rfl⟩
  rw [hA] at hst hgf
  obtain ⟨B, hB⟩ : ∃ B, bytesOf A = B := ⟨_, rfl⟩
  have hBl : B.length ≤ 224 := by rw [← hB, ← hA, bytesOf_length (secs_len ys), secs_length]; omega
  rw [hB] at hgf
  have H2 := Lib.hid h2
  have HST := Lib.hid hst
  have HCK := Lib.hid (And.intro hck hgf)
  have HBA := Lib.hid hB
  clear HB hb a2 a3 h2 ha hk1 hst hck hgf hB hA
  go_wp2_with (first
    | (go_at_call 13; refine htw.mono ?_; rintro e w3 ⟨g, c, rfl, hgc, -, -, hgh, hgk⟩; have cap := H2.out.append_new hgc hgh hgk nmZ (by decide) (by omega); rw [a1, hS1] at cap; clear hgh hgk)
    | (go_at_call 12; refine cap.mono ?_; rintro e w4 ⟨rfl, F4, h4, -, -⟩; have crd := h4.read_ok nmZ (by decide) HCK.out.1; rw [HCK.out.2] at crd; clear h4 cap)
    | (go_at_call 15; refine Hid.out ?_))
  refine Lib.hid ?_
  refine crd.mono ?_
  rintro e w5 ⟨v, rfl, h5, -, hb5⟩
  have hb5' := hb5
  obtain ⟨wp, wc, rfl, -, -⟩ := hb5'
  have H5 := Lib.hid h5
  have HB5 := Lib.hid hb5
  clear crd H2 h5 hb5 htw
  go_wp2
  go_loopw [42] (fun vi wr => ∃ i : Nat, i ≤ sl ∧ vi = .int .i64 i ∧ ∃ S F, Dsk w wr d S F ∧ Stays A S ∧ BytesAt wr F (.slice wp B.length wc) B) (fun i _ => sl - (intOf i).toNat)
  case atStart => exact ⟨0, Nat.zero_le _, rfl, _, _, H5.out, HST.out, HB5.out⟩
  case round =>
    obtain ⟨i, hi, rfl, S, F, hD, hST, hBW⟩ := hrel
    clear H5 HB5 HST
    have HD := Lib.hid hD
    have HT := Lib.hid hST
    have HW := Lib.hid hBW
    by_cases hil : i < sl
    · obtain ⟨sb, so, x, rfl, hc, hok⟩ := HSC.out i hil
      have hcr := hc.kept hD.kp
      have HOK := Lib.hid (hok.kept hD.kp)
      obtain ⟨xk, xA, xB, xP, xn, xm, xbs, xN, xdn, xL, xkp, xkc⟩ := x
      obtain ⟨q0, q1, q2, q3, q4, q5, q6⟩ := hcr
      have hkk := hok.kind
      have hxc := hok.bytes.len.2
      have hxl := hok.len
      simp only at q0 q1 q2 q3 q4 q5 q6 hkk hxc hxl
      clear hc hok hD hST hBW
      by_cases h60 : i < 60
      · by_cases hA : ByteArray.toList xA = [122, 57]
        · go_wp2
          go_roundw
          case rel => exact ⟨i + 1, by omega, by go_num, S, F, (HD.out.alloc _), HT.out, HW.out.kept ((Kp.refl _ wr).alloc _) fun _ h => .inl h⟩
          case measure => simp [intOf]; omega
        by_cases hB : ByteArray.toList xB = [122, 57]
        · go_wp2
          go_roundw
          case rel => exact ⟨i + 1, by omega, by go_num, S, F, (HD.out.alloc _), HT.out, HW.out.kept ((Kp.refl _ wr).alloc _) fun _ h => .inl h⟩
          case measure => simp [intOf]; omega
        obtain ⟨z, hz⟩ : ∃ z, (min (xn : Int) 500).toNat = z := ⟨_, rfl⟩
        have hz5 : z ≤ 500 := by omega
        have hzn : z ≤ xn := by omega
        have hA1 : (ByteArray.toList xA == [122, 57]) = false := by simpa using hA
        have hB1 : (ByteArray.toList xB == [122, 57]) = false := by simpa using hB
        have nA : nmZ ≠ xA := by rintro rfl; exact hA nmZ_list
        have nB : nmZ ≠ xB := by rintro rfl; exact hB nmZ_list
        obtain ⟨wb, hwb⟩ : ∃ wb, wr.alloc (.cells #[.int .u8 xk, .string xA, .string xB, .slice xP z xm, .int .i64 xN, .bool xdn, .slice xkp xL.length xkc] 37) = wb := ⟨_, rfl⟩
        have hD' : Dsk w wb d S F := by rw [← hwb]; exact HD.out.alloc _
        have hbx : wb.heap[wr.heap.size]? = some (.cells #[.int .u8 xk, .string xA, .string xB, .slice xP z xm, .int .i64 xN, .bool xdn, .slice xkp xL.length xkc] 37 (0, 0)) := by rw [← hwb]; exact heap_alloc_new wr _
        have hkw : Kp (fun _ => False) wr wb := by rw [← hwb]; exact (Kp.refl _ wr).alloc _
        have hBW := HW.out.kept (F' := F) (hkw.mono fun _ h => h.elim) fun _ h => .inl h
        have hFn : ∀ k, F k → k < wr.heap.size := HD.out.flt
        have cSync : Calls Tryd.prog 14 #[.pointer (some ⟨d, 0, none⟩), .string xA] wb (Apart1 w d A (.slice wp B.length wc) B) := (hD'.sync xA HOK.out.a).mono fun _ _ h => apart_of (HT.out.sync nA _) hBW h
        have cRem : Calls Tryd.prog 25 #[.pointer (some ⟨d, 0, none⟩), .string xA] wb (Apart1 w d A (.slice wp B.length wc) B) := (hD'.remove xA HOK.out.a).mono fun _ _ h => apart_of (HT.out.remove nA _) hBW h
        have cTru : Calls Tryd.prog 20 #[.pointer (some ⟨d, 0, none⟩), .string xA, .int .i64 xN] wb (Apart1 w d A (.slice wp B.length wc) B) := (hD'.truncate xA HOK.out.a xN HOK.out.num.2).mono fun _ _ h => apart_of (HT.out.trunc nA _) hBW h
        have cRen : Calls Tryd.prog 24 #[.pointer (some ⟨d, 0, none⟩), .string xA, .string xB] wb (Apart1 w d A (.slice wp B.length wc) B) := (hD'.rename xA xB HOK.out.a HOK.out.b).mono fun _ _ h => apart_of (HT.out.ren nA nB) hBW h
        obtain ⟨zs, hzs⟩ : ∃ zs, xbs.take z = zs := ⟨_, rfl⟩
        have hz8 := HOK.out.bytes.take hzn
        simp only [hzs] at hz8
        obtain rfl : z = zs.length := hz8.len.1
        have hz8' := hz8.kept hkw (F' := fun _ => False) fun _ h => .inl h
        have cTwi : Calls Tryd.prog 13 #[.slice xP zs.length xm] wb.drew (OwnBytes wb.drew zs) := Twin_bytes (hz8'.kept (Kp.refl _ wb).drew (F' := fun _ => False) fun _ h => .inl h) (by omega)
        have cApp : ∀ w3 g c, zs.length ≤ c → Holds8 w3 g 0 zs → Kp (fun _ => False) wb.drew w3 → Calls Tryd.prog 12 #[.pointer (some ⟨d, 0, none⟩), .string xA, .slice (some ⟨g, 0, none⟩) zs.length c] w3 (fun e w' => Apart1 w d A (.slice wp B.length wc) B e w' ∧ w'.heap[wr.heap.size]? = wb.heap[wr.heap.size]?) := by
          intro w3 g c h1 h2 h3
          have hs3 := h3.size
          have hsb : wr.heap.size < wb.heap.size := blk_lt hbx
          have hdb : wb.drew.heap.size = wb.heap.size := rfl
          refine (hD'.drew.append_new h1 h2 h3 xA HOK.out.a (by omega)).mono fun e w' h => ⟨apart_of (HT.out.app nA zs) ((hBW.kept (F' := F) (((Kp.refl (fun _ => False) wb).drew.trans h3).mono fun _ h => h.elim) fun _ h => .inl h)) h, ?_⟩
          obtain ⟨_, F', _, _, hk⟩ := h
          exact (hk.block _ (by omega) fun hf => by have := hFn _ hf; omega).trans (h3.block _ (by omega) id)
        have b0 := blk_cell (blk_drew hbx) 1
        have b1 := blk_cell (blk_drew hbx) 3
        simp only [List.getElem?_toArray, List.getElem?_cons_zero, List.getElem?_cons_succ] at b0 b1
        have HCA := Lib.hid cApp
        have HBX := Lib.hid hbx
        have HFN := Lib.hid hFn
        clear hA hB hz8 hz8' hD' hbx hkw hBW hFn cApp
        have HWB := Lib.hid hwb
        have HKW := Lib.hid hzs
        clear hwb hzs
        rcases (by omega : xk % 5 = 0 ∨ xk % 5 = 1 ∨ xk % 5 = 2 ∨ xk % 5 = 3 ∨ xk % 5 = 4) with hm | hm | hm | hm | hm
        rotate_left
        all_goals try
          go_wp2_with (first
            | (go_at_call 14; rw [HWB.out]; refine cSync.mono ?_; rintro e w9 ⟨⟨nr, rfl⟩, S9, F9, h9, s9, v9⟩; have H9 := Lib.hid h9; have V9 := Lib.hid v9; clear h9 v9)
            | (go_at_call 20; rw [HWB.out]; refine cTru.mono ?_; rintro e w9 ⟨⟨nr, rfl⟩, S9, F9, h9, s9, v9⟩; have H9 := Lib.hid h9; have V9 := Lib.hid v9; clear h9 v9)
            | (go_at_call 24; rw [HWB.out]; refine cRen.mono ?_; rintro e w9 ⟨⟨nr, rfl⟩, S9, F9, h9, s9, v9⟩; have H9 := Lib.hid h9; have V9 := Lib.hid v9; clear h9 v9)
            | (go_at_call 25; rw [HWB.out]; refine cRem.mono ?_; rintro e w9 ⟨⟨nr, rfl⟩, S9, F9, h9, s9, v9⟩; have H9 := Lib.hid h9; have V9 := Lib.hid v9; clear h9 v9))
          go_roundw
          case rel => exact ⟨i + 1, by omega, by go_num, S9, F9, H9.out, s9, V9.out⟩
          case measure => simp [intOf]; omega
        go_wp2
        rw [HWB.out]
        go_region_held3 (fun w' => w'.cell? ⟨wr.heap.size, 1, none⟩ = some (.string xA) ∧ w'.cell? ⟨wr.heap.size, 3, none⟩ = some (.slice xP zs.length xm)) (first | exact ⟨b0, b1⟩ | exact ⟨e0, e1⟩ | exact ⟨f0, f1⟩) (first
          | (go_at_call 13; refine cTwi.mono ?_; rintro e w9 ⟨gg, gc, rfl, gh, -, -, gx, gk⟩; have cAp := HCA.out w9 gg gc gh gx gk; have hb9 := gk.blk (blk_drew HBX.out) id; have e0 := blk_cell hb9 1; have e1 := blk_cell hb9 3; simp only [List.getElem?_toArray, List.getElem?_cons_zero, List.getElem?_cons_succ] at e0 e1; clear gx gk)
          | (go_at_call 12; refine cAp.mono ?_; rintro e wA ⟨⟨⟨nr, rfl⟩, S9, F9, h9, s9, v9⟩, hbA⟩; have hbB := hbA.trans HBX.out; have f0 := blk_cell hbB 1; have f1 := blk_cell hbB 3; simp only [List.getElem?_toArray, List.getElem?_cons_zero, List.getElem?_cons_succ] at f0 f1; have H9 := Lib.hid h9; have V9 := Lib.hid v9; clear h9 v9))
        go_wp2
        go_roundw
        case rel => exact ⟨i + 1, by omega, by go_num, S9, F9, H9.out, s9, V9.out⟩
        case measure => simp [intOf]; omega
      · obtain ⟨wb, hwb⟩ : ∃ wb, wr.alloc (.cells #[.int .u8 xk, .string xA, .string xB, .slice xP xn xm, .int .i64 xN, .bool xdn, .slice xkp xL.length xkc] 37) = wb := ⟨_, rfl⟩
        obtain ⟨cRd, hEnd⟩ := apart_end (wE := wb) (by rw [← hwb]; exact HD.out.alloc _) HT.out (by rw [← hwb]; exact HW.out.kept ((Kp.refl _ wr).alloc _) fun _ h => .inl h) HBA.out (by omega)
        have HWB := Lib.hid hwb
        clear hwb
        go_wp2_with (go_at_call 15; refine Hid.out ?_)
        rw [HWB.out]
        refine Lib.hid ?_
        refine cRd.mono ?_
        rintro e w9 ⟨v, rfl, hv⟩
        obtain ⟨q, qc, rfl, csm⟩ := hEnd w9 v hv
        clear hv hEnd cRd
        go_wp2_with (go_at_call 19; refine csm.mono ?_; rintro e w10 ⟨rfl, hkz⟩; have HKZ := Lib.hid hkz; clear hkz csm)
        go_ret
        exact ⟨rfl, HKZ.out⟩
    · obtain ⟨cRd, hEnd⟩ := apart_end HD.out HT.out HW.out HBA.out (by omega)
      go_wp2_with (go_at_call 15; refine Hid.out ?_)
      refine Lib.hid ?_
      refine cRd.mono ?_
      rintro e w9 ⟨v, rfl, hv⟩
      obtain ⟨q, qc, rfl, csm⟩ := hEnd w9 v hv
      clear hv hEnd cRd
      go_wp2_with (go_at_call 19; refine csm.mono ?_; rintro e w10 ⟨rfl, hkz⟩; have HKZ := Lib.hid hkz; clear hkz csm)
      go_ret
      exact ⟨rfl, HKZ.out⟩
end Go.Proofs.YtdncdnnlmddjhaaDoor

/-
  DiskTruncated: of a file that is cut there are just the first sectors, as they were.
-/
import Derived.Test.YtdncdnnlmddjhaaDoorBytes
namespace Go.Proofs.YtdncdnnlmddjhaaDoor
open Go.RowKit Go.Shelf Go.ChangeMaps

/-- A disk with one file, just written. -/
theorem first_write {m : Int} {n : Nm} {bs : List Int} (hn : nameB n = true) (hm : (nsec bs.length : Int) ≤ m) :
    (St.new m).appE n bs.length = 0 ∧ Idle ((St.new m).appT n bs) ∧ ((St.new m).appT n bs).files = [(n, secs bs)] ∧ ((St.new m).appT n bs).room = m := by
  have hi : Idle (St.new m) := ⟨rfl, rfl⟩
  have hu : used (St.new m).files ≤ 0 := Nat.le_refl _
  have hf : Fits (St.new m) n bs.length := Fits.of hn hu (by show _ ≤ m; omega) (by show 0 < 64; omega)
  rw [hf.idleE hi, hf.idleT hi]
  exact ⟨rfl, hi.appS n bs, rfl, appS_room _ n bs⟩
theorem cut_take (B : List Int) (k : Nat) : B.take (min (32 * k) B.length) = B.take (32 * k) := by
  rcases Nat.le_total (32 * k) B.length with h | h
  · rw [Nat.min_eq_left h]
  · rw [Nat.min_eq_right h, List.take_of_length_le (Nat.le_refl _), List.take_of_length_le h]

set_option maxRecDepth 100000 in
set_option maxHeartbeats 8000000 in
theorem DiskTruncated_any (w : World) (bs : List Int) (p : Option Addr) (len cap : Nat) (hlen : len ≤ 9223372036854775807) (hb : BytesAt w (fun _ => False) (.slice p len cap) bs) (r : Int) (hr : 0 ≤ r ∧ r ≤ 255) :
    Calls Tryd.prog 6 #[.slice p len cap, .int .u8 r] w (fun e w' => e = .returned (.bool true) ∧ Kp (fun _ => False) w w') := by
  have ha := awake_any w
  obtain ⟨t, ht⟩ : ∃ t : Nat, r % 20 = (t : Int) := ⟨(r % 20).toNat, by omega⟩
  have ht20 : t < 20 := by omega
  have HB := Lib.hid hb
  have hlc := hb.len.2
  clear hb
  go_enter Tryd.func6, Tryd.ntmps6
  go_wp2_with (first
    | (go_at_call 9; refine ha.mono ?_; rintro e w1 ⟨rfl, hk1⟩)
    | (go_at_call 10; refine Hid.out ?_))
  obtain ⟨n, hn⟩ : ∃ n, (min (len : Int) 500).toNat = n := ⟨_, rfl⟩
  have hn5 : n ≤ 500 := by omega
  have hnl : n ≤ len := by omega
  rw [hn]
  refine Lib.hid ?_
  refine (New_dsk 100 (by omega) (by omega) w w1 hk1).mono ?_
  rintro e w2 ⟨d, F, rfl, h2, -, -⟩
  obtain ⟨ys, hys⟩ : ∃ ys, bs.take n = ys := ⟨_, rfl⟩
  have hb := HB.out.take hnl
  rw [hys] at hb
  obtain rfl : n = ys.length := hb.len.1
  have hb2 := hb.kept h2.kp (F' := fun _ => False) fun _ h => .inl h
  have htw := Twin_bytes hb2 (by omega)
  have hns : nsec ys.length ≤ 16 := nsec_le (by omega)
  obtain ⟨a1, a2, a3, -⟩ := first_write (m := 100) (n := nmA) (bs := ys) (by decide) (by omega)
  have H2 := Lib.hid h2
  have A2 := Lib.hid a2
  have A3 := Lib.hid a3
  obtain ⟨S1, hS1⟩ : ∃ S1, (St.new 100).appT nmA ys = S1 := ⟨_, rfl⟩
  rw [hS1] at A2 A3
  clear HB hb hb2 a2 a3 h2 ha hk1
  go_wp2_with (first
    | (go_at_call 13; refine htw.mono ?_; rintro e w3 ⟨g, c, rfl, hgc, -, -, hgh, hgk⟩; have cap := H2.out.append_new hgc hgh hgk nmA (by decide) (by omega); rw [a1, hS1] at cap; clear hgh hgk)
    | (go_at_call 12; refine cap.mono ?_; rintro e w4 ⟨rfl, F4, h4, -, -⟩; have H4 := Lib.hid h4; clear h4 cap)
    | (go_at_call 15; refine Hid.out ?_))
  refine Lib.hid ?_
  have hS : (get S1.files nmA).isSome = true := by rw [A3.out]; simp [get]
  have hg : getF S1.files nmA = secs ys := by rw [A3.out]; simp [getF, get]
  have hch := A2.out.there (n := nmA) (by decide) hS
  refine (H4.out.read_ok nmA (by decide) hch).mono ?_
  rintro e w5 ⟨v, rfl, h5, -, hb5⟩
  rw [hg] at hb5
  obtain ⟨B, hB⟩ : ∃ B, bytesOf (secs ys) = B := ⟨_, rfl⟩
  have hBl : B.length = 32 * nsec ys.length := by rw [← hB, bytesOf_length (secs_len ys), secs_length]
  rw [hB] at hb5
  have hb5' := hb5
  obtain ⟨pw, cw, rfl, hcw, -⟩ := hb5'
  have htr := h5.truncate nmA (by decide) t (by omega)
  have e1 : S1.truncE nmA t = 0 := by unfold St.truncE; rw [if_neg (by omega), hch, A2.out.opE]
  have i2 : Idle (S1.truncS nmA t) := by unfold St.truncS; rw [if_neg (by omega)]; exact A2.out.opS _ _
  have f2 : (S1.truncS nmA t).files = put S1.files nmA (syncAll ((getF S1.files nmA).take t)) := by
    unfold St.truncS; rw [if_neg (by omega), hch]
    show (S1.doS (.trunc nmA t)).files = _
    rw [A2.out.did_files]; rfl
  obtain ⟨S2, hS2⟩ : ∃ S2, S1.truncS nmA t = S2 := ⟨_, rfl⟩
  rw [e1] at htr
  rw [hS2] at htr f2 i2
  have hg2 : getF S2.files nmA = syncAll ((secs ys).take t) := by rw [f2, getF_put_eq, hg]
  have hch2 : S2.check nmA true = 0 := i2.there (by decide) (by rw [f2, get_put_eq]; rfl)
  have hB2 : bytesOf (getF S2.files nmA) = B.take (32 * t) := by rw [hg2, bytesOf_sync, bytesOf_take (secs_len ys), hB]
  have hsz : S2.sizeOf nmA = ((min t (nsec ys.length) : Nat) : Int) := by
    unfold St.sizeOf; rw [if_pos hch2, hg2, syncAll_length, List.length_take, secs_length]
  have HB5 := Lib.hid hb5
  have H5 := Lib.hid h5
  obtain ⟨N, hN⟩ : ∃ N, nsec ys.length = N := ⟨_, rfl⟩
  rw [hN] at hsz hBl hns
  have CK2 := Lib.hid hch2
  have SZ2 := Lib.hid hsz
  have BB2 := Lib.hid hB2
  clear hb5 h5 hg hg2 f2 i2 hS2 e1 hS hch hB hN hch2 hsz hB2 htw hn A2 A3
  go_wp2_with (first
    | (go_at_call 20; refine htr.mono ?_; rintro e w6 ⟨rfl, F6, h6, hF6, hk6⟩; have H6 := Lib.hid h6; have HK6 := Lib.hid (And.intro hF6 hk6); clear h6 hF6 hk6 htr)
    | (go_at_call 15; refine Hid.out ?_))
  refine Lib.hid ?_
  refine (H6.out.read_ok nmA (by decide) CK2.out).mono ?_
  rintro e w7 ⟨v, rfl, h7, k7, hb7⟩
  rw [BB2.out] at hb7
  have hb5w := (HB5.out.kept HK6.out.2 HK6.out.1).kept (k7.mono fun _ h => h.elim) (F' := F6) fun _ h => .inl h
  have csz := h7.size nmA (by decide)
  rw [SZ2.out, CK2.out] at csz
  obtain ⟨z, hz⟩ : ∃ z : Nat, min t N = z := ⟨_, rfl⟩
  rw [hz] at csz
  have hpart := hb5w.take (k := min (32 * t) B.length) (by omega)
  rw [cut_take, show min (32 * t) B.length = 32 * z by omega] at hpart
  have hsm := Same_bytes hb7 hpart (by rw [List.length_take]; omega)
  rw [decide_eq_true rfl] at hsm
  have hcut : (min (32 * (t : Int)) (32 * (N : Int))).toNat = 32 * z := by omega
  have hval : (32 : Int) * (z : Int) = min (32 * (t : Int)) (32 * (N : Int)) := by omega
  have hz20 : z < 20 := by omega
  have HK7 := Lib.hid h7.kp
  obtain ⟨x7, hx7⟩ : ∃ x, (B.take (32 * t)).length = x := ⟨_, rfl⟩
  obtain ⟨p7, c7, rfl, -, -⟩ := hb7
  rw [hx7] at hsm
  rw [hx7]
  clear hb5w hpart h7 k7 hz hx7 HB5 H5 H6 HK6 CK2 SZ2 BB2 H4 H2 hS1 a1
  go_wp2_with (first
    | (go_at_call 11; refine csz.mono ?_; rintro e w8 ⟨rfl, rfl⟩)
    | (go_at_call 19; refine hsm.mono ?_; rintro e w8 ⟨rfl, hk8⟩; have HK8 := Lib.hid hk8; clear hk8))
  go_ret
  exact ⟨rfl, HK7.out.trans HK8.out⟩
end Go.Proofs.YtdncdnnlmddjhaaDoor

/-
  DiskArmed: the power goes at just the operation that was named; nothing works behind it, and everything behind a restart.
-/
import Derived.Test.YtdncdnnlmddjhaaDoorTrunc
namespace Go.Proofs.YtdncdnnlmddjhaaDoor
open Go.RowKit Go.Shelf Go.ChangeMaps

theorem Dsk.names_off {w0 w : World} {d : Nat} {S : St} {F : Nat → Prop} (h : Dsk w0 w d S F) (hoff : S.off = true) : Calls Tryd.prog 23 #[.pointer (some ⟨d, 0, none⟩)] w fun e w' => e = .returned (.slice none 0 0) ∧ w = w' := by
  obtain ⟨m, es, clock, hv, hd⟩ := h.at_
  exact Names_off hd hoff
/-- k operations are let through, less one; this is number i. -/
structure ArmInv (k i : Nat) (S : St) : Prop where
  room : S.room = 1000
  ops : S.ops = i
  count : S.files.length ≤ i
  used : used S.files ≤ 4 * i
  a : (get S.files nmA).isSome = true
  on : i ≤ k → S.off = false ∧ S.armed = (k : Int) + 1 - i
  down : i = k + 1 → S.off = true
theorem arm_files {k i : Nat} {S : St} (h : ArmInv k i S) (hi : i ≤ k) (hk : k ≤ 40) {hg : Hg} {S' : St} (hS : S'.room = 1000) (hops : S'.ops = wrap64 (S.ops + 1)) (hoff : S'.off = if S.armed = 1 then true else S.off) (harm : S.armed ≠ 1 → S'.armed = if S.armed = 0 then 0 else S.armed - 1)
    (hf : S'.files.length ≤ i + 1) (hu : Proofs.YtdncdnnlmddjhaaDoor.used S'.files ≤ 4 * (i + 1)) (ha : (get S'.files nmA).isSome = true) (_ : hg = hg) : ArmInv k (i + 1) S' := by
  obtain ⟨h1, h2⟩ := h.on hi
  refine ⟨hS, ?_, hf, hu, ha, fun h' => ?_, fun h' => ?_⟩
  · rw [hops, h.ops]; unfold wrap64; omega
  · have h3 : S.armed ≠ 1 := by omega
    rw [hoff, if_neg h3, harm h3, if_neg (by omega)]
    exact ⟨h1, by omega⟩
  · rw [hoff, if_pos (by omega)]
theorem arm_op {k i : Nat} {S : St} (h : ArmInv k i S) (hi : i ≤ k) (hk : k ≤ 40) (hg : Hg) (hf : (hg.run S.files).length ≤ S.files.length) (hu : used (hg.run S.files) ≤ used S.files) (ha : (get (hg.run S.files) nmA).isSome = true) :
    S.opE (S.check nmA true) = (if i = k then 18 else 0) ∧ ArmInv k (i + 1) (S.opS (S.check nmA true) hg) := by
  obtain ⟨h1, h2⟩ := h.on hi
  have hc : S.check nmA true = 0 := by
    unfold St.check
    rw [if_neg (by decide), if_neg (by rintro ⟨_, e⟩; have := h.a; rw [e] at this; cases this), if_neg (by rw [h1]; simp)]
  rw [hc]
  constructor
  · unfold St.opE St.doE
    rw [if_pos rfl]
    by_cases hik : i = k
    · rw [if_pos hik, if_pos (by omega)]
    · rw [if_neg hik, if_neg (by omega)]
  · unfold St.opS
    rw [if_pos rfl]
    have hl := h.count
    have hus := h.used
    unfold St.doS
    split
    · rename_i h3
      exact arm_files h hi hk (hg := hg) h.room rfl (by rw [if_pos h3]) (fun h4 => absurd h3 h4) (by show S.files.length ≤ i + 1; omega) (by show used S.files ≤ _; omega) h.a rfl
    · rename_i h3
      exact arm_files h hi hk (hg := hg) h.room rfl (by rw [if_neg h3]) (fun _ => rfl) (by show (hg.run S.files).length ≤ i + 1; omega) (by show used (hg.run S.files) ≤ _; omega) ha rfl
theorem put_length_same {α : Type} {l : List (Nm × α)} {x : Nm} (h : (get l x).isSome = true) (v : α) : (put l x v).length = l.length := by
  have := congrArg List.length (put_keys_same (v := v) h)
  simpa using this
theorem arm_app {k i : Nat} {S : St} (h : ArmInv k i S) (hi : i ≤ k) (hk : k ≤ 40) {bs : List Int} (hb : bs.length ≤ 100) :
    S.appE nmB bs.length = (if i = k then 18 else 0) ∧ ArmInv k (i + 1) (S.appT nmB bs) := by
  obtain ⟨h1, h2⟩ := h.on hi
  have hns : nsec bs.length ≤ 4 := nsec_le (by omega)
  have hl := h.count
  have hus := h.used
  have hf : Fits S nmB bs.length := Fits.of (by decide) hus (by rw [h.room]; omega) (by omega)
  have ho : ¬ S.off = true := by rw [h1]; simp
  rw [hf.appE, if_neg ho, hf.appT, if_neg ho]
  constructor
  · unfold St.doE
    by_cases hik : i = k
    · rw [if_pos hik, if_pos (by omega)]
    · rw [if_neg hik, if_neg (by omega)]
  · refine arm_files h hi hk (hg := .noop) ((appS_room S nmB bs).trans h.room) ?_ ?_ ?_ ?_ ?_ ?_ rfl
    · show (S.doS .noop).ops = _; unfold St.doS; split <;> rfl
    · show (S.doS .noop).off = _; unfold St.doS; split <;> rfl
    · intro h3; show (S.doS .noop).armed = _; unfold St.doS; rw [if_neg h3]
    · rw [appS_files]; have := put_length S.files nmB (getF S.files nmB ++ secs bs); omega
    · rw [appS_files, used_put_le, secs_length]; omega
    · rw [appS_files, get_put_ne (by decide)]; exact h.a
theorem arm_sync {k i : Nat} {S : St} (h : ArmInv k i S) (hi : i ≤ k) (hk : k ≤ 40) : S.opE (S.check nmA true) = (if i = k then 18 else 0) ∧ ArmInv k (i + 1) (S.opS (S.check nmA true) (.sync nmA)) :=
  arm_op h hi hk (.sync nmA) (Nat.le_of_eq (put_length_same h.a _)) (Nat.le_of_eq (used_put_same _ _ _ (syncAll_length _))) (by show (get (put _ _ _) _).isSome = true; rw [get_put_eq]; rfl)
theorem arm_trunc {k i : Nat} {S : St} (h : ArmInv k i S) (hi : i ≤ k) (hk : k ≤ 40) : S.truncE nmA 1000 = (if i = k then 18 else 0) ∧ ArmInv k (i + 1) (S.truncS nmA 1000) := by
  have hu := used_put S.files nmA (syncAll ((getF S.files nmA).take (1000 : Int).toNat))
  rw [syncAll_length, List.length_take] at hu
  have h0 : ¬ (1000 : Int) < 0 := by omega
  unfold St.truncE St.truncS
  rw [if_neg h0, if_neg h0]
  exact arm_op h hi hk (.trunc nmA 1000) (Nat.le_of_eq (put_length_same h.a _)) (by show used (put S.files nmA (syncAll ((getF S.files nmA).take (1000 : Int).toNat))) ≤ used S.files; omega) (by show (get (put _ _ _) _).isSome = true; rw [get_put_eq]; rfl)
/-- What each of the three calls of a round answers and leaves. -/
def Round (w : World) (d k i : Nat) (e : Ending) (w' : World) : Prop :=
  e = .returned (.int .i64 (if i = k then 18 else 0)) ∧ ∃ S F, Dsk w w' d S F ∧ ArmInv k (i + 1) S
theorem round_of {w0 w : World} {d k i : Nat} {n : Int} {S : St} {F : Nat → Prop} (hn : n = if i = k then 18 else 0) (hS : ArmInv k (i + 1) S) {e : Ending} {w' : World} (h : Goes w0 w d n S F e w') : Round w0 d k i e w' := by
  obtain ⟨he, F', h', _⟩ := h
  subst hn
  exact ⟨he, S, F', h', hS⟩

set_option maxRecDepth 100000 in
set_option maxHeartbeats 8000000 in
theorem DiskArmed_any (w : World) (r : Int) (hr : 0 ≤ r ∧ r ≤ 255) (bs : List Int) (p : Option Addr) (len cap : Nat) (hlen : len ≤ 9223372036854775807) (hb : BytesAt w (fun _ => False) (.slice p len cap) bs) :
    Calls Tryd.prog 5 #[.int .u8 r, .slice p len cap] w (fun e w' => e = .returned (.bool true) ∧ Kp (fun _ => False) w w') := by
  have ha := awake_any w
  obtain ⟨t, ht⟩ : ∃ t : Nat, r % 40 = (t : Int) := ⟨(r % 40).toNat, by omega⟩
  have ht40 : t < 40 := by omega
  have HB := Lib.hid hb
  have hlc := hb.len.2
  clear hb
  go_enter Tryd.func5, Tryd.ntmps5
  go_wp2_with (first
    | (go_at_call 9; refine ha.mono ?_; rintro e w1 ⟨rfl, hk1⟩)
    | (go_at_call 10; refine Hid.out ?_))
  obtain ⟨n, hn⟩ : ∃ n, (min (len : Int) 100).toNat = n := ⟨_, rfl⟩
  have hn5 : n ≤ 100 := by omega
  have hnl : n ≤ len := by omega
  rw [hn]
  refine Lib.hid ?_
  refine (New_dsk 1000 (by omega) (by omega) w w1 hk1).mono ?_
  rintro e w2 ⟨d, F, rfl, h2, -, -⟩
  obtain ⟨ys, hys⟩ : ∃ ys, bs.take n = ys := ⟨_, rfl⟩
  have hb := HB.out.take hnl
  rw [hys] at hb
  obtain rfl : n = ys.length := hb.len.1
  have htw := Twin_bytes (hb.kept h2.kp (F' := fun _ => False) fun _ h => .inl h) (by omega)
  have hns : nsec ys.length ≤ 4 := nsec_le (by omega)
  obtain ⟨a1, a2, a3, a4⟩ := first_write (m := 1000) (n := nmA) (bs := ys) (by decide) (by omega)
  have a5 : ((St.new 1000).appT nmA ys).ops = 1 := by
    have hf : Fits (St.new 1000) nmA ys.length := Fits.of (by decide) (Nat.le_refl _) (by show (0 : Int) + _ ≤ 1000; omega) (by show 0 < 64; omega)
    rw [hf.idleT ⟨rfl, rfl⟩]; show wrap64 (0 + 1) = 1; unfold wrap64; omega
  obtain ⟨S1, hS1⟩ : ∃ S1, (St.new 1000).appT nmA ys = S1 := ⟨_, rfl⟩
  rw [hS1] at a2 a3 a4 a5
  have HI : Hid (ArmInv (t + 1) 1 { S1 with armed := 1 + (t : Int) }) := by
    refine ⟨a4, a5, ?_, ?_, ?_, fun _ => ⟨a2.off, ?_⟩, fun h => by omega⟩
    · show S1.files.length ≤ 1; rw [a3]; exact Nat.le_refl _
    · show used S1.files ≤ 4 * 1; rw [a3]; simp [used, secs_length]; omega
    · show (get S1.files nmA).isSome = true; rw [a3]; simp [get]
    · show 1 + (t : Int) = _; omega
  have H2 := Lib.hid h2
  have HY := Lib.hid hb
  have A2 := Lib.hid a2
  clear HB hb a2 a3 a4 a5 h2 ha hk1
  go_wp2_with (first
    | (go_at_call 13; refine htw.mono ?_; rintro e w3 ⟨g, c, rfl, hgc, -, -, hgh, hgk⟩; have cap := H2.out.append_new hgc hgh hgk nmA (by decide) (by omega); rw [a1, hS1] at cap; clear hgh hgk)
    | (go_at_call 12; refine cap.mono ?_; rintro e w4 ⟨rfl, F4, h4, -, -⟩; have H4 := Lib.hid h4; clear h4 cap; have car := H4.out.arm A2.out.off (1 + (t : Int)) (by omega))
    | (go_at_call 16; refine car.mono ?_; rintro e w5 ⟨rfl, F5, h5, -, -⟩; have H5 := Lib.hid h5; clear h5 car))
  have HA1 := Lib.hid a1
  have HT := Lib.hid ht
  clear a1 hS1 htw ht hr hn H2 H4 A2
  go_loopw [8, 9] (fun vi _ wr => ∃ i : Nat, 1 ≤ i ∧ i ≤ t + 2 ∧ vi = .int .i64 i ∧ ∃ S F, Dsk w wr d S F ∧ ArmInv (t + 1) i S) (fun i _ _ => t + 2 - (intOf i).toNat)
  case atStart => exact ⟨1, Nat.le_refl _, by omega, rfl, _, _, H5.out, HI.out⟩
  case round =>
    obtain ⟨i, hi1, hi2, rfl, S, F, hD, hI⟩ := hrel
    clear H5
    by_cases hit : i ≤ t + 1
    · have hb := HY.out.kept hD.kp (F' := fun _ => False) fun _ h => .inl h
      have htw := Twin_bytes hb (by omega)
      have c0 : Calls Tryd.prog 14 #[.pointer (some ⟨d, 0, none⟩), .string nmA] wr (Round w d (t + 1) i) := (hD.sync nmA (by decide)).mono fun _ _ h => round_of (arm_sync hI hit (by omega)).1 (arm_sync hI hit (by omega)).2 h
      have c2 : Calls Tryd.prog 20 #[.pointer (some ⟨d, 0, none⟩), .string nmA, .int .i64 1000] wr (Round w d (t + 1) i) := (hD.truncate nmA (by decide) 1000 (by omega)).mono fun _ _ h => round_of (arm_trunc hI hit (by omega)).1 (arm_trunc hI hit (by omega)).2 h
      have HD := Lib.hid hD
      have HI' := Lib.hid hI
      clear hb hD hI HI
      unfold Round at c0 c2
      by_cases hik : i = t + 1
      · rw [if_pos hik] at c0 c2
        rcases (by omega : (i : Int) % 3 = 0 ∨ (i : Int) % 3 = 1 ∨ (i : Int) % 3 = 2) with hm | hm | hm
        all_goals
          go_wp2_with (first
            | (go_at_call 14; refine c0.mono ?_; rintro e w6 ⟨rfl, S6, F6, h6, i6⟩; have H6 := Lib.hid h6; have I6 := Lib.hid i6; have cop := h6.ops; have con := h6.on; rw [i6.ops] at cop; rw [i6.down (by omega)] at con; clear h6 i6)
            | (go_at_call 20; refine c2.mono ?_; rintro e w6 ⟨rfl, S6, F6, h6, i6⟩; have H6 := Lib.hid h6; have I6 := Lib.hid i6; have cop := h6.ops; have con := h6.on; rw [i6.ops] at cop; rw [i6.down (by omega)] at con; clear h6 i6)
            | (go_at_call 13; refine htw.mono ?_; rintro e w3 ⟨g, c, rfl, hgc, -, -, hgh, hgk⟩; have cap := HD.out.append_new hgc hgh hgk nmB (by decide) (by omega); rw [(arm_app HI'.out hit (by omega) hn5).1, if_pos hik] at cap; clear hgh hgk)
            | (go_at_call 12; refine cap.mono ?_; rintro e w6 ⟨rfl, F6, h6, -⟩; have i6 := (arm_app HI'.out hit (by omega) hn5).2; have H6 := Lib.hid h6; have I6 := Lib.hid i6; have cop := h6.ops; have con := h6.on; rw [i6.ops] at cop; rw [i6.down (by omega)] at con; clear h6 i6 cap)
            | (go_at_call 21; refine cop.mono ?_; rintro e w' ⟨rfl, rfl⟩)
            | (go_at_call 22; refine con.mono ?_; rintro e w' ⟨rfl, rfl⟩))
          go_roundw
          case rel => exact ⟨i + 1, by omega, by omega, by go_num, _, _, H6.out, I6.out⟩
          case measure => simp [intOf]; omega
      · rw [if_neg hik] at c0 c2
        rcases (by omega : (i : Int) % 3 = 0 ∨ (i : Int) % 3 = 1 ∨ (i : Int) % 3 = 2) with hm | hm | hm
        all_goals
          go_wp2_with (first
            | (go_at_call 14; refine c0.mono ?_; rintro e w6 ⟨rfl, S6, F6, h6, i6⟩; have H6 := Lib.hid h6; have I6 := Lib.hid i6; have cop := h6.ops; have con := h6.on; rw [i6.ops] at cop; rw [(i6.on (by omega)).1] at con; clear h6 i6)
            | (go_at_call 20; refine c2.mono ?_; rintro e w6 ⟨rfl, S6, F6, h6, i6⟩; have H6 := Lib.hid h6; have I6 := Lib.hid i6; have cop := h6.ops; have con := h6.on; rw [i6.ops] at cop; rw [(i6.on (by omega)).1] at con; clear h6 i6)
            | (go_at_call 13; refine htw.mono ?_; rintro e w3 ⟨g, c, rfl, hgc, -, -, hgh, hgk⟩; have cap := HD.out.append_new hgc hgh hgk nmB (by decide) (by omega); rw [(arm_app HI'.out hit (by omega) hn5).1, if_neg hik] at cap; clear hgh hgk)
            | (go_at_call 12; refine cap.mono ?_; rintro e w6 ⟨rfl, F6, h6, -⟩; have i6 := (arm_app HI'.out hit (by omega) hn5).2; have H6 := Lib.hid h6; have I6 := Lib.hid i6; have cop := h6.ops; have con := h6.on; rw [i6.ops] at cop; rw [(i6.on (by omega)).1] at con; clear h6 i6 cap)
            | (go_at_call 21; refine cop.mono ?_; rintro e w' ⟨rfl, rfl⟩)
            | (go_at_call 22; refine con.mono ?_; rintro e w' ⟨rfl, rfl⟩))
          go_roundw
          case rel => exact ⟨i + 1, by omega, by omega, by go_num, _, _, H6.out, I6.out⟩
          case measure => simp [intOf]; omega
    · obtain rfl : i = t + 1 + 1 := by omega
      have hoff := hI.down rfl
      have hops := hI.ops
      have hck : S.check nmA true = 18 := by
        unfold St.check
        rw [if_neg (by decide), if_neg (by rintro ⟨_, e⟩; have := hI.a; rw [e] at this; cases this), if_pos hoff]
      have c1 := hD.read_err nmA (by decide) (by rw [hck]; omega)
      rw [hck] at c1
      have c2 := hD.sync nmA (by decide)
      rw [hck] at c2
      rw [show S.opE 18 = 18 from if_neg (by omega), show S.opS 18 (Hg.sync nmA) = S from if_neg (by omega)] at c2
      have HK0 := Lib.hid hI.a
      have HX : Hid (∀ w3 F3, Dsk w w3 d S F3 → Calls Tryd.prog 23 #[.pointer (some ⟨d, 0, none⟩)] w3 (fun e w' => e = .returned (.slice none 0 0) ∧ w3 = w') ∧ Calls Tryd.prog 16 #[.pointer (some ⟨d, 0, none⟩), .int .i64 1] w3 (fun e w' => e = .returned (.int .i64 18) ∧ w3 = w') ∧
          Calls Tryd.prog 21 #[.pointer (some ⟨d, 0, none⟩)] w3 (fun e w' => e = .returned (.int .i64 ((t + 1 + 1 : Nat) : Int)) ∧ w3 = w') ∧
          Calls Tryd.prog 17 #[.pointer (some ⟨d, 0, none⟩), .agg #[.bool false, .slice none 0 0]] w3 (Goes w w3 d 0 (S.restart false []) F3)) := by
        intro w3 F3 h
        refine ⟨h.names_off hoff, h.arm_off hoff 1 (by omega), ?_, h.restart hoff false [] none 0 (by simp) (by simp) (fun j b hj => by simp at hj) (fun _ _ e => by cases e) (fun _ _ e => by cases e)⟩
        have := h.ops
        rwa [hops] at this
      have hre : Idle (S.restart false []) := restart_idle _ _ _
      have hrc : (S.restart false []).check nmA true = 0 := hre.there (by decide) (by
        show (get (fateFold [] (namesB S.files) S.files).2 nmA).isSome = true
        rw [fated_isSome]; exact hI.a)
      obtain ⟨S9, hS9⟩ : ∃ S9, S.restart false [] = S9 := ⟨_, rfl⟩
      rw [hS9] at hre hrc
      have HR := Lib.hid (And.intro hre hrc)
      have HSS := Lib.hid hS9
      clear hI HI hD hoff hops hck hre hrc hS9
      go_wp2_with (first
        | (go_at_call 15; refine c1.mono ?_; rintro e w' ⟨rfl, rfl⟩)
        | (go_at_call 14; refine c2.mono ?_; rintro e w3 ⟨rfl, F3, h3, -⟩; obtain ⟨d1, d2, d3, d4⟩ := HX.out w3 F3 h3; rw [HSS.out] at d4; clear h3 c1 c2)
        | (go_at_call 23; refine d1.mono ?_; rintro e w' ⟨rfl, rfl⟩)
        | (go_at_call 16; refine d2.mono ?_; rintro e w' ⟨rfl, rfl⟩)
        | (go_at_call 21; refine d3.mono ?_; rintro e w' ⟨rfl, rfl⟩)
        | (go_at_call 17; refine d4.mono ?_; rintro e w7 ⟨rfl, F7, h7, -⟩; have c8 := h7.sync nmA (by decide); rw [HR.out.2, HR.out.1.opE] at c8; clear h7 d1 d2 d3 d4)
        | (go_at_call 14; refine c8.mono ?_; rintro e w8 ⟨rfl, F8, h8, -⟩; have c9 := h8.on; rw [show (S9.opS 0 (Hg.sync nmA)).off = false from (HR.out.1.opS 0 (Hg.sync nmA)).off] at c9; have HK8 := Lib.hid h8.kp; clear h8 c8)
        | (go_at_call 22; refine c9.mono ?_; rintro e w' ⟨rfl, rfl⟩))
      go_ret
      exact ⟨rfl, HK8.out⟩
end Go.Proofs.YtdncdnnlmddjhaaDoor

/-
  Merged of my texts, in order: LPruned.
-/
import Derived.Test.YtggnohbfdlebiaaGreatDoorM24
/-
  LogPruned: what is pruned is gone, and nothing else.
-/
namespace Go.Proofs.YtggnohbfdlebiaaGreatDoor
open Go.RowKit Go.Shelf Go.ChangeMaps Go.ChangeShapes Go.WideShapes Go.Deep Go.Joins

/-- A slice of whole numbers that comes in. -/
def I64At (w : World) (p : Option Addr) (len : Nat) : Prop := ∀ i, i < len → ∃ (b o : Nat) (t : Int), p = some ⟨b, o, none⟩ ∧ (-9223372036854775808 ≤ t ∧ t ≤ 9223372036854775807) ∧ w.cell? ⟨b, o + i, none⟩ = some (.int .i64 t)
theorem I64At.kept {w w' : World} {p : Option Addr} {len : Nat} (h : I64At w p len) (hk : Kp (fun _ => False) w w') : I64At w' p len := fun i hi =>
  let ⟨b, o, m, h1, h2, h3⟩ := h i hi
  ⟨b, o, m, h1, h2, hk.cell h3 id⟩
set_option maxRecDepth 100000 in
theorem open_i64s {H : Type} {enc : TypeId × Value → H} {W : World} {base : Nat} {v : Value} {d : DataW H} {ps : List MemPlace} (hv : Value.okWide Tryz.prog W .any base 56 v) (h : DataW.Trod enc Tryz.prog W 0 (fun _ => true) true 56 v d ps) :
    ∃ p len cap, v = .slice p len cap ∧ len ≤ cap ∧ len ≤ maxLen ∧ I64At W p len := by
  obtain ⟨a0, l0, c0, rfl⟩ := okWide_slice Tryz.underlying56 hv
  obtain ⟨fuel, hf⟩ := h
  rcases open_ints Tryz.underlying56 Tryz.underlying2 (by kernel_rfl) hf with ⟨hcs, _⟩ | ⟨a, len, cap, zs, hcs, _, hl, hm, hz, hx, hcell, hwz⟩
  · simp [Value.cells] at hcs
    obtain ⟨rfl, rfl, rfl⟩ := hcs
    exact ⟨none, 0, 0, rfl, Nat.le_refl _, Nat.zero_le _, fun i hi => absurd hi (Nat.not_lt_zero i)⟩
  · simp [Value.cells] at hcs
    obtain ⟨rfl, rfl, rfl⟩ := hcs
    simp only [if_true] at hz
    refine ⟨_, _, _, rfl, hl, Nat.le_trans hl hm, fun i hi => ?_⟩
    clear hm
    obtain ⟨b, o, rfl, hc⟩ := ints_at hcell (show 0 < zs.length by omega)
    have hi' : i < zs.length := by omega
    have hci := hcell i hi'
    rw [Addr.add_lit] at hci
    have hb := bounds_i64 (hwz (zs.getD i 0) (by rw [List.getD_eq_getElem?_getD, List.getElem?_eq_getElem hi']; exact List.getElem_mem hi'))
    exact ⟨b, o, _, rfl, hb, hci⟩
/-- The records 1, 2, ... -/
def rsN (n : Nat) : List (List Int) := (List.range n).map fun i => [((i + 1 : Nat) : Int)]
theorem rsN_length (n : Nat) : (rsN n).length = n := by simp [rsN]
theorem rsN_succ (n : Nat) : rsN (n + 1) = rsN n ++ [[((n + 1 : Nat) : Int)]] := by simp [rsN, List.range_succ]
theorem rsN_get {n i : Nat} (h : i < n) : (rsN n)[i]? = some [((i + 1 : Nat) : Int)] := by simp [rsN, h]

set_option maxRecDepth 100000 in
set_option maxHeartbeats 16000000 in
theorem LogPruned_any (w : World) (pr cn : Int) (hpr : 0 ≤ pr ∧ pr ≤ 255) (hcn : 0 ≤ cn ∧ cn ≤ 255) (sp : Option Addr) (sl sc : Nat) (hsl : sl ≤ maxLen) (hsz : I64At w sp sl) :
    Calls Tryz.prog 7 #[.int .u8 pr, .int .u8 cn, .slice sp sl sc] w fun e w' => e = .returned (.bool true) ∧ Kp (fun _ => False) w w' := by
  obtain ⟨per, hper⟩ : ∃ per : Nat, (per : Int) = 1 + pr % 5 := ⟨(1 + pr % 5).toNat, by omega⟩
  obtain ⟨n, hn⟩ : ∃ n : Nat, (n : Int) = cn % 30 := ⟨(cn % 30).toNat, by omega⟩
  have hpb : 1 ≤ per ∧ per ≤ 5 := by omega
  have hnb : n ≤ 29 := by omega
  have HN := Lib.hid (And.intro hper hn)
  have HSZ := Lib.hid hsz
  have HSL := Lib.hid hsl
  have c0 := New_dsk 2000 (by omega) (by omega) w
  clear hsz hsl hper hn
  go_enter Tryz.func7, Tryz.ntmps7
  go_wp2_with (first
    | (go_at_call 9; refine (awake10_any _).mono ?_; rintro e w1 ⟨rfl, hk1⟩; have H1 := Lib.hid hk1; clear hk1)
    | (go_at_call 10; refine (c0 _ H1.out).mono ?_; rintro e w2 ⟨d, F2, rfl, h2, -, -⟩; have H2 := Lib.hid h2; clear h2)
    | (go_at_call 11; refine Hid.out ?_))
  refine Lib.hid ?_
  clear c0
  rw [← HN.out.1]
  have ho := H2.out.opens (per := per) (f := 0) rfl (lays_nil (by omega))
  refine ho.mono ?_
  clear ho
  rintro e w3 ⟨p, v3, F3, rfl, h3, hp3, -, -, -⟩
  rw [List.drop_nil] at hp3
  obtain ⟨q3, c3, rfl, -, -⟩ := hp3
  have H3 := Lib.hid h3
  clear h3
  go_wp2
  rw [← HN.out.2]
  go_loopw [52] (fun vi wr => ∃ (i : Nat) (S : St) (F : Nat → Prop), i ≤ n ∧ vi = .int .i64 (i : Int) ∧ Has w wr p d per 0 (rsN i) S F ∧ Idle S ∧ S.room = 2000 ∧ used S.files ≤ 2 * i) (fun i _ => n - (intOf i).toNat)
  case atStart => exact ⟨0, _, _, Nat.zero_le _, rfl, H3.out, ⟨rfl, rfl⟩, rfl, Nat.le_refl _⟩
  case round =>
    obtain ⟨i, S, F, hi1, rfl, hh, hid, hroom, hused⟩ := hrel
    clear H3 H2
    have HK := Lib.hid (And.intro hh (And.intro hid (And.intro hroom hused)))
    clear hh hid hroom hused
    by_cases hin : i < n
    · have hwi : IntKind.u8.wrap ((i : Int) + 1) = (i : Int) + 1 := IntWalk.u8_in _ (by omega)
      go_wp2_with (go_at_call 12; refine Hid.out ?_)
      refine Lib.hid ?_
      have hb4 : BytesAt (wr.alloc (.cells #[.int .u8 ((i : Int) + 1)] 5)) (fun k => F k ∨ k = p) (.slice (some ⟨wr.heap.size, 0, none⟩) 1 1) [((i + 1 : Nat) : Int)] := by
        have := (own_one wr ((i : Int) + 1)).at_ (F := fun k => F k ∨ k = p) fun k hk => by
          rcases hk with hk | rfl
          · exact HK.out.1.lg.dsk.flt k hk
          · exact HK.out.1.lg.log.lt
        rw [Int.natCast_add, Int.natCast_one]
        exact this
      have hap := (HK.out.1.step ((Kp.refl (fun _ => False) wr).alloc (.cells #[.int .u8 ((i : Int) + 1)] 5))).append HK.out.2.1 hb4 (one_load (by omega)) (by rw [rsN_length]; omega) (by rw [HK.out.2.2.1, show partsN (([((i + 1 : Nat) : Int)] : List Int).length + 36) = 2 by show partsN (1 + 36) = 2; decide]; have := HK.out.2.2.2; omega) (by rw [rsN_length]; exact Nat.le_trans (Nat.div_le_self _ _) (by omega))
      refine hap.mono ?_
      clear hap hb4
      rintro e w5 ⟨rfl, S5, F5, h5, i5, g5, -, -⟩
      have h5' : Has w w5 p d per 0 (rsN (i + 1)) S5 F5 := by rw [rsN_succ]; exact h5
      have hu5 : used S5.files ≤ 2 * (i + 1) := by rw [g5.used, show partsN (([((i + 1 : Nat) : Int)] : List Int).length + 36) = 2 by show partsN (1 + 36) = 2; decide]; have := HK.out.2.2.2; omega
      have H5 := Lib.hid (And.intro h5' (And.intro i5 (And.intro (g5.room.trans HK.out.2.2.1) hu5)))
      clear h5 h5' i5 g5 hu5
      go_wp2
      go_roundw
      case rel => exact ⟨i + 1, S5, F5, by omega, by go_num, H5.out.1, H5.out.2.1, H5.out.2.2.1, H5.out.2.2.2⟩
      case measure => simp [intOf]; omega
    · obtain rfl : i = n := by omega
      obtain ⟨rs, hrs⟩ : ∃ rs, rsN i = rs := ⟨_, rfl⟩
      have hrl : rs.length = i := by rw [← hrs, rsN_length]
      have HP := Lib.hid (And.intro HK.out.1 (And.intro HK.out.2.1 (And.intro hrs hrl)))
      rw [hrs] at HP
      clear HK hrl
      have HRS := Lib.hid hrs
      clear hrs
      go_wp2
      go_loopw [69, 17] (fun vj va wq => ∃ (j f : Nat) (S : St) (F : Nat → Prop), j ≤ sl ∧ j ≤ 10 ∧ vj = .int .i64 (j : Int) ∧ va = .int .i64 ((f * per + 1 : Nat) : Int) ∧ Has w wq p d per f rs S F ∧ Idle S) (fun j _ _ => sl - (intOf j).toNat)
      case atStart => exact ⟨0, 0, _, _, Nat.zero_le _, by omega, rfl, by rw [Nat.zero_mul]; rfl, HP.out.1, HP.out.2.1⟩
      case round =>
        obtain ⟨j, f, S1, F1, hj1, hj2, rfl, rfl, hh, hid⟩ := hrel
        clear HP
        obtain ⟨a, ha⟩ : ∃ a, f * per + 1 = a := ⟨_, rfl⟩
        rw [ha]
        have hrl : rs.length = i := by rw [← HRS.out, rsN_length]
        have HK := Lib.hid (And.intro hh (And.intro hid (And.intro ha hrl)))
        clear hh hid ha hrl
        by_cases hjs : j < sl
        · obtain ⟨sb, so, t, rfl, ht, hct⟩ := (HSZ.out.kept HK.out.1.lg.dsk.kp) j hjs
          by_cases hj10 : j < 10
          · go_wp2_with (go_at_call 24; refine Hid.out ?_)
            refine Lib.hid ?_
            refine (LPrune_any HK.out.1.lg HK.out.2.1 HK.out.1.lays ht).mono ?_
            rintro e w6 ⟨rfl, f6, S6, F6, h6⟩
            obtain ⟨b, hb⟩ : ∃ b, f6 * per + 1 = b := ⟨_, rfl⟩
            have hab : a ≤ b := by rw [← hb, ← HK.out.2.2.1]; exact Nat.succ_le_succ (Nat.mul_le_mul_right per h6.le)
            have hbi : (i = 0 ∧ b = 1) ∨ b ≤ i := by
              have hrl := HK.out.2.2.2
              rcases h6.lays.first with h1 | h1
              · exact .inr (by omega)
              · rw [h1, Nat.zero_mul] at hb
                by_cases h0 : i = 0
                · exact .inl ⟨h0, hb.symm⟩
                · exact .inr (by omega)
            have hbt : b = a ∨ (b : Int) ≤ t := by
              rcases h6.below with h1 | h1
              · exact .inl (by rw [← hb, h1, HK.out.2.2.1])
              · exact .inr (by rw [← hb]; exact h1)
            have hb30 : b ≤ 40 := by omega
            have cF : Calls Tryz.prog 20 #[.pointer (some ⟨p, 0, none⟩)] w6 fun e w' => e = .returned (.int .i64 (b : Int)) ∧ w' = w6 := by have := First_at h6.lg.log.first; rw [hb] at this; exact this
            have cN : Calls Tryz.prog 17 #[.pointer (some ⟨p, 0, none⟩)] w6 fun e w' => e = .returned (.int .i64 ((i : Int) + 1)) ∧ w' = w6 := by have := Next_at h6.lg.log.next; rw [HK.out.2.2.2, Int.natCast_add, Int.natCast_one] at this; exact this
            have hh6 : Has w w6 p d per f6 rs S6 F6 := ⟨h6.lg, h6.lays⟩
            have H6 := Lib.hid (And.intro hh6 (And.intro h6.idle hb))
            clear hh6 h6 hb hct
            have d1 : decide ((b : Int) < (a : Int)) = false := decide_eq_false (by omega)
            by_cases hba : b = a
            · subst hba
              rcases hbi with ⟨hi0, hb1⟩ | hbi
              · have d3 : decide ((b : Int) > (i : Int)) = true := decide_eq_true (by omega)
                have d5 : ¬ 0 < i := by omega
                have d6 : decide (0 < i) = false := decide_eq_false (by omega)
                clear hi0 hb1
                go_wp2_with (first
                  | (go_at_call 20; refine cF.mono ?_; rintro e w' ⟨rfl, rfl⟩)
                  | (go_at_call 17; refine cN.mono ?_; rintro e w' ⟨rfl, rfl⟩))
                all_goals go_roundw
                all_goals first
                  | exact ⟨j + 1, f6, S6, F6, by omega, by omega, by go_num, by rw [H6.out.2.2], H6.out.1, H6.out.2.1⟩
                  | (simp [intOf]; omega)
              · have d3 : decide ((b : Int) > (i : Int)) = false := decide_eq_false (by omega)
                go_wp2_with (first
                  | (go_at_call 20; refine cF.mono ?_; rintro e w' ⟨rfl, rfl⟩)
                  | (go_at_call 17; refine cN.mono ?_; rintro e w' ⟨rfl, rfl⟩))
                go_roundw
                case rel => exact ⟨j + 1, f6, S6, F6, by omega, by omega, by go_num, by rw [H6.out.2.2], H6.out.1, H6.out.2.1⟩
                case measure => simp [intOf]; omega
            · have d2 : ((b : Int) == (a : Int)) = false := by simp; omega
              have d4 : decide ((b : Int) > t) = false := decide_eq_false (by omega)
              rcases hbi with ⟨hi0, hb1⟩ | hbi
              · have d3 : decide ((b : Int) > (i : Int)) = true := decide_eq_true (by omega)
                have d5 : ¬ 0 < i := by omega
                have d6 : decide (0 < i) = false := decide_eq_false (by omega)
                clear hi0 hb1
                go_wp2_with (first
                  | (go_at_call 20; refine cF.mono ?_; rintro e w' ⟨rfl, rfl⟩)
                  | (go_at_call 17; refine cN.mono ?_; rintro e w' ⟨rfl, rfl⟩))
                go_roundw
                case rel => exact ⟨j + 1, f6, S6, F6, by omega, by omega, by go_num, by rw [H6.out.2.2], H6.out.1, H6.out.2.1⟩
                case measure => simp [intOf]; omega
              · have d3 : decide ((b : Int) > (i : Int)) = false := decide_eq_false (by omega)
                go_wp2_with (first
                  | (go_at_call 20; refine cF.mono ?_; rintro e w' ⟨rfl, rfl⟩)
                  | (go_at_call 17; refine cN.mono ?_; rintro e w' ⟨rfl, rfl⟩))
                go_roundw
                case rel => exact ⟨j + 1, f6, S6, F6, by omega, by omega, by go_num, by rw [H6.out.2.2], H6.out.1, H6.out.2.1⟩
                case measure => simp [intOf]; omega
          · obtain rfl : j = 10 := by omega
            have hab := HK.out.2.2.1
            obtain ⟨fp, hfp⟩ : ∃ fp, f * per = fp := ⟨_, rfl⟩
            have hfi : fp ≤ i := by
              have hrl := HK.out.2.2.2
              rcases HK.out.1.lays.first with h1 | h1
              · omega
              · rw [h1, Nat.zero_mul] at hfp; omega
            have hafp : a = fp + 1 := by rw [← hab, hfp]
            go_wp2_with (go_at_call 11; refine Hid.out ?_)
            refine Lib.hid ?_
            have ho := HK.out.1.lg.dsk.opens HK.out.2.1.off HK.out.1.lays
            refine ho.mono ?_
            clear ho
            rintro e w4 ⟨p4, v4, F4, rfl, h4, hp4, -, -, -⟩
            rw [hfp] at hp4
            have hl4 : (rs.drop fp).length = i - fp := by rw [List.length_drop, HK.out.2.2.2]
            obtain ⟨q4, c4, rfl, -, -⟩ := id hp4
            obtain ⟨L, hL⟩ : ∃ L, (rs.drop fp).length = L := ⟨_, rfl⟩
            rw [hL] at hp4 ⊢
            have hLi : (L : Int) = (i : Int) + 1 - ((a : Nat) : Int) := by omega
            have hLb : L ≤ 29 := by omega
            have cF : Calls Tryz.prog 20 #[.pointer (some ⟨p4, 0, none⟩)] w4 fun e w' => e = .returned (.int .i64 (a : Int)) ∧ w' = w4 := by have := First_at h4.lg.log.first; rw [hab] at this; exact this
            have cN : Calls Tryz.prog 17 #[.pointer (some ⟨p4, 0, none⟩)] w4 fun e w' => e = .returned (.int .i64 ((i : Int) + 1)) ∧ w' = w4 := by have := Next_at h4.lg.log.next; rw [HK.out.2.2.2, Int.natCast_add, Int.natCast_one] at this; exact this
            have hget : ∀ x, x < L → (rs.drop fp)[x]? = some [((fp + x + 1 : Nat) : Int)] := fun x hx => by
              rw [List.getElem?_drop, ← HRS.out]
              exact rsN_get (by omega)
            have hK4 := h4.lg.dsk.kp
            have H4 := Lib.hid (And.intro hp4 (And.intro hget hK4))
            clear hp4 h4 hl4 hL hget hK4
            have d7 : ((L : Int) == (i : Int) + 1 - (a : Int)) = true := by rw [hLi]; simp
            clear hLi
            have ha40 : a ≤ 40 := by omega
            go_wp2_with (first
              | (go_at_call 20; refine cF.mono ?_; rintro e w' ⟨rfl, hw'⟩; subst w')
              | (go_at_call 17; refine cN.mono ?_; rintro e w' ⟨rfl, hw'⟩; subst w'))
            go_loopw [151] (fun vx wz => ∃ x : Nat, x ≤ L ∧ vx = .int .i64 (x : Int) ∧ wz = w4) (fun vx _ => L - (intOf vx).toNat)
            case atStart => exact ⟨0, Nat.zero_le _, rfl, rfl⟩
            case round =>
              obtain ⟨x, hx1, rfl, hwz⟩ := hrel
              subst wr
              by_cases hxL : x < L
              · obtain ⟨b4, o4, y4, hq4, hc4, hb4⟩ := H4.out.1.get (H4.out.2.1 x hxL)
                obtain ⟨g4, i4, n4, m4, rfl⟩ := hb4.ptr (by simp)
                obtain rfl : n4 = 1 := hb4.len.1
                obtain ⟨vz, hvz⟩ : ∃ vz : Int, ((fp + x + 1 : Nat) : Int) = vz := ⟨_, rfl⟩
                rw [hvz] at hb4
                obtain ⟨b5, o5, e5, hc5⟩ := hb4.at_ 0 vz rfl
                injection e5 with e5
                injection e5 with e6 e7 _
                subst e6 e7
                have hc5 : w4.cell? ⟨g4, i4, none⟩ = some (.int .u8 vz) := hc5
                subst hq4
                have hvr : 0 ≤ vz ∧ vz ≤ 255 := by omega
                have hwv : IntKind.i64.wrap vz = vz := IntWalk.i64_in _ (by omega)
                have d8 : (vz == (a : Int) + (x : Int)) = true := by rw [← hvz, hafp]; simp; omega
                clear hb4 hvz
                go_wp2
                go_roundw
                case rel => exact ⟨x + 1, by omega, by go_num, by first | trivial | rfl⟩
                case measure => simp [intOf]; omega
              · obtain rfl : x = L := by omega
                go_wp2
                go_ret
                exact ⟨rfl, H4.out.2.2⟩
        · obtain rfl : j = sl := by omega
          have hab := HK.out.2.2.1
          obtain ⟨fp, hfp⟩ : ∃ fp, f * per = fp := ⟨_, rfl⟩
          have hfi : fp ≤ i := by
            have hrl := HK.out.2.2.2
            rcases HK.out.1.lays.first with h1 | h1
            · omega
            · rw [h1, Nat.zero_mul] at hfp; omega
          have hafp : a = fp + 1 := by rw [← hab, hfp]
          go_wp2_with (go_at_call 11; refine Hid.out ?_)
          refine Lib.hid ?_
          have ho := HK.out.1.lg.dsk.opens HK.out.2.1.off HK.out.1.lays
          refine ho.mono ?_
          clear ho
          rintro e w4 ⟨p4, v4, F4, rfl, h4, hp4, -, -, -⟩
          rw [hfp] at hp4
          have hl4 : (rs.drop fp).length = i - fp := by rw [List.length_drop, HK.out.2.2.2]
          obtain ⟨q4, c4, rfl, -, -⟩ := id hp4
          obtain ⟨L, hL⟩ : ∃ L, (rs.drop fp).length = L := ⟨_, rfl⟩
          rw [hL] at hp4 ⊢
          have hLi : (L : Int) = (i : Int) + 1 - ((a : Nat) : Int) := by omega
          have hLb : L ≤ 29 := by omega
          have cF : Calls Tryz.prog 20 #[.pointer (some ⟨p4, 0, none⟩)] w4 fun e w' => e = .returned (.int .i64 (a : Int)) ∧ w' = w4 := by have := First_at h4.lg.log.first; rw [hab] at this; exact this
          have cN : Calls Tryz.prog 17 #[.pointer (some ⟨p4, 0, none⟩)] w4 fun e w' => e = .returned (.int .i64 ((i : Int) + 1)) ∧ w' = w4 := by have := Next_at h4.lg.log.next; rw [HK.out.2.2.2, Int.natCast_add, Int.natCast_one] at this; exact this
          have hget : ∀ x, x < L → (rs.drop fp)[x]? = some [((fp + x + 1 : Nat) : Int)] := fun x hx => by
            rw [List.getElem?_drop, ← HRS.out]
            exact rsN_get (by omega)
          have hK4 := h4.lg.dsk.kp
          have H4 := Lib.hid (And.intro hp4 (And.intro hget hK4))
          clear hp4 h4 hl4 hL hget hK4
          have d7 : ((L : Int) == (i : Int) + 1 - (a : Int)) = true := by rw [hLi]; simp
          clear hLi
          have ha40 : a ≤ 40 := by omega
          go_wp2_with (first
            | (go_at_call 20; refine cF.mono ?_; rintro e w' ⟨rfl, hw'⟩; subst w')
            | (go_at_call 17; refine cN.mono ?_; rintro e w' ⟨rfl, hw'⟩; subst w'))
          go_loopw [151] (fun vx wz => ∃ x : Nat, x ≤ L ∧ vx = .int .i64 (x : Int) ∧ wz = w4) (fun vx _ => L - (intOf vx).toNat)
          case atStart => exact ⟨0, Nat.zero_le _, rfl, rfl⟩
          case round =>
            obtain ⟨x, hx1, rfl, hwz⟩ := hrel
            subst wr
            by_cases hxL : x < L
            · obtain ⟨b4, o4, y4, hq4, hc4, hb4⟩ := H4.out.1.get (H4.out.2.1 x hxL)
              obtain ⟨g4, i4, n4, m4, rfl⟩ := hb4.ptr (by simp)
              obtain rfl : n4 = 1 := hb4.len.1
              obtain ⟨vz, hvz⟩ : ∃ vz : Int, ((fp + x + 1 : Nat) : Int) = vz := ⟨_, rfl⟩
              rw [hvz] at hb4
              obtain ⟨b5, o5, e5, hc5⟩ := hb4.at_ 0 vz rfl
              injection e5 with e5
              injection e5 with e6 e7 _
              subst e6 e7
              have hc5 : w4.cell? ⟨g4, i4, none⟩ = some (.int .u8 vz) := hc5
              subst hq4
              have hvr : 0 ≤ vz ∧ vz ≤ 255 := by omega
              have hwv : IntKind.i64.wrap vz = vz := IntWalk.i64_in _ (by omega)
              have d8 : (vz == (a : Int) + (x : Int)) = true := by rw [← hvz, hafp]; simp; omega
              clear hb4 hvz
              go_wp2
              go_roundw
              case rel => exact ⟨x + 1, by omega, by go_num, by first | trivial | rfl⟩
              case measure => simp [intOf]; omega
            · obtain rfl : x = L := by omega
              go_wp2
              go_ret
              exact ⟨rfl, H4.out.2.2⟩
end Go.Proofs.YtggnohbfdlebiaaGreatDoor

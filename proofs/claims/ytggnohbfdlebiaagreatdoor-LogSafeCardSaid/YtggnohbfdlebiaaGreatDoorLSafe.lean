/-
  LogSafe: what is acknowledged is there, behind any crash; behind it, at most, the record that was under way, whole.
-/
import Derived.Test.YtggnohbfdlebiaaGreatDoorM28
import Derived.Test.YtggnohbfdlebiaaGreatDoorM22
namespace Go.Proofs.YtggnohbfdlebiaaGreatDoor
open Go.RowKit Go.Shelf Go.ChangeMaps Go.ChangeShapes Go.WideShapes Go.Deep Go.Joins

theorem arm_arg (x : Int) {m : Int} (hm : 1 ≤ m ∧ m ≤ 7) : 0 ≤ wrap64 ((IntKind.u64.wrap x).tmod m) ∧ wrap64 ((IntKind.u64.wrap x).tmod m) ≤ 6 := by
  have h0 : 0 ≤ IntKind.u64.wrap x := by
    show 0 ≤ x % 18446744073709551616
    omega
  have h1 : 0 ≤ (IntKind.u64.wrap x).tmod m := Int.tmod_nonneg m h0
  have h2 : (IntKind.u64.wrap x).tmod m < m := Int.tmod_lt_of_pos _ (by omega)
  generalize (IntKind.u64.wrap x).tmod m = t at h1 h2 ⊢
  have h3 : wrap64 t = t := by
    first
      | (unfold wrap64; omega)
      | (unfold wrap64; split <;> omega)
      | (simp [wrap64]; omega)
  rw [h3]; omega
set_option maxRecDepth 100000 in
set_option maxHeartbeats 8000000 in
theorem LogSafe_many (w : World) (r : Int) (hr : 0 ≤ r ∧ r ≤ 255) (sp : Option Addr) (sl sc : Nat) (hsl : sl ≤ maxLen) (hsc : SopAt w sp sl) (h50 : 50 < sl) :
    Calls Tryz.prog 8 #[.int .u8 r, .slice sp sl sc] w fun e w' => e = .returned (.bool true) ∧ Kp (fun _ => False) w w' := by
  have HSC := Lib.hid hsc
  have hsl2 : sl ≤ 9223372036854775807 := hsl
  clear hsc hsl
  obtain ⟨per, hper⟩ : ∃ per : Nat, (per : Int) = 1 + r % 6 + 1 := ⟨(1 + r % 6 + 1).toNat, by omega⟩
  have hpb : 1 ≤ per ∧ per ≤ 7 := by omega
  have hq : ∀ n : Nat, n ≤ sl → n ≤ 80 → n / per ≤ 61 := fun n _ h => Nat.div_le_of_le_mul (Nat.le_trans (by omega : n ≤ 2 * 61) (Nat.mul_le_mul_right 61 (by omega)))
  have HP := Lib.hid (And.intro hper hq)
  clear hper hq
  go_enter Tryz.func8, Tryz.ntmps8
  go_wp2_with (first
    | (go_at_call 9; refine (awake10_any _).mono ?_; rintro e w1 ⟨rfl, hk1⟩; have H1 := Lib.hid hk1; clear hk1)
    | (go_at_call 10; refine Hid.out ?_))
  refine Lib.hid ?_
  refine (New_dsk 20000 (by omega) (by omega) w w1 H1.out).mono ?_
  rintro e w2 ⟨d, F2, rfl, h2, -, -⟩
  have H2 := Lib.hid h2
  clear h2
  go_wp2_with (go_at_call 11; refine Hid.out ?_)
  refine Lib.hid ?_
  try rw [← HP.out.1]
  have ho := H2.out.opens (per := per) (f := 0) rfl (lays_nil ⟨hpb.1, by omega⟩)
  refine ho.mono ?_
  clear ho
  rintro e w3 ⟨p, v3, F3, rfl, h3, hp3, -, -, -⟩
  rw [List.drop_nil] at hp3
  obtain ⟨q3, c3, rfl, -, -⟩ := hp3
  have h3 : Has w w3 p d per 0 [] (St.new 20000) F3 := h3
  have hS3 : OnSt w w3 p d per 0 [] [] (St.new 20000) F3 (.slice none 0 0) := ⟨⟨rfl, by decide, rfl, by decide, h3.lays, fun s x hx => by cases hx⟩, h3, RowP.nil _ _ _, fun k hk => by simp [Value.ownBlock] at hk⟩
  have H3 := Lib.hid hS3
  clear h3 hS3
  go_wp2
  go_loopw [54, 8, 11, 12] (fun vi vl va vu wr => ∃ (i : Nat) (rs : List (List Int)) (S : St) (F : Nat → Prop), i ≤ sl ∧ i ≤ 80 ∧ vi = .int .i64 (i : Int) ∧ rs.length ≤ i ∧
      ((∃ p, vl = .pointer (some ⟨p, 0, none⟩) ∧ vu = .slice none 0 0 ∧ OnSt w wr p d per (20 * i) rs rs S F va) ∨
       (∃ x u, vl = .pointer x ∧ rs.length + 1 ≤ i ∧ OffSt w wr d per (20 * i) rs u S F va ∧ BytesAt w (fun _ => False) vu u))) (fun i _ _ _ _ => sl - (intOf i).toNat)
  case atStart => exact ⟨0, [], _, F3, Nat.zero_le _, by omega, rfl, Nat.le_refl _, .inl ⟨p, rfl, rfl, H3.out⟩⟩
  case round =>
    obtain ⟨i, rs, S, F, hi1, hi2, rfl, hlen, hst⟩ := hrel
    clear H3 H2
    have hkp : Kp (fun _ => False) w wr := by
      rcases hst with ⟨p, _, _, h⟩ | ⟨x, u, _, _, h, _⟩
      · exact h.has.lg.dsk.kp
      · exact h.dsk.kp
    by_cases his : i < sl
    · obtain ⟨sb, so, x, rfl, hc, hok⟩ := HSC.out i his
      have hcr := hc.kept hkp
      have HOK := Lib.hid hok
      obtain ⟨xk, xP, xn, xm, xbs, xN, xdn, xL, xkp, xkc⟩ := x
      obtain ⟨q0, q1, q2, q3, q4⟩ := hcr
      have hkk := hok.kind
      have hxc := hok.bytes.len.2
      have hxl := hok.len
      simp only at q0 q1 q2 q3 q4 hkk hxc hxl
      have hxl2 : xn ≤ 9223372036854775807 := hxl
      clear hc hok hxl
      by_cases hi80 : i < 80
      · obtain ⟨z, hz⟩ : ∃ z, (min (xn : Int) 300).toNat = z := ⟨_, rfl⟩
        have hz3 : z ≤ 300 := by omega
        have hzn : z ≤ xn := by omega
        obtain ⟨wb, hwb⟩ : ∃ wb, wr.alloc (.cells #[.int .u8 xk, .slice xP z xm, .int .i64 xN, .bool xdn, .slice xkp xL.length xkc] 63) = wb := ⟨_, rfl⟩
        have hkw : Kp (fun _ => False) wr wb := by rw [← hwb]; exact (Kp.refl _ wr).alloc _
        have hbx : wb.heap[wr.heap.size]? = some (.cells #[.int .u8 xk, .slice xP z xm, .int .i64 xN, .bool xdn, .slice xkp xL.length xkc] 63 (0, 0)) := by rw [← hwb]; exact heap_alloc_new wr _
        obtain ⟨zs, hzs⟩ : ∃ zs, xbs.take z = zs := ⟨_, rfl⟩
        have hz8 := HOK.out.bytes.take hzn
        simp only [hzs] at hz8
        have hzb : Byts zs := by rw [← hzs]; exact fun x hx => HOK.out.byts x (List.mem_of_mem_take hx)
        obtain rfl : z = zs.length := hz8.len.1
        clear hzs hkp
        have HB := Lib.hid (And.intro hz8 (And.intro hzb (And.intro hwb (And.intro hbx hkw))))
        clear hz8 hzb hwb hbx hkw
        rcases hst with ⟨p, rfl, rfl, hon⟩ | ⟨xl, u, rfl, hlu, hof, hub⟩
        · have hon1 := hon.step HB.out.2.2.2.2
          have HO := Lib.hid hon1
          have HL := Lib.hid hon.lt
          clear hon hon1
          rcases (by omega : xk % 4 = 0 ∨ xk % 4 = 1 ∨ xk % 4 = 2 ∨ xk % 4 = 3) with hm | hm | hm | hm
          · obtain ⟨ap, ac, rfl, -, -⟩ := HO.out.pay
            have b1 := blk_cell HB.out.2.2.2.1 1
            simp only [List.getElem?_toArray, List.getElem?_cons_zero, List.getElem?_cons_succ] at b1
            have cTwi : Calls Tryz.prog 14 #[.slice xP zs.length xm] wb (OwnBytes wb zs) := Twin_bytes (HB.out.1.kept HO.out.has.lg.dsk.kp (F' := fun _ => False) fun _ h => .inl h) (by omega)
            go_wp2_with (first
              | (go_at_call 25; rw [HB.out.2.2.1]; refine (HO.out.has.lg.dsk.on).mono ?_; rw [HO.out.up.off]; rintro e w' ⟨rfl, hw'⟩; subst w')
              | (go_at_call 14; refine cTwi.mono ?_; rintro e w3 ⟨g, c, rfl, hgc, hg, hgs, hgh, hgk⟩; have b2 := hgk.cell b1 id; have HT := Lib.hid (And.intro hgc (And.intro hg (And.intro hgh hgk))); clear hgc hg hgs hgh hgk)
              | (go_at_call 12; refine Hid.out ?_))
            refine Lib.hid ?_
            have hon3 := HO.out.step HT.out.2.2.2
            by_cases hz0 : zs.length = 0
            · have cA : Calls Tryz.prog 12 #[.pointer (some ⟨p, 0, none⟩), .slice (some ⟨g, 0, none⟩) zs.length c] w3 fun e w' => e = .returned (.tuple #[.int .i64 0, .int .i64 3]) ∧ w' = w3 := by rw [hz0]; exact LAppend_none w3 _ _ _
              refine cA.mono ?_
              rintro e w' ⟨rfl, hw'⟩
              subst w'
              have hd : decide ((zs.length : Int) > 0) = false := decide_eq_false (by omega)
              have H3 := Lib.hid hon3
              clear hon3 cA cTwi
              go_wp2
              go_roundw
              case rel => exact ⟨i + 1, rs, S, F, by omega, by omega, by go_num, by omega, .inl ⟨p, rfl, rfl, H3.out.more (by omega)⟩⟩
              case measure => simp [intOf]; omega
            · have hb3 := own_at (F := fun k => F k ∨ k = p) HO.out.lt HT.out.1 HT.out.2.1 HT.out.2.2.1
              have hap := hon3.append hb3 ⟨by omega, hz3, HB.out.2.1⟩ (by omega) (HP.out.2 _ (by omega) (by omega)) (by omega)
              refine hap.mono ?_
              clear hap
              rintro e w5 ⟨hkp5, hk5, S5, F5, ⟨rfl, h5⟩ | ⟨rfl, h5⟩⟩
              · have b5 := hk5.cell b2 fun hk => by
                  have h1 := HL.out _ hk
                  omega
                obtain ⟨v6, w6, hap6, h6, hkp6⟩ := h5.push HB.out.1 (by omega) 29
                have H6 := Lib.hid h6
                clear hon3 hb3 h5 h6 cTwi hkp5 hk5 hkp6
                go_wp2_with (at_builtin; refine wpList_append_run rfl _ _ _ _ rfl rfl rfl hap6 ?_)
                go_roundw
                case rel => exact ⟨i + 1, rs ++ [zs], S5, F5, by omega, by omega, by go_num, by rw [List.length_append]; simp; omega, .inl ⟨p, rfl, rfl, H6.out.more (by omega)⟩⟩
                case measure => simp [intOf]; omega
              · have b5 := hk5.cell b2 fun hk => by
                  have h1 := HL.out _ hk
                  omega
                have H6 := Lib.hid h5
                clear hon3 hb3 h5 cTwi hkp5 hk5
                go_wp2
                go_roundw
                case rel => exact ⟨i + 1, rs, S5, F5, by omega, by omega, by go_num, by omega, .inr ⟨_, zs, rfl, by omega, H6.out.more (by omega), HB.out.1⟩⟩
                case measure => simp [intOf]; omega
          · obtain ⟨ap, ac, rfl, -, -⟩ := HO.out.pay
            have b1 := blk_cell HB.out.2.2.2.1 1
            simp only [List.getElem?_toArray, List.getElem?_cons_zero, List.getElem?_cons_succ] at b1
            have cTwi : Calls Tryz.prog 14 #[.slice xP zs.length xm] wb (OwnBytes wb zs) := Twin_bytes (HB.out.1.kept HO.out.has.lg.dsk.kp (F' := fun _ => False) fun _ h => .inl h) (by omega)
            go_wp2_with (first
              | (go_at_call 25; rw [HB.out.2.2.1]; refine (HO.out.has.lg.dsk.on).mono ?_; rw [HO.out.up.off]; rintro e w' ⟨rfl, hw'⟩; subst w')
              | (go_at_call 14; refine cTwi.mono ?_; rintro e w3 ⟨g, c, rfl, hgc, hg, hgs, hgh, hgk⟩; have b2 := hgk.cell b1 id; have HT := Lib.hid (And.intro hgc (And.intro hg (And.intro hgh hgk))); clear hgc hg hgs hgh hgk)
              | (go_at_call 12; refine Hid.out ?_))
            refine Lib.hid ?_
            have hon3 := HO.out.step HT.out.2.2.2
            by_cases hz0 : zs.length = 0
            · have cA : Calls Tryz.prog 12 #[.pointer (some ⟨p, 0, none⟩), .slice (some ⟨g, 0, none⟩) zs.length c] w3 fun e w' => e = .returned (.tuple #[.int .i64 0, .int .i64 3]) ∧ w' = w3 := by rw [hz0]; exact LAppend_none w3 _ _ _
              refine cA.mono ?_
              rintro e w' ⟨rfl, hw'⟩
              subst w'
              have hd : decide ((zs.length : Int) > 0) = false := decide_eq_false (by omega)
              have H3 := Lib.hid hon3
              clear hon3 cA cTwi
              go_wp2
              go_roundw
              case rel => exact ⟨i + 1, rs, S, F, by omega, by omega, by go_num, by omega, .inl ⟨p, rfl, rfl, H3.out.more (by omega)⟩⟩
              case measure => simp [intOf]; omega
            · have hb3 := own_at (F := fun k => F k ∨ k = p) HO.out.lt HT.out.1 HT.out.2.1 HT.out.2.2.1
              have hap := hon3.append hb3 ⟨by omega, hz3, HB.out.2.1⟩ (by omega) (HP.out.2 _ (by omega) (by omega)) (by omega)
              refine hap.mono ?_
              clear hap
              rintro e w5 ⟨hkp5, hk5, S5, F5, ⟨rfl, h5⟩ | ⟨rfl, h5⟩⟩
              · have b5 := hk5.cell b2 fun hk => by
                  have h1 := HL.out _ hk
                  omega
                obtain ⟨v6, w6, hap6, h6, hkp6⟩ := h5.push HB.out.1 (by omega) 29
                have H6 := Lib.hid h6
                clear hon3 hb3 h5 h6 cTwi hkp5 hk5 hkp6
                go_wp2_with (at_builtin; refine wpList_append_run rfl _ _ _ _ rfl rfl rfl hap6 ?_)
                go_roundw
                case rel => exact ⟨i + 1, rs ++ [zs], S5, F5, by omega, by omega, by go_num, by rw [List.length_append]; simp; omega, .inl ⟨p, rfl, rfl, H6.out.more (by omega)⟩⟩
                case measure => simp [intOf]; omega
              · have b5 := hk5.cell b2 fun hk => by
                  have h1 := HL.out _ hk
                  omega
                have H6 := Lib.hid h5
                clear hon3 hb3 h5 cTwi hkp5 hk5
                go_wp2
                go_roundw
                case rel => exact ⟨i + 1, rs, S5, F5, by omega, by omega, by go_num, by omega, .inr ⟨_, zs, rfl, by omega, H6.out.more (by omega), HB.out.1⟩⟩
                case measure => simp [intOf]; omega
          · go_wp2_with (go_at_call 26; refine Hid.out ?_)
            refine Lib.hid ?_
            rw [HB.out.2.2.1]
            refine (HO.out.arm (arm_arg xN (m := 7) (by omega))).mono ?_
            rintro e w3 ⟨rfl, -, F3', h3⟩
            have H3 := Lib.hid h3
            clear h3
            go_wp2
            go_roundw
            case rel => exact ⟨i + 1, rs, _, F3', by omega, by omega, by go_num, by omega, .inl ⟨p, rfl, rfl, H3.out.more (by omega)⟩⟩
            case measure => simp [intOf]; omega
          · go_wp2_with (go_at_call 25; rw [HB.out.2.2.1]; refine (HO.out.has.lg.dsk.on).mono ?_; rw [HO.out.up.off]; rintro e w' ⟨rfl, hw'⟩; subst w')
            go_roundw
            case rel => exact ⟨i + 1, rs, S, F, by omega, by omega, by go_num, by omega, .inl ⟨p, rfl, rfl, HO.out.more (by omega)⟩⟩
            case measure => simp [intOf]; omega
        · have hof1 := hof.step HB.out.2.2.2.2
          have HO := Lib.hid (And.intro hof1 hub)
          have HL := Lib.hid hof.dsk.flt
          clear hof hof1 hub
          rcases (by omega : xk % 4 = 0 ∨ xk % 4 = 1 ∨ xk % 4 = 2 ∨ xk % 4 = 3) with hm | hm | hm | hm
          · go_wp2_with (go_at_call 25; rw [HB.out.2.2.1]; refine (HO.out.1.dsk.on).mono ?_; rw [HO.out.1.down.off]; rintro e w' ⟨rfl, hw'⟩; subst w')
            go_roundw
            case rel => exact ⟨i + 1, rs, S, F, by omega, by omega, by go_num, by omega, .inr ⟨xl, u, rfl, by omega, HO.out.1.more (by omega), HO.out.2⟩⟩
            case measure => simp [intOf]; omega
          · go_wp2_with (go_at_call 25; rw [HB.out.2.2.1]; refine (HO.out.1.dsk.on).mono ?_; rw [HO.out.1.down.off]; rintro e w' ⟨rfl, hw'⟩; subst w')
            go_roundw
            case rel => exact ⟨i + 1, rs, S, F, by omega, by omega, by go_num, by omega, .inr ⟨xl, u, rfl, by omega, HO.out.1.more (by omega), HO.out.2⟩⟩
            case measure => simp [intOf]; omega
          · go_wp2_with (go_at_call 26; rw [HB.out.2.2.1]; refine (HO.out.1.arm _ (arm_arg xN (m := 7) (by omega)).1).mono ?_; rintro e w' ⟨rfl, hw'⟩; subst w')
            go_roundw
            case rel => exact ⟨i + 1, rs, S, F, by omega, by omega, by go_num, by omega, .inr ⟨xl, u, rfl, by omega, HO.out.1.more (by omega), HO.out.2⟩⟩
            case measure => simp [intOf]; omega
          · have b2 := blk_cell HB.out.2.2.2.1 2
            have b3 := blk_cell HB.out.2.2.2.1 3
            have b4 := blk_cell HB.out.2.2.2.1 4
            simp only [List.getElem?_toArray, List.getElem?_cons_zero, List.getElem?_cons_succ] at b2 b3 b4
            obtain ⟨ap, ac, rfl, -, -⟩ := HO.out.1.row.pay HO.out.1.own
            have hu1 := HO.out.1.down.load
            obtain ⟨ub, uo, un, uc, rfl⟩ := HO.out.2.ptr (by omega)
            clear hu1
            have cF : Calls Tryz.prog 28 #[.agg #[.bool xdn, .slice xkp xL.length xkc]] wb (FateRow wb xdn xL) := fate_any (HOK.out.keep.kept HO.out.1.dsk.kp (F' := fun _ => False) fun _ h => .inl h) HOK.out.keeps
            go_wp2_with (first
              | (go_at_call 25; rw [HB.out.2.2.1]; refine (HO.out.1.dsk.on).mono ?_; rw [HO.out.1.down.off]; rintro e w' ⟨rfl, hw'⟩; subst w')
              | (go_at_call 28; refine cF.mono ?_; rintro e w3 ⟨g, c, rfl, hc, hg, hgs, hx, hk⟩; have cR := HO.out.1.restart xdn HOK.out.keeps hc hg hgs hx hk; have d2 := hk.cell b2 id; have HS3 := Lib.hid hk.size; clear hc hg hgs hx hk)
              | (go_at_call 27; refine cR.mono ?_; rintro e w4 ⟨rfl, -, hk4, F4, hm4⟩; have e2 := hk4.cell d2 (fun hf => by have h1 := HL.out _ hf; omega); have HM := Lib.hid hm4; clear hk4 hm4)
              | (go_at_call 26; refine Hid.out ?_))
            refine Lib.hid ?_
            refine (HM.out.arm (n := _) (by have := arm_arg xN (m := 4) (by omega); exact this)).mono ?_
            rintro e w5 ⟨rfl, -, F5, h5⟩
            have H5 := Lib.hid h5
            clear h5 cF cR
            go_wp2_with (go_at_call 11; refine Hid.out ?_)
            refine Lib.hid ?_
            refine H5.out.opens.mono ?_
            rintro e w6 ⟨hkp6, S6, F6, ⟨rfl, h6⟩ | ⟨p6, v6, rs6, hor, rfl, h6, hp6⟩⟩
            · have H6 := Lib.hid h6
              clear h6 hkp6
              go_wp2
              go_roundw
              case rel => exact ⟨i + 1, rs, S6, F6, by omega, by omega, by go_num, by omega, .inr ⟨none, u, rfl, by omega, H6.out.more (by omega), HO.out.2⟩⟩
              case measure => simp [intOf]; omega
            · rcases hor with e | e
              · rw [e] at h6 hp6
                clear e
                obtain ⟨vp, vc, rfl, -, -⟩ := id hp6
                have cs := same_any hp6 h6.pay (by omega) (loads_len h6.has.lays.loads)
                have cF : ∀ W, Kp (fun _ => False) w6 W → Calls Tryz.prog 20 #[.pointer (some ⟨p6, 0, none⟩)] W fun e w' => e = .returned (.int .i64 1) ∧ w' = W := fun W hW => by
                  have := First_at (h6.has.lg.step hW).log.first
                  rw [Nat.zero_mul] at this
                  exact this
                have cN : ∀ W, Kp (fun _ => False) w6 W → Calls Tryz.prog 17 #[.pointer (some ⟨p6, 0, none⟩)] W fun e w' => e = .returned (.int .i64 ((rs.length : Int) + 1)) ∧ w' = W := fun W hW => by
                  have := Next_at (h6.has.lg.step hW).log.next
                  rw [Int.natCast_add, Int.natCast_one] at this
                  exact this
                have ne : decide ((rs.length : Int) = (rs.length : Int) + 1) = false := decide_eq_false (by omega)
                have H6 := Lib.hid h6
                clear hp6 h6 hkp6
                go_wp2_with (first
                  | (go_at_call 13; refine cs.mono ?_; rintro e w8 ⟨rfl, hk8⟩; have cF2 := cF _ hk8; have cN2 := cN _ hk8; have H8 := Lib.hid hk8; clear hk8)
                  | (go_at_call 20; refine cF2.mono ?_; rintro e w' ⟨rfl, hw'⟩; subst w')
                  | (go_at_call 17; refine cN2.mono ?_; rintro e w' ⟨rfl, hw'⟩; subst w'))
                go_roundw
                case rel => exact ⟨i + 1, rs, S6, F6, by omega, by omega, by go_num, by omega, .inl ⟨p6, rfl, rfl, (H6.out.step H8.out).more (by omega)⟩⟩
                case measure => simp [intOf]; omega
              · rw [e] at h6 hp6
                clear e
                obtain ⟨v8, w8, hap8, h8, -, hk8, -⟩ := h6.push HO.out.2 (by omega) 29
                have hq8 : PayAt w8 (fun k => F6 k ∨ k = p6) v6 (rs ++ [u]) := hp6.kept (hk8.mono fun k h => .inr h) fun k h => .inl (.inl h)
                have hl7 : (rs ++ [u]).length = rs.length + 1 := by simp
                have cs := same_any hq8 h8.pay (by omega) (loads_len h8.has.lays.loads)
                obtain ⟨vp, vc, hv6, -, -⟩ := id hq8
                obtain ⟨vp8, vc8, hv8, -, -⟩ := id h8.pay
                rw [hl7] at hv6 hv8
                subst hv6 hv8
                have cF : ∀ W, Kp (fun _ => False) w8 W → Calls Tryz.prog 20 #[.pointer (some ⟨p6, 0, none⟩)] W fun e w' => e = .returned (.int .i64 1) ∧ w' = W := fun W hW => by
                  have := First_at (h8.has.lg.step hW).log.first
                  rw [Nat.zero_mul] at this
                  exact this
                have cN : ∀ W, Kp (fun _ => False) w8 W → Calls Tryz.prog 17 #[.pointer (some ⟨p6, 0, none⟩)] W fun e w' => e = .returned (.int .i64 ((rs.length : Int) + 1 + 1)) ∧ w' = W := fun W hW => by
                  have := Next_at (h8.has.lg.step hW).log.next
                  rw [hl7, Int.natCast_add, Int.natCast_add, Int.natCast_one] at this
                  exact this
                have H7 := Lib.hid (And.intro h8 hl7)
                clear hp6 h6 hkp6 hq8 hk8 h8 hl7
                go_wp2_with (first
                  | (at_builtin; refine wpList_append_run rfl _ _ _ _ rfl rfl rfl hap8 ?_)
                  | (go_at_call 13; refine cs.mono ?_; rintro e w9 ⟨rfl, hk9⟩; have cF2 := cF _ hk9; have cN2 := cN _ hk9; have H8 := Lib.hid hk9; clear hk9)
                  | (go_at_call 20; refine cF2.mono ?_; rintro e w' ⟨rfl, hw'⟩; subst w')
                  | (go_at_call 17; refine cN2.mono ?_; rintro e w' ⟨rfl, hw'⟩; subst w'))
                go_roundw
                case rel => exact ⟨i + 1, rs ++ [u], S6, F6, by omega, by omega, by go_num, by have := H7.out.2; omega, .inl ⟨p6, rfl, rfl, (H7.out.1.step H8.out).more (by omega)⟩⟩
                case measure => simp [intOf]; omega
      · obtain rfl : i = 80 := by omega
        have HK := Lib.hid hkp
        clear hkp hst
        go_wp2
        go_ret
        exact ⟨rfl, HK.out.alloc _⟩
    · obtain rfl : i = sl := by omega
      have HK := Lib.hid hkp
      clear hkp hst
      go_wp2
      go_ret
      exact ⟨rfl, HK.out⟩
set_option maxRecDepth 100000 in
set_option maxHeartbeats 8000000 in
theorem LogSafe_few (w : World) (r : Int) (hr : 0 ≤ r ∧ r ≤ 255) (sp : Option Addr) (sl sc : Nat) (hsl : sl ≤ maxLen) (hsc : SopAt w sp sl) (h50 : ¬ 50 < sl) :
    Calls Tryz.prog 8 #[.int .u8 r, .slice sp sl sc] w fun e w' => e = .returned (.bool true) ∧ Kp (fun _ => False) w w' := by
  have HSC := Lib.hid hsc
  have hsl2 : sl ≤ 9223372036854775807 := hsl
  clear hsc hsl
  obtain ⟨per, hper⟩ : ∃ per : Nat, (per : Int) = 1 + r % 6 := ⟨(1 + r % 6).toNat, by omega⟩
  have hpb : 1 ≤ per ∧ per ≤ 7 := by omega
  have hq : ∀ n : Nat, n ≤ sl → n ≤ 80 → n / per ≤ 61 := fun n h _ => Nat.le_trans (Nat.div_le_self n per) (by omega)
  have HP := Lib.hid (And.intro hper hq)
  clear hper hq
  go_enter Tryz.func8, Tryz.ntmps8
  go_wp2_with (first
    | (go_at_call 9; refine (awake10_any _).mono ?_; rintro e w1 ⟨rfl, hk1⟩; have H1 := Lib.hid hk1; clear hk1)
    | (go_at_call 10; refine Hid.out ?_))
  refine Lib.hid ?_
  refine (New_dsk 20000 (by omega) (by omega) w w1 H1.out).mono ?_
  rintro e w2 ⟨d, F2, rfl, h2, -, -⟩
  have H2 := Lib.hid h2
  clear h2
  go_wp2_with (go_at_call 11; refine Hid.out ?_)
  refine Lib.hid ?_
  try rw [← HP.out.1]
  have ho := H2.out.opens (per := per) (f := 0) rfl (lays_nil ⟨hpb.1, by omega⟩)
  refine ho.mono ?_
  clear ho
  rintro e w3 ⟨p, v3, F3, rfl, h3, hp3, -, -, -⟩
  rw [List.drop_nil] at hp3
  obtain ⟨q3, c3, rfl, -, -⟩ := hp3
  have h3 : Has w w3 p d per 0 [] (St.new 20000) F3 := h3
  have hS3 : OnSt w w3 p d per 0 [] [] (St.new 20000) F3 (.slice none 0 0) := ⟨⟨rfl, by decide, rfl, by decide, h3.lays, fun s x hx => by cases hx⟩, h3, RowP.nil _ _ _, fun k hk => by simp [Value.ownBlock] at hk⟩
  have H3 := Lib.hid hS3
  clear h3 hS3
  go_wp2
  go_loopw [54, 8, 11, 12] (fun vi vl va vu wr => ∃ (i : Nat) (rs : List (List Int)) (S : St) (F : Nat → Prop), i ≤ sl ∧ i ≤ 80 ∧ vi = .int .i64 (i : Int) ∧ rs.length ≤ i ∧
      ((∃ p, vl = .pointer (some ⟨p, 0, none⟩) ∧ vu = .slice none 0 0 ∧ OnSt w wr p d per (20 * i) rs rs S F va) ∨
       (∃ x u, vl = .pointer x ∧ rs.length + 1 ≤ i ∧ OffSt w wr d per (20 * i) rs u S F va ∧ BytesAt w (fun _ => False) vu u))) (fun i _ _ _ _ => sl - (intOf i).toNat)
  case atStart => exact ⟨0, [], _, F3, Nat.zero_le _, by omega, rfl, Nat.le_refl _, .inl ⟨p, rfl, rfl, H3.out⟩⟩
  case round =>
    obtain ⟨i, rs, S, F, hi1, hi2, rfl, hlen, hst⟩ := hrel
    clear H3 H2
    have hkp : Kp (fun _ => False) w wr := by
      rcases hst with ⟨p, _, _, h⟩ | ⟨x, u, _, _, h, _⟩
      · exact h.has.lg.dsk.kp
      · exact h.dsk.kp
    by_cases his : i < sl
    · obtain ⟨sb, so, x, rfl, hc, hok⟩ := HSC.out i his
      have hcr := hc.kept hkp
      have HOK := Lib.hid hok
      obtain ⟨xk, xP, xn, xm, xbs, xN, xdn, xL, xkp, xkc⟩ := x
      obtain ⟨q0, q1, q2, q3, q4⟩ := hcr
      have hkk := hok.kind
      have hxc := hok.bytes.len.2
      have hxl := hok.len
      simp only at q0 q1 q2 q3 q4 hkk hxc hxl
      have hxl2 : xn ≤ 9223372036854775807 := hxl
      clear hc hok hxl
      by_cases hi80 : i < 80
      · obtain ⟨z, hz⟩ : ∃ z, (min (xn : Int) 300).toNat = z := ⟨_, rfl⟩
        have hz3 : z ≤ 300 := by omega
        have hzn : z ≤ xn := by omega
        obtain ⟨wb, hwb⟩ : ∃ wb, wr.alloc (.cells #[.int .u8 xk, .slice xP z xm, .int .i64 xN, .bool xdn, .slice xkp xL.length xkc] 63) = wb := ⟨_, rfl⟩
        have hkw : Kp (fun _ => False) wr wb := by rw [← hwb]; exact (Kp.refl _ wr).alloc _
        have hbx : wb.heap[wr.heap.size]? = some (.cells #[.int .u8 xk, .slice xP z xm, .int .i64 xN, .bool xdn, .slice xkp xL.length xkc] 63 (0, 0)) := by rw [← hwb]; exact heap_alloc_new wr _
        obtain ⟨zs, hzs⟩ : ∃ zs, xbs.take z = zs := ⟨_, rfl⟩
        have hz8 := HOK.out.bytes.take hzn
        simp only [hzs] at hz8
        have hzb : Byts zs := by rw [← hzs]; exact fun x hx => HOK.out.byts x (List.mem_of_mem_take hx)
        obtain rfl : z = zs.length := hz8.len.1
        clear hzs hkp
        have HB := Lib.hid (And.intro hz8 (And.intro hzb (And.intro hwb (And.intro hbx hkw))))
        clear hz8 hzb hwb hbx hkw
        rcases hst with ⟨p, rfl, rfl, hon⟩ | ⟨xl, u, rfl, hlu, hof, hub⟩
        · have hon1 := hon.step HB.out.2.2.2.2
          have HO := Lib.hid hon1
          have HL := Lib.hid hon.lt
          clear hon hon1
          rcases (by omega : xk % 4 = 0 ∨ xk % 4 = 1 ∨ xk % 4 = 2 ∨ xk % 4 = 3) with hm | hm | hm | hm
          · obtain ⟨ap, ac, rfl, -, -⟩ := HO.out.pay
            have b1 := blk_cell HB.out.2.2.2.1 1
            simp only [List.getElem?_toArray, List.getElem?_cons_zero, List.getElem?_cons_succ] at b1
            have cTwi : Calls Tryz.prog 14 #[.slice xP zs.length xm] wb (OwnBytes wb zs) := Twin_bytes (HB.out.1.kept HO.out.has.lg.dsk.kp (F' := fun _ => False) fun _ h => .inl h) (by omega)
            go_wp2_with (first
              | (go_at_call 25; rw [HB.out.2.2.1]; refine (HO.out.has.lg.dsk.on).mono ?_; rw [HO.out.up.off]; rintro e w' ⟨rfl, hw'⟩; subst w')
              | (go_at_call 14; refine cTwi.mono ?_; rintro e w3 ⟨g, c, rfl, hgc, hg, hgs, hgh, hgk⟩; have b2 := hgk.cell b1 id; have HT := Lib.hid (And.intro hgc (And.intro hg (And.intro hgh hgk))); clear hgc hg hgs hgh hgk)
              | (go_at_call 12; refine Hid.out ?_))
            refine Lib.hid ?_
            have hon3 := HO.out.step HT.out.2.2.2
            by_cases hz0 : zs.length = 0
            · have cA : Calls Tryz.prog 12 #[.pointer (some ⟨p, 0, none⟩), .slice (some ⟨g, 0, none⟩) zs.length c] w3 fun e w' => e = .returned (.tuple #[.int .i64 0, .int .i64 3]) ∧ w' = w3 := by rw [hz0]; exact LAppend_none w3 _ _ _
              refine cA.mono ?_
              rintro e w' ⟨rfl, hw'⟩
              subst w'
              have hd : decide ((zs.length : Int) > 0) = false := decide_eq_false (by omega)
              have H3 := Lib.hid hon3
              clear hon3 cA cTwi
              go_wp2
              go_roundw
              case rel => exact ⟨i + 1, rs, S, F, by omega, by omega, by go_num, by omega, .inl ⟨p, rfl, rfl, H3.out.more (by omega)⟩⟩
              case measure => simp [intOf]; omega
            · have hb3 := own_at (F := fun k => F k ∨ k = p) HO.out.lt HT.out.1 HT.out.2.1 HT.out.2.2.1
              have hap := hon3.append hb3 ⟨by omega, hz3, HB.out.2.1⟩ (by omega) (HP.out.2 _ (by omega) (by omega)) (by omega)
              refine hap.mono ?_
              clear hap
              rintro e w5 ⟨hkp5, hk5, S5, F5, ⟨rfl, h5⟩ | ⟨rfl, h5⟩⟩
              · have b5 := hk5.cell b2 fun hk => by
                  have h1 := HL.out _ hk
                  omega
                obtain ⟨v6, w6, hap6, h6, hkp6⟩ := h5.push HB.out.1 (by omega) 29
                have H6 := Lib.hid h6
                clear hon3 hb3 h5 h6 cTwi hkp5 hk5 hkp6
                go_wp2_with (at_builtin; refine wpList_append_run rfl _ _ _ _ rfl rfl rfl hap6 ?_)
                go_roundw
                case rel => exact ⟨i + 1, rs ++ [zs], S5, F5, by omega, by omega, by go_num, by rw [List.length_append]; simp; omega, .inl ⟨p, rfl, rfl, H6.out.more (by omega)⟩⟩
                case measure => simp [intOf]; omega
              · have b5 := hk5.cell b2 fun hk => by
                  have h1 := HL.out _ hk
                  omega
                have H6 := Lib.hid h5
                clear hon3 hb3 h5 cTwi hkp5 hk5
                go_wp2
                go_roundw
                case rel => exact ⟨i + 1, rs, S5, F5, by omega, by omega, by go_num, by omega, .inr ⟨_, zs, rfl, by omega, H6.out.more (by omega), HB.out.1⟩⟩
                case measure => simp [intOf]; omega
          · obtain ⟨ap, ac, rfl, -, -⟩ := HO.out.pay
            have b1 := blk_cell HB.out.2.2.2.1 1
            simp only [List.getElem?_toArray, List.getElem?_cons_zero, List.getElem?_cons_succ] at b1
            have cTwi : Calls Tryz.prog 14 #[.slice xP zs.length xm] wb (OwnBytes wb zs) := Twin_bytes (HB.out.1.kept HO.out.has.lg.dsk.kp (F' := fun _ => False) fun _ h => .inl h) (by omega)
            go_wp2_with (first
              | (go_at_call 25; rw [HB.out.2.2.1]; refine (HO.out.has.lg.dsk.on).mono ?_; rw [HO.out.up.off]; rintro e w' ⟨rfl, hw'⟩; subst w')
              | (go_at_call 14; refine cTwi.mono ?_; rintro e w3 ⟨g, c, rfl, hgc, hg, hgs, hgh, hgk⟩; have b2 := hgk.cell b1 id; have HT := Lib.hid (And.intro hgc (And.intro hg (And.intro hgh hgk))); clear hgc hg hgs hgh hgk)
              | (go_at_call 12; refine Hid.out ?_))
            refine Lib.hid ?_
            have hon3 := HO.out.step HT.out.2.2.2
            by_cases hz0 : zs.length = 0
            · have cA : Calls Tryz.prog 12 #[.pointer (some ⟨p, 0, none⟩), .slice (some ⟨g, 0, none⟩) zs.length c] w3 fun e w' => e = .returned (.tuple #[.int .i64 0, .int .i64 3]) ∧ w' = w3 := by rw [hz0]; exact LAppend_none w3 _ _ _
              refine cA.mono ?_
              rintro e w' ⟨rfl, hw'⟩
              subst w'
              have hd : decide ((zs.length : Int) > 0) = false := decide_eq_false (by omega)
              have H3 := Lib.hid hon3
              clear hon3 cA cTwi
              go_wp2
              go_roundw
              case rel => exact ⟨i + 1, rs, S, F, by omega, by omega, by go_num, by omega, .inl ⟨p, rfl, rfl, H3.out.more (by omega)⟩⟩
              case measure => simp [intOf]; omega
            · have hb3 := own_at (F := fun k => F k ∨ k = p) HO.out.lt HT.out.1 HT.out.2.1 HT.out.2.2.1
              have hap := hon3.append hb3 ⟨by omega, hz3, HB.out.2.1⟩ (by omega) (HP.out.2 _ (by omega) (by omega)) (by omega)
              refine hap.mono ?_
              clear hap
              rintro e w5 ⟨hkp5, hk5, S5, F5, ⟨rfl, h5⟩ | ⟨rfl, h5⟩⟩
              · have b5 := hk5.cell b2 fun hk => by
                  have h1 := HL.out _ hk
                  omega
                obtain ⟨v6, w6, hap6, h6, hkp6⟩ := h5.push HB.out.1 (by omega) 29
                have H6 := Lib.hid h6
                clear hon3 hb3 h5 h6 cTwi hkp5 hk5 hkp6
                go_wp2_with (at_builtin; refine wpList_append_run rfl _ _ _ _ rfl rfl rfl hap6 ?_)
                go_roundw
                case rel => exact ⟨i + 1, rs ++ [zs], S5, F5, by omega, by omega, by go_num, by rw [List.length_append]; simp; omega, .inl ⟨p, rfl, rfl, H6.out.more (by omega)⟩⟩
                case measure => simp [intOf]; omega
              · have b5 := hk5.cell b2 fun hk => by
                  have h1 := HL.out _ hk
                  omega
                have H6 := Lib.hid h5
                clear hon3 hb3 h5 cTwi hkp5 hk5
                go_wp2
                go_roundw
                case rel => exact ⟨i + 1, rs, S5, F5, by omega, by omega, by go_num, by omega, .inr ⟨_, zs, rfl, by omega, H6.out.more (by omega), HB.out.1⟩⟩
                case measure => simp [intOf]; omega
          · go_wp2_with (go_at_call 26; refine Hid.out ?_)
            refine Lib.hid ?_
            rw [HB.out.2.2.1]
            refine (HO.out.arm (arm_arg xN (m := 7) (by omega))).mono ?_
            rintro e w3 ⟨rfl, -, F3', h3⟩
            have H3 := Lib.hid h3
            clear h3
            go_wp2
            go_roundw
            case rel => exact ⟨i + 1, rs, _, F3', by omega, by omega, by go_num, by omega, .inl ⟨p, rfl, rfl, H3.out.more (by omega)⟩⟩
            case measure => simp [intOf]; omega
          · go_wp2_with (go_at_call 25; rw [HB.out.2.2.1]; refine (HO.out.has.lg.dsk.on).mono ?_; rw [HO.out.up.off]; rintro e w' ⟨rfl, hw'⟩; subst w')
            go_roundw
            case rel => exact ⟨i + 1, rs, S, F, by omega, by omega, by go_num, by omega, .inl ⟨p, rfl, rfl, HO.out.more (by omega)⟩⟩
            case measure => simp [intOf]; omega
        · have hof1 := hof.step HB.out.2.2.2.2
          have HO := Lib.hid (And.intro hof1 hub)
          have HL := Lib.hid hof.dsk.flt
          clear hof hof1 hub
          rcases (by omega : xk % 4 = 0 ∨ xk % 4 = 1 ∨ xk % 4 = 2 ∨ xk % 4 = 3) with hm | hm | hm | hm
          · go_wp2_with (go_at_call 25; rw [HB.out.2.2.1]; refine (HO.out.1.dsk.on).mono ?_; rw [HO.out.1.down.off]; rintro e w' ⟨rfl, hw'⟩; subst w')
            go_roundw
            case rel => exact ⟨i + 1, rs, S, F, by omega, by omega, by go_num, by omega, .inr ⟨xl, u, rfl, by omega, HO.out.1.more (by omega), HO.out.2⟩⟩
            case measure => simp [intOf]; omega
          · go_wp2_with (go_at_call 25; rw [HB.out.2.2.1]; refine (HO.out.1.dsk.on).mono ?_; rw [HO.out.1.down.off]; rintro e w' ⟨rfl, hw'⟩; subst w')
            go_roundw
            case rel => exact ⟨i + 1, rs, S, F, by omega, by omega, by go_num, by omega, .inr ⟨xl, u, rfl, by omega, HO.out.1.more (by omega), HO.out.2⟩⟩
            case measure => simp [intOf]; omega
          · go_wp2_with (go_at_call 26; rw [HB.out.2.2.1]; refine (HO.out.1.arm _ (arm_arg xN (m := 7) (by omega)).1).mono ?_; rintro e w' ⟨rfl, hw'⟩; subst w')
            go_roundw
            case rel => exact ⟨i + 1, rs, S, F, by omega, by omega, by go_num, by omega, .inr ⟨xl, u, rfl, by omega, HO.out.1.more (by omega), HO.out.2⟩⟩
            case measure => simp [intOf]; omega
          · have b2 := blk_cell HB.out.2.2.2.1 2
            have b3 := blk_cell HB.out.2.2.2.1 3
            have b4 := blk_cell HB.out.2.2.2.1 4
            simp only [List.getElem?_toArray, List.getElem?_cons_zero, List.getElem?_cons_succ] at b2 b3 b4
            obtain ⟨ap, ac, rfl, -, -⟩ := HO.out.1.row.pay HO.out.1.own
            have hu1 := HO.out.1.down.load
            obtain ⟨ub, uo, un, uc, rfl⟩ := HO.out.2.ptr (by omega)
            clear hu1
            have cF : Calls Tryz.prog 28 #[.agg #[.bool xdn, .slice xkp xL.length xkc]] wb (FateRow wb xdn xL) := fate_any (HOK.out.keep.kept HO.out.1.dsk.kp (F' := fun _ => False) fun _ h => .inl h) HOK.out.keeps
            go_wp2_with (first
              | (go_at_call 25; rw [HB.out.2.2.1]; refine (HO.out.1.dsk.on).mono ?_; rw [HO.out.1.down.off]; rintro e w' ⟨rfl, hw'⟩; subst w')
              | (go_at_call 28; refine cF.mono ?_; rintro e w3 ⟨g, c, rfl, hc, hg, hgs, hx, hk⟩; have cR := HO.out.1.restart xdn HOK.out.keeps hc hg hgs hx hk; have d2 := hk.cell b2 id; have HS3 := Lib.hid hk.size; clear hc hg hgs hx hk)
              | (go_at_call 27; refine cR.mono ?_; rintro e w4 ⟨rfl, -, hk4, F4, hm4⟩; have e2 := hk4.cell d2 (fun hf => by have h1 := HL.out _ hf; omega); have HM := Lib.hid hm4; clear hk4 hm4)
              | (go_at_call 26; refine Hid.out ?_))
            refine Lib.hid ?_
            refine (HM.out.arm (n := _) (by have := arm_arg xN (m := 4) (by omega); exact this)).mono ?_
            rintro e w5 ⟨rfl, -, F5, h5⟩
            have H5 := Lib.hid h5
            clear h5 cF cR
            go_wp2_with (go_at_call 11; refine Hid.out ?_)
            refine Lib.hid ?_
            refine H5.out.opens.mono ?_
            rintro e w6 ⟨hkp6, S6, F6, ⟨rfl, h6⟩ | ⟨p6, v6, rs6, hor, rfl, h6, hp6⟩⟩
            · have H6 := Lib.hid h6
              clear h6 hkp6
              go_wp2
              go_roundw
              case rel => exact ⟨i + 1, rs, S6, F6, by omega, by omega, by go_num, by omega, .inr ⟨none, u, rfl, by omega, H6.out.more (by omega), HO.out.2⟩⟩
              case measure => simp [intOf]; omega
            · rcases hor with e | e
              · rw [e] at h6 hp6
                clear e
                obtain ⟨vp, vc, rfl, -, -⟩ := id hp6
                have cs := same_any hp6 h6.pay (by omega) (loads_len h6.has.lays.loads)
                have cF : ∀ W, Kp (fun _ => False) w6 W → Calls Tryz.prog 20 #[.pointer (some ⟨p6, 0, none⟩)] W fun e w' => e = .returned (.int .i64 1) ∧ w' = W := fun W hW => by
                  have := First_at (h6.has.lg.step hW).log.first
                  rw [Nat.zero_mul] at this
                  exact this
                have cN : ∀ W, Kp (fun _ => False) w6 W → Calls Tryz.prog 17 #[.pointer (some ⟨p6, 0, none⟩)] W fun e w' => e = .returned (.int .i64 ((rs.length : Int) + 1)) ∧ w' = W := fun W hW => by
                  have := Next_at (h6.has.lg.step hW).log.next
                  rw [Int.natCast_add, Int.natCast_one] at this
                  exact this
                have ne : decide ((rs.length : Int) = (rs.length : Int) + 1) = false := decide_eq_false (by omega)
                have H6 := Lib.hid h6
                clear hp6 h6 hkp6
                go_wp2_with (first
                  | (go_at_call 13; refine cs.mono ?_; rintro e w8 ⟨rfl, hk8⟩; have cF2 := cF _ hk8; have cN2 := cN _ hk8; have H8 := Lib.hid hk8; clear hk8)
                  | (go_at_call 20; refine cF2.mono ?_; rintro e w' ⟨rfl, hw'⟩; subst w')
                  | (go_at_call 17; refine cN2.mono ?_; rintro e w' ⟨rfl, hw'⟩; subst w'))
                go_roundw
                case rel => exact ⟨i + 1, rs, S6, F6, by omega, by omega, by go_num, by omega, .inl ⟨p6, rfl, rfl, (H6.out.step H8.out).more (by omega)⟩⟩
                case measure => simp [intOf]; omega
              · rw [e] at h6 hp6
                clear e
                obtain ⟨v8, w8, hap8, h8, -, hk8, -⟩ := h6.push HO.out.2 (by omega) 29
                have hq8 : PayAt w8 (fun k => F6 k ∨ k = p6) v6 (rs ++ [u]) := hp6.kept (hk8.mono fun k h => .inr h) fun k h => .inl (.inl h)
                have hl7 : (rs ++ [u]).length = rs.length + 1 := by simp
                have cs := same_any hq8 h8.pay (by omega) (loads_len h8.has.lays.loads)
                obtain ⟨vp, vc, hv6, -, -⟩ := id hq8
                obtain ⟨vp8, vc8, hv8, -, -⟩ := id h8.pay
                rw [hl7] at hv6 hv8
                subst hv6 hv8
                have cF : ∀ W, Kp (fun _ => False) w8 W → Calls Tryz.prog 20 #[.pointer (some ⟨p6, 0, none⟩)] W fun e w' => e = .returned (.int .i64 1) ∧ w' = W := fun W hW => by
                  have := First_at (h8.has.lg.step hW).log.first
                  rw [Nat.zero_mul] at this
                  exact this
                have cN : ∀ W, Kp (fun _ => False) w8 W → Calls Tryz.prog 17 #[.pointer (some ⟨p6, 0, none⟩)] W fun e w' => e = .returned (.int .i64 ((rs.length : Int) + 1 + 1)) ∧ w' = W := fun W hW => by
                  have := Next_at (h8.has.lg.step hW).log.next
                  rw [hl7, Int.natCast_add, Int.natCast_add, Int.natCast_one] at this
                  exact this
                have H7 := Lib.hid (And.intro h8 hl7)
                clear hp6 h6 hkp6 hq8 hk8 h8 hl7
                go_wp2_with (first
                  | (at_builtin; refine wpList_append_run rfl _ _ _ _ rfl rfl rfl hap8 ?_)
                  | (go_at_call 13; refine cs.mono ?_; rintro e w9 ⟨rfl, hk9⟩; have cF2 := cF _ hk9; have cN2 := cN _ hk9; have H8 := Lib.hid hk9; clear hk9)
                  | (go_at_call 20; refine cF2.mono ?_; rintro e w' ⟨rfl, hw'⟩; subst w')
                  | (go_at_call 17; refine cN2.mono ?_; rintro e w' ⟨rfl, hw'⟩; subst w'))
                go_roundw
                case rel => exact ⟨i + 1, rs ++ [u], S6, F6, by omega, by omega, by go_num, by have := H7.out.2; omega, .inl ⟨p6, rfl, rfl, (H7.out.1.step H8.out).more (by omega)⟩⟩
                case measure => simp [intOf]; omega
      · obtain rfl : i = 80 := by omega
        exact absurd his (by omega)
    · obtain rfl : i = sl := by omega
      have HK := Lib.hid hkp
      clear hkp hst
      go_wp2
      go_ret
      exact ⟨rfl, HK.out⟩
theorem LogSafe_any (w : World) (r : Int) (hr : 0 ≤ r ∧ r ≤ 255) (sp : Option Addr) (sl sc : Nat) (hsl : sl ≤ maxLen) (hsc : SopAt w sp sl) :
    Calls Tryz.prog 8 #[.int .u8 r, .slice sp sl sc] w fun e w' => e = .returned (.bool true) ∧ Kp (fun _ => False) w w' := by
  by_cases h50 : 50 < sl
  · exact LogSafe_many w r hr sp sl sc hsl hsc h50
  · exact LogSafe_few w r hr sp sl sc hsl hsc h50
end Go.Proofs.YtggnohbfdlebiaaGreatDoor

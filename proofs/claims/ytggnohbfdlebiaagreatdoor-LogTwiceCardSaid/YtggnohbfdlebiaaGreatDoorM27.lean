/-
  Merged of my texts, in order: LTwice.
-/
import Derived.Test.YtggnohbfdlebiaaGreatDoorM26
/-
  LogTwice: opened again, a log that nobody tore has the same records, and no operation is done for it.
-/
namespace Go.Proofs.YtggnohbfdlebiaaGreatDoor
open Go.RowKit Go.Shelf Go.ChangeMaps Go.ChangeShapes Go.WideShapes Go.Deep Go.Joins

abbrev nmData : Nm := ⟨#[100, 97, 116, 97]⟩
abbrev nmL1 : Nm := ⟨#[108, 49]⟩
/-- A file of another name is written. -/
theorem other_put {S : St} (hi : Idle S) {nm : Nm} {per : Nat} (hL : Lays S.files per 0 [] []) (hb : nameB nm = true) (hs : nm.size ≠ 9) {bs : List Int} (hl : S.files.length ≤ 1) (hr : S.room = 20000) (hu : used S.files ≤ 100) (hn : bs.length ≤ 100) :
    S.appE nm bs.length = 0 ∧ Idle (S.appT nm bs) ∧ Lays (S.appT nm bs).files per 0 [] [] ∧ (S.appT nm bs).room = 20000 ∧ used (S.appT nm bs).files ≤ used S.files + 4 ∧ (S.appT nm bs).files.length ≤ S.files.length + 1 ∧ (get (S.appT nm bs).files nm).isSome = true ∧ (∀ s, (get S.files s).isSome = true → (get (S.appT nm bs).files s).isSome = true) := by
  have hfit : Fits S nm bs.length := ⟨hb, by rw [hr]; unfold nsec; omega, fun h => by omega⟩
  obtain ⟨S1, hS1⟩ : ∃ S1, S.appT nm bs = S1 := ⟨_, rfl⟩
  have hS1' : S1 = S.appS nm bs := by rw [← hS1]; exact hfit.idleT hi
  have f1 : S1.files = put S.files nm (getF S.files nm ++ secs bs) := by rw [hS1']; rfl
  have hln := put_length S.files nm (getF S.files nm ++ secs bs)
  rw [hS1]
  refine ⟨hfit.idleE hi, by rw [hS1']; exact hi.appS _ _, ?_, by rw [hS1', appS_room, hr], ?_, by rw [f1]; exact hln, by rw [f1, get_put_eq]; rfl, fun s h => ?_⟩
  · rw [f1]; exact hL.other hs (by omega)
  · rw [f1, used_put_le, secs_length]; unfold nsec; omega
  · rw [f1, get_put]; split
    · rfl
    · exact h
theorem Lg.append_new {w0 w w' : World} {p d : Nat} {per first next : Int} {link : List Int} {ended : Bool} {S : St} {F : Nat → Prop} (h : Lg w0 w p d per first next link ended S F) {bs : List Int} {g c : Nat} (hc : bs.length ≤ c) (hh : Holds8 w' g 0 bs) (hk : Kp (fun _ => False) w w') (nm : Nm) (hs : nm.size ≤ maxLen) (hl : bs.length ≤ 140737488351232) :
    Calls Tryz.prog 16 #[.pointer (some ⟨d, 0, none⟩), .string nm, .slice (some ⟨g, 0, none⟩) bs.length c] w' fun e w'' => e = .returned (.int .i64 (S.appE nm bs.length)) ∧ ∃ F', Lg w0 w'' p d per first next link ended (S.appT nm bs) F' ∧ (∀ k, F' k → F k ∨ w'.heap.size ≤ k) ∧ Kp F w' w'' := by
  refine ((h.step hk).dsk.append nm hs _ _ _ hl hc bs rfl g 0 (fun _ => rfl) hh).mono ?_
  rintro e w'' ⟨rfl, F', hd, hF, hk'⟩
  exact ⟨rfl, F', (h.step hk).goes hd hF hk', hF, hk'⟩
def Kept (S S' : St) : Prop := ∀ s, (get S.files s).isSome = true → (get S'.files s).isSome = true
theorem put_kept {fs : Files} {x : Nm} {l : List Sec} {s : Nm} (h : (get fs s).isSome = true) : (get (put fs x l) s).isSome = true := by
  rw [get_put]; split
  · rfl
  · exact h
theorem lapS_kept (S : St) (nm : Nm) (bs : List Int) : Kept S (S.lapS nm bs) := fun s h => by
  have h1 : (get (S.appT nm bs).files s).isSome = true := by
    unfold St.appT
    split
    · exact h
    · split
      · exact h
      · split
        · exact h
        · split
          · exact h
          · exact put_kept h
  unfold St.lapS
  split
  · exact h1
  · unfold St.opS
    split
    · unfold St.doS
      split
      · exact h1
      · exact put_kept h1
    · exact h1
/-- A record more: the files that there were are there. -/
theorem Has.append2 {w0 w : World} {p d per f : Nat} {rs : List (List Int)} {S : St} {F : Nat → Prop} (h : Has w0 w p d per f rs S F) (hi : Idle S) {v : Value} {q : List Int} (hb : BytesAt w (fun k => F k ∨ k = p) v q) (hq : 1 ≤ q.length ∧ q.length ≤ 4096 ∧ Byts q)
    (hc : rs.length < 90000) (hr : ¬ S.room < (used S.files : Int) + partsN (q.length + 36)) (hs : rs.length / per ≤ 61) :
    Calls Tryz.prog 12 #[.pointer (some ⟨p, 0, none⟩), v] w fun e w' => e = .returned (.tuple #[.int .i64 ((rs.length + 1 : Nat) : Int), .int .i64 0]) ∧ ∃ S' F', Has w0 w' p d per f (rs ++ [q]) S' F' ∧ Idle S' ∧ Grown S S' per f rs q ∧ Kept S S' ∧ (∀ k, F' k → F k ∨ w.heap.size ≤ k) ∧ Kp (fun k => F k ∨ k = p) w w' := by
  obtain ⟨b, o, n, c, rfl⟩ := hb.ptr (by omega)
  have hlen := hb.len.1
  obtain ⟨hE, hG⟩ := live_append (hi.live 2) h.lays hq hc hr hs
  have hA := LAppend_any (r := rs.length + 1) h.lg (linkAt_ok rs _).2 hb hq.2.2 (by omega) (by omega) h.lays.perOk.1 h.lays.perOk.2 (by omega) (by omega)
  rw [seg_next] at hA
  refine hA.mono ?_
  rintro e w' ⟨F', hF, hk, ⟨h0, _⟩ | ⟨_, rfl, hlg⟩⟩
  · exact absurd hE h0
  · refine ⟨rfl, _, F', ⟨?_, hG.lays⟩, ⟨hG.off, by rw [hG.armed, if_pos hi.armed]⟩, hG, lapS_kept _ _ _, hF, hk⟩
    have e1 : (rs ++ [q]).length = rs.length + 1 := by simp
    have e2 : linkAt (rs ++ [q]) (rs.length + 1) = chainF (linkAt rs rs.length) q := by
      rw [linkAt_succ (by simp), linkAt_append rs [q] (Nat.le_refl _)]; simp
    rw [e1, e2]
    exact hlg
theorem const_bytes {w : World} {F : Nat → Prop} (x : Int) (hF : ∀ k, F k → k < w.heap.size) : BytesAt (w.alloc (.cells #[.int .u8 x] 5 (1, 2))) F (.slice (some ⟨w.heap.size, 0, none⟩) 1 1) [x] := by
  refine ⟨_, 1, rfl, Nat.le_refl _, fun j y hj => ⟨_, _, rfl, fun h => Nat.lt_irrefl _ (hF _ h), ?_⟩⟩
  obtain rfl : j = 0 := by
    have := (List.getElem?_eq_some_iff.1 hj).1
    simpa using this
  rw [Nat.zero_add, blk_cell (heap_alloc_new w _)]
  simpa using hj
theorem lnm_ne_data (n : Nat) : nmData ≠ lnm n := fun h => by
  have := congrArg ByteArray.size h
  rw [lnm_size] at this; cases this

set_option maxRecDepth 100000 in
set_option maxHeartbeats 16000000 in
theorem LogTwice_any (w : World) (pr : Int) (hpr : 0 ≤ pr ∧ pr ≤ 255) (pp : Option Addr) (pl pc : Nat) (hpl : pl ≤ maxLen) (hrows : RowsAt w pp pl) (sp : Option Addr) (sl sc : Nat) (ss : List Int) (hsb : BytesAt w (fun _ => False) (.slice sp sl sc) ss) (hss : sl ≤ 140737488351232) :
    Calls Tryz.prog 5 #[.int .u8 pr, .slice pp pl pc, .slice sp sl sc] w fun e w' => e = .returned (.bool true) ∧ Kp (fun _ => False) w w' := by
  obtain rfl := hsb.len.1
  obtain ⟨sz, hsz⟩ : ∃ sz, ss.length = sz := ⟨_, rfl⟩
  rw [hsz] at hsb hss ⊢
  obtain ⟨per, hper⟩ : ∃ per : Nat, (per : Int) = 1 + pr % 6 := ⟨(1 + pr % 6).toNat, by omega⟩
  have hpb : 1 ≤ per ∧ per ≤ 6 := by omega
  have HSS := Lib.hid (And.intro hsb (And.intro hper (And.intro hss (And.intro hrows (And.intro hpl hsz)))))
  have c0 := New_dsk 20000 (by omega) (by omega) w
  clear hsb hper hss hrows hpl hsz
  go_enter Tryz.func5, Tryz.ntmps5
  go_wp2_with (first
    | (go_at_call 9; refine (awake10_any _).mono ?_; rintro e w1 ⟨rfl, hk1⟩; have H1 := Lib.hid hk1; clear hk1)
    | (go_at_call 10; refine (c0 _ H1.out).mono ?_; rintro e w2 ⟨d, F2, rfl, h2, -, -⟩; have H2 := Lib.hid h2; clear h2)
    | (go_at_call 11; refine Hid.out ?_))
  refine Lib.hid ?_
  clear c0
  rw [← HSS.out.2.1]
  have ho := H2.out.opens (per := per) (f := 0) rfl (lays_nil (by omega))
  refine ho.mono ?_
  clear ho
  rintro e w3 ⟨p, v3, F3, rfl, h3, hp3, -, -, -⟩
  rw [List.drop_nil] at hp3
  obtain ⟨q3, c3, rfl, -, -⟩ := hp3
  have hF3 : ∀ k, (F3 k ∨ k = p) → k < w3.heap.size := fun k hk => by
    rcases hk with hk | rfl
    · exact h3.lg.dsk.flt k hk
    · exact h3.lg.log.lt
  obtain ⟨m, hm⟩ : ∃ m, min sz 100 = m := ⟨_, rfl⟩
  have hmz : min (sz : Int) 100 = (m : Int) := by omega
  have hm3 : m ≤ 100 ∧ m ≤ sz := by omega
  have hb0 := HSS.out.1.kept h3.lg.dsk.kp (F' := fun _ => False) fun _ h => .inl h
  have hmc : m ≤ sc := Nat.le_trans hm3.2 hb0.len.2
  have hfr := hb0.front (m := m) hm3.2
  obtain ⟨st, hst⟩ : ∃ st, ss.take m = st := ⟨_, rfl⟩
  rw [hst] at hfr
  have hstl : st.length = m := hfr.len.1.symm
  have ctw := Twin_bytes hfr (by omega)
  have H3 := Lib.hid (And.intro h3 (And.intro hF3 (And.intro hfr hstl)))
  clear h3 hF3 hb0 hfr hst hm
  have hsp : (∃ b o, sp = some ⟨b, o, none⟩) ∨ (m = 0 ∧ (sp = none ∨ ∃ a, sp = some a)) := by
    by_cases hm0 : m = 0
    · refine .inr ⟨hm0, ?_⟩
      cases sp with
      | none => exact .inl rfl
      | some a => exact .inr ⟨a, rfl⟩
    · obtain ⟨b8, o8, n8, c8, e8⟩ := H3.out.2.2.1.ptr (by have := H3.out.2.2.2; omega)
      injection e8 with e1 e2 e3
      exact .inl ⟨b8, o8, e1⟩
  have hadd : ∀ a : Addr, a.add 0 = a := fun a => by unfold Addr.add; simp
  rcases hsp with ⟨b8, o8, rfl⟩ | ⟨hm0, rfl | ⟨a8, rfl⟩⟩
  · go_wp2_with (first
      | (go_at_call 14; refine ctw.mono ?_; rintro e w8 ⟨g8, c8', rfl, a8', b8', -, d8, k8⟩; rw [H3.out.2.2.2]; have H8 := Lib.hid (And.intro a8' (And.intro b8' (And.intro d8 k8))); clear a8' b8' d8 k8)
      | (go_at_call 16; refine Hid.out ?_))
    refine Lib.hid ?_
    have hap := H3.out.1.lg.append_new (bs := st) H8.out.1 H8.out.2.2.1 H8.out.2.2.2 nmData (by decide) (by rw [H3.out.2.2.2]; omega)
    obtain ⟨a1, a2, a3, a4, a5, a6, a7, -⟩ := other_put (S := St.new 20000) (nm := nmData) (per := per) (bs := st) ⟨rfl, rfl⟩ (lays_nil (by omega)) (by decide) (by decide) (by decide) rfl (by decide) (by rw [H3.out.2.2.2]; exact hm3.1)
    rw [a1, H3.out.2.2.2] at hap
    obtain ⟨S1, hS1⟩ : ∃ S1, (St.new 20000).appT nmData st = S1 := ⟨_, rfl⟩
    rw [hS1] at hap a2 a3 a4 a5 a6 a7
    obtain ⟨b1, b2, b3, b4, b5, -, -, b8'⟩ := other_put (S := S1) (nm := nmL1) (per := per) (bs := [120]) a2 a3 (by decide) (by decide) (Nat.le_trans a6 (by decide)) a4 (Nat.le_trans a5 (by decide)) (by decide)
    obtain ⟨S2, hS2⟩ : ∃ S2, S1.appT nmL1 [120] = S2 := ⟨_, rfl⟩
    rw [hS2] at b2 b3 b4 b5 b8'
    have hu2 : used S2.files ≤ 8 := Nat.le_trans b5 (by have : used S1.files ≤ 0 + 4 := a5; omega)
    have H9 := Lib.hid (And.intro b1 (And.intro b2 (And.intro b3 (And.intro b4 (And.intro hu2 (And.intro (b8' nmData a7) hS2))))))
    clear a1 a2 a3 a4 a5 a6 a7 b1 b2 b3 b4 b5 b8' hu2 hS1 hS2
    refine hap.mono ?_
    clear hap
    rintro e w9 ⟨rfl, F9, h9, -, -⟩
    have H9' := Lib.hid h9
    have hcv := Lib.run_convert_bytes_const (P := Tryz.prog) w9 33 5 #[.int .u8 120] 1 1 (by kernel_rfl) (by kernel_rfl)
    have hap := (h9.step ((Kp.refl (fun _ => False) w9).alloc (.cells #[.int .u8 120] 5 (1, 2)))).append (const_bytes 120 h9.dsk.flt) (by decide) (by decide) nmL1 (by decide)
    rw [show ([120] : List Int).length = 1 from rfl] at hap
    have hE1 : S1.appE nmL1 1 = 0 := H9.out.1
    rw [hE1, H9.out.2.2.2.2.2.2] at hap
    clear h9 hE1
    go_wp2_with (go_at_call 16; refine Hid.out ?_)
    refine Lib.hid ?_
    refine hap.mono ?_
    clear hap hcv
    rintro e w10 ⟨rfl, F10, h10, -, -⟩
    have hkp10 : Keeps w w10 p d per [] [] S2 F10 (.slice none 0 0) := ⟨⟨h10, H9.out.2.2.1⟩, H9.out.2.1, RowP.nil _ _ _, fun k hk => by simp [Value.ownBlock] at hk⟩
    have H10 := Lib.hid hkp10
    clear h10 hkp10 H9'
    go_wp2
    go_loopw [68, 13] (fun vi vw wr => ∃ (i : Nat) (rs : List (List Int)) (S : St) (F : Nat → Prop), i ≤ pl ∧ i ≤ 40 ∧ vi = .int .i64 (i : Int) ∧ Keeps w wr p d per rs rs S F vw ∧ S.room = 20000 ∧ used S.files ≤ 8 + 10 * rs.length ∧ rs.length ≤ i ∧ (get S.files nmData).isSome = true) (fun i _ _ => pl - (intOf i).toNat)
    case atStart => exact ⟨0, [], S2, F10, Nat.zero_le _, by omega, rfl, H10.out, H9.out.2.2.2.1, H9.out.2.2.2.2.1, Nat.le_refl _, H9.out.2.2.2.2.2.1⟩
    case round =>
      obtain ⟨i, rs, S, F, hi1, hi2, rfl, hkp, hroom, hused, hl1, hdat⟩ := hrel
      clear H10 H9 H8 H3 H2
      have HK := Lib.hid (And.intro hkp (And.intro hroom (And.intro hused (And.intro hl1 hdat))))
      clear hkp hroom hused hdat
      by_cases hip : i < pl
      · obtain ⟨rb, ro, rq, rn, rc, bs, rfl, hcell0, hbs0, hby, hrn⟩ := HSS.out.2.2.2.1 i hip
        have hcell := HK.out.1.has.lg.dsk.kp.cell hcell0 id
        have hbs := hbs0.kept HK.out.1.has.lg.dsk.kp (F' := fun _ => False) fun _ h => .inl h
        clear hcell0
        by_cases hi40 : i < 40
        · have hrn2 : rn ≤ 9223372036854775807 := hrn
          clear hrn
          by_cases hn0 : rn = 0
          · subst hn0
            have hbe : bs = [] := List.eq_nil_of_length_eq_zero hbs.len.1.symm
            subst hbe
            have ctw := Twin_bytes hbs (by decide)
            clear hbs hbs0 hby hrn2
            rcases rq with _ | a9
            · go_wp2_with (first
                | (go_at_call 14; refine ctw.mono ?_; rintro e w8 ⟨g8, c8, rfl, -, -, -, -, k8⟩; have H8 := Lib.hid k8; clear k8 ctw)
                | (go_at_call 12; refine (LAppend_none w8 _ _ c8).mono ?_; rintro e w' ⟨rfl, hw'⟩; subst w'))
              go_roundw
              case rel => exact ⟨i + 1, rs, S, F, by omega, by omega, by go_num, HK.out.1.step H8.out, HK.out.2.1, HK.out.2.2.1, by omega, HK.out.2.2.2.2⟩
              case measure => simp [intOf]; omega
            · go_wp2_with (first
                | (go_at_call 14; refine ctw.mono ?_; rintro e w8 ⟨g8, c8, rfl, -, -, -, -, k8⟩; have H8 := Lib.hid k8; clear k8 ctw)
                | (go_at_call 12; refine (LAppend_none w8 _ _ c8).mono ?_; rintro e w' ⟨rfl, hw'⟩; subst w'))
              go_roundw
              case rel => exact ⟨i + 1, rs, S, F, by omega, by omega, by go_num, HK.out.1.step H8.out, HK.out.2.1, HK.out.2.2.1, by omega, HK.out.2.2.2.2⟩
              case measure => simp [intOf]; omega
          · obtain ⟨gb, go, gn, gc, ep⟩ := hbs.ptr (by have := hbs.len.1; omega)
            injection ep with e1 e2 e3
            subst e1 e2 e3
            obtain ⟨m, hm⟩ : ∃ m, min rn 200 = m := ⟨_, rfl⟩
            have hm1 : 1 ≤ m ∧ m ≤ 200 ∧ m ≤ rn := by omega
            have hmz' : min (rn : Int) 200 = (m : Int) := by omega
            have hmc' : m ≤ rc := Nat.le_trans hm1.2.2 hbs.len.2
            have hfr := hbs.front (m := m) hm1.2.2
            have hold := (hbs0.front (m := m) hm1.2.2).old
            obtain ⟨q, hq⟩ : ∃ q, bs.take m = q := ⟨_, rfl⟩
            rw [hq] at hfr hold
            have hql : q.length = m := hfr.len.1.symm
            have hqy : Byts q := by rw [← hq]; exact hby.take m
            have ctw := Twin_bytes hfr (by omega)
            have HB := Lib.hid (And.intro hfr (And.intro hql (And.intro hqy hold)))
            clear hbs hbs0 hold hfr hq hqy hby hm
            go_wp2_with (first
              | (go_at_call 14; refine ctw.mono ?_; rintro e w8 ⟨g8, c8, rfl, a8, b8, -, d8, k8⟩; rw [HB.out.2.1]; have H8 := Lib.hid (And.intro a8 (And.intro b8 (And.intro d8 k8))); clear a8 b8 d8 k8 ctw)
              | (go_at_call 12; refine Hid.out ?_))
            refine Lib.hid ?_
            have hb8 := own_at (F := fun k => F k ∨ k = p) HK.out.1.lt H8.out.1 H8.out.2.1 H8.out.2.2.1
            rw [HB.out.2.1] at hb8
            have hkp8 := HK.out.1.step H8.out.2.2.2
            have hap := hkp8.has.append2 hkp8.idle hb8 ⟨by rw [HB.out.2.1]; omega, by rw [HB.out.2.1]; omega, HB.out.2.2.1⟩ (by omega) (by rw [HK.out.2.1, HB.out.2.1]; have := HK.out.2.2.1; unfold partsN; omega) (Nat.le_trans (Nat.div_le_self _ _) (by omega))
            refine hap.mono ?_
            clear hap hb8
            rintro e w9 ⟨rfl, S9, F9, h9, i9, g9, e9, f9, k9⟩
            have hkp9 := hkp8.moved h9 i9 f9 k9
            have hx9 : BytesAt w9 (fun k => (F9 k ∨ k = p) ∨ u13.ownBlock = some k) (.slice (some ⟨gb, go, none⟩) m rc) q := by
              exact (HB.out.2.2.2.kept (hkp9.has.lg.dsk.kp.mono fun _ h => h.elim) (F' := fun k => w.heap.size ≤ k) fun _ h => .inl h).mono fun k hk => by
                rcases hk with (hk | rfl) | hk
                · exact hkp9.has.lg.dsk.new k hk
                · exact hkp9.has.lg.new
                · exact (hkp9.row.lt k hk).1
            obtain ⟨v10, w10, hap10, hkp10, -⟩ := hkp9.push hx9 (by omega) 29
            have hu9 : used S9.files ≤ 8 + 10 * (rs ++ [q]).length := by rw [g9.used, HB.out.2.1, List.length_append]; have := HK.out.2.2.1; simp only [List.length_cons, List.length_nil]; unfold partsN; omega
            have H9 := Lib.hid (And.intro hkp10 (And.intro (g9.room.trans HK.out.2.1) (And.intro hu9 (e9 nmData HK.out.2.2.2.2))))
            clear h9 i9 g9 f9 k9 e9 hkp9 hx9 hkp10 hu9 hkp8
            go_wp2_with (at_builtin; refine wpList_append_run rfl _ _ _ _ rfl rfl rfl hap10 ?_)
            go_roundw
            case rel => exact ⟨i + 1, rs ++ [q], S9, F9, by omega, by omega, by go_num, H9.out.1, H9.out.2.1, H9.out.2.2.1, by rw [List.length_append]; simp; omega, H9.out.2.2.2⟩
            case measure => simp [intOf]; omega
        · obtain rfl : i = 40 := by omega
          clear hbs hbs0 hby hrn
          have hdsk := HK.out.1.has.lg.dsk
          have cO := hdsk.ops
          have hk0 : S.check nmData true = 0 := HK.out.1.idle.there (by decide) HK.out.2.2.2.2
          have cR := hdsk.read_ok nmData (by decide) hk0
          obtain ⟨O, hO⟩ : ∃ O, S.ops = O := ⟨_, rfl⟩
          obtain ⟨B, hB⟩ : ∃ B, bytesOf (getF S.files nmData) = B := ⟨_, rfl⟩
          rw [hO] at cO
          rw [hB] at cR
          have hpay := HK.out.1.pay
          obtain ⟨qw, cw, hu, -, -⟩ := id hpay
          subst hu
          have hBl : B.length ≤ 140737488351232 := by
            have ok := hdsk.ok
            have e1 := getF_le S.files nmData
            have e2 := ok.used
            have e3 := ok.room
            rw [← hB, bytesOf_length (fun s hs => by obtain ⟨x, hx, h1⟩ := getF_mem s hs; exact ok.secs x hx s h1)]
            omega
          have hpay2 : PayAt wr F (.slice qw rs.length cw) rs := hpay.mono fun k hk => .inl hk
          obtain ⟨L, hL⟩ : ∃ L, rs.length = L := ⟨_, rfl⟩
          have HE := Lib.hid (And.intro hk0 (And.intro hO (And.intro hB (And.intro hBl (And.intro hL hpay2)))))
          have hLb : L ≤ 40 := by omega
          rw [hL]
          clear hdsk hk0 hO hB hBl hpay hpay2
          go_wp2_with (first
            | (go_at_call 18; refine cO.mono ?_; rintro e w' ⟨rfl, hw'⟩; subst w')
            | (go_at_call 19; refine cR.mono ?_; rintro e w5 ⟨v5, rfl, h5, k5, b5⟩; have H5 := Lib.hid (And.intro h5 (And.intro k5 b5)); clear h5 k5 b5))
          go_loopw [108] (fun vj wz => ∃ (j : Nat) (F' : Nat → Prop), j ≤ 3 ∧ vj = .int .i64 (j : Int) ∧ Dsk w wz d S F' ∧ PayAt wz F' (.slice qw L cw) rs ∧ BytesAt wz F' v5 B) (fun vj _ => 3 - (intOf vj).toNat)
          case atStart => exact ⟨0, F, by omega, rfl, H5.out.1, by have := HE.out.2.2.2.2.2.kept (H5.out.2.1.mono fun _ h => h.elim) (F' := F) fun _ h => .inl h; rw [hL] at this; exact this, H5.out.2.2⟩
          case round =>
            obtain ⟨j, F6, hj, rfl, hd6, hp6, hb6⟩ := hrel
            by_cases hj3 : j < 3
            · have H6 := Lib.hid (And.intro hd6 (And.intro hp6 hb6))
              clear hd6 hp6 hb6
              go_wp2_with (go_at_call 11; refine Hid.out ?_)
              refine Lib.hid ?_
              have ho := H6.out.1.opens HK.out.1.idle.off HK.out.1.has.lays
              refine ho.mono ?_
              clear ho
              rintro e w7 ⟨p7, v7, F7, rfl, h7, hp7, -, f7, k7⟩
              rw [Nat.zero_mul, List.drop_zero] at hp7
              have hw7 := H6.out.2.1.kept k7 (F' := F7) f7
              have hv7 := H6.out.2.2.kept k7 (F' := F7) f7
              have cs := same_any hp7 hw7 (by omega) (loads_len HK.out.1.has.lays.loads)
              have cF : ∀ W, Kp (fun _ => False) w7 W → Calls Tryz.prog 20 #[.pointer (some ⟨p7, 0, none⟩)] W fun e w' => e = .returned (.int .i64 1) ∧ w' = W := fun W hW => by
                have := First_at (h7.lg.step hW).log.first
                rw [Nat.zero_mul] at this
                exact this
              have cN : ∀ W, Kp (fun _ => False) w7 W → Calls Tryz.prog 17 #[.pointer (some ⟨p7, 0, none⟩)] W fun e w' => e = .returned (.int .i64 ((L : Int) + 1)) ∧ w' = W := fun W hW => by
                have := Next_at (h7.lg.step hW).log.next
                rw [hL, Int.natCast_add, Int.natCast_one] at this
                exact this
              have cO7 : ∀ W, Kp (fun _ => False) w7 W → Calls Tryz.prog 18 #[.pointer (some ⟨d, 0, none⟩)] W fun e w' => e = .returned (.int .i64 O) ∧ W = w' := fun W hW => by
                have := (h7.lg.dsk.step hW).ops
                rw [HE.out.2.1] at this
                exact this
              have H7 := Lib.hid (And.intro h7 (And.intro hw7 hv7))
              clear hp7 hw7 hv7 h7 f7 k7
              go_wp2_with (first
                | (go_at_call 13; refine cs.mono ?_; rintro e w8 ⟨rfl, hk8⟩; have cF2 := cF _ hk8; have cN2 := cN _ hk8; have cO2 := cO7 _ hk8; have H8 := Lib.hid hk8; clear hk8)
                | (go_at_call 20; refine cF2.mono ?_; rintro e w' ⟨rfl, hw'⟩; subst w')
                | (go_at_call 17; refine cN2.mono ?_; rintro e w' ⟨rfl, hw'⟩; subst w')
                | (go_at_call 18; refine cO2.mono ?_; rintro e w' ⟨rfl, hw'⟩; subst w'))
              go_roundw
              case rel => exact ⟨j + 1, F7, by omega, by go_num, H7.out.1.lg.dsk.step H8.out, H7.out.2.1.kept (H8.out.mono fun _ h => h.elim) (F' := F7) fun _ h => .inl h, H7.out.2.2.kept (H8.out.mono fun _ h => h.elim) (F' := F7) fun _ h => .inl h⟩
              case measure => simp [intOf]; omega
            · obtain rfl : j = 3 := by omega
              have cR2 := hd6.read_ok nmData (by decide) HE.out.1
              rw [HE.out.2.2.1] at cR2
              have H6 := Lib.hid (And.intro hd6 (And.intro hp6 hb6))
              clear hd6 hp6 hb6
              go_wp2_with (first
                | (go_at_call 19; refine cR2.mono ?_; rintro e w9 ⟨v9, rfl, h9, k9, b9⟩; have csb := Same_bytes b9 (H6.out.2.2.kept (k9.mono fun _ h => h.elim) (F' := F6) fun _ h => .inl h) HE.out.2.2.2.1; rw [decide_eq_true rfl] at csb; have H9 := Lib.hid h9; clear h9 k9 b9)
                | (go_at_call 21; refine csb.mono ?_; rintro e w10 ⟨rfl, hk10⟩; have H10 := Lib.hid hk10; clear hk10))
              go_ret
              exact ⟨rfl, H9.out.kp.trans H10.out⟩
      · obtain rfl : i = pl := by omega
        have hdsk := HK.out.1.has.lg.dsk
        have cO := hdsk.ops
        have hk0 : S.check nmData true = 0 := HK.out.1.idle.there (by decide) HK.out.2.2.2.2
        have cR := hdsk.read_ok nmData (by decide) hk0
        obtain ⟨O, hO⟩ : ∃ O, S.ops = O := ⟨_, rfl⟩
        obtain ⟨B, hB⟩ : ∃ B, bytesOf (getF S.files nmData) = B := ⟨_, rfl⟩
        rw [hO] at cO
        rw [hB] at cR
        have hpay := HK.out.1.pay
        obtain ⟨qw, cw, hu, -, -⟩ := id hpay
        subst hu
        have hBl : B.length ≤ 140737488351232 := by
          have ok := hdsk.ok
          have e1 := getF_le S.files nmData
          have e2 := ok.used
          have e3 := ok.room
          rw [← hB, bytesOf_length (fun s hs => by obtain ⟨x, hx, h1⟩ := getF_mem s hs; exact ok.secs x hx s h1)]
          omega
        have hpay2 : PayAt wr F (.slice qw rs.length cw) rs := hpay.mono fun k hk => .inl hk
        obtain ⟨L, hL⟩ : ∃ L, rs.length = L := ⟨_, rfl⟩
        have HE := Lib.hid (And.intro hk0 (And.intro hO (And.intro hB (And.intro hBl (And.intro hL hpay2)))))
        have hLb : L ≤ 40 := by omega
        rw [hL]
        clear hdsk hk0 hO hB hBl hpay hpay2
        go_wp2_with (first
          | (go_at_call 18; refine cO.mono ?_; rintro e w' ⟨rfl, hw'⟩; subst w')
          | (go_at_call 19; refine cR.mono ?_; rintro e w5 ⟨v5, rfl, h5, k5, b5⟩; have H5 := Lib.hid (And.intro h5 (And.intro k5 b5)); clear h5 k5 b5))
        go_loopw [108] (fun vj wz => ∃ (j : Nat) (F' : Nat → Prop), j ≤ 3 ∧ vj = .int .i64 (j : Int) ∧ Dsk w wz d S F' ∧ PayAt wz F' (.slice qw L cw) rs ∧ BytesAt wz F' v5 B) (fun vj _ => 3 - (intOf vj).toNat)
        case atStart => exact ⟨0, F, by omega, rfl, H5.out.1, by have := HE.out.2.2.2.2.2.kept (H5.out.2.1.mono fun _ h => h.elim) (F' := F) fun _ h => .inl h; rw [hL] at this; exact this, H5.out.2.2⟩
        case round =>
          obtain ⟨j, F6, hj, rfl, hd6, hp6, hb6⟩ := hrel
          by_cases hj3 : j < 3
          · have H6 := Lib.hid (And.intro hd6 (And.intro hp6 hb6))
            clear hd6 hp6 hb6
            go_wp2_with (go_at_call 11; refine Hid.out ?_)
            refine Lib.hid ?_
            have ho := H6.out.1.opens HK.out.1.idle.off HK.out.1.has.lays
            refine ho.mono ?_
            clear ho
            rintro e w7 ⟨p7, v7, F7, rfl, h7, hp7, -, f7, k7⟩
            rw [Nat.zero_mul, List.drop_zero] at hp7
            have hw7 := H6.out.2.1.kept k7 (F' := F7) f7
            have hv7 := H6.out.2.2.kept k7 (F' := F7) f7
            have cs := same_any hp7 hw7 (by omega) (loads_len HK.out.1.has.lays.loads)
            have cF : ∀ W, Kp (fun _ => False) w7 W → Calls Tryz.prog 20 #[.pointer (some ⟨p7, 0, none⟩)] W fun e w' => e = .returned (.int .i64 1) ∧ w' = W := fun W hW => by
              have := First_at (h7.lg.step hW).log.first
              rw [Nat.zero_mul] at this
              exact this
            have cN : ∀ W, Kp (fun _ => False) w7 W → Calls Tryz.prog 17 #[.pointer (some ⟨p7, 0, none⟩)] W fun e w' => e = .returned (.int .i64 ((L : Int) + 1)) ∧ w' = W := fun W hW => by
              have := Next_at (h7.lg.step hW).log.next
              rw [hL, Int.natCast_add, Int.natCast_one] at this
              exact this
            have cO7 : ∀ W, Kp (fun _ => False) w7 W → Calls Tryz.prog 18 #[.pointer (some ⟨d, 0, none⟩)] W fun e w' => e = .returned (.int .i64 O) ∧ W = w' := fun W hW => by
              have := (h7.lg.dsk.step hW).ops
              rw [HE.out.2.1] at this
              exact this
            have H7 := Lib.hid (And.intro h7 (And.intro hw7 hv7))
            clear hp7 hw7 hv7 h7 f7 k7
            go_wp2_with (first
              | (go_at_call 13; refine cs.mono ?_; rintro e w8 ⟨rfl, hk8⟩; have cF2 := cF _ hk8; have cN2 := cN _ hk8; have cO2 := cO7 _ hk8; have H8 := Lib.hid hk8; clear hk8)
              | (go_at_call 20; refine cF2.mono ?_; rintro e w' ⟨rfl, hw'⟩; subst w')
              | (go_at_call 17; refine cN2.mono ?_; rintro e w' ⟨rfl, hw'⟩; subst w')
              | (go_at_call 18; refine cO2.mono ?_; rintro e w' ⟨rfl, hw'⟩; subst w'))
            go_roundw
            case rel => exact ⟨j + 1, F7, by omega, by go_num, H7.out.1.lg.dsk.step H8.out, H7.out.2.1.kept (H8.out.mono fun _ h => h.elim) (F' := F7) fun _ h => .inl h, H7.out.2.2.kept (H8.out.mono fun _ h => h.elim) (F' := F7) fun _ h => .inl h⟩
            case measure => simp [intOf]; omega
          · obtain rfl : j = 3 := by omega
            have cR2 := hd6.read_ok nmData (by decide) HE.out.1
            rw [HE.out.2.2.1] at cR2
            have H6 := Lib.hid (And.intro hd6 (And.intro hp6 hb6))
            clear hd6 hp6 hb6
            go_wp2_with (first
              | (go_at_call 19; refine cR2.mono ?_; rintro e w9 ⟨v9, rfl, h9, k9, b9⟩; have csb := Same_bytes b9 (H6.out.2.2.kept (k9.mono fun _ h => h.elim) (F' := F6) fun _ h => .inl h) HE.out.2.2.2.1; rw [decide_eq_true rfl] at csb; have H9 := Lib.hid h9; clear h9 k9 b9)
              | (go_at_call 21; refine csb.mono ?_; rintro e w10 ⟨rfl, hk10⟩; have H10 := Lib.hid hk10; clear hk10))
            go_ret
            exact ⟨rfl, H9.out.kp.trans H10.out⟩
  · subst hm0
    go_wp2_with (first
      | (go_at_call 14; refine ctw.mono ?_; rintro e w8 ⟨g8, c8', rfl, a8', b8', -, d8, k8⟩; rw [H3.out.2.2.2]; have H8 := Lib.hid (And.intro a8' (And.intro b8' (And.intro d8 k8))); clear a8' b8' d8 k8)
      | (go_at_call 16; refine Hid.out ?_))
    refine Lib.hid ?_
    have hap := H3.out.1.lg.append_new (bs := st) H8.out.1 H8.out.2.2.1 H8.out.2.2.2 nmData (by decide) (by rw [H3.out.2.2.2]; omega)
    obtain ⟨a1, a2, a3, a4, a5, a6, a7, -⟩ := other_put (S := St.new 20000) (nm := nmData) (per := per) (bs := st) ⟨rfl, rfl⟩ (lays_nil (by omega)) (by decide) (by decide) (by decide) rfl (by decide) (by rw [H3.out.2.2.2]; exact hm3.1)
    rw [a1, H3.out.2.2.2] at hap
    obtain ⟨S1, hS1⟩ : ∃ S1, (St.new 20000).appT nmData st = S1 := ⟨_, rfl⟩
    rw [hS1] at hap a2 a3 a4 a5 a6 a7
    obtain ⟨b1, b2, b3, b4, b5, -, -, b8'⟩ := other_put (S := S1) (nm := nmL1) (per := per) (bs := [120]) a2 a3 (by decide) (by decide) (Nat.le_trans a6 (by decide)) a4 (Nat.le_trans a5 (by decide)) (by decide)
    obtain ⟨S2, hS2⟩ : ∃ S2, S1.appT nmL1 [120] = S2 := ⟨_, rfl⟩
    rw [hS2] at b2 b3 b4 b5 b8'
    have hu2 : used S2.files ≤ 8 := Nat.le_trans b5 (by have : used S1.files ≤ 0 + 4 := a5; omega)
    have H9 := Lib.hid (And.intro b1 (And.intro b2 (And.intro b3 (And.intro b4 (And.intro hu2 (And.intro (b8' nmData a7) hS2))))))
    clear a1 a2 a3 a4 a5 a6 a7 b1 b2 b3 b4 b5 b8' hu2 hS1 hS2
    refine hap.mono ?_
    clear hap
    rintro e w9 ⟨rfl, F9, h9, -, -⟩
    have H9' := Lib.hid h9
    have hcv := Lib.run_convert_bytes_const (P := Tryz.prog) w9 33 5 #[.int .u8 120] 1 1 (by kernel_rfl) (by kernel_rfl)
    have hap := (h9.step ((Kp.refl (fun _ => False) w9).alloc (.cells #[.int .u8 120] 5 (1, 2)))).append (const_bytes 120 h9.dsk.flt) (by decide) (by decide) nmL1 (by decide)
    rw [show ([120] : List Int).length = 1 from rfl] at hap
    have hE1 : S1.appE nmL1 1 = 0 := H9.out.1
    rw [hE1, H9.out.2.2.2.2.2.2] at hap
    clear h9 hE1
    go_wp2_with (go_at_call 16; refine Hid.out ?_)
    refine Lib.hid ?_
    refine hap.mono ?_
    clear hap hcv
    rintro e w10 ⟨rfl, F10, h10, -, -⟩
    have hkp10 : Keeps w w10 p d per [] [] S2 F10 (.slice none 0 0) := ⟨⟨h10, H9.out.2.2.1⟩, H9.out.2.1, RowP.nil _ _ _, fun k hk => by simp [Value.ownBlock] at hk⟩
    have H10 := Lib.hid hkp10
    clear h10 hkp10 H9'
    go_wp2
    go_loopw [68, 13] (fun vi vw wr => ∃ (i : Nat) (rs : List (List Int)) (S : St) (F : Nat → Prop), i ≤ pl ∧ i ≤ 40 ∧ vi = .int .i64 (i : Int) ∧ Keeps w wr p d per rs rs S F vw ∧ S.room = 20000 ∧ used S.files ≤ 8 + 10 * rs.length ∧ rs.length ≤ i ∧ (get S.files nmData).isSome = true) (fun i _ _ => pl - (intOf i).toNat)
    case atStart => exact ⟨0, [], S2, F10, Nat.zero_le _, by omega, rfl, H10.out, H9.out.2.2.2.1, H9.out.2.2.2.2.1, Nat.le_refl _, H9.out.2.2.2.2.2.1⟩
    case round =>
      obtain ⟨i, rs, S, F, hi1, hi2, rfl, hkp, hroom, hused, hl1, hdat⟩ := hrel
      clear H10 H9 H8 H3 H2
      have HK := Lib.hid (And.intro hkp (And.intro hroom (And.intro hused (And.intro hl1 hdat))))
      clear hkp hroom hused hdat
      by_cases hip : i < pl
      · obtain ⟨rb, ro, rq, rn, rc, bs, rfl, hcell0, hbs0, hby, hrn⟩ := HSS.out.2.2.2.1 i hip
        have hcell := HK.out.1.has.lg.dsk.kp.cell hcell0 id
        have hbs := hbs0.kept HK.out.1.has.lg.dsk.kp (F' := fun _ => False) fun _ h => .inl h
        clear hcell0
        by_cases hi40 : i < 40
        · have hrn2 : rn ≤ 9223372036854775807 := hrn
          clear hrn
          by_cases hn0 : rn = 0
          · subst hn0
            have hbe : bs = [] := List.eq_nil_of_length_eq_zero hbs.len.1.symm
            subst hbe
            have ctw := Twin_bytes hbs (by decide)
            clear hbs hbs0 hby hrn2
            rcases rq with _ | a9
            · go_wp2_with (first
                | (go_at_call 14; refine ctw.mono ?_; rintro e w8 ⟨g8, c8, rfl, -, -, -, -, k8⟩; have H8 := Lib.hid k8; clear k8 ctw)
                | (go_at_call 12; refine (LAppend_none w8 _ _ c8).mono ?_; rintro e w' ⟨rfl, hw'⟩; subst w'))
              go_roundw
              case rel => exact ⟨i + 1, rs, S, F, by omega, by omega, by go_num, HK.out.1.step H8.out, HK.out.2.1, HK.out.2.2.1, by omega, HK.out.2.2.2.2⟩
              case measure => simp [intOf]; omega
            · go_wp2_with (first
                | (go_at_call 14; refine ctw.mono ?_; rintro e w8 ⟨g8, c8, rfl, -, -, -, -, k8⟩; have H8 := Lib.hid k8; clear k8 ctw)
                | (go_at_call 12; refine (LAppend_none w8 _ _ c8).mono ?_; rintro e w' ⟨rfl, hw'⟩; subst w'))
              go_roundw
              case rel => exact ⟨i + 1, rs, S, F, by omega, by omega, by go_num, HK.out.1.step H8.out, HK.out.2.1, HK.out.2.2.1, by omega, HK.out.2.2.2.2⟩
              case measure => simp [intOf]; omega
          · obtain ⟨gb, go, gn, gc, ep⟩ := hbs.ptr (by have := hbs.len.1; omega)
            injection ep with e1 e2 e3
            subst e1 e2 e3
            obtain ⟨m, hm⟩ : ∃ m, min rn 200 = m := ⟨_, rfl⟩
            have hm1 : 1 ≤ m ∧ m ≤ 200 ∧ m ≤ rn := by omega
            have hmz' : min (rn : Int) 200 = (m : Int) := by omega
            have hmc' : m ≤ rc := Nat.le_trans hm1.2.2 hbs.len.2
            have hfr := hbs.front (m := m) hm1.2.2
            have hold := (hbs0.front (m := m) hm1.2.2).old
            obtain ⟨q, hq⟩ : ∃ q, bs.take m = q := ⟨_, rfl⟩
            rw [hq] at hfr hold
            have hql : q.length = m := hfr.len.1.symm
            have hqy : Byts q := by rw [← hq]; exact hby.take m
            have ctw := Twin_bytes hfr (by omega)
            have HB := Lib.hid (And.intro hfr (And.intro hql (And.intro hqy hold)))
            clear hbs hbs0 hold hfr hq hqy hby hm
            go_wp2_with (first
              | (go_at_call 14; refine ctw.mono ?_; rintro e w8 ⟨g8, c8, rfl, a8, b8, -, d8, k8⟩; rw [HB.out.2.1]; have H8 := Lib.hid (And.intro a8 (And.intro b8 (And.intro d8 k8))); clear a8 b8 d8 k8 ctw)
              | (go_at_call 12; refine Hid.out ?_))
            refine Lib.hid ?_
            have hb8 := own_at (F := fun k => F k ∨ k = p) HK.out.1.lt H8.out.1 H8.out.2.1 H8.out.2.2.1
            rw [HB.out.2.1] at hb8
            have hkp8 := HK.out.1.step H8.out.2.2.2
            have hap := hkp8.has.append2 hkp8.idle hb8 ⟨by rw [HB.out.2.1]; omega, by rw [HB.out.2.1]; omega, HB.out.2.2.1⟩ (by omega) (by rw [HK.out.2.1, HB.out.2.1]; have := HK.out.2.2.1; unfold partsN; omega) (Nat.le_trans (Nat.div_le_self _ _) (by omega))
            refine hap.mono ?_
            clear hap hb8
            rintro e w9 ⟨rfl, S9, F9, h9, i9, g9, e9, f9, k9⟩
            have hkp9 := hkp8.moved h9 i9 f9 k9
            have hx9 : BytesAt w9 (fun k => (F9 k ∨ k = p) ∨ u13.ownBlock = some k) (.slice (some ⟨gb, go, none⟩) m rc) q := by
              exact (HB.out.2.2.2.kept (hkp9.has.lg.dsk.kp.mono fun _ h => h.elim) (F' := fun k => w.heap.size ≤ k) fun _ h => .inl h).mono fun k hk => by
                rcases hk with (hk | rfl) | hk
                · exact hkp9.has.lg.dsk.new k hk
                · exact hkp9.has.lg.new
                · exact (hkp9.row.lt k hk).1
            obtain ⟨v10, w10, hap10, hkp10, -⟩ := hkp9.push hx9 (by omega) 29
            have hu9 : used S9.files ≤ 8 + 10 * (rs ++ [q]).length := by rw [g9.used, HB.out.2.1, List.length_append]; have := HK.out.2.2.1; simp only [List.length_cons, List.length_nil]; unfold partsN; omega
            have H9 := Lib.hid (And.intro hkp10 (And.intro (g9.room.trans HK.out.2.1) (And.intro hu9 (e9 nmData HK.out.2.2.2.2))))
            clear h9 i9 g9 f9 k9 e9 hkp9 hx9 hkp10 hu9 hkp8
            go_wp2_with (at_builtin; refine wpList_append_run rfl _ _ _ _ rfl rfl rfl hap10 ?_)
            go_roundw
            case rel => exact ⟨i + 1, rs ++ [q], S9, F9, by omega, by omega, by go_num, H9.out.1, H9.out.2.1, H9.out.2.2.1, by rw [List.length_append]; simp; omega, H9.out.2.2.2⟩
            case measure => simp [intOf]; omega
        · obtain rfl : i = 40 := by omega
          clear hbs hbs0 hby hrn
          have hdsk := HK.out.1.has.lg.dsk
          have cO := hdsk.ops
          have hk0 : S.check nmData true = 0 := HK.out.1.idle.there (by decide) HK.out.2.2.2.2
          have cR := hdsk.read_ok nmData (by decide) hk0
          obtain ⟨O, hO⟩ : ∃ O, S.ops = O := ⟨_, rfl⟩
          obtain ⟨B, hB⟩ : ∃ B, bytesOf (getF S.files nmData) = B := ⟨_, rfl⟩
          rw [hO] at cO
          rw [hB] at cR
          have hpay := HK.out.1.pay
          obtain ⟨qw, cw, hu, -, -⟩ := id hpay
          subst hu
          have hBl : B.length ≤ 140737488351232 := by
            have ok := hdsk.ok
            have e1 := getF_le S.files nmData
            have e2 := ok.used
            have e3 := ok.room
            rw [← hB, bytesOf_length (fun s hs => by obtain ⟨x, hx, h1⟩ := getF_mem s hs; exact ok.secs x hx s h1)]
            omega
          have hpay2 : PayAt wr F (.slice qw rs.length cw) rs := hpay.mono fun k hk => .inl hk
          obtain ⟨L, hL⟩ : ∃ L, rs.length = L := ⟨_, rfl⟩
          have HE := Lib.hid (And.intro hk0 (And.intro hO (And.intro hB (And.intro hBl (And.intro hL hpay2)))))
          have hLb : L ≤ 40 := by omega
          rw [hL]
          clear hdsk hk0 hO hB hBl hpay hpay2
          go_wp2_with (first
            | (go_at_call 18; refine cO.mono ?_; rintro e w' ⟨rfl, hw'⟩; subst w')
            | (go_at_call 19; refine cR.mono ?_; rintro e w5 ⟨v5, rfl, h5, k5, b5⟩; have H5 := Lib.hid (And.intro h5 (And.intro k5 b5)); clear h5 k5 b5))
          go_loopw [108] (fun vj wz => ∃ (j : Nat) (F' : Nat → Prop), j ≤ 3 ∧ vj = .int .i64 (j : Int) ∧ Dsk w wz d S F' ∧ PayAt wz F' (.slice qw L cw) rs ∧ BytesAt wz F' v5 B) (fun vj _ => 3 - (intOf vj).toNat)
          case atStart => exact ⟨0, F, by omega, rfl, H5.out.1, by have := HE.out.2.2.2.2.2.kept (H5.out.2.1.mono fun _ h => h.elim) (F' := F) fun _ h => .inl h; rw [hL] at this; exact this, H5.out.2.2⟩
          case round =>
            obtain ⟨j, F6, hj, rfl, hd6, hp6, hb6⟩ := hrel
            by_cases hj3 : j < 3
            · have H6 := Lib.hid (And.intro hd6 (And.intro hp6 hb6))
              clear hd6 hp6 hb6
              go_wp2_with (go_at_call 11; refine Hid.out ?_)
              refine Lib.hid ?_
              have ho := H6.out.1.opens HK.out.1.idle.off HK.out.1.has.lays
              refine ho.mono ?_
              clear ho
              rintro e w7 ⟨p7, v7, F7, rfl, h7, hp7, -, f7, k7⟩
              rw [Nat.zero_mul, List.drop_zero] at hp7
              have hw7 := H6.out.2.1.kept k7 (F' := F7) f7
              have hv7 := H6.out.2.2.kept k7 (F' := F7) f7
              have cs := same_any hp7 hw7 (by omega) (loads_len HK.out.1.has.lays.loads)
              have cF : ∀ W, Kp (fun _ => False) w7 W → Calls Tryz.prog 20 #[.pointer (some ⟨p7, 0, none⟩)] W fun e w' => e = .returned (.int .i64 1) ∧ w' = W := fun W hW => by
                have := First_at (h7.lg.step hW).log.first
                rw [Nat.zero_mul] at this
                exact this
              have cN : ∀ W, Kp (fun _ => False) w7 W → Calls Tryz.prog 17 #[.pointer (some ⟨p7, 0, none⟩)] W fun e w' => e = .returned (.int .i64 ((L : Int) + 1)) ∧ w' = W := fun W hW => by
                have := Next_at (h7.lg.step hW).log.next
                rw [hL, Int.natCast_add, Int.natCast_one] at this
                exact this
              have cO7 : ∀ W, Kp (fun _ => False) w7 W → Calls Tryz.prog 18 #[.pointer (some ⟨d, 0, none⟩)] W fun e w' => e = .returned (.int .i64 O) ∧ W = w' := fun W hW => by
                have := (h7.lg.dsk.step hW).ops
                rw [HE.out.2.1] at this
                exact this
              have H7 := Lib.hid (And.intro h7 (And.intro hw7 hv7))
              clear hp7 hw7 hv7 h7 f7 k7
              go_wp2_with (first
                | (go_at_call 13; refine cs.mono ?_; rintro e w8 ⟨rfl, hk8⟩; have cF2 := cF _ hk8; have cN2 := cN _ hk8; have cO2 := cO7 _ hk8; have H8 := Lib.hid hk8; clear hk8)
                | (go_at_call 20; refine cF2.mono ?_; rintro e w' ⟨rfl, hw'⟩; subst w')
                | (go_at_call 17; refine cN2.mono ?_; rintro e w' ⟨rfl, hw'⟩; subst w')
                | (go_at_call 18; refine cO2.mono ?_; rintro e w' ⟨rfl, hw'⟩; subst w'))
              go_roundw
              case rel => exact ⟨j + 1, F7, by omega, by go_num, H7.out.1.lg.dsk.step H8.out, H7.out.2.1.kept (H8.out.mono fun _ h => h.elim) (F' := F7) fun _ h => .inl h, H7.out.2.2.kept (H8.out.mono fun _ h => h.elim) (F' := F7) fun _ h => .inl h⟩
              case measure => simp [intOf]; omega
            · obtain rfl : j = 3 := by omega
              have cR2 := hd6.read_ok nmData (by decide) HE.out.1
              rw [HE.out.2.2.1] at cR2
              have H6 := Lib.hid (And.intro hd6 (And.intro hp6 hb6))
              clear hd6 hp6 hb6
              go_wp2_with (first
                | (go_at_call 19; refine cR2.mono ?_; rintro e w9 ⟨v9, rfl, h9, k9, b9⟩; have csb := Same_bytes b9 (H6.out.2.2.kept (k9.mono fun _ h => h.elim) (F' := F6) fun _ h => .inl h) HE.out.2.2.2.1; rw [decide_eq_true rfl] at csb; have H9 := Lib.hid h9; clear h9 k9 b9)
                | (go_at_call 21; refine csb.mono ?_; rintro e w10 ⟨rfl, hk10⟩; have H10 := Lib.hid hk10; clear hk10))
              go_ret
              exact ⟨rfl, H9.out.kp.trans H10.out⟩
      · obtain rfl : i = pl := by omega
        have hdsk := HK.out.1.has.lg.dsk
        have cO := hdsk.ops
        have hk0 : S.check nmData true = 0 := HK.out.1.idle.there (by decide) HK.out.2.2.2.2
        have cR := hdsk.read_ok nmData (by decide) hk0
        obtain ⟨O, hO⟩ : ∃ O, S.ops = O := ⟨_, rfl⟩
        obtain ⟨B, hB⟩ : ∃ B, bytesOf (getF S.files nmData) = B := ⟨_, rfl⟩
        rw [hO] at cO
        rw [hB] at cR
        have hpay := HK.out.1.pay
        obtain ⟨qw, cw, hu, -, -⟩ := id hpay
        subst hu
        have hBl : B.length ≤ 140737488351232 := by
          have ok := hdsk.ok
          have e1 := getF_le S.files nmData
          have e2 := ok.used
          have e3 := ok.room
          rw [← hB, bytesOf_length (fun s hs => by obtain ⟨x, hx, h1⟩ := getF_mem s hs; exact ok.secs x hx s h1)]
          omega
        have hpay2 : PayAt wr F (.slice qw rs.length cw) rs := hpay.mono fun k hk => .inl hk
        obtain ⟨L, hL⟩ : ∃ L, rs.length = L := ⟨_, rfl⟩
        have HE := Lib.hid (And.intro hk0 (And.intro hO (And.intro hB (And.intro hBl (And.intro hL hpay2)))))
        have hLb : L ≤ 40 := by omega
        rw [hL]
        clear hdsk hk0 hO hB hBl hpay hpay2
        go_wp2_with (first
          | (go_at_call 18; refine cO.mono ?_; rintro e w' ⟨rfl, hw'⟩; subst w')
          | (go_at_call 19; refine cR.mono ?_; rintro e w5 ⟨v5, rfl, h5, k5, b5⟩; have H5 := Lib.hid (And.intro h5 (And.intro k5 b5)); clear h5 k5 b5))
        go_loopw [108] (fun vj wz => ∃ (j : Nat) (F' : Nat → Prop), j ≤ 3 ∧ vj = .int .i64 (j : Int) ∧ Dsk w wz d S F' ∧ PayAt wz F' (.slice qw L cw) rs ∧ BytesAt wz F' v5 B) (fun vj _ => 3 - (intOf vj).toNat)
        case atStart => exact ⟨0, F, by omega, rfl, H5.out.1, by have := HE.out.2.2.2.2.2.kept (H5.out.2.1.mono fun _ h => h.elim) (F' := F) fun _ h => .inl h; rw [hL] at this; exact this, H5.out.2.2⟩
        case round =>
          obtain ⟨j, F6, hj, rfl, hd6, hp6, hb6⟩ := hrel
          by_cases hj3 : j < 3
          · have H6 := Lib.hid (And.intro hd6 (And.intro hp6 hb6))
            clear hd6 hp6 hb6
            go_wp2_with (go_at_call 11; refine Hid.out ?_)
            refine Lib.hid ?_
            have ho := H6.out.1.opens HK.out.1.idle.off HK.out.1.has.lays
            refine ho.mono ?_
            clear ho
            rintro e w7 ⟨p7, v7, F7, rfl, h7, hp7, -, f7, k7⟩
            rw [Nat.zero_mul, List.drop_zero] at hp7
            have hw7 := H6.out.2.1.kept k7 (F' := F7) f7
            have hv7 := H6.out.2.2.kept k7 (F' := F7) f7
            have cs := same_any hp7 hw7 (by omega) (loads_len HK.out.1.has.lays.loads)
            have cF : ∀ W, Kp (fun _ => False) w7 W → Calls Tryz.prog 20 #[.pointer (some ⟨p7, 0, none⟩)] W fun e w' => e = .returned (.int .i64 1) ∧ w' = W := fun W hW => by
              have := First_at (h7.lg.step hW).log.first
              rw [Nat.zero_mul] at this
              exact this
            have cN : ∀ W, Kp (fun _ => False) w7 W → Calls Tryz.prog 17 #[.pointer (some ⟨p7, 0, none⟩)] W fun e w' => e = .returned (.int .i64 ((L : Int) + 1)) ∧ w' = W := fun W hW => by
              have := Next_at (h7.lg.step hW).log.next
              rw [hL, Int.natCast_add, Int.natCast_one] at this
              exact this
            have cO7 : ∀ W, Kp (fun _ => False) w7 W → Calls Tryz.prog 18 #[.pointer (some ⟨d, 0, none⟩)] W fun e w' => e = .returned (.int .i64 O) ∧ W = w' := fun W hW => by
              have := (h7.lg.dsk.step hW).ops
              rw [HE.out.2.1] at this
              exact this
            have H7 := Lib.hid (And.intro h7 (And.intro hw7 hv7))
            clear hp7 hw7 hv7 h7 f7 k7
            go_wp2_with (first
              | (go_at_call 13; refine cs.mono ?_; rintro e w8 ⟨rfl, hk8⟩; have cF2 := cF _ hk8; have cN2 := cN _ hk8; have cO2 := cO7 _ hk8; have H8 := Lib.hid hk8; clear hk8)
              | (go_at_call 20; refine cF2.mono ?_; rintro e w' ⟨rfl, hw'⟩; subst w')
              | (go_at_call 17; refine cN2.mono ?_; rintro e w' ⟨rfl, hw'⟩; subst w')
              | (go_at_call 18; refine cO2.mono ?_; rintro e w' ⟨rfl, hw'⟩; subst w'))
            go_roundw
            case rel => exact ⟨j + 1, F7, by omega, by go_num, H7.out.1.lg.dsk.step H8.out, H7.out.2.1.kept (H8.out.mono fun _ h => h.elim) (F' := F7) fun _ h => .inl h, H7.out.2.2.kept (H8.out.mono fun _ h => h.elim) (F' := F7) fun _ h => .inl h⟩
            case measure => simp [intOf]; omega
          · obtain rfl : j = 3 := by omega
            have cR2 := hd6.read_ok nmData (by decide) HE.out.1
            rw [HE.out.2.2.1] at cR2
            have H6 := Lib.hid (And.intro hd6 (And.intro hp6 hb6))
            clear hd6 hp6 hb6
            go_wp2_with (first
              | (go_at_call 19; refine cR2.mono ?_; rintro e w9 ⟨v9, rfl, h9, k9, b9⟩; have csb := Same_bytes b9 (H6.out.2.2.kept (k9.mono fun _ h => h.elim) (F' := F6) fun _ h => .inl h) HE.out.2.2.2.1; rw [decide_eq_true rfl] at csb; have H9 := Lib.hid h9; clear h9 k9 b9)
              | (go_at_call 21; refine csb.mono ?_; rintro e w10 ⟨rfl, hk10⟩; have H10 := Lib.hid hk10; clear hk10))
            go_ret
            exact ⟨rfl, H9.out.kp.trans H10.out⟩
  · subst hm0
    go_wp2_with (first
      | (go_at_call 14; refine ctw.mono ?_; rintro e w8 ⟨g8, c8', rfl, a8', b8', -, d8, k8⟩; rw [H3.out.2.2.2]; have H8 := Lib.hid (And.intro a8' (And.intro b8' (And.intro d8 k8))); clear a8' b8' d8 k8)
      | (go_at_call 16; refine Hid.out ?_))
    refine Lib.hid ?_
    have hap := H3.out.1.lg.append_new (bs := st) H8.out.1 H8.out.2.2.1 H8.out.2.2.2 nmData (by decide) (by rw [H3.out.2.2.2]; omega)
    obtain ⟨a1, a2, a3, a4, a5, a6, a7, -⟩ := other_put (S := St.new 20000) (nm := nmData) (per := per) (bs := st) ⟨rfl, rfl⟩ (lays_nil (by omega)) (by decide) (by decide) (by decide) rfl (by decide) (by rw [H3.out.2.2.2]; exact hm3.1)
    rw [a1, H3.out.2.2.2] at hap
    obtain ⟨S1, hS1⟩ : ∃ S1, (St.new 20000).appT nmData st = S1 := ⟨_, rfl⟩
    rw [hS1] at hap a2 a3 a4 a5 a6 a7
    obtain ⟨b1, b2, b3, b4, b5, -, -, b8'⟩ := other_put (S := S1) (nm := nmL1) (per := per) (bs := [120]) a2 a3 (by decide) (by decide) (Nat.le_trans a6 (by decide)) a4 (Nat.le_trans a5 (by decide)) (by decide)
    obtain ⟨S2, hS2⟩ : ∃ S2, S1.appT nmL1 [120] = S2 := ⟨_, rfl⟩
    rw [hS2] at b2 b3 b4 b5 b8'
    have hu2 : used S2.files ≤ 8 := Nat.le_trans b5 (by have : used S1.files ≤ 0 + 4 := a5; omega)
    have H9 := Lib.hid (And.intro b1 (And.intro b2 (And.intro b3 (And.intro b4 (And.intro hu2 (And.intro (b8' nmData a7) hS2))))))
    clear a1 a2 a3 a4 a5 a6 a7 b1 b2 b3 b4 b5 b8' hu2 hS1 hS2
    refine hap.mono ?_
    clear hap
    rintro e w9 ⟨rfl, F9, h9, -, -⟩
    have H9' := Lib.hid h9
    have hcv := Lib.run_convert_bytes_const (P := Tryz.prog) w9 33 5 #[.int .u8 120] 1 1 (by kernel_rfl) (by kernel_rfl)
    have hap := (h9.step ((Kp.refl (fun _ => False) w9).alloc (.cells #[.int .u8 120] 5 (1, 2)))).append (const_bytes 120 h9.dsk.flt) (by decide) (by decide) nmL1 (by decide)
    rw [show ([120] : List Int).length = 1 from rfl] at hap
    have hE1 : S1.appE nmL1 1 = 0 := H9.out.1
    rw [hE1, H9.out.2.2.2.2.2.2] at hap
    clear h9 hE1
    go_wp2_with (go_at_call 16; refine Hid.out ?_)
    refine Lib.hid ?_
    refine hap.mono ?_
    clear hap hcv
    rintro e w10 ⟨rfl, F10, h10, -, -⟩
    have hkp10 : Keeps w w10 p d per [] [] S2 F10 (.slice none 0 0) := ⟨⟨h10, H9.out.2.2.1⟩, H9.out.2.1, RowP.nil _ _ _, fun k hk => by simp [Value.ownBlock] at hk⟩
    have H10 := Lib.hid hkp10
    clear h10 hkp10 H9'
    go_wp2
    go_loopw [68, 13] (fun vi vw wr => ∃ (i : Nat) (rs : List (List Int)) (S : St) (F : Nat → Prop), i ≤ pl ∧ i ≤ 40 ∧ vi = .int .i64 (i : Int) ∧ Keeps w wr p d per rs rs S F vw ∧ S.room = 20000 ∧ used S.files ≤ 8 + 10 * rs.length ∧ rs.length ≤ i ∧ (get S.files nmData).isSome = true) (fun i _ _ => pl - (intOf i).toNat)
    case atStart => exact ⟨0, [], S2, F10, Nat.zero_le _, by omega, rfl, H10.out, H9.out.2.2.2.1, H9.out.2.2.2.2.1, Nat.le_refl _, H9.out.2.2.2.2.2.1⟩
    case round =>
      obtain ⟨i, rs, S, F, hi1, hi2, rfl, hkp, hroom, hused, hl1, hdat⟩ := hrel
      clear H10 H9 H8 H3 H2
      have HK := Lib.hid (And.intro hkp (And.intro hroom (And.intro hused (And.intro hl1 hdat))))
      clear hkp hroom hused hdat
      by_cases hip : i < pl
      · obtain ⟨rb, ro, rq, rn, rc, bs, rfl, hcell0, hbs0, hby, hrn⟩ := HSS.out.2.2.2.1 i hip
        have hcell := HK.out.1.has.lg.dsk.kp.cell hcell0 id
        have hbs := hbs0.kept HK.out.1.has.lg.dsk.kp (F' := fun _ => False) fun _ h => .inl h
        clear hcell0
        by_cases hi40 : i < 40
        · have hrn2 : rn ≤ 9223372036854775807 := hrn
          clear hrn
          by_cases hn0 : rn = 0
          · subst hn0
            have hbe : bs = [] := List.eq_nil_of_length_eq_zero hbs.len.1.symm
            subst hbe
            have ctw := Twin_bytes hbs (by decide)
            clear hbs hbs0 hby hrn2
            rcases rq with _ | a9
            · go_wp2_with (first
                | (go_at_call 14; refine ctw.mono ?_; rintro e w8 ⟨g8, c8, rfl, -, -, -, -, k8⟩; have H8 := Lib.hid k8; clear k8 ctw)
                | (go_at_call 12; refine (LAppend_none w8 _ _ c8).mono ?_; rintro e w' ⟨rfl, hw'⟩; subst w'))
              go_roundw
              case rel => exact ⟨i + 1, rs, S, F, by omega, by omega, by go_num, HK.out.1.step H8.out, HK.out.2.1, HK.out.2.2.1, by omega, HK.out.2.2.2.2⟩
              case measure => simp [intOf]; omega
            · go_wp2_with (first
                | (go_at_call 14; refine ctw.mono ?_; rintro e w8 ⟨g8, c8, rfl, -, -, -, -, k8⟩; have H8 := Lib.hid k8; clear k8 ctw)
                | (go_at_call 12; refine (LAppend_none w8 _ _ c8).mono ?_; rintro e w' ⟨rfl, hw'⟩; subst w'))
              go_roundw
              case rel => exact ⟨i + 1, rs, S, F, by omega, by omega, by go_num, HK.out.1.step H8.out, HK.out.2.1, HK.out.2.2.1, by omega, HK.out.2.2.2.2⟩
              case measure => simp [intOf]; omega
          · obtain ⟨gb, go, gn, gc, ep⟩ := hbs.ptr (by have := hbs.len.1; omega)
            injection ep with e1 e2 e3
            subst e1 e2 e3
            obtain ⟨m, hm⟩ : ∃ m, min rn 200 = m := ⟨_, rfl⟩
            have hm1 : 1 ≤ m ∧ m ≤ 200 ∧ m ≤ rn := by omega
            have hmz' : min (rn : Int) 200 = (m : Int) := by omega
            have hmc' : m ≤ rc := Nat.le_trans hm1.2.2 hbs.len.2
            have hfr := hbs.front (m := m) hm1.2.2
            have hold := (hbs0.front (m := m) hm1.2.2).old
            obtain ⟨q, hq⟩ : ∃ q, bs.take m = q := ⟨_, rfl⟩
            rw [hq] at hfr hold
            have hql : q.length = m := hfr.len.1.symm
            have hqy : Byts q := by rw [← hq]; exact hby.take m
            have ctw := Twin_bytes hfr (by omega)
            have HB := Lib.hid (And.intro hfr (And.intro hql (And.intro hqy hold)))
            clear hbs hbs0 hold hfr hq hqy hby hm
            go_wp2_with (first
              | (go_at_call 14; refine ctw.mono ?_; rintro e w8 ⟨g8, c8, rfl, a8, b8, -, d8, k8⟩; rw [HB.out.2.1]; have H8 := Lib.hid (And.intro a8 (And.intro b8 (And.intro d8 k8))); clear a8 b8 d8 k8 ctw)
              | (go_at_call 12; refine Hid.out ?_))
            refine Lib.hid ?_
            have hb8 := own_at (F := fun k => F k ∨ k = p) HK.out.1.lt H8.out.1 H8.out.2.1 H8.out.2.2.1
            rw [HB.out.2.1] at hb8
            have hkp8 := HK.out.1.step H8.out.2.2.2
            have hap := hkp8.has.append2 hkp8.idle hb8 ⟨by rw [HB.out.2.1]; omega, by rw [HB.out.2.1]; omega, HB.out.2.2.1⟩ (by omega) (by rw [HK.out.2.1, HB.out.2.1]; have := HK.out.2.2.1; unfold partsN; omega) (Nat.le_trans (Nat.div_le_self _ _) (by omega))
            refine hap.mono ?_
            clear hap hb8
            rintro e w9 ⟨rfl, S9, F9, h9, i9, g9, e9, f9, k9⟩
            have hkp9 := hkp8.moved h9 i9 f9 k9
            have hx9 : BytesAt w9 (fun k => (F9 k ∨ k = p) ∨ u13.ownBlock = some k) (.slice (some ⟨gb, go, none⟩) m rc) q := by
              exact (HB.out.2.2.2.kept (hkp9.has.lg.dsk.kp.mono fun _ h => h.elim) (F' := fun k => w.heap.size ≤ k) fun _ h => .inl h).mono fun k hk => by
                rcases hk with (hk | rfl) | hk
                · exact hkp9.has.lg.dsk.new k hk
                · exact hkp9.has.lg.new
                · exact (hkp9.row.lt k hk).1
            obtain ⟨v10, w10, hap10, hkp10, -⟩ := hkp9.push hx9 (by omega) 29
            have hu9 : used S9.files ≤ 8 + 10 * (rs ++ [q]).length := by rw [g9.used, HB.out.2.1, List.length_append]; have := HK.out.2.2.1; simp only [List.length_cons, List.length_nil]; unfold partsN; omega
            have H9 := Lib.hid (And.intro hkp10 (And.intro (g9.room.trans HK.out.2.1) (And.intro hu9 (e9 nmData HK.out.2.2.2.2))))
            clear h9 i9 g9 f9 k9 e9 hkp9 hx9 hkp10 hu9 hkp8
            go_wp2_with (at_builtin; refine wpList_append_run rfl _ _ _ _ rfl rfl rfl hap10 ?_)
            go_roundw
            case rel => exact ⟨i + 1, rs ++ [q], S9, F9, by omega, by omega, by go_num, H9.out.1, H9.out.2.1, H9.out.2.2.1, by rw [List.length_append]; simp; omega, H9.out.2.2.2⟩
            case measure => simp [intOf]; omega
        · obtain rfl : i = 40 := by omega
          clear hbs hbs0 hby hrn
          have hdsk := HK.out.1.has.lg.dsk
          have cO := hdsk.ops
          have hk0 : S.check nmData true = 0 := HK.out.1.idle.there (by decide) HK.out.2.2.2.2
          have cR := hdsk.read_ok nmData (by decide) hk0
          obtain ⟨O, hO⟩ : ∃ O, S.ops = O := ⟨_, rfl⟩
          obtain ⟨B, hB⟩ : ∃ B, bytesOf (getF S.files nmData) = B := ⟨_, rfl⟩
          rw [hO] at cO
          rw [hB] at cR
          have hpay := HK.out.1.pay
          obtain ⟨qw, cw, hu, -, -⟩ := id hpay
          subst hu
          have hBl : B.length ≤ 140737488351232 := by
            have ok := hdsk.ok
            have e1 := getF_le S.files nmData
            have e2 := ok.used
            have e3 := ok.room
            rw [← hB, bytesOf_length (fun s hs => by obtain ⟨x, hx, h1⟩ := getF_mem s hs; exact ok.secs x hx s h1)]
            omega
          have hpay2 : PayAt wr F (.slice qw rs.length cw) rs := hpay.mono fun k hk => .inl hk
          obtain ⟨L, hL⟩ : ∃ L, rs.length = L := ⟨_, rfl⟩
          have HE := Lib.hid (And.intro hk0 (And.intro hO (And.intro hB (And.intro hBl (And.intro hL hpay2)))))
          have hLb : L ≤ 40 := by omega
          rw [hL]
          clear hdsk hk0 hO hB hBl hpay hpay2
          go_wp2_with (first
            | (go_at_call 18; refine cO.mono ?_; rintro e w' ⟨rfl, hw'⟩; subst w')
            | (go_at_call 19; refine cR.mono ?_; rintro e w5 ⟨v5, rfl, h5, k5, b5⟩; have H5 := Lib.hid (And.intro h5 (And.intro k5 b5)); clear h5 k5 b5))
          go_loopw [108] (fun vj wz => ∃ (j : Nat) (F' : Nat → Prop), j ≤ 3 ∧ vj = .int .i64 (j : Int) ∧ Dsk w wz d S F' ∧ PayAt wz F' (.slice qw L cw) rs ∧ BytesAt wz F' v5 B) (fun vj _ => 3 - (intOf vj).toNat)
          case atStart => exact ⟨0, F, by omega, rfl, H5.out.1, by have := HE.out.2.2.2.2.2.kept (H5.out.2.1.mono fun _ h => h.elim) (F' := F) fun _ h => .inl h; rw [hL] at this; exact this, H5.out.2.2⟩
          case round =>
            obtain ⟨j, F6, hj, rfl, hd6, hp6, hb6⟩ := hrel
            by_cases hj3 : j < 3
            · have H6 := Lib.hid (And.intro hd6 (And.intro hp6 hb6))
              clear hd6 hp6 hb6
              go_wp2_with (go_at_call 11; refine Hid.out ?_)
              refine Lib.hid ?_
              have ho := H6.out.1.opens HK.out.1.idle.off HK.out.1.has.lays
              refine ho.mono ?_
              clear ho
              rintro e w7 ⟨p7, v7, F7, rfl, h7, hp7, -, f7, k7⟩
              rw [Nat.zero_mul, List.drop_zero] at hp7
              have hw7 := H6.out.2.1.kept k7 (F' := F7) f7
              have hv7 := H6.out.2.2.kept k7 (F' := F7) f7
              have cs := same_any hp7 hw7 (by omega) (loads_len HK.out.1.has.lays.loads)
              have cF : ∀ W, Kp (fun _ => False) w7 W → Calls Tryz.prog 20 #[.pointer (some ⟨p7, 0, none⟩)] W fun e w' => e = .returned (.int .i64 1) ∧ w' = W := fun W hW => by
                have := First_at (h7.lg.step hW).log.first
                rw [Nat.zero_mul] at this
                exact this
              have cN : ∀ W, Kp (fun _ => False) w7 W → Calls Tryz.prog 17 #[.pointer (some ⟨p7, 0, none⟩)] W fun e w' => e = .returned (.int .i64 ((L : Int) + 1)) ∧ w' = W := fun W hW => by
                have := Next_at (h7.lg.step hW).log.next
                rw [hL, Int.natCast_add, Int.natCast_one] at this
                exact this
              have cO7 : ∀ W, Kp (fun _ => False) w7 W → Calls Tryz.prog 18 #[.pointer (some ⟨d, 0, none⟩)] W fun e w' => e = .returned (.int .i64 O) ∧ W = w' := fun W hW => by
                have := (h7.lg.dsk.step hW).ops
                rw [HE.out.2.1] at this
                exact this
              have H7 := Lib.hid (And.intro h7 (And.intro hw7 hv7))
              clear hp7 hw7 hv7 h7 f7 k7
              go_wp2_with (first
                | (go_at_call 13; refine cs.mono ?_; rintro e w8 ⟨rfl, hk8⟩; have cF2 := cF _ hk8; have cN2 := cN _ hk8; have cO2 := cO7 _ hk8; have H8 := Lib.hid hk8; clear hk8)
                | (go_at_call 20; refine cF2.mono ?_; rintro e w' ⟨rfl, hw'⟩; subst w')
                | (go_at_call 17; refine cN2.mono ?_; rintro e w' ⟨rfl, hw'⟩; subst w')
                | (go_at_call 18; refine cO2.mono ?_; rintro e w' ⟨rfl, hw'⟩; subst w'))
              go_roundw
              case rel => exact ⟨j + 1, F7, by omega, by go_num, H7.out.1.lg.dsk.step H8.out, H7.out.2.1.kept (H8.out.mono fun _ h => h.elim) (F' := F7) fun _ h => .inl h, H7.out.2.2.kept (H8.out.mono fun _ h => h.elim) (F' := F7) fun _ h => .inl h⟩
              case measure => simp [intOf]; omega
            · obtain rfl : j = 3 := by omega
              have cR2 := hd6.read_ok nmData (by decide) HE.out.1
              rw [HE.out.2.2.1] at cR2
              have H6 := Lib.hid (And.intro hd6 (And.intro hp6 hb6))
              clear hd6 hp6 hb6
              go_wp2_with (first
                | (go_at_call 19; refine cR2.mono ?_; rintro e w9 ⟨v9, rfl, h9, k9, b9⟩; have csb := Same_bytes b9 (H6.out.2.2.kept (k9.mono fun _ h => h.elim) (F' := F6) fun _ h => .inl h) HE.out.2.2.2.1; rw [decide_eq_true rfl] at csb; have H9 := Lib.hid h9; clear h9 k9 b9)
                | (go_at_call 21; refine csb.mono ?_; rintro e w10 ⟨rfl, hk10⟩; have H10 := Lib.hid hk10; clear hk10))
              go_ret
              exact ⟨rfl, H9.out.kp.trans H10.out⟩
      · obtain rfl : i = pl := by omega
        have hdsk := HK.out.1.has.lg.dsk
        have cO := hdsk.ops
        have hk0 : S.check nmData true = 0 := HK.out.1.idle.there (by decide) HK.out.2.2.2.2
        have cR := hdsk.read_ok nmData (by decide) hk0
        obtain ⟨O, hO⟩ : ∃ O, S.ops = O := ⟨_, rfl⟩
        obtain ⟨B, hB⟩ : ∃ B, bytesOf (getF S.files nmData) = B := ⟨_, rfl⟩
        rw [hO] at cO
        rw [hB] at cR
        have hpay := HK.out.1.pay
        obtain ⟨qw, cw, hu, -, -⟩ := id hpay
        subst hu
        have hBl : B.length ≤ 140737488351232 := by
          have ok := hdsk.ok
          have e1 := getF_le S.files nmData
          have e2 := ok.used
          have e3 := ok.room
          rw [← hB, bytesOf_length (fun s hs => by obtain ⟨x, hx, h1⟩ := getF_mem s hs; exact ok.secs x hx s h1)]
          omega
        have hpay2 : PayAt wr F (.slice qw rs.length cw) rs := hpay.mono fun k hk => .inl hk
        obtain ⟨L, hL⟩ : ∃ L, rs.length = L := ⟨_, rfl⟩
        have HE := Lib.hid (And.intro hk0 (And.intro hO (And.intro hB (And.intro hBl (And.intro hL hpay2)))))
        have hLb : L ≤ 40 := by omega
        rw [hL]
        clear hdsk hk0 hO hB hBl hpay hpay2
        go_wp2_with (first
          | (go_at_call 18; refine cO.mono ?_; rintro e w' ⟨rfl, hw'⟩; subst w')
          | (go_at_call 19; refine cR.mono ?_; rintro e w5 ⟨v5, rfl, h5, k5, b5⟩; have H5 := Lib.hid (And.intro h5 (And.intro k5 b5)); clear h5 k5 b5))
        go_loopw [108] (fun vj wz => ∃ (j : Nat) (F' : Nat → Prop), j ≤ 3 ∧ vj = .int .i64 (j : Int) ∧ Dsk w wz d S F' ∧ PayAt wz F' (.slice qw L cw) rs ∧ BytesAt wz F' v5 B) (fun vj _ => 3 - (intOf vj).toNat)
        case atStart => exact ⟨0, F, by omega, rfl, H5.out.1, by have := HE.out.2.2.2.2.2.kept (H5.out.2.1.mono fun _ h => h.elim) (F' := F) fun _ h => .inl h; rw [hL] at this; exact this, H5.out.2.2⟩
        case round =>
          obtain ⟨j, F6, hj, rfl, hd6, hp6, hb6⟩ := hrel
          by_cases hj3 : j < 3
          · have H6 := Lib.hid (And.intro hd6 (And.intro hp6 hb6))
            clear hd6 hp6 hb6
            go_wp2_with (go_at_call 11; refine Hid.out ?_)
            refine Lib.hid ?_
            have ho := H6.out.1.opens HK.out.1.idle.off HK.out.1.has.lays
            refine ho.mono ?_
            clear ho
            rintro e w7 ⟨p7, v7, F7, rfl, h7, hp7, -, f7, k7⟩
            rw [Nat.zero_mul, List.drop_zero] at hp7
            have hw7 := H6.out.2.1.kept k7 (F' := F7) f7
            have hv7 := H6.out.2.2.kept k7 (F' := F7) f7
            have cs := same_any hp7 hw7 (by omega) (loads_len HK.out.1.has.lays.loads)
            have cF : ∀ W, Kp (fun _ => False) w7 W → Calls Tryz.prog 20 #[.pointer (some ⟨p7, 0, none⟩)] W fun e w' => e = .returned (.int .i64 1) ∧ w' = W := fun W hW => by
              have := First_at (h7.lg.step hW).log.first
              rw [Nat.zero_mul] at this
              exact this
            have cN : ∀ W, Kp (fun _ => False) w7 W → Calls Tryz.prog 17 #[.pointer (some ⟨p7, 0, none⟩)] W fun e w' => e = .returned (.int .i64 ((L : Int) + 1)) ∧ w' = W := fun W hW => by
              have := Next_at (h7.lg.step hW).log.next
              rw [hL, Int.natCast_add, Int.natCast_one] at this
              exact this
            have cO7 : ∀ W, Kp (fun _ => False) w7 W → Calls Tryz.prog 18 #[.pointer (some ⟨d, 0, none⟩)] W fun e w' => e = .returned (.int .i64 O) ∧ W = w' := fun W hW => by
              have := (h7.lg.dsk.step hW).ops
              rw [HE.out.2.1] at this
              exact this
            have H7 := Lib.hid (And.intro h7 (And.intro hw7 hv7))
            clear hp7 hw7 hv7 h7 f7 k7
            go_wp2_with (first
              | (go_at_call 13; refine cs.mono ?_; rintro e w8 ⟨rfl, hk8⟩; have cF2 := cF _ hk8; have cN2 := cN _ hk8; have cO2 := cO7 _ hk8; have H8 := Lib.hid hk8; clear hk8)
              | (go_at_call 20; refine cF2.mono ?_; rintro e w' ⟨rfl, hw'⟩; subst w')
              | (go_at_call 17; refine cN2.mono ?_; rintro e w' ⟨rfl, hw'⟩; subst w')
              | (go_at_call 18; refine cO2.mono ?_; rintro e w' ⟨rfl, hw'⟩; subst w'))
            go_roundw
            case rel => exact ⟨j + 1, F7, by omega, by go_num, H7.out.1.lg.dsk.step H8.out, H7.out.2.1.kept (H8.out.mono fun _ h => h.elim) (F' := F7) fun _ h => .inl h, H7.out.2.2.kept (H8.out.mono fun _ h => h.elim) (F' := F7) fun _ h => .inl h⟩
            case measure => simp [intOf]; omega
          · obtain rfl : j = 3 := by omega
            have cR2 := hd6.read_ok nmData (by decide) HE.out.1
            rw [HE.out.2.2.1] at cR2
            have H6 := Lib.hid (And.intro hd6 (And.intro hp6 hb6))
            clear hd6 hp6 hb6
            go_wp2_with (first
              | (go_at_call 19; refine cR2.mono ?_; rintro e w9 ⟨v9, rfl, h9, k9, b9⟩; have csb := Same_bytes b9 (H6.out.2.2.kept (k9.mono fun _ h => h.elim) (F' := F6) fun _ h => .inl h) HE.out.2.2.2.1; rw [decide_eq_true rfl] at csb; have H9 := Lib.hid h9; clear h9 k9 b9)
              | (go_at_call 21; refine csb.mono ?_; rintro e w10 ⟨rfl, hk10⟩; have H10 := Lib.hid hk10; clear hk10))
            go_ret
            exact ⟨rfl, H9.out.kp.trans H10.out⟩
end Go.Proofs.YtggnohbfdlebiaaGreatDoor

/-
  Merged of my texts, in order: LRead.
-/
import Derived.Test.YtggnohbfdlebiaaGreatDoorM14
import Derived.Test.YtggnohbfdlebiaaGreatDoorM18
import Derived.Test.YtggnohbfdlebiaaGreatDoorM19
import Derived.OwnWalk
import Derived.Deep.DeepCutAuto
import Derived.Deep.CutRange
/-
  log.read: the records of all segments, over a disk that a log laid.
-/
namespace Go.Proofs.YtggnohbfdlebiaaGreatDoor
open Go.RowKit Go.Shelf Go.ChangeMaps Go.ChangeShapes

/-- How the reading stands: the records up to n have been read. -/
structure LRd (w wr : World) (p d per f : Nat) (rs : List (List Int)) (G : Nat → Prop) (vo : Value) (kb : Bool) (n : Nat) (link : List Int) : Prop where
  log : LogAt wr p d (per : Int) ((f * per + 1 : Nat) : Int) ((n + 1 : Nat) : Int) link false
  byts : Byts link
  kbOk : kb = true ↔ (f = 0 ∨ f * per < n)
  linkOk : kb = true → link = linkAt rs n
  row : RowP wr w.heap.size G vo ((rs.take n).drop (f * per))
  kp : Kp (fun i => i = p) w wr
theorem LRd.step {w wr w' : World} {p d per f : Nat} {rs : List (List Int)} {G : Nat → Prop} {vo : Value} {kb : Bool} {n : Nat} {link : List Int} (h : LRd w wr p d per f rs G vo kb n link) (hk : Kp (fun _ => False) wr w') : LRd w w' p d per f rs G vo kb n link :=
  ⟨h.log.kept hk id, h.byts, h.kbOk, h.linkOk, h.row.kept hk (fun _ h => h.elim) (fun _ _ h => h) fun _ h => .inl h, h.kp.trans (hk.mono fun _ h => h.elim)⟩
theorem segB_pos {rs : List (List Int)} {a m : Nat} (hm : 0 < m) (h : a + m ≤ rs.length) : 0 < (segB rs a m).length := by
  obtain ⟨j, rfl⟩ : ∃ j, m = j + 1 := ⟨m - 1, by omega⟩
  rw [segB_succ, List.length_append, secOf_length rs (by omega)]
  unfold partsN; omega
/-- What lies in the file of segment k. -/
theorem Lays.file {fs : Files} {per f : Nat} {rs : List (List Int)} {T : List Int} (h : Lays fs per f rs T) {k : Nat} (hk1 : f ≤ k) (hk2 : k ≤ rs.length / per) :
    (get fs (lnm k) = none ∧ k = rs.length / per ∧ rs.length % per = 0) ∨ ∃ m T', (get fs (lnm k)).isSome = true ∧ bytesOf (getF fs (lnm k)) = segB rs (k * per) m ++ T' ∧ k * per + m ≤ rs.length ∧ Byts T' ∧ ((m = per ∧ T' = [] ∧ k < rs.length / per) ∨ (m < per ∧ k = rs.length / per ∧ m = rs.length % per ∧ Stub T' (rs.length + 1))) := by
  obtain ⟨h1, h2, h3⟩ := h.parts
  by_cases hk : k < rs.length / per
  · have := Nat.mul_le_mul_right per (Nat.succ_le_of_lt hk)
    have e : k.succ * per = (k + 1) * per := rfl
    have e2 := Nat.succ_mul k per
    obtain ⟨a1, a2⟩ := h.whole k hk1 (by omega)
    exact .inr ⟨per, [], a1, by rw [a2, List.append_nil], by omega, byts_nil, .inl ⟨rfl, rfl, hk⟩⟩
  · obtain rfl : k = rs.length / per := by omega
    rcases h.last with ⟨a1, a2, _⟩ | ⟨a1, a2⟩
    · exact .inl ⟨a1, rfl, a2⟩
    · exact .inr ⟨_, T, a1, a2, by omega, h.bytT, .inr ⟨h2, rfl, rfl, h.broke⟩⟩

set_option maxRecDepth 100000 in
set_option maxHeartbeats 8000000 in
theorem lread_new {w0 w : World} {p d per f : Nat} {S : St} {F : Nat → Prop} {rs : List (List Int)} {T : List Int} (h : Lg w0 w p d (per : Int) 1 1 (List.replicate 32 0) false S F) (hoff : S.off = false) (hL : Lays S.files per f rs T) :
    Calls Tryz.prog 30 #[.pointer (some ⟨p, 0, none⟩), .int .i64 (f : Int)] w fun e w' => ∃ v kb link, e = .returned (.tuple #[v, .int .i64 ((rs.length / per : Nat) : Int), .int .i64 (((segB rs (rs.length / per * per) (rs.length % per)).length : Nat) : Int)]) ∧
      LRd w w' p d per f rs (fun i => i < w.heap.size) v kb rs.length link := by
  obtain ⟨hq1, hq2, hq3⟩ := hL.parts
  have hfq := hL.f_le
  have hper := hL.perOk
  have hcnt := hL.count
  obtain ⟨q, hq⟩ : ∃ q, rs.length / per = q := ⟨_, rfl⟩
  obtain ⟨n, hn⟩ : ∃ n, rs.length = n := ⟨_, rfl⟩
  rw [hq] at hq1 hq3 hfq
  rw [hn] at hq1 hcnt
  have hfn : f * per ≤ n := Nat.le_trans (Nat.mul_le_mul_right per hfq) (by omega)
  obtain ⟨fp, hfp⟩ : ∃ fp, f * per = fp := ⟨_, rfl⟩
  have hfpz : (f : Int) * (per : Int) = (fp : Int) := by rw [← hfp]; exact (Int.natCast_mul f per).symm
  have hfp2 : fp ≤ 90000 := by omega
  have c1 := h.log.per
  have c2f := h.log.free 2
  have c2w := h.log.first
  have HL := Lib.hid hL
  have HS := Lib.hid (And.intro h (And.intro hoff (And.intro hq (And.intro hn (And.intro hfp hfn)))))
  have hH := h.log.setFirst ((fp + 1 : Nat) : Int)
  have c2 := hH.first
  have c3f := hH.free 3
  have c3w := hH.next
  have c2' := (hH.setNext ((fp + 1 : Nat) : Int)).first
  have HH := Lib.hid (hH.setNext ((fp + 1 : Nat) : Int))
  clear h hoff hL hq hn hfp hfn hH
  rw [Int.natCast_add, Int.natCast_one] at c2 c3f c3w c2' HH
  rw [HS.out.2.2.1, HS.out.2.2.2.1]
  go_enter Tryz.func30, Tryz.ntmps30
  go_wp2
  obtain ⟨ws, hws⟩ : ∃ ws, (w.setCell ⟨p, 2, none⟩ (.int .i64 ((fp : Int) + 1))).setCell ⟨p, 3, none⟩ (.int .i64 ((fp : Int) + 1)) = ws := ⟨_, rfl⟩
  have hks : Kp (fun i => i = p) w ws := by rw [← hws]; exact ((Kp.refl (fun i => i = p) w).setCell (p := ⟨p, 2, none⟩) (.inl rfl) _).setCell (p := ⟨p, 3, none⟩) (.inl rfl) _
  have hstart : LRd w ws p d per f rs (fun i => i < w.heap.size) (.slice none 0 0) ((fp : Int) + 1 == 1) (f * per) (List.replicate 32 0) := by
    have hlog := HH.out
    rw [hws] at hlog
    have hfp := HS.out.2.2.2.2.1
    refine ⟨by rw [hfp, Int.natCast_add, Int.natCast_one]; exact hlog, fun x hx => by rw [(List.mem_replicate.1 hx).2]; omega, ?_, fun hk => ?_, ?_, hks⟩
    · rw [hfp]
      constructor
      · intro h
        have h0 : fp = 0 := by
          have : (fp : Int) + 1 = 1 := by simpa using h
          omega
        rw [h0] at hfp
        rcases Nat.mul_eq_zero.1 hfp with h | h
        · exact .inl h
        · omega
      · rintro (h | h)
        · rw [h, Nat.zero_mul] at hfp
          rw [← hfp]; rfl
        · omega
    · have h0 : fp = 0 := by
        have : (fp : Int) + 1 = 1 := by simpa using hk
        omega
      rw [hfp, h0]; rfl
    · rw [hfp]
      rw [List.drop_eq_nil_of_le (by rw [List.length_take]; exact Nat.min_le_left _ _)]
      exact RowP.nil _ _ _
  have HST := Lib.hid hstart
  rw [hws]
  clear hks hstart HH c1 c2f c2w c2 c3f c3w c2' hws
  go_loopw [1, 7, 8] (fun vk vo vb wr => ∃ (k : Nat) (kb : Bool) (link : List Int), f ≤ k ∧ k ≤ q ∧ vk = .int .i64 (k : Int) ∧ vb = .bool kb ∧ LRd w wr p d per f rs (fun i => i < w.heap.size) vo kb (k * per) link) (fun vk _ _ _ => q - (intOf vk).toNat)
  case atStart => exact ⟨f, _, _, Nat.le_refl _, hfq, rfl, rfl, HST.out⟩
  case round =>
    clear HST
    obtain ⟨k, kb, link, hk1, hk2, rfl, rfl, hrd⟩ := hrel
    have hwk := IntWalk.i64_in (k : Int) (by omega)
    have hkl : k ≤ 99999999 := by omega
    have hD : Dsk w0 wr d S F := HS.out.1.dsk.beside hrd.kp (fun i hi hF => HS.out.1.out (hi ▸ hF)) fun i hi => hi ▸ HS.out.1.new
    have d0 := hrd.log.d
    have HR := Lib.hid (And.intro hrd hD)
    clear hrd hD
    have hfl := HL.out.file hk1 (by rw [HS.out.2.2.1]; exact hk2)
    rw [HS.out.2.2.1, HS.out.2.2.2.1] at hfl
    rcases hfl with ⟨hno, hkq, hm0⟩ | ⟨m, T', hso, hby, hmn, hTb, hmm⟩
    · have hchk := gone_on (S := S) (nameB_lnm k) hno
      have HNO := Lib.hid (And.intro hno (And.intro hkq hm0))
      clear hno hkq hm0
      go_upto_region 6 with fail
      refine wp_region_held_drew (S := fun w' => w'.cell? ⟨p, 0, none⟩ = some (.pointer (some ⟨d, 0, none⟩))) (by kernel_rfl) d0 (fun hHeld => ?_)
      refine take_yes (i := 0) (v := ?_) (some 41) rfl rfl (by kernel_rfl) (by kernel_rfl) (by kernel_rfl) (fun _ _ _ h => h) (Or.inl ⟨by rfl, ?_⟩) (by assumption) ?_
      rotate_left
      · (intro w hSw; (try dsimp only at hSw); go_simp <;> (try with_reducible rfl))
      ((try simp only [Act.put]); (try simp only [List.setIfInBounds_toArray]); (try simp only [List.set_cons_succ]); (try simp only [List.set_cons_zero]))
      refine take_yes (i := 1) (v := ?_) (some 42) rfl rfl (by kernel_rfl) (by kernel_rfl) (by kernel_rfl) (fun _ _ _ h => h) (Or.inl ⟨by rfl, ?_⟩) (by assumption) ?_
      rotate_left
      · (intro w hSw; (try dsimp only at hSw); go_simp <;> (try with_reducible rfl))
      ((try simp only [Act.put]); (try simp only [List.setIfInBounds_toArray]); (try simp only [List.set_cons_succ]); (try simp only [List.set_cons_zero]))
      refine take_yes (i := 2) (v := ?_) (some 43) rfl rfl (by kernel_rfl) (by kernel_rfl) (by kernel_rfl) (fun _ _ _ h => h) (Or.inl ⟨by rfl, ?_⟩) (by assumption) ?_
      rotate_left
      · (intro w hSw; (try dsimp only at hSw); go_simp <;> (try with_reducible rfl))
      ((try simp only [Act.put]); (try simp only [List.setIfInBounds_toArray]); (try simp only [List.set_cons_succ]); (try simp only [List.set_cons_zero]))
      refine take_yes (i := 3) (v := ?_) (some 44) rfl rfl (by kernel_rfl) (by kernel_rfl) (by kernel_rfl) (fun _ _ _ h => h) (Or.inl ⟨by rfl, ?_⟩) (by assumption) ?_
      rotate_left
      · (intro w hSw; (try dsimp only at hSw); go_simp <;> (try with_reducible rfl))
      ((try simp only [Act.put]); (try simp only [List.setIfInBounds_toArray]); (try simp only [List.set_cons_succ]); (try simp only [List.set_cons_zero]))
      refine take_yes (i := 4) (v := ?_) (some 45) rfl rfl (by kernel_rfl) (by kernel_rfl) (by kernel_rfl) (fun _ _ _ h => h) (Or.inl ⟨by rfl, ?_⟩) (by assumption) ?_
      rotate_left
      · (intro w hSw; (try dsimp only at hSw); go_simp <;> (try with_reducible rfl))
      ((try simp only [Act.put]); (try simp only [List.setIfInBounds_toArray]); (try simp only [List.set_cons_succ]); (try simp only [List.set_cons_zero]))
      refine wpAnyH_ready (rs := [5]) (by kernel_rfl) (by simp) ?_
      refine AllReadyH.cons (o := _) rfl (fun K hK => ?_) AllReadyH.nil
      go_simp
      (go_at_call 31; refine (lname_any _ k hkl).mono ?_; rintro e w2 ⟨rfl, hk2'⟩; have HK2 := Lib.hid hk2'; clear hk2')
      refine hK.out _ _ (HK2.out.cell d0 id) (fun hHeld => ?_)
      clear hK K
      ((try simp only [Act.put]); (try simp only [List.setIfInBounds_toArray]); (try simp only [List.set_cons_succ]); (try simp only [List.set_cons_zero]))
      have crd := (HR.out.2.step ((Kp.refl _ wr).drew.trans HK2.out)).read_err (lnm k) (by rw [lnm_size]; decide) (by rw [hchk]; decide)
      rw [hchk] at crd
      refine wpAnyH_ready (rs := [6]) (by kernel_rfl) (by simp) ?_
      refine AllReadyH.cons (o := _) rfl (fun K hK => ?_) AllReadyH.nil
      go_simp
      (go_at_call 19; refine crd.mono ?_; rintro e w3 ⟨rfl, rfl⟩; clear crd)
      refine hK.out _ _ (HK2.out.cell d0 id) (fun hHeld => ?_)
      clear hK K
      ((try simp only [Act.put]); (try simp only [List.setIfInBounds_toArray]); (try simp only [List.set_cons_succ]); (try simp only [List.set_cons_zero]))
      refine take_yes (i := 7) (v := ?_) (some 40) rfl rfl (by kernel_rfl) (by kernel_rfl) (by kernel_rfl) (fun _ _ _ h => h) (Or.inl ⟨by rfl, ?_⟩) (by assumption) ?_
      rotate_left
      · (intro w hSw; (try dsimp only at hSw); go_simp <;> (try with_reducible rfl))
      ((try simp only [Act.put]); (try simp only [List.setIfInBounds_toArray]); (try simp only [List.set_cons_succ]); (try simp only [List.set_cons_zero]))
      refine take_yes (i := 8) (v := ?_) (some 48) rfl rfl (by kernel_rfl) (by kernel_rfl) (by kernel_rfl) (fun _ _ _ h => h) (Or.inl ⟨by rfl, ?_⟩) (by assumption) ?_
      rotate_left
      · (intro w hSw; (try dsimp only at hSw); go_simp <;> (try with_reducible rfl))
      ((try simp only [Act.put]); (try simp only [List.setIfInBounds_toArray]); (try simp only [List.set_cons_succ]); (try simp only [List.set_cons_zero]))
      refine take_yes (i := 9) (v := ?_) (some 49) rfl rfl (by kernel_rfl) (by kernel_rfl) (by kernel_rfl) (fun _ _ _ h => h) (Or.inl ⟨by rfl, ?_⟩) (by assumption) ?_
      rotate_left
      · (intro w hSw; (try dsimp only at hSw); go_simp <;> (try with_reducible rfl))
      ((try simp only [Act.put]); (try simp only [List.setIfInBounds_toArray]); (try simp only [List.set_cons_succ]); (try simp only [List.set_cons_zero]))
      refine take_yes (i := 10) (v := ?_) (some 9) rfl rfl (by kernel_rfl) (by kernel_rfl) (by kernel_rfl) (fun _ _ _ h => h) (Or.inl ⟨by rfl, ?_⟩) (by assumption) ?_
      rotate_left
      · (intro w hSw; (try dsimp only at hSw); go_simp <;> (try with_reducible rfl))
      ((try simp only [Act.put]); (try simp only [List.setIfInBounds_toArray]); (try simp only [List.set_cons_succ]); (try simp only [List.set_cons_zero]))
      refine take_yes (i := 11) (v := ?_) (some 10) rfl rfl (by kernel_rfl) (by kernel_rfl) (by kernel_rfl) (fun _ _ _ h => h) (Or.inl ⟨by rfl, ?_⟩) (by assumption) ?_
      rotate_left
      · (intro w hSw; (try dsimp only at hSw); go_simp <;> (try with_reducible rfl))
      ((try simp only [Act.put]); (try simp only [List.setIfInBounds_toArray]); (try simp only [List.set_cons_succ]); (try simp only [List.set_cons_zero]))
      refine wpAnyH_done (by kernel_rfl) ?_ _
      go_wp2
      go_ret3
      obtain ⟨_, hkq, hm0⟩ := HNO.out
      refine ⟨u7, kb, link, ?_, ?_⟩
      · rw [hm0, hkq]; rfl
      · have := HR.out.1.step ((Kp.refl _ wr).drew.trans HK2.out)
        rw [hkq, show q * per = n by omega] at this
        exact this
    · have hchk : S.check (lnm k) true = 0 := there_on HS.out.2.1 (nameB_lnm k) hso
      have hPl : (bytesOf (getF S.files (lnm k))).length ≤ 3000000 := by
        have ok := HR.out.2.ok
        have e1 := getF_le S.files (lnm k)
        have e2 := ok.used
        have e3 := ok.room
        rw [bytesOf_length (fun s hs => by obtain ⟨x, hx, h1⟩ := getF_mem s hs; exact ok.secs x hx s h1)]
        omega
      obtain ⟨P, hP⟩ : ∃ P, bytesOf (getF S.files (lnm k)) = P := ⟨_, rfl⟩
      rw [hP] at hby hPl
      obtain ⟨Pl, hPlen⟩ : ∃ Pl, P.length = Pl := ⟨_, rfl⟩
      rw [hPlen] at hPl
      have hPb : Byts P := by rw [hby]; exact (segB_byts HL.out.loads (by rw [HS.out.2.2.2.1]; exact hmn)).append hTb
      have HP := Lib.hid (And.intro hP (And.intro hby (And.intro hmn (And.intro hmm (And.intro hPlen hPb)))))
      clear hP hby hmn hmm hPlen hso hPb hTb
      go_upto_region 6 with fail
      refine wp_region_held_drew (S := fun w' => w'.cell? ⟨p, 0, none⟩ = some (.pointer (some ⟨d, 0, none⟩))) (by kernel_rfl) d0 (fun hHeld => ?_)
      refine take_yes (i := 0) (v := ?_) (some 41) rfl rfl (by kernel_rfl) (by kernel_rfl) (by kernel_rfl) (fun _ _ _ h => h) (Or.inl ⟨by rfl, ?_⟩) (by assumption) ?_
      rotate_left
      · (intro w hSw; (try dsimp only at hSw); go_simp <;> (try with_reducible rfl))
      ((try simp only [Act.put]); (try simp only [List.setIfInBounds_toArray]); (try simp only [List.set_cons_succ]); (try simp only [List.set_cons_zero]))
      refine take_yes (i := 1) (v := ?_) (some 42) rfl rfl (by kernel_rfl) (by kernel_rfl) (by kernel_rfl) (fun _ _ _ h => h) (Or.inl ⟨by rfl, ?_⟩) (by assumption) ?_
      rotate_left
      · (intro w hSw; (try dsimp only at hSw); go_simp <;> (try with_reducible rfl))
      ((try simp only [Act.put]); (try simp only [List.setIfInBounds_toArray]); (try simp only [List.set_cons_succ]); (try simp only [List.set_cons_zero]))
      refine take_yes (i := 2) (v := ?_) (some 43) rfl rfl (by kernel_rfl) (by kernel_rfl) (by kernel_rfl) (fun _ _ _ h => h) (Or.inl ⟨by rfl, ?_⟩) (by assumption) ?_
      rotate_left
      · (intro w hSw; (try dsimp only at hSw); go_simp <;> (try with_reducible rfl))
      ((try simp only [Act.put]); (try simp only [List.setIfInBounds_toArray]); (try simp only [List.set_cons_succ]); (try simp only [List.set_cons_zero]))
      refine take_yes (i := 3) (v := ?_) (some 44) rfl rfl (by kernel_rfl) (by kernel_rfl) (by kernel_rfl) (fun _ _ _ h => h) (Or.inl ⟨by rfl, ?_⟩) (by assumption) ?_
      rotate_left
      · (intro w hSw; (try dsimp only at hSw); go_simp <;> (try with_reducible rfl))
      ((try simp only [Act.put]); (try simp only [List.setIfInBounds_toArray]); (try simp only [List.set_cons_succ]); (try simp only [List.set_cons_zero]))
      refine take_yes (i := 4) (v := ?_) (some 45) rfl rfl (by kernel_rfl) (by kernel_rfl) (by kernel_rfl) (fun _ _ _ h => h) (Or.inl ⟨by rfl, ?_⟩) (by assumption) ?_
      rotate_left
      · (intro w hSw; (try dsimp only at hSw); go_simp <;> (try with_reducible rfl))
      ((try simp only [Act.put]); (try simp only [List.setIfInBounds_toArray]); (try simp only [List.set_cons_succ]); (try simp only [List.set_cons_zero]))
      refine wpAnyH_ready (rs := [5]) (by kernel_rfl) (by simp) ?_
      refine AllReadyH.cons (o := _) rfl (fun K hK => ?_) AllReadyH.nil
      go_simp
      (go_at_call 31; refine (lname_any _ k hkl).mono ?_; rintro e w2 ⟨rfl, hk2'⟩; have HK2 := Lib.hid hk2'; clear hk2')
      refine hK.out _ _ (HK2.out.cell d0 id) (fun hHeld => ?_)
      clear hK K
      ((try simp only [Act.put]); (try simp only [List.setIfInBounds_toArray]); (try simp only [List.set_cons_succ]); (try simp only [List.set_cons_zero]))
      have crd := (HR.out.2.step ((Kp.refl _ wr).drew.trans HK2.out)).read_at (lnm k) (by rw [lnm_size]; decide) hchk
      rw [HP.out.1, HP.out.2.2.2.2.1] at crd
      refine wpAnyH_ready (rs := [6]) (by kernel_rfl) (by simp) ?_
      refine AllReadyH.cons (o := _) rfl (fun K hK => ?_) AllReadyH.nil
      go_simp
      (go_at_call 19; refine crd.mono ?_; rintro e w3 ⟨v3, rfl, hk3, hb3, hv3⟩; have H3 := Lib.hid (And.intro hk3 (And.intro hb3 hv3)); clear crd hk3 hb3 hv3)
      refine hK.out _ _ (H3.out.1.cell (HK2.out.cell d0 id) id) (fun hHeld => ?_)
      clear hK K
      ((try simp only [Act.put]); (try simp only [List.setIfInBounds_toArray]); (try simp only [List.set_cons_succ]); (try simp only [List.set_cons_zero]))
      refine take_yes (i := 7) (v := ?_) (some 40) rfl rfl (by kernel_rfl) (by kernel_rfl) (by kernel_rfl) (fun _ _ _ h => h) (Or.inl ⟨by rfl, ?_⟩) (by assumption) ?_
      rotate_left
      · (intro w hSw; (try dsimp only at hSw); go_simp <;> (try with_reducible rfl))
      ((try simp only [Act.put]); (try simp only [List.setIfInBounds_toArray]); (try simp only [List.set_cons_succ]); (try simp only [List.set_cons_zero]))
      refine take_yes (i := 8) (v := ?_) (some 48) rfl rfl (by kernel_rfl) (by kernel_rfl) (by kernel_rfl) (fun _ _ _ h => h) (Or.inl ⟨by rfl, ?_⟩) (by assumption) ?_
      rotate_left
      · (intro w hSw; (try dsimp only at hSw); go_simp <;> (try with_reducible rfl))
      ((try simp only [Act.put]); (try simp only [List.setIfInBounds_toArray]); (try simp only [List.set_cons_succ]); (try simp only [List.set_cons_zero]))
      refine take_yes (i := 9) (v := ?_) (some 49) rfl rfl (by kernel_rfl) (by kernel_rfl) (by kernel_rfl) (fun _ _ _ h => h) (Or.inl ⟨by rfl, ?_⟩) (by assumption) ?_
      rotate_left
      · (intro w hSw; (try dsimp only at hSw); go_simp <;> (try with_reducible rfl))
      ((try simp only [Act.put]); (try simp only [List.setIfInBounds_toArray]); (try simp only [List.set_cons_succ]); (try simp only [List.set_cons_zero]))
      refine take_yes (i := 10) (v := ?_) (some 9) rfl rfl (by kernel_rfl) (by kernel_rfl) (by kernel_rfl) (fun _ _ _ h => h) (Or.inl ⟨by rfl, ?_⟩) (by assumption) ?_
      rotate_left
      · (intro w hSw; (try dsimp only at hSw); go_simp <;> (try with_reducible rfl))
      ((try simp only [Act.put]); (try simp only [List.setIfInBounds_toArray]); (try simp only [List.set_cons_succ]); (try simp only [List.set_cons_zero]))
      refine take_yes (i := 11) (v := ?_) (some 10) rfl rfl (by kernel_rfl) (by kernel_rfl) (by kernel_rfl) (fun _ _ _ h => h) (Or.inl ⟨by rfl, ?_⟩) (by assumption) ?_
      rotate_left
      · (intro w hSw; (try dsimp only at hSw); go_simp <;> (try with_reducible rfl))
      ((try simp only [Act.put]); (try simp only [List.setIfInBounds_toArray]); (try simp only [List.set_cons_succ]); (try simp only [List.set_cons_zero]))
      refine wpAnyH_done (by kernel_rfl) ?_ _
      have hk3 : Kp (fun _ => False) wr w3 := ((Kp.refl _ wr).drew.trans HK2.out).trans H3.out.1
      have hrd3 := HR.out.1.step hk3
      have hb3 : BytesAt w3 (fun i => i < wr.heap.size) v3 P := H3.out.2.1.mono fun i hi => Nat.lt_of_lt_of_le hi HK2.out.size
      have hD3 := HR.out.2.step hk3
      have hsz3 := hk3.size
      have H4 := Lib.hid (And.intro hrd3 (And.intro hD3 (And.intro hb3 (And.intro hk3 hsz3))))
      clear hk3 hrd3 hb3 hD3 hsz3 d0
      obtain ⟨k1, hk1e⟩ : ∃ k1, k + 1 = k1 := ⟨_, rfl⟩
      obtain ⟨K1, hK1⟩ : ∃ K1, k1 * per = K1 := ⟨_, rfl⟩
      obtain ⟨kn, hkn⟩ : ∃ kn, k * per = kn := ⟨_, rfl⟩
      have hKK : K1 = kn + per := by rw [← hK1, ← hk1e, Nat.succ_mul, hkn]
      have hkn2 : kn ≤ n := by rw [← hkn]; exact Nat.le_trans (Nat.mul_le_mul_right per hk2) (by omega)
      have hwk1 : IntKind.i64.wrap ((k : Int) + 1) = (k1 : Int) := by rw [IntWalk.i64_in _ (by omega)]; omega
      have hwK : IntKind.i64.wrap ((k1 : Int) * (per : Int)) = (K1 : Int) := by rw [← Int.natCast_mul, hK1, IntWalk.i64_in _ (by omega)]
      have HN := Lib.hid (And.intro hk1e (And.intro hK1 hkn))
      clear hk1e hK1 hkn
      have ha : ∀ w, (isAgg 74).run Tryz.prog w = .ok true w := fun w => isAgg_run (Tryz.underlying74) rfl w
      rcases H3.out.2.2 with ⟨rfl, hnil⟩ | ⟨g, c, rfl⟩
      · -- an empty file
        obtain ⟨hPe, hby, hmn, hmm, hPlen, hPb⟩ := HP.out
        have hm0 : m = 0 := by
          by_cases h0 : 0 < m
          · have h1 := segB_pos h0 (rs := rs) (a := k * per) (by rw [HS.out.2.2.2.1]; exact hmn)
            have h2 : P.length = 0 := by rw [hnil]; rfl
            rw [hby, List.length_append] at h2
            omega
          · omega
        have hkq : k = q := by
          rcases hmm with ⟨h1, _⟩ | ⟨_, h1, _⟩
          · omega
          · exact h1
        have hmod : n % per = 0 := by
          rcases hmm with ⟨h1, _⟩ | ⟨_, _, h1, _⟩
          · omega
          · omega
        have hlog := H4.out.1.log
        have hll := hlog.2
        obtain ⟨LK, hLK⟩ : ∃ L, (byteVals link).toArray = L := ⟨_, rfl⟩
        have hLs : LK.size = 32 := by rw [← hLK, List.size_toArray, byteVals_length, hll]
        have hL1 : ∀ x ∈ LK.toList, x.oneCell' = true := by rw [← hLK]; exact bytes_one _
        have hLi : (Tryz.prog.info? 74).map (·.size) = some LK.size := by rw [hLs]; kernel_rfl
        have hld := hlog.link
        rw [hLK] at hld
        have e1 := hlog.per
        have e3 := hlog.next
        rw [HN.out.2.2] at e3
        obtain ⟨N1, hN1⟩ : ∃ N1, kn + 1 = N1 := ⟨_, rfl⟩
        rw [hN1] at e3
        have hle : N1 ≤ K1 := by omega
        have crec : ∀ W : World, Calls Tryz.prog 61 #[.slice none 0 0, .int .i64 (N1 : Int), .agg LK, .bool kb] W fun e w' => e = .returned (.tuple #[.slice none 0 0, .agg LK, .int .i64 0, .bool false]) ∧ Kp (fun _ => False) W w' := fun W => by
          have := record_none (w := W) (known := kb) (r := (N1 : Int)) hll (fun W' _ => lbody_empty W' _)
          rw [hLK] at this
          exact this
        have HE := Lib.hid (And.intro hkq (And.intro hmod (And.intro hld (And.intro hN1 hm0))))
        clear hPe hby hmn hmm hPlen hPb hm0 hlog hll hld hnil hLK hN1 hkq hmod
        go_wp2
        go_loopw [7, 8, 11] (fun vo vb va wx => vo = u7 ∧ vb = .bool kb ∧ va = .int .i64 0 ∧ wx = w3) (fun _ _ _ _ => 0)
        case atStart => exact ⟨rfl, rfl, rfl, rfl⟩
        case round =>
          obtain ⟨rfl, rfl, rfl, hwx⟩ := hrel
          subst wr
          go_upto_region 10 with fail
          refine wp_region_held_drew (S := fun w' => w'.cell? ⟨p, 3, none⟩ = some (.int .i64 (N1 : Int)) ∧ w'.cell? ⟨p, 1, none⟩ = some (.int .i64 (per : Int))) (by kernel_rfl) ⟨e3, e1⟩ (fun hHeld => ?_)
          refine take_yes (i := 0) (v := ?_) (some 54) rfl rfl (by kernel_rfl) (by kernel_rfl) (by kernel_rfl) (fun _ _ _ h => h) (Or.inl ⟨by rfl, ?_⟩) (by assumption) ?_
          rotate_left
          · (intro w hSw; (try dsimp only at hSw); go_simp <;> (try with_reducible rfl))
          ((try simp only [Act.put]); (try simp only [List.setIfInBounds_toArray]); (try simp only [List.set_cons_succ]); (try simp only [List.set_cons_zero]))
          refine take_yes (i := 1) (v := ?_) (some 55) rfl rfl (by kernel_rfl) (by kernel_rfl) (by kernel_rfl) (fun _ _ _ h => h) (Or.inl ⟨by rfl, ?_⟩) (by assumption) ?_
          rotate_left
          · (intro w hSw; (try dsimp only at hSw); go_simp <;> (try with_reducible rfl))
          ((try simp only [Act.put]); (try simp only [List.setIfInBounds_toArray]); (try simp only [List.set_cons_succ]); (try simp only [List.set_cons_zero]))
          refine take_yes (i := 2) (v := ?_) (some 56) rfl rfl (by kernel_rfl) (by kernel_rfl) (by kernel_rfl) (fun _ _ _ h => h) (Or.inl ⟨by rfl, ?_⟩) (by assumption) ?_
          rotate_left
          · (intro w hSw; (try dsimp only at hSw); go_simp <;> (try with_reducible rfl))
          ((try simp only [Act.put]); (try simp only [List.setIfInBounds_toArray]); (try simp only [List.set_cons_succ]); (try simp only [List.set_cons_zero]))
          refine take_yes (i := 3) (v := ?_) (some 57) rfl rfl (by kernel_rfl) (by kernel_rfl) (by kernel_rfl) (fun _ _ _ h => h) (Or.inl ⟨by rfl, ?_⟩) (by assumption) ?_
          rotate_left
          · (intro w hSw; (try dsimp only at hSw); go_simp <;> (try with_reducible rfl))
          ((try simp only [Act.put]); (try simp only [List.setIfInBounds_toArray]); (try simp only [List.set_cons_succ]); (try simp only [List.set_cons_zero]))
          refine take_yes (i := 4) (v := ?_) (some 58) rfl rfl (by kernel_rfl) (by kernel_rfl) (by kernel_rfl) (fun _ _ _ h => h) (Or.inl ⟨by rfl, ?_⟩) (by assumption) ?_
          rotate_left
          · (intro w hSw; (try dsimp only at hSw); go_simp <;> (try with_reducible rfl))
          ((try simp only [Act.put]); (try simp only [List.setIfInBounds_toArray]); (try simp only [List.set_cons_succ]); (try simp only [List.set_cons_zero]))
          refine take_yes (i := 5) (v := .int .i64 (k1 : Int)) (some 59) rfl rfl (by kernel_rfl) (by kernel_rfl) (by kernel_rfl) (fun _ _ _ h => h) (Or.inl ⟨by rfl, ?_⟩) (by assumption) ?_
          · (intro w hSw; (try dsimp only at hSw); go_simp <;> (first | (with_reducible rfl) | (rw [hwk1])))
          ((try simp only [Act.put]); (try simp only [List.setIfInBounds_toArray]); (try simp only [List.set_cons_succ]); (try simp only [List.set_cons_zero]))
          refine take_yes (i := 6) (v := ?_) (some 60) rfl rfl (by kernel_rfl) (by kernel_rfl) (by kernel_rfl) (fun _ _ _ h => h) (Or.inl ⟨by rfl, ?_⟩) (by assumption) ?_
          rotate_left
          · (intro w hSw; (try dsimp only at hSw); go_simp <;> (try with_reducible rfl))
          ((try simp only [Act.put]); (try simp only [List.setIfInBounds_toArray]); (try simp only [List.set_cons_succ]); (try simp only [List.set_cons_zero]))
          refine take_yes (i := 7) (v := ?_) (some 61) rfl rfl (by kernel_rfl) (by kernel_rfl) (by kernel_rfl) (fun _ _ _ h => h) (Or.inl ⟨by rfl, ?_⟩) (by assumption) ?_
          rotate_left
          · (intro w hSw; (try dsimp only at hSw); go_simp <;> (try with_reducible rfl))
          ((try simp only [Act.put]); (try simp only [List.setIfInBounds_toArray]); (try simp only [List.set_cons_succ]); (try simp only [List.set_cons_zero]))
          refine take_yes (i := 8) (v := ?_) (some 62) rfl rfl (by kernel_rfl) (by kernel_rfl) (by kernel_rfl) (fun _ _ _ h => h) (Or.inl ⟨by rfl, ?_⟩) (by assumption) ?_
          rotate_left
          · (intro w hSw; (try dsimp only at hSw); go_simp <;> (try with_reducible rfl))
          ((try simp only [Act.put]); (try simp only [List.setIfInBounds_toArray]); (try simp only [List.set_cons_succ]); (try simp only [List.set_cons_zero]))
          refine take_yes (i := 9) (v := ?_) (some 63) rfl rfl (by kernel_rfl) (by kernel_rfl) (by kernel_rfl) (fun _ _ _ h => h) (Or.inl ⟨by rfl, ?_⟩) (by assumption) ?_
          rotate_left
          · (intro w hSw; (try dsimp only at hSw); go_simp <;> (try with_reducible rfl))
          ((try simp only [Act.put]); (try simp only [List.setIfInBounds_toArray]); (try simp only [List.set_cons_succ]); (try simp only [List.set_cons_zero]))
          refine take_yes (i := 10) (v := .int .i64 (K1 : Int)) (some 64) rfl rfl (by kernel_rfl) (by kernel_rfl) (by kernel_rfl) (fun _ _ _ h => h) (Or.inl ⟨by rfl, ?_⟩) (by assumption) ?_
          · (intro w hSw; (try dsimp only at hSw); go_simp <;> (first | (with_reducible rfl) | (rw [hwK])))
          ((try simp only [Act.put]); (try simp only [List.setIfInBounds_toArray]); (try simp only [List.set_cons_succ]); (try simp only [List.set_cons_zero]))
          refine take_yes (i := 11) (v := ?_) (some 65) rfl rfl (by kernel_rfl) (by kernel_rfl) (by kernel_rfl) (fun _ _ _ h => h) (Or.inl ⟨by rfl, ?_⟩) (by assumption) ?_
          rotate_left
          · (intro w hSw; (try dsimp only at hSw); go_simp <;> (try with_reducible rfl))
          ((try simp only [Act.put]); (try simp only [List.setIfInBounds_toArray]); (try simp only [List.set_cons_succ]); (try simp only [List.set_cons_zero]))
          refine wpAnyH_done (by kernel_rfl) ?_ _
          go_wp2
          go_cut [15] (fun vk wx => vk = .bool false ∧ Kp (fun _ => False) w3 wx)
          case first =>
            have hldf := HE.out.2.2.1
            go_upto_region 11 with fail
            refine wp_region_held_drew (S := fun w' => w'.cell? ⟨p, 3, none⟩ = some (.int .i64 (N1 : Int)) ∧ ∀ j v, LK.toList[j]? = some v → w'.cell? ⟨p, 4 + j, none⟩ = some v) (by kernel_rfl) ⟨e3, hldf⟩ (fun hHeld => ?_)
            refine take_yes (i := 0) (v := ?_) (some 67) rfl rfl (by kernel_rfl) (by kernel_rfl) (by kernel_rfl) (fun _ _ _ h => h) (Or.inl ⟨by rfl, ?_⟩) (by assumption) ?_
            rotate_left
            · (intro w hSw; (try dsimp only at hSw); go_simp <;> (try with_reducible rfl))
            ((try simp only [Act.put]); (try simp only [List.setIfInBounds_toArray]); (try simp only [List.set_cons_succ]); (try simp only [List.set_cons_zero]))
            refine take_yes (i := 1) (v := ?_) (some 68) rfl rfl (by kernel_rfl) (by kernel_rfl) (by kernel_rfl) (fun _ _ _ h => h) (Or.inl ⟨by rfl, ?_⟩) (by assumption) ?_
            rotate_left
            · (intro w hSw; (try dsimp only at hSw); go_simp <;> (try with_reducible rfl))
            ((try simp only [Act.put]); (try simp only [List.setIfInBounds_toArray]); (try simp only [List.set_cons_succ]); (try simp only [List.set_cons_zero]))
            refine take_yes (i := 2) (v := ?_) (some 69) rfl rfl (by kernel_rfl) (by kernel_rfl) (by kernel_rfl) (fun _ _ _ h => h) (Or.inl ⟨by rfl, ?_⟩) (by assumption) ?_
            rotate_left
            · (intro w hSw; (try dsimp only at hSw); go_simp <;> (try with_reducible rfl))
            ((try simp only [Act.put]); (try simp only [List.setIfInBounds_toArray]); (try simp only [List.set_cons_succ]); (try simp only [List.set_cons_zero]))
            refine take_yes (i := 3) (v := ?_) (some 70) rfl rfl (by kernel_rfl) (by kernel_rfl) (by kernel_rfl) (fun _ _ _ h => h) (Or.inl ⟨by rfl, ?_⟩) (by assumption) ?_
            rotate_left
            · (intro w hSw; (try dsimp only at hSw); go_simp <;> (try with_reducible rfl))
            ((try simp only [Act.put]); (try simp only [List.setIfInBounds_toArray]); (try simp only [List.set_cons_succ]); (try simp only [List.set_cons_zero]))
            refine take_yes (i := 4) (v := ?_) (some 71) rfl rfl (by kernel_rfl) (by kernel_rfl) (by kernel_rfl) (fun _ _ _ h => h) (Or.inl ⟨by rfl, ?_⟩) (by assumption) ?_
            rotate_left
            · (intro w hSw; (try dsimp only at hSw); go_simp <;> (try with_reducible rfl))
            ((try simp only [Act.put]); (try simp only [List.setIfInBounds_toArray]); (try simp only [List.set_cons_succ]); (try simp only [List.set_cons_zero]))
            refine take_yes (i := 5) (v := ?_) (some 72) rfl rfl (by kernel_rfl) (by kernel_rfl) (by kernel_rfl) (fun _ _ _ h => h) (Or.inl ⟨by rfl, ?_⟩) (by assumption) ?_
            rotate_left
            · (intro w hSw; (try dsimp only at hSw); go_simp <;> (try with_reducible rfl))
            ((try simp only [Act.put]); (try simp only [List.setIfInBounds_toArray]); (try simp only [List.set_cons_succ]); (try simp only [List.set_cons_zero]))
            refine take_yes (i := 6) (v := ?_) (some 73) rfl rfl (by kernel_rfl) (by kernel_rfl) (by kernel_rfl) (fun _ _ _ h => h) (Or.inl ⟨by rfl, ?_⟩) (by assumption) ?_
            rotate_left
            · (intro w hSw; (try dsimp only at hSw); go_simp <;> (try with_reducible rfl))
            ((try simp only [Act.put]); (try simp only [List.setIfInBounds_toArray]); (try simp only [List.set_cons_succ]); (try simp only [List.set_cons_zero]))
            refine take_yes (i := 7) (v := ?_) (some 74) rfl rfl (by kernel_rfl) (by kernel_rfl) (by kernel_rfl) (fun _ _ _ h => h) (Or.inl ⟨by rfl, ?_⟩) (by assumption) ?_
            rotate_left
            · (intro w hSw; (try dsimp only at hSw); go_simp <;> (try with_reducible rfl))
            ((try simp only [Act.put]); (try simp only [List.setIfInBounds_toArray]); (try simp only [List.set_cons_succ]); (try simp only [List.set_cons_zero]))
            refine take_yes (i := 8) (v := ?_) (some 75) rfl rfl (by kernel_rfl) (by kernel_rfl) (by kernel_rfl) (fun _ _ _ h => h) (Or.inl ⟨by rfl, ?_⟩) (by assumption) ?_
            rotate_left
            · (intro w hSw; (try dsimp only at hSw); go_simp <;> (try with_reducible rfl))
            ((try simp only [Act.put]); (try simp only [List.setIfInBounds_toArray]); (try simp only [List.set_cons_succ]); (try simp only [List.set_cons_zero]))
            refine take_yes (i := 9) (v := ?_) (some 76) rfl rfl (by kernel_rfl) (by kernel_rfl) (by kernel_rfl) (fun _ _ _ h => h) (Or.inl ⟨by rfl, ?_⟩) (by assumption) ?_
            rotate_left
            · (intro w hSw; (try dsimp only at hSw); go_simp <;> (try with_reducible rfl))
            ((try simp only [Act.put]); (try simp only [List.setIfInBounds_toArray]); (try simp only [List.set_cons_succ]); (try simp only [List.set_cons_zero]))
            refine take_yes (i := 10) (v := .agg LK) (some 77) rfl rfl (by kernel_rfl) (by kernel_rfl) (by kernel_rfl) (fun _ _ _ h => h) (Or.inl ⟨by rfl, ?_⟩) (by assumption) ?_
            · exact fun w hSw => load_take _ _ rfl (by rfl) hSw.2 ha hLi
            ((try simp only [Act.put]); (try simp only [List.setIfInBounds_toArray]); (try simp only [List.set_cons_succ]); (try simp only [List.set_cons_zero]))
            refine take_yes (i := 11) (v := ?_) (some 78) rfl rfl (by kernel_rfl) (by kernel_rfl) (by kernel_rfl) (fun _ _ _ h => h) (Or.inl ⟨by rfl, ?_⟩) (by assumption) ?_
            rotate_left
            · (intro w hSw; (try dsimp only at hSw); go_simp <;> (try with_reducible rfl))
            ((try simp only [Act.put]); (try simp only [List.setIfInBounds_toArray]); (try simp only [List.set_cons_succ]); (try simp only [List.set_cons_zero]))
            refine wpAnyH_ready (rs := [12, 18]) (by kernel_rfl) (by simp) ?_
            refine AllReadyH.cons (o := _) rfl (fun K hK => ?_) (AllReadyH.cons (o := _) rfl (fun K hK => ?_) AllReadyH.nil)
            · go_simp
              (go_at_call 61; refine (crec _).mono ?_; rintro e w4 ⟨rfl, hk4⟩; have H4c := Lib.hid (And.intro True.intro hk4); clear hk4)
              refine hK.out _ _ ⟨H4c.out.2.cell e3 id, fun j v hj => H4c.out.2.cell (hldf j v hj) id⟩ (fun hHeld => ?_)
              clear hK K
              ((try simp only [Act.put]); (try simp only [List.setIfInBounds_toArray]); (try simp only [List.set_cons_succ]); (try simp only [List.set_cons_zero]))
              refine take_yes (i := 13) (v := ?_) (some 66) rfl rfl (by kernel_rfl) (by kernel_rfl) (by kernel_rfl) (fun _ _ _ h => h) (Or.inl ⟨by rfl, ?_⟩) (by assumption) ?_
              rotate_left
              · (intro w hSw; (try dsimp only at hSw); go_simp <;> (try with_reducible rfl))
              ((try simp only [Act.put]); (try simp only [List.setIfInBounds_toArray]); (try simp only [List.set_cons_succ]); (try simp only [List.set_cons_zero]))
              refine take_yes (i := 14) (v := ?_) (some 80) rfl rfl (by kernel_rfl) (by kernel_rfl) (by kernel_rfl) (fun _ _ _ h => h) (Or.inl ⟨by rfl, ?_⟩) (by assumption) ?_
              rotate_left
              · (intro w hSw; (try dsimp only at hSw); go_simp <;> (try with_reducible rfl))
              ((try simp only [Act.put]); (try simp only [List.setIfInBounds_toArray]); (try simp only [List.set_cons_succ]); (try simp only [List.set_cons_zero]))
              refine take_yes (i := 15) (v := ?_) (some 81) rfl rfl (by kernel_rfl) (by kernel_rfl) (by kernel_rfl) (fun _ _ _ h => h) (Or.inl ⟨by rfl, ?_⟩) (by assumption) ?_
              rotate_left
              · (intro w hSw; (try dsimp only at hSw); go_simp <;> (try with_reducible rfl))
              ((try simp only [Act.put]); (try simp only [List.setIfInBounds_toArray]); (try simp only [List.set_cons_succ]); (try simp only [List.set_cons_zero]))
              refine take_yes (i := 16) (v := ?_) (some 82) rfl rfl (by kernel_rfl) (by kernel_rfl) (by kernel_rfl) (fun _ _ _ h => h) (Or.inl ⟨by rfl, ?_⟩) (by assumption) ?_
              rotate_left
              · (intro w hSw; (try dsimp only at hSw); go_simp <;> (try with_reducible rfl))
              ((try simp only [Act.put]); (try simp only [List.setIfInBounds_toArray]); (try simp only [List.set_cons_succ]); (try simp only [List.set_cons_zero]))
              refine take_yes (i := 17) (v := ?_) (some 83) rfl rfl (by kernel_rfl) (by kernel_rfl) (by kernel_rfl) (fun _ _ _ h => h) (Or.inl ⟨by rfl, ?_⟩) (by assumption) ?_
              rotate_left
              · (intro w hSw; (try dsimp only at hSw); go_simp <;> (try with_reducible rfl))
              ((try simp only [Act.put]); (try simp only [List.setIfInBounds_toArray]); (try simp only [List.set_cons_succ]); (try simp only [List.set_cons_zero]))
              refine wpAnyH_ready (rs := [18]) (by kernel_rfl) (by simp) ?_
              refine AllReadyH.cons (o := _) rfl (fun K hK => ?_) AllReadyH.nil
              go_simp
              skip
              refine hK.out _ _ ⟨((H4c.out.2.alloc (Obj.cells (byteVals (List.replicate 32 0)).toArray 74)).cell e3 id), fun j v hj => (H4c.out.2.alloc (Obj.cells (byteVals (List.replicate 32 0)).toArray 74)).cell (hldf j v hj) id⟩ (fun hHeld => ?_)
              clear hK K
              ((try simp only [Act.put]); (try simp only [List.setIfInBounds_toArray]); (try simp only [List.set_cons_succ]); (try simp only [List.set_cons_zero]))
              refine take_yes (i := 19) (v := ?_) (some 12) rfl rfl (by kernel_rfl) (by kernel_rfl) (by kernel_rfl) (fun _ _ _ h => h) (Or.inl ⟨by rfl, ?_⟩) (by assumption) ?_
              rotate_left
              · (intro w hSw; (try dsimp only at hSw); go_simp <;> (try with_reducible rfl))
              ((try simp only [Act.put]); (try simp only [List.setIfInBounds_toArray]); (try simp only [List.set_cons_succ]); (try simp only [List.set_cons_zero]))
              have hA : Kp (fun _ => False) w4 ((w4.alloc (Obj.cells (byteVals (List.replicate 32 0)).toArray 74)).setRow w4.heap.size LK) := ((Kp.refl _ w4).alloc _).setRow (.inr (Nat.le_refl _)) _
              have hZ : (w4.alloc (Obj.cells (byteVals (List.replicate 32 0)).toArray 74)).heap[w4.heap.size]? = some (.cells (byteVals (List.replicate 32 0)).toArray 74 (0, 0)) := heap_alloc_new w4 _
              refine wpAnyH_ready (rs := [20]) (by kernel_rfl) (by simp) ?_
              refine AllReadyH.cons (o := _) rfl (fun K hK => ?_) AllReadyH.nil
              skip
              (refine step_store_agg rfl _ _ _ rfl rfl rfl hZ hLi (by rw [hLs]; rfl) hL1 ?_)
              refine hK.out _ _ ⟨(H4c.out.2.trans hA).cell e3 id, fun j v hj => (H4c.out.2.trans hA).cell (hldf j v hj) id⟩ (fun hHeld => ?_)
              clear hK K
              ((try simp only [Act.put]); (try simp only [List.setIfInBounds_toArray]); (try simp only [List.set_cons_succ]); (try simp only [List.set_cons_zero]))
              refine take_yes (i := 21) (v := ?_) (some 14) rfl rfl (by kernel_rfl) (by kernel_rfl) (by kernel_rfl) (fun _ _ _ h => h) (Or.inl ⟨by rfl, ?_⟩) (by assumption) ?_
              rotate_left
              · (intro w hSw; (try dsimp only at hSw); go_simp <;> (try with_reducible rfl))
              ((try simp only [Act.put]); (try simp only [List.setIfInBounds_toArray]); (try simp only [List.set_cons_succ]); (try simp only [List.set_cons_zero]))
              refine take_yes (i := 22) (v := ?_) (some 15) rfl rfl (by kernel_rfl) (by kernel_rfl) (by kernel_rfl) (fun _ _ _ h => h) (Or.inl ⟨by rfl, ?_⟩) (by assumption) ?_
              rotate_left
              · (intro w hSw; (try dsimp only at hSw); go_simp <;> (try with_reducible rfl))
              ((try simp only [Act.put]); (try simp only [List.setIfInBounds_toArray]); (try simp only [List.set_cons_succ]); (try simp only [List.set_cons_zero]))
              refine wpAnyH_done (by kernel_rfl) ?_ _
              go_wp2_with (fail)
              go_meet
              exact ⟨rfl, (Kp.refl (fun _ => False) w3).drew.drew.trans (H4c.out.2.trans hA)⟩
            · go_simp
              skip
              refine hK.out _ _ ⟨((Kp.refl (fun _ => False) w3.drew.drew).alloc (Obj.cells (byteVals (List.replicate 32 0)).toArray 74)).cell e3 id, fun j v hj => ((Kp.refl (fun _ => False) w3.drew.drew).alloc (Obj.cells (byteVals (List.replicate 32 0)).toArray 74)).cell (hldf j v hj) id⟩ (fun hHeld => ?_)
              clear hK K
              ((try simp only [Act.put]); (try simp only [List.setIfInBounds_toArray]); (try simp only [List.set_cons_succ]); (try simp only [List.set_cons_zero]))
              have hZ : (w3.drew.drew.alloc (Obj.cells (byteVals (List.replicate 32 0)).toArray 74)).heap[w3.drew.heap.size]? = some (.cells (byteVals (List.replicate 32 0)).toArray 74 (0, 0)) := heap_alloc_new w3.drew.drew _
              have hkZ : Kp (fun _ => False) w3.drew (w3.drew.drew.alloc (Obj.cells (byteVals (List.replicate 32 0)).toArray 74)) := (Kp.refl _ w3.drew).drew.alloc _
              obtain ⟨wz, hwz⟩ : ∃ wz, w3.drew.drew.alloc (Obj.cells (byteVals (List.replicate 32 0)).toArray 74) = wz := ⟨_, rfl⟩
              rw [hwz] at hZ hkZ
              have hsZ : wz.heap.size = w3.drew.heap.size + 1 := by rw [← hwz]; simp
              change wpAnyH _ _ _ _ _ _ _ _ (w3.drew.drew.alloc (Obj.cells (byteVals (List.replicate 32 0)).toArray 74))
              rw [hwz]
              refine wpAnyH_ready (rs := [12]) (by kernel_rfl) (by simp) ?_
              refine AllReadyH.cons (o := _) rfl (fun K hK => ?_) AllReadyH.nil
              go_simp
              (go_at_call 61; refine (crec _).mono ?_; rintro e w4 ⟨rfl, hk4⟩; have H4c := Lib.hid (And.intro True.intro hk4); clear hk4)
              refine hK.out _ _ ⟨(hkZ.trans H4c.out.2).cell e3 id, fun j v hj => (hkZ.trans H4c.out.2).cell (hldf j v hj) id⟩ (fun hHeld => ?_)
              clear hK K
              ((try simp only [Act.put]); (try simp only [List.setIfInBounds_toArray]); (try simp only [List.set_cons_succ]); (try simp only [List.set_cons_zero]))
              refine take_yes (i := 13) (v := ?_) (some 66) rfl rfl (by kernel_rfl) (by kernel_rfl) (by kernel_rfl) (fun _ _ _ h => h) (Or.inl ⟨by rfl, ?_⟩) (by assumption) ?_
              rotate_left
              · (intro w hSw; (try dsimp only at hSw); go_simp <;> (try with_reducible rfl))
              ((try simp only [Act.put]); (try simp only [List.setIfInBounds_toArray]); (try simp only [List.set_cons_succ]); (try simp only [List.set_cons_zero]))
              refine take_yes (i := 14) (v := ?_) (some 80) rfl rfl (by kernel_rfl) (by kernel_rfl) (by kernel_rfl) (fun _ _ _ h => h) (Or.inl ⟨by rfl, ?_⟩) (by assumption) ?_
              rotate_left
              · (intro w hSw; (try dsimp only at hSw); go_simp <;> (try with_reducible rfl))
              ((try simp only [Act.put]); (try simp only [List.setIfInBounds_toArray]); (try simp only [List.set_cons_succ]); (try simp only [List.set_cons_zero]))
              refine take_yes (i := 15) (v := ?_) (some 81) rfl rfl (by kernel_rfl) (by kernel_rfl) (by kernel_rfl) (fun _ _ _ h => h) (Or.inl ⟨by rfl, ?_⟩) (by assumption) ?_
              rotate_left
              · (intro w hSw; (try dsimp only at hSw); go_simp <;> (try with_reducible rfl))
              ((try simp only [Act.put]); (try simp only [List.setIfInBounds_toArray]); (try simp only [List.set_cons_succ]); (try simp only [List.set_cons_zero]))
              refine take_yes (i := 16) (v := ?_) (some 82) rfl rfl (by kernel_rfl) (by kernel_rfl) (by kernel_rfl) (fun _ _ _ h => h) (Or.inl ⟨by rfl, ?_⟩) (by assumption) ?_
              rotate_left
              · (intro w hSw; (try dsimp only at hSw); go_simp <;> (try with_reducible rfl))
              ((try simp only [Act.put]); (try simp only [List.setIfInBounds_toArray]); (try simp only [List.set_cons_succ]); (try simp only [List.set_cons_zero]))
              refine take_yes (i := 17) (v := ?_) (some 83) rfl rfl (by kernel_rfl) (by kernel_rfl) (by kernel_rfl) (fun _ _ _ h => h) (Or.inl ⟨by rfl, ?_⟩) (by assumption) ?_
              rotate_left
              · (intro w hSw; (try dsimp only at hSw); go_simp <;> (try with_reducible rfl))
              ((try simp only [Act.put]); (try simp only [List.setIfInBounds_toArray]); (try simp only [List.set_cons_succ]); (try simp only [List.set_cons_zero]))
              refine take_yes (i := 19) (v := ?_) (some 12) rfl rfl (by kernel_rfl) (by kernel_rfl) (by kernel_rfl) (fun _ _ _ h => h) (Or.inl ⟨by rfl, ?_⟩) (by assumption) ?_
              rotate_left
              · (intro w hSw; (try dsimp only at hSw); go_simp <;> (try with_reducible rfl))
              ((try simp only [Act.put]); (try simp only [List.setIfInBounds_toArray]); (try simp only [List.set_cons_succ]); (try simp only [List.set_cons_zero]))
              have hZ4 := H4c.out.2.blk hZ id
              have hA : Kp (fun _ => False) w3.drew (w4.setRow w3.drew.heap.size LK) := (hkZ.trans H4c.out.2).setRow (.inr (Nat.le_refl _)) _
              refine wpAnyH_ready (rs := [20]) (by kernel_rfl) (by simp) ?_
              refine AllReadyH.cons (o := _) rfl (fun K hK => ?_) AllReadyH.nil
              skip
              (refine step_store_agg rfl _ _ _ rfl rfl rfl hZ4 hLi (by rw [hLs]; rfl) hL1 ?_)
              refine hK.out _ _ ⟨hA.cell e3 id, fun j v hj => hA.cell (hldf j v hj) id⟩ (fun hHeld => ?_)
              clear hK K
              ((try simp only [Act.put]); (try simp only [List.setIfInBounds_toArray]); (try simp only [List.set_cons_succ]); (try simp only [List.set_cons_zero]))
              refine take_yes (i := 21) (v := ?_) (some 14) rfl rfl (by kernel_rfl) (by kernel_rfl) (by kernel_rfl) (fun _ _ _ h => h) (Or.inl ⟨by rfl, ?_⟩) (by assumption) ?_
              rotate_left
              · (intro w hSw; (try dsimp only at hSw); go_simp <;> (try with_reducible rfl))
              ((try simp only [Act.put]); (try simp only [List.setIfInBounds_toArray]); (try simp only [List.set_cons_succ]); (try simp only [List.set_cons_zero]))
              refine take_yes (i := 22) (v := ?_) (some 15) rfl rfl (by kernel_rfl) (by kernel_rfl) (by kernel_rfl) (fun _ _ _ h => h) (Or.inl ⟨by rfl, ?_⟩) (by assumption) ?_
              rotate_left
              · (intro w hSw; (try dsimp only at hSw); go_simp <;> (try with_reducible rfl))
              ((try simp only [Act.put]); (try simp only [List.setIfInBounds_toArray]); (try simp only [List.set_cons_succ]); (try simp only [List.set_cons_zero]))
              refine wpAnyH_done (by kernel_rfl) ?_ _
              go_wp2_with (fail)
              go_meet
              exact ⟨rfl, (Kp.refl (fun _ => False) w3).drew.trans hA⟩
          case rest =>
            obtain ⟨rfl, hkc⟩ := hcut
            have HC := Lib.hid hkc
            clear hkc
            go_wp2
            go_ret3
            refine ⟨u7, kb, link, ?_, ?_⟩
            · rw [HE.out.1, HE.out.2.1]; rfl
            · have := H4.out.1.step HC.out
              rw [HE.out.1, show q * per = n by have := HE.out.2.1; omega] at this
              exact this
      · -- a file with bytes
        obtain ⟨hPe, hby, hmn, hmm, hPlen, hPb⟩ := HP.out
        rw [HN.out.2.2] at hby hmn
        have hb0 : BytesAt w3 (fun i => i = p ∨ u7.ownBlock = some i) (.slice (some ⟨g, 0, none⟩) Pl c) P := H4.out.2.2.1.mono fun i hi => by
          rcases hi with rfl | hi
          · exact HR.out.1.log.lt
          · exact (HR.out.1.row.lt i hi).2
        have hst : LRd w w3 p d per f rs (fun i => i < w.heap.size) u7 kb (kn + 0) link := by rw [Nat.add_zero, ← HN.out.2.2]; exact H4.out.1
        have hPc : Pl ≤ c := by
          have := hb0.len.2
          exact this
        have hfk : f * per ≤ kn := by rw [← HN.out.2.2]; exact Nat.mul_le_mul_right per hk1
        have HQ := Lib.hid (And.intro hby (And.intro hmn (And.intro hmm (And.intro hPlen (And.intro hPb (And.intro hb0 (And.intro hst hfk)))))))
        clear hPe hby hmn hmm hPlen hPb hb0 hst hfk
        go_wp2
        go_loopw [7, 8, 11] (fun vo vb va wx => ∃ (j : Nat) (kb' : Bool) (link' : List Int), j ≤ m ∧ va = .int .i64 (((segB rs kn j).length : Nat) : Int) ∧ vb = .bool kb' ∧ LRd w wx p d per f rs (fun i => i < w.heap.size) vo kb' (kn + j) link' ∧ BytesAt wx (fun i => i = p ∨ vo.ownBlock = some i) (.slice (some ⟨g, 0, none⟩) Pl c) P) (fun _ _ va _ => Pl - (intOf va).toNat)
        case atStart => exact ⟨0, kb, link, Nat.zero_le _, rfl, rfl, HQ.out.2.2.2.2.2.2.1, HQ.out.2.2.2.2.2.1⟩
        case round =>
          obtain ⟨j, kj, lj, hjm, rfl, rfl, hrj, hbj⟩ := hrel
          obtain ⟨hby, hmn, hmm, hPlen, hPb, _, _, hfk⟩ := HQ.out
          obtain ⟨a0, ha0⟩ : ∃ a0, (segB rs kn j).length = a0 := ⟨_, rfl⟩
          obtain ⟨i0, hi0⟩ : ∃ i0, kn + j = i0 := ⟨_, rfl⟩
          obtain ⟨N1, hN1⟩ : ∃ N1, i0 + 1 = N1 := ⟨_, rfl⟩
          obtain ⟨r, hr1, hr2, hr3⟩ := segB_split rs kn hjm
          have hdr : P.drop a0 = r ++ T' := by rw [hby, hr1, List.append_assoc, List.drop_append_of_le_length (by rw [ha0]; exact Nat.le_refl _), ← ha0, List.drop_length, List.nil_append]
          have hPl2 : Pl = a0 + (r.length + T'.length) := by
            rw [← hPlen, ← List.length_append, ← hdr, List.length_drop, hPlen]
            have : a0 ≤ P.length := by rw [hby, hr1, List.length_append, List.length_append, ha0]; omega
            omega
          rw [hi0] at hrj
          rw [ha0]
          have hlog := hrj.log
          have hll := hlog.2
          obtain ⟨LK, hLK⟩ : ∃ L, (byteVals lj).toArray = L := ⟨_, rfl⟩
          have hLs : LK.size = 32 := by rw [← hLK, List.size_toArray, byteVals_length, hll]
          have hL1 : ∀ x ∈ LK.toList, x.oneCell' = true := by rw [← hLK]; exact bytes_one _
          have hLi : (Tryz.prog.info? 74).map (·.size) = some LK.size := by rw [hLs]; kernel_rfl
          have hld := hlog.link
          rw [hLK] at hld
          have e1 := hlog.per
          have e3 := hlog.next
          rw [hN1] at e3
          obtain ⟨oA, hA0⟩ : ∃ oA, (if c = a0 then (some ⟨g, 0, none⟩ : Option Addr) else some ⟨g, a0, none⟩) = some ⟨g, oA, none⟩ := by
            split
            · exact ⟨_, rfl⟩
            · exact ⟨_, rfl⟩
          have hbA : BytesAt wr (fun _ => False) (.slice (some ⟨g, oA, none⟩) (Pl - a0) (c - a0)) (P.drop a0) := by
            by_cases hc : c = a0
            · have hPa : Pl = a0 := by omega
              have h0 : P.drop a0 = [] := List.drop_eq_nil_of_le (by rw [hPlen]; omega)
              rw [h0]
              exact ⟨_, _, by rw [hPa, Nat.sub_self]; rfl, Nat.zero_le _, fun x y hy => by simp at hy⟩
            · rw [if_neg hc] at hA0
              injection hA0 with hA0
              injection hA0 with _ hA0 _
              subst hA0
              have := (hbj.part (i := a0) (k := Pl - a0) (by omega)).mono (F' := fun _ => False) fun _ h => h.elim
              rw [Nat.zero_add, List.take_of_length_le (by rw [List.length_drop, hPlen]; omega)] at this
              exact this
          have hle1 : (a0 : Int) ≤ (Pl : Int) := by omega
          have hle2 : (Pl : Int) ≤ (c : Int) := by omega
          have hi0n : i0 ≤ n := by omega
          by_cases hjm2 : j < m
          · have hx : i0 < rs.length := by have := HS.out.2.2.2.1; omega
            obtain ⟨load, hload⟩ : ∃ load, rs[i0] = load := ⟨_, rfl⟩
            obtain ⟨hm1, hm2, hlb⟩ := HL.out.loads load (by rw [← hload]; exact List.getElem_mem hx)
            obtain ⟨lk, hlk⟩ : ∃ lk, linkAt rs (i0 + 1) = lk := ⟨_, rfl⟩
            have hkl : lk.length = 32 := by rw [← hlk]; exact (linkAt_ok rs _).1
            have hkb : Byts lk := by rw [← hlk]; exact (linkAt_ok rs _).2
            obtain ⟨DK, hDK⟩ : ∃ L, (byteVals lk).toArray = L := ⟨_, rfl⟩
            have hDs : DK.size = 32 := by rw [← hDK, List.size_toArray, byteVals_length, hkl]
            have hD1 : ∀ x ∈ DK.toList, x.oneCell' = true := by rw [← hDK]; exact bytes_one _
            have hDi : (Tryz.prog.info? 74).map (·.size) = some DK.size := by rw [hDs]; kernel_rfl
            obtain ⟨s, hs⟩ := hr2 hjm2
            rw [hi0] at hs
            have hsec : secOf rs i0 = lsecF N1 load lk := by rw [secOf_eq hx, hload, hlk, hN1]
            obtain ⟨X, hX⟩ : ∃ X, 32 * partsN (load.length + 36) = X := ⟨_, rfl⟩
            have hsl : (lsecF N1 load lk).length = X := by rw [lsecF_length _ _ hkl, hX]
            have hXl : (segB rs kn (j + 1)).length = a0 + X := by rw [segB_succ, List.length_append, ha0, hi0, hsec, hsl]
            have hX2 : X ≤ 6000 ∧ 1 ≤ X := by rw [← hX]; unfold partsN; omega
            have hdr2 : P.drop a0 = lsecF N1 load lk ++ (s ++ T') := by rw [hdr, hs, hsec, List.append_assoc]
            have haX : a0 + X ≤ Pl := by rw [hPl2, hs, hsec, List.length_append, hsl]; omega
            have hkn2' : kj = true → chainF lj load = lk := fun hk => by rw [hrj.linkOk hk, ← hlk, linkAt_succ hx, hload]
            have hcb : ∀ W : World, Kp (fun _ => False) wr W → Calls Tryz.prog 87 #[.slice (some ⟨g, oA, none⟩) (Pl - a0) (c - a0), .int .i64 (N1 : Int)] W fun e w' => ∃ v, e = .returned (.tuple #[v, .int .i64 (X : Int), .bool true]) ∧ Own8 w' W.heap.size v (lbodyF load lk) ∧ Kp (fun _ => False) W w' := fun W hW => by
              have hbl := lbodyF_length load hkl
              rw [hdr2] at hbA
              refine (lbody_any (hbA.kept hW (F' := fun _ => False) fun _ h => .inl h) (by rw [← hdr2]; exact hPb.drop a0) (by omega) (B := lbodyF load lk) (by omega) (by omega) (by omega) (Front.whole _ _ _ _) (Nat.le_refl _) (.inl rfl)).mono ?_
              rintro e w' ⟨⟨v, x, t, rfl, h1, _⟩, hk⟩
              obtain ⟨h2, rfl, rfl⟩ := h1 rfl
              refine ⟨v, ?_, h2, hk⟩
              rw [hbl, ← hX]
              rfl
            have crec : ∀ W : World, Kp (fun _ => False) wr W → Calls Tryz.prog 61 #[.slice (some ⟨g, oA, none⟩) (Pl - a0) (c - a0), .int .i64 (N1 : Int), .agg LK, .bool kj] W fun e w' => ∃ v, e = .returned (.tuple #[v, .agg DK, .int .i64 (X : Int), .bool true]) ∧ BytesAt w' (fun i => i < W.heap.size) v load ∧ Kp (fun _ => False) W w' := fun W hW => by
              have := record_good (w := W) (known := kj) (r := (N1 : Int)) (x := (X : Int)) hm1 hm2 hlb hkl hll hrj.byts hkn2' (fun W' hW' => hcb W' (hW.trans hW'))
              rw [hLK, hDK] at this
              exact this
            have hle : N1 ≤ K1 := by omega
            have hwN : IntKind.i64.wrap ((N1 : Int) + 1) = (N1 : Int) + 1 := IntWalk.i64_in _ (by omega)
            have hF0 : ∀ i, i < w.heap.size → i < wr.heap.size := fun i hi => Nat.lt_of_lt_of_le hi hrj.kp.size
            have hlen : ((rs.take i0).drop (f * per)).length ≤ 1000000 := by
              rw [List.length_drop, List.length_take]; omega
            have htk : (rs.take i0).drop (f * per) ++ [load] = (rs.take (i0 + 1)).drop (f * per) := by
              rw [List.take_succ_eq_append_getElem hx, hload, List.drop_append_of_le_length (by rw [List.length_take]; omega)]
            have HF := Lib.hid (And.intro hrj (And.intro hbj (And.intro hlog (And.intro hi0 (And.intro hN1 (And.intro hld (And.intro hF0 (And.intro hlen (And.intro htk (And.intro hlk (And.intro hkl (And.intro hkb (And.intro hDK (And.intro hXl haX))))))))))))))
            have HFK := Lib.hid hfk
            clear hrj hbj hlog hll hLK hld hbA hi0 hby hmn hPlen hPb hdr hPl2 hr1 hr2 hr3 ha0 hN1 hfk hmm hcb hload hlk hkl hkb hDK hs hsec hX hsl hXl hdr2 haX hkn2' hF0 hlen htk hx hm1 hm2 hlb
            go_upto_region 10 with fail
            refine wp_region_held_drew (S := fun w' => w'.cell? ⟨p, 3, none⟩ = some (.int .i64 (N1 : Int)) ∧ w'.cell? ⟨p, 1, none⟩ = some (.int .i64 (per : Int))) (by kernel_rfl) ⟨e3, e1⟩ (fun hHeld => ?_)
            refine take_yes (i := 0) (v := ?_) (some 54) rfl rfl (by kernel_rfl) (by kernel_rfl) (by kernel_rfl) (fun _ _ _ h => h) (Or.inl ⟨by rfl, ?_⟩) (by assumption) ?_
            rotate_left
            · (intro w hSw; (try dsimp only at hSw); go_simp <;> (try with_reducible rfl))
            ((try simp only [Act.put]); (try simp only [List.setIfInBounds_toArray]); (try simp only [List.set_cons_succ]); (try simp only [List.set_cons_zero]))
            refine take_yes (i := 1) (v := ?_) (some 55) rfl rfl (by kernel_rfl) (by kernel_rfl) (by kernel_rfl) (fun _ _ _ h => h) (Or.inl ⟨by rfl, ?_⟩) (by assumption) ?_
            rotate_left
            · (intro w hSw; (try dsimp only at hSw); go_simp <;> (try with_reducible rfl))
            ((try simp only [Act.put]); (try simp only [List.setIfInBounds_toArray]); (try simp only [List.set_cons_succ]); (try simp only [List.set_cons_zero]))
            refine take_yes (i := 2) (v := ?_) (some 56) rfl rfl (by kernel_rfl) (by kernel_rfl) (by kernel_rfl) (fun _ _ _ h => h) (Or.inl ⟨by rfl, ?_⟩) (by assumption) ?_
            rotate_left
            · (intro w hSw; (try dsimp only at hSw); go_simp <;> (try with_reducible rfl))
            ((try simp only [Act.put]); (try simp only [List.setIfInBounds_toArray]); (try simp only [List.set_cons_succ]); (try simp only [List.set_cons_zero]))
            refine take_yes (i := 3) (v := ?_) (some 57) rfl rfl (by kernel_rfl) (by kernel_rfl) (by kernel_rfl) (fun _ _ _ h => h) (Or.inl ⟨by rfl, ?_⟩) (by assumption) ?_
            rotate_left
            · (intro w hSw; (try dsimp only at hSw); go_simp <;> (try with_reducible rfl))
            ((try simp only [Act.put]); (try simp only [List.setIfInBounds_toArray]); (try simp only [List.set_cons_succ]); (try simp only [List.set_cons_zero]))
            refine take_yes (i := 4) (v := ?_) (some 58) rfl rfl (by kernel_rfl) (by kernel_rfl) (by kernel_rfl) (fun _ _ _ h => h) (Or.inl ⟨by rfl, ?_⟩) (by assumption) ?_
            rotate_left
            · (intro w hSw; (try dsimp only at hSw); go_simp <;> (try with_reducible rfl))
            ((try simp only [Act.put]); (try simp only [List.setIfInBounds_toArray]); (try simp only [List.set_cons_succ]); (try simp only [List.set_cons_zero]))
            refine take_yes (i := 5) (v := .int .i64 (k1 : Int)) (some 59) rfl rfl (by kernel_rfl) (by kernel_rfl) (by kernel_rfl) (fun _ _ _ h => h) (Or.inl ⟨by rfl, ?_⟩) (by assumption) ?_
            · (intro w hSw; (try dsimp only at hSw); go_simp <;> (first | (with_reducible rfl) | (rw [hwk1])))
            ((try simp only [Act.put]); (try simp only [List.setIfInBounds_toArray]); (try simp only [List.set_cons_succ]); (try simp only [List.set_cons_zero]))
            refine take_yes (i := 6) (v := ?_) (some 60) rfl rfl (by kernel_rfl) (by kernel_rfl) (by kernel_rfl) (fun _ _ _ h => h) (Or.inl ⟨by rfl, ?_⟩) (by assumption) ?_
            rotate_left
            · (intro w hSw; (try dsimp only at hSw); go_simp <;> (try with_reducible rfl))
            ((try simp only [Act.put]); (try simp only [List.setIfInBounds_toArray]); (try simp only [List.set_cons_succ]); (try simp only [List.set_cons_zero]))
            refine take_yes (i := 7) (v := ?_) (some 61) rfl rfl (by kernel_rfl) (by kernel_rfl) (by kernel_rfl) (fun _ _ _ h => h) (Or.inl ⟨by rfl, ?_⟩) (by assumption) ?_
            rotate_left
            · (intro w hSw; (try dsimp only at hSw); go_simp <;> (try with_reducible rfl))
            ((try simp only [Act.put]); (try simp only [List.setIfInBounds_toArray]); (try simp only [List.set_cons_succ]); (try simp only [List.set_cons_zero]))
            refine take_yes (i := 8) (v := ?_) (some 62) rfl rfl (by kernel_rfl) (by kernel_rfl) (by kernel_rfl) (fun _ _ _ h => h) (Or.inl ⟨by rfl, ?_⟩) (by assumption) ?_
            rotate_left
            · (intro w hSw; (try dsimp only at hSw); go_simp <;> (try with_reducible rfl))
            ((try simp only [Act.put]); (try simp only [List.setIfInBounds_toArray]); (try simp only [List.set_cons_succ]); (try simp only [List.set_cons_zero]))
            refine take_yes (i := 9) (v := ?_) (some 63) rfl rfl (by kernel_rfl) (by kernel_rfl) (by kernel_rfl) (fun _ _ _ h => h) (Or.inl ⟨by rfl, ?_⟩) (by assumption) ?_
            rotate_left
            · (intro w hSw; (try dsimp only at hSw); go_simp <;> (try with_reducible rfl))
            ((try simp only [Act.put]); (try simp only [List.setIfInBounds_toArray]); (try simp only [List.set_cons_succ]); (try simp only [List.set_cons_zero]))
            refine take_yes (i := 10) (v := .int .i64 (K1 : Int)) (some 64) rfl rfl (by kernel_rfl) (by kernel_rfl) (by kernel_rfl) (fun _ _ _ h => h) (Or.inl ⟨by rfl, ?_⟩) (by assumption) ?_
            · (intro w hSw; (try dsimp only at hSw); go_simp <;> (first | (with_reducible rfl) | (rw [hwK])))
            ((try simp only [Act.put]); (try simp only [List.setIfInBounds_toArray]); (try simp only [List.set_cons_succ]); (try simp only [List.set_cons_zero]))
            refine take_yes (i := 11) (v := ?_) (some 65) rfl rfl (by kernel_rfl) (by kernel_rfl) (by kernel_rfl) (fun _ _ _ h => h) (Or.inl ⟨by rfl, ?_⟩) (by assumption) ?_
            rotate_left
            · (intro w hSw; (try dsimp only at hSw); go_simp <;> (try with_reducible rfl))
            ((try simp only [Act.put]); (try simp only [List.setIfInBounds_toArray]); (try simp only [List.set_cons_succ]); (try simp only [List.set_cons_zero]))
            refine wpAnyH_done (by kernel_rfl) ?_ _
            go_wp2
            go_cut [12, 13, 14, 15] (fun vl vp vn vk wx => ∃ B : Nat, vp = .pointer (some ⟨B, 0, none⟩) ∧ vk = .bool true ∧ vn = .int .i64 (X : Int) ∧ BytesAt wx (fun i => i < wr.heap.size) vl load ∧ wx.heap[B]? = some (.cells DK 74 (0, 0)) ∧ wr.heap.size ≤ B ∧ Kp (fun _ => False) wr wx)
            case first =>
              have hldf := HF.out.2.2.2.2.2.1
              have hdw : Kp (fun _ => False) wr wr.drew.drew := (Kp.refl _ wr).drew.drew
              go_upto_region 11 with fail
              refine wp_region_held_drew (S := fun w' => w'.cell? ⟨p, 3, none⟩ = some (.int .i64 (N1 : Int)) ∧ ∀ j v, LK.toList[j]? = some v → w'.cell? ⟨p, 4 + j, none⟩ = some v) (by kernel_rfl) ⟨e3, hldf⟩ (fun hHeld => ?_)
              refine take_yes (i := 0) (v := ?_) (some 67) rfl rfl (by kernel_rfl) (by kernel_rfl) (by kernel_rfl) (fun _ _ _ h => h) (Or.inl ⟨by rfl, ?_⟩) (by assumption) ?_
              rotate_left
              · (intro w hSw; (try dsimp only at hSw); go_simp <;> (try with_reducible rfl))
              ((try simp only [Act.put]); (try simp only [List.setIfInBounds_toArray]); (try simp only [List.set_cons_succ]); (try simp only [List.set_cons_zero]))
              refine take_yes (i := 1) (v := ?_) (some 68) rfl rfl (by kernel_rfl) (by kernel_rfl) (by kernel_rfl) (fun _ _ _ h => h) (Or.inl ⟨by rfl, ?_⟩) (by assumption) ?_
              rotate_left
              · (intro w hSw; (try dsimp only at hSw); go_simp <;> (try with_reducible rfl))
              ((try simp only [Act.put]); (try simp only [List.setIfInBounds_toArray]); (try simp only [List.set_cons_succ]); (try simp only [List.set_cons_zero]))
              refine take_yes (i := 2) (v := ?_) (some 69) rfl rfl (by kernel_rfl) (by kernel_rfl) (by kernel_rfl) (fun _ _ _ h => h) (Or.inl ⟨by rfl, ?_⟩) (by assumption) ?_
              rotate_left
              · (intro w hSw; (try dsimp only at hSw); go_simp <;> (try with_reducible rfl))
              ((try simp only [Act.put]); (try simp only [List.setIfInBounds_toArray]); (try simp only [List.set_cons_succ]); (try simp only [List.set_cons_zero]))
              refine take_yes (i := 3) (v := ?_) (some 70) rfl rfl (by kernel_rfl) (by kernel_rfl) (by kernel_rfl) (fun _ _ _ h => h) (Or.inl ⟨by rfl, ?_⟩) (by assumption) ?_
              rotate_left
              · (intro w hSw; (try dsimp only at hSw); go_simp <;> (try with_reducible rfl))
              ((try simp only [Act.put]); (try simp only [List.setIfInBounds_toArray]); (try simp only [List.set_cons_succ]); (try simp only [List.set_cons_zero]))
              refine take_yes (i := 4) (v := ?_) (some 71) rfl rfl (by kernel_rfl) (by kernel_rfl) (by kernel_rfl) (fun _ _ _ h => h) (Or.inl ⟨by rfl, ?_⟩) (by assumption) ?_
              rotate_left
              · (intro w hSw; (try dsimp only at hSw); go_simp <;> (try with_reducible rfl))
              ((try simp only [Act.put]); (try simp only [List.setIfInBounds_toArray]); (try simp only [List.set_cons_succ]); (try simp only [List.set_cons_zero]))
              refine take_yes (i := 5) (v := ?_) (some 72) rfl rfl (by kernel_rfl) (by kernel_rfl) (by kernel_rfl) (fun _ _ _ h => h) (Or.inl ⟨by rfl, ?_⟩) (by assumption) ?_
              rotate_left
              · (intro w hSw; (try dsimp only at hSw); go_simp <;> (try with_reducible rfl))
              ((try simp only [Act.put]); (try simp only [List.setIfInBounds_toArray]); (try simp only [List.set_cons_succ]); (try simp only [List.set_cons_zero]))
              refine take_yes (i := 6) (v := ?_) (some 73) rfl rfl (by kernel_rfl) (by kernel_rfl) (by kernel_rfl) (fun _ _ _ h => h) (Or.inl ⟨by rfl, ?_⟩) (by assumption) ?_
              rotate_left
              · (intro w hSw; (try dsimp only at hSw); go_simp <;> (try with_reducible rfl))
              ((try simp only [Act.put]); (try simp only [List.setIfInBounds_toArray]); (try simp only [List.set_cons_succ]); (try simp only [List.set_cons_zero]))
              refine take_yes (i := 7) (v := ?_) (some 74) rfl rfl (by kernel_rfl) (by kernel_rfl) (by kernel_rfl) (fun _ _ _ h => h) (Or.inl ⟨by rfl, ?_⟩) (by assumption) ?_
              rotate_left
              · (intro w hSw; (try dsimp only at hSw); go_simp <;> (try with_reducible rfl))
              ((try simp only [Act.put]); (try simp only [List.setIfInBounds_toArray]); (try simp only [List.set_cons_succ]); (try simp only [List.set_cons_zero]))
              refine take_yes (i := 8) (v := ?_) (some 75) rfl rfl (by kernel_rfl) (by kernel_rfl) (by kernel_rfl) (fun _ _ _ h => h) (Or.inl ⟨by rfl, ?_⟩) (by assumption) ?_
              rotate_left
              · (intro w hSw; (try dsimp only at hSw); go_simp <;> (try with_reducible rfl))
              ((try simp only [Act.put]); (try simp only [List.setIfInBounds_toArray]); (try simp only [List.set_cons_succ]); (try simp only [List.set_cons_zero]))
              refine take_yes (i := 9) (v := ?_) (some 76) rfl rfl (by kernel_rfl) (by kernel_rfl) (by kernel_rfl) (fun _ _ _ h => h) (Or.inl ⟨by rfl, ?_⟩) (by assumption) ?_
              rotate_left
              · (intro w hSw; (try dsimp only at hSw); go_simp <;> (try with_reducible rfl))
              ((try simp only [Act.put]); (try simp only [List.setIfInBounds_toArray]); (try simp only [List.set_cons_succ]); (try simp only [List.set_cons_zero]))
              refine take_yes (i := 10) (v := .agg LK) (some 77) rfl rfl (by kernel_rfl) (by kernel_rfl) (by kernel_rfl) (fun _ _ _ h => h) (Or.inl ⟨by rfl, ?_⟩) (by assumption) ?_
              · exact fun w hSw => load_take _ _ rfl (by rfl) hSw.2 ha hLi
              ((try simp only [Act.put]); (try simp only [List.setIfInBounds_toArray]); (try simp only [List.set_cons_succ]); (try simp only [List.set_cons_zero]))
              refine take_yes (i := 11) (v := ?_) (some 78) rfl rfl (by kernel_rfl) (by kernel_rfl) (by kernel_rfl) (fun _ _ _ h => h) (Or.inl ⟨by rfl, ?_⟩) (by assumption) ?_
              rotate_left
              · (intro w hSw; (try dsimp only at hSw); go_simp <;> (try with_reducible rfl))
              ((try simp only [Act.put]); (try simp only [List.setIfInBounds_toArray]); (try simp only [List.set_cons_succ]); (try simp only [List.set_cons_zero]))
              refine wpAnyH_ready (rs := [12, 18]) (by kernel_rfl) (by simp) ?_
              refine AllReadyH.cons (o := _) rfl (fun K hK => ?_) (AllReadyH.cons (o := _) rfl (fun K hK => ?_) AllReadyH.nil)
              · go_simp
                (go_at_call 61; refine (crec _ hdw).mono ?_; rintro e w4 ⟨v4, rfl, hv4, hk4⟩; have H4c := Lib.hid (And.intro hv4 hk4); clear hv4 hk4)
                refine hK.out _ _ ⟨H4c.out.2.cell e3 id, fun j v hj => H4c.out.2.cell (hldf j v hj) id⟩ (fun hHeld => ?_)
                clear hK K
                ((try simp only [Act.put]); (try simp only [List.setIfInBounds_toArray]); (try simp only [List.set_cons_succ]); (try simp only [List.set_cons_zero]))
                refine take_yes (i := 13) (v := ?_) (some 66) rfl rfl (by kernel_rfl) (by kernel_rfl) (by kernel_rfl) (fun _ _ _ h => h) (Or.inl ⟨by rfl, ?_⟩) (by assumption) ?_
                rotate_left
                · (intro w hSw; (try dsimp only at hSw); go_simp <;> (try with_reducible rfl))
                ((try simp only [Act.put]); (try simp only [List.setIfInBounds_toArray]); (try simp only [List.set_cons_succ]); (try simp only [List.set_cons_zero]))
                refine take_yes (i := 14) (v := ?_) (some 80) rfl rfl (by kernel_rfl) (by kernel_rfl) (by kernel_rfl) (fun _ _ _ h => h) (Or.inl ⟨by rfl, ?_⟩) (by assumption) ?_
                rotate_left
                · (intro w hSw; (try dsimp only at hSw); go_simp <;> (try with_reducible rfl))
                ((try simp only [Act.put]); (try simp only [List.setIfInBounds_toArray]); (try simp only [List.set_cons_succ]); (try simp only [List.set_cons_zero]))
                refine take_yes (i := 15) (v := ?_) (some 81) rfl rfl (by kernel_rfl) (by kernel_rfl) (by kernel_rfl) (fun _ _ _ h => h) (Or.inl ⟨by rfl, ?_⟩) (by assumption) ?_
                rotate_left
                · (intro w hSw; (try dsimp only at hSw); go_simp <;> (try with_reducible rfl))
                ((try simp only [Act.put]); (try simp only [List.setIfInBounds_toArray]); (try simp only [List.set_cons_succ]); (try simp only [List.set_cons_zero]))
                refine take_yes (i := 16) (v := ?_) (some 82) rfl rfl (by kernel_rfl) (by kernel_rfl) (by kernel_rfl) (fun _ _ _ h => h) (Or.inl ⟨by rfl, ?_⟩) (by assumption) ?_
                rotate_left
                · (intro w hSw; (try dsimp only at hSw); go_simp <;> (try with_reducible rfl))
                ((try simp only [Act.put]); (try simp only [List.setIfInBounds_toArray]); (try simp only [List.set_cons_succ]); (try simp only [List.set_cons_zero]))
                refine take_yes (i := 17) (v := ?_) (some 83) rfl rfl (by kernel_rfl) (by kernel_rfl) (by kernel_rfl) (fun _ _ _ h => h) (Or.inl ⟨by rfl, ?_⟩) (by assumption) ?_
                rotate_left
                · (intro w hSw; (try dsimp only at hSw); go_simp <;> (try with_reducible rfl))
                ((try simp only [Act.put]); (try simp only [List.setIfInBounds_toArray]); (try simp only [List.set_cons_succ]); (try simp only [List.set_cons_zero]))
                refine wpAnyH_ready (rs := [18]) (by kernel_rfl) (by simp) ?_
                refine AllReadyH.cons (o := _) rfl (fun K hK => ?_) AllReadyH.nil
                go_simp
                skip
                refine hK.out _ _ ⟨((H4c.out.2.alloc (Obj.cells (byteVals (List.replicate 32 0)).toArray 74)).cell e3 id), fun j v hj => (H4c.out.2.alloc (Obj.cells (byteVals (List.replicate 32 0)).toArray 74)).cell (hldf j v hj) id⟩ (fun hHeld => ?_)
                clear hK K
                ((try simp only [Act.put]); (try simp only [List.setIfInBounds_toArray]); (try simp only [List.set_cons_succ]); (try simp only [List.set_cons_zero]))
                refine take_yes (i := 19) (v := ?_) (some 12) rfl rfl (by kernel_rfl) (by kernel_rfl) (by kernel_rfl) (fun _ _ _ h => h) (Or.inl ⟨by rfl, ?_⟩) (by assumption) ?_
                rotate_left
                · (intro w hSw; (try dsimp only at hSw); go_simp <;> (try with_reducible rfl))
                ((try simp only [Act.put]); (try simp only [List.setIfInBounds_toArray]); (try simp only [List.set_cons_succ]); (try simp only [List.set_cons_zero]))
                have hA : Kp (fun _ => False) w4 ((w4.alloc (Obj.cells (byteVals (List.replicate 32 0)).toArray 74)).setRow w4.heap.size DK) := ((Kp.refl _ w4).alloc _).setRow (.inr (Nat.le_refl _)) _
                have hZ : (w4.alloc (Obj.cells (byteVals (List.replicate 32 0)).toArray 74)).heap[w4.heap.size]? = some (.cells (byteVals (List.replicate 32 0)).toArray 74 (0, 0)) := heap_alloc_new w4 _
                refine wpAnyH_ready (rs := [20]) (by kernel_rfl) (by simp) ?_
                refine AllReadyH.cons (o := _) rfl (fun K hK => ?_) AllReadyH.nil
                skip
                (refine step_store_agg rfl _ _ _ rfl rfl rfl hZ hDi (by rw [hDs]; rfl) hD1 ?_)
                refine hK.out _ _ ⟨(H4c.out.2.trans hA).cell e3 id, fun j v hj => (H4c.out.2.trans hA).cell (hldf j v hj) id⟩ (fun hHeld => ?_)
                clear hK K
                ((try simp only [Act.put]); (try simp only [List.setIfInBounds_toArray]); (try simp only [List.set_cons_succ]); (try simp only [List.set_cons_zero]))
                refine take_yes (i := 21) (v := ?_) (some 14) rfl rfl (by kernel_rfl) (by kernel_rfl) (by kernel_rfl) (fun _ _ _ h => h) (Or.inl ⟨by rfl, ?_⟩) (by assumption) ?_
                rotate_left
                · (intro w hSw; (try dsimp only at hSw); go_simp <;> (try with_reducible rfl))
                ((try simp only [Act.put]); (try simp only [List.setIfInBounds_toArray]); (try simp only [List.set_cons_succ]); (try simp only [List.set_cons_zero]))
                refine take_yes (i := 22) (v := ?_) (some 15) rfl rfl (by kernel_rfl) (by kernel_rfl) (by kernel_rfl) (fun _ _ _ h => h) (Or.inl ⟨by rfl, ?_⟩) (by assumption) ?_
                rotate_left
                · (intro w hSw; (try dsimp only at hSw); go_simp <;> (try with_reducible rfl))
                ((try simp only [Act.put]); (try simp only [List.setIfInBounds_toArray]); (try simp only [List.set_cons_succ]); (try simp only [List.set_cons_zero]))
                refine wpAnyH_done (by kernel_rfl) ?_ _
                go_wp2_with (fail)
                go_meet
                have hwA : Kp (fun _ => False) wr ((w4.alloc (Obj.cells (byteVals (List.replicate 32 0)).toArray 74)).setRow w4.heap.size DK) := (Kp.refl (fun _ => False) wr).drew.drew.trans (H4c.out.2.trans hA)
                exact ⟨w4.heap.size, rfl, rfl, rfl, (H4c.out.1.kept (hA.mono fun _ h => h.elim) (F' := fun i => i < wr.heap.size) fun i hi => .inl hi), setRow_blk hZ, H4c.out.2.size, hwA⟩
              · go_simp
                skip
                refine hK.out _ _ ⟨((Kp.refl (fun _ => False) wr.drew.drew).alloc (Obj.cells (byteVals (List.replicate 32 0)).toArray 74)).cell e3 id, fun j v hj => ((Kp.refl (fun _ => False) wr.drew.drew).alloc (Obj.cells (byteVals (List.replicate 32 0)).toArray 74)).cell (hldf j v hj) id⟩ (fun hHeld => ?_)
                clear hK K
                ((try simp only [Act.put]); (try simp only [List.setIfInBounds_toArray]); (try simp only [List.set_cons_succ]); (try simp only [List.set_cons_zero]))
                have hZ : (wr.drew.drew.alloc (Obj.cells (byteVals (List.replicate 32 0)).toArray 74)).heap[wr.drew.heap.size]? = some (.cells (byteVals (List.replicate 32 0)).toArray 74 (0, 0)) := heap_alloc_new wr.drew.drew _
                have hkZ : Kp (fun _ => False) wr.drew (wr.drew.drew.alloc (Obj.cells (byteVals (List.replicate 32 0)).toArray 74)) := (Kp.refl _ wr.drew).drew.alloc _
                obtain ⟨wz, hwz⟩ : ∃ wz, wr.drew.drew.alloc (Obj.cells (byteVals (List.replicate 32 0)).toArray 74) = wz := ⟨_, rfl⟩
                rw [hwz] at hZ hkZ
                have hsZ : wz.heap.size = wr.drew.heap.size + 1 := by rw [← hwz]; simp
                change wpAnyH _ _ _ _ _ _ _ _ (wr.drew.drew.alloc (Obj.cells (byteVals (List.replicate 32 0)).toArray 74))
                rw [hwz]
                refine wpAnyH_ready (rs := [12]) (by kernel_rfl) (by simp) ?_
                refine AllReadyH.cons (o := _) rfl (fun K hK => ?_) AllReadyH.nil
                go_simp
                (go_at_call 61; refine (crec _ ((Kp.refl _ wr).drew.trans hkZ)).mono ?_; rintro e w4 ⟨v4, rfl, hv4, hk4⟩; have H4c := Lib.hid (And.intro hv4 hk4); clear hv4 hk4)
                refine hK.out _ _ ⟨(hkZ.trans H4c.out.2).cell e3 id, fun j v hj => (hkZ.trans H4c.out.2).cell (hldf j v hj) id⟩ (fun hHeld => ?_)
                clear hK K
                ((try simp only [Act.put]); (try simp only [List.setIfInBounds_toArray]); (try simp only [List.set_cons_succ]); (try simp only [List.set_cons_zero]))
                refine take_yes (i := 13) (v := ?_) (some 66) rfl rfl (by kernel_rfl) (by kernel_rfl) (by kernel_rfl) (fun _ _ _ h => h) (Or.inl ⟨by rfl, ?_⟩) (by assumption) ?_
                rotate_left
                · (intro w hSw; (try dsimp only at hSw); go_simp <;> (try with_reducible rfl))
                ((try simp only [Act.put]); (try simp only [List.setIfInBounds_toArray]); (try simp only [List.set_cons_succ]); (try simp only [List.set_cons_zero]))
                refine take_yes (i := 14) (v := ?_) (some 80) rfl rfl (by kernel_rfl) (by kernel_rfl) (by kernel_rfl) (fun _ _ _ h => h) (Or.inl ⟨by rfl, ?_⟩) (by assumption) ?_
                rotate_left
                · (intro w hSw; (try dsimp only at hSw); go_simp <;> (try with_reducible rfl))
                ((try simp only [Act.put]); (try simp only [List.setIfInBounds_toArray]); (try simp only [List.set_cons_succ]); (try simp only [List.set_cons_zero]))
                refine take_yes (i := 15) (v := ?_) (some 81) rfl rfl (by kernel_rfl) (by kernel_rfl) (by kernel_rfl) (fun _ _ _ h => h) (Or.inl ⟨by rfl, ?_⟩) (by assumption) ?_
                rotate_left
                · (intro w hSw; (try dsimp only at hSw); go_simp <;> (try with_reducible rfl))
                ((try simp only [Act.put]); (try simp only [List.setIfInBounds_toArray]); (try simp only [List.set_cons_succ]); (try simp only [List.set_cons_zero]))
                refine take_yes (i := 16) (v := ?_) (some 82) rfl rfl (by kernel_rfl) (by kernel_rfl) (by kernel_rfl) (fun _ _ _ h => h) (Or.inl ⟨by rfl, ?_⟩) (by assumption) ?_
                rotate_left
                · (intro w hSw; (try dsimp only at hSw); go_simp <;> (try with_reducible rfl))
                ((try simp only [Act.put]); (try simp only [List.setIfInBounds_toArray]); (try simp only [List.set_cons_succ]); (try simp only [List.set_cons_zero]))
                refine take_yes (i := 17) (v := ?_) (some 83) rfl rfl (by kernel_rfl) (by kernel_rfl) (by kernel_rfl) (fun _ _ _ h => h) (Or.inl ⟨by rfl, ?_⟩) (by assumption) ?_
                rotate_left
                · (intro w hSw; (try dsimp only at hSw); go_simp <;> (try with_reducible rfl))
                ((try simp only [Act.put]); (try simp only [List.setIfInBounds_toArray]); (try simp only [List.set_cons_succ]); (try simp only [List.set_cons_zero]))
                refine take_yes (i := 19) (v := ?_) (some 12) rfl rfl (by kernel_rfl) (by kernel_rfl) (by kernel_rfl) (fun _ _ _ h => h) (Or.inl ⟨by rfl, ?_⟩) (by assumption) ?_
                rotate_left
                · (intro w hSw; (try dsimp only at hSw); go_simp <;> (try with_reducible rfl))
                ((try simp only [Act.put]); (try simp only [List.setIfInBounds_toArray]); (try simp only [List.set_cons_succ]); (try simp only [List.set_cons_zero]))
                have hZ4 := H4c.out.2.blk hZ id
                have hA : Kp (fun _ => False) wr.drew (w4.setRow wr.drew.heap.size DK) := (hkZ.trans H4c.out.2).setRow (.inr (Nat.le_refl _)) _
                refine wpAnyH_ready (rs := [20]) (by kernel_rfl) (by simp) ?_
                refine AllReadyH.cons (o := _) rfl (fun K hK => ?_) AllReadyH.nil
                skip
                (refine step_store_agg rfl _ _ _ rfl rfl rfl hZ4 hDi (by rw [hDs]; rfl) hD1 ?_)
                refine hK.out _ _ ⟨hA.cell e3 id, fun j v hj => hA.cell (hldf j v hj) id⟩ (fun hHeld => ?_)
                clear hK K
                ((try simp only [Act.put]); (try simp only [List.setIfInBounds_toArray]); (try simp only [List.set_cons_succ]); (try simp only [List.set_cons_zero]))
                refine take_yes (i := 21) (v := ?_) (some 14) rfl rfl (by kernel_rfl) (by kernel_rfl) (by kernel_rfl) (fun _ _ _ h => h) (Or.inl ⟨by rfl, ?_⟩) (by assumption) ?_
                rotate_left
                · (intro w hSw; (try dsimp only at hSw); go_simp <;> (try with_reducible rfl))
                ((try simp only [Act.put]); (try simp only [List.setIfInBounds_toArray]); (try simp only [List.set_cons_succ]); (try simp only [List.set_cons_zero]))
                refine take_yes (i := 22) (v := ?_) (some 15) rfl rfl (by kernel_rfl) (by kernel_rfl) (by kernel_rfl) (fun _ _ _ h => h) (Or.inl ⟨by rfl, ?_⟩) (by assumption) ?_
                rotate_left
                · (intro w hSw; (try dsimp only at hSw); go_simp <;> (try with_reducible rfl))
                ((try simp only [Act.put]); (try simp only [List.setIfInBounds_toArray]); (try simp only [List.set_cons_succ]); (try simp only [List.set_cons_zero]))
                refine wpAnyH_done (by kernel_rfl) ?_ _
                go_wp2_with (fail)
                go_meet
                have hwA : Kp (fun _ => False) wr (w4.setRow wr.drew.heap.size DK) := (Kp.refl (fun _ => False) wr).drew.trans hA
                have hzz : wz.heap.size = wr.heap.size + 1 := hsZ
                exact ⟨wr.drew.heap.size, rfl, rfl, rfl, (H4c.out.1.kept ((Kp.refl (fun i => i < wz.heap.size) w4).setRow (g := wr.drew.heap.size) (.inl (by show wr.heap.size < wz.heap.size; omega)) DK) (F' := fun i => i < wr.heap.size) fun i hi => .inl (by show i < wz.heap.size; omega)), setRow_blk hZ4, Nat.le_refl _, hwA⟩
            case rest =>
              obtain ⟨B, rfl, rfl, rfl, hbl, hBc, hBs, hkc⟩ := hcut
              obtain ⟨pq, cq, hu, -, -⟩ := id hbl
              subst hu
              have hr := HF.out.1
              have hF0 := HF.out.2.2.2.2.2.2.1
              have hzc := hkc.size
              have hz0 := hr.kp.size
              have hlogc := hr.log.kept hkc id
              have hrowc := hr.row.kept hkc (fun _ h => h.elim) (fun _ _ h => h) (F' := fun i => i < w.heap.size) fun _ h => .inl h
              obtain ⟨v', w', hap, hrow', hkp', hown, hnew⟩ := hrowc.push (hbl.mono fun i hi => by
                rcases hi with hi | hi
                · exact hF0 i hi
                · exact (hr.row.lt i hi).2) (by omega) (fun i hi => Nat.lt_of_lt_of_le (hF0 i hi) hzc) HF.out.2.2.2.2.2.2.2.1 29
              rw [HF.out.2.2.2.2.2.2.2.2.1] at hrow'
              have hpo : ¬ u7.ownBlock = some p := fun he => by
                have h1 := (hr.row.lt p he).1
                have h2 := HS.out.1.log.lt
                omega
              have hlog' := hlogc.kept hkp' hpo
              have hB' := hkp'.blk hBc fun he => by have := (hr.row.lt B he).2; omega
              have hldB : ∀ x v, DK.toList[x]? = some v → w'.cell? ⟨B, 0 + x, none⟩ = some v := fun x v hx => by
                rw [Nat.zero_add, blk_cell hB']; simpa using hx
              have hblk := hlog'.1
              have hsz37 := hlog'.size
              have hlog5 := hlog'.setLink HF.out.2.2.2.2.2.2.2.2.2.2.1
              rw [HF.out.2.2.2.2.2.2.2.2.2.2.2.2.1] at hlog5
              obtain ⟨w5, hw5⟩ : ∃ w5, w'.setRow p (splice (logCells d (per : Int) ((f * per + 1 : Nat) : Int) ((i0 + 1 : Nat) : Int) lj false).toArray 4 DK.toList) = w5 := ⟨_, rfl⟩
              have hlog5' : LogAt w5 p d (per : Int) ((f * per + 1 : Nat) : Int) ((i0 + 1 : Nat) : Int) lk false := by rw [← hw5]; exact hlog5
              have hk5 : Kp (fun i => i = p) w' w5 := by rw [← hw5]; exact (Kp.refl (fun i => i = p) w').setRow (.inl rfl) _
              have x3 := hlog5'.next
              rw [HF.out.2.2.2.2.1] at x3
              have x3f := hlog5'.free 3
              have hlog6 := hlog5'.setNext (((i0 + 1 + 1 : Nat)) : Int)
              rw [show (((i0 + 1 + 1 : Nat)) : Int) = (N1 : Int) + 1 by have := HF.out.2.2.2.2.1; omega] at hlog6
              obtain ⟨w6, hw6⟩ : ∃ w6, w5.setCell ⟨p, 3, none⟩ (.int .i64 ((N1 : Int) + 1)) = w6 := ⟨_, rfl⟩
              have hk6 : Kp (fun i => i = p) w' w6 := by rw [← hw6]; exact hk5.setCell (p := ⟨p, 3, none⟩) (.inl rfl) _
              rw [hw6] at hlog6
              have hvp : ∀ i, v'.ownBlock = some i → ¬ i = p := fun i hi he => by
                subst he
                exact hpo (hown _ HS.out.1.log.lt hi)
              have hr6 : LRd w w6 p d per f rs (fun i => i < w.heap.size) v' true (kn + (j + 1)) lk := by
                have hij : kn + (j + 1) = i0 + 1 := by have := HF.out.2.2.2.1; omega
                rw [hij]
                refine ⟨?_, HF.out.2.2.2.2.2.2.2.2.2.2.2.1, ⟨fun _ => .inr (by have := HFK.out; have := HF.out.2.2.2.1; omega), fun _ => rfl⟩, fun _ => HF.out.2.2.2.2.2.2.2.2.2.1.symm, hrow'.kept hk6 (fun i hi => by have h0 := HS.out.1.log.lt; have h1 : i = p := hi; show i < w.heap.size; omega) hvp fun _ h => .inl h, ?_⟩
                · rw [show (((i0 + 1 + 1 : Nat)) : Int) = (N1 : Int) + 1 by have := HF.out.2.2.2.2.1; omega]; exact hlog6
                · exact ((hr.kp.trans (hkc.mono fun _ h => h.elim)).trans' hkp' fun i hi => .inr (hr.row.lt i hi).1).trans hk6
              have hb6 : BytesAt w6 (fun i => i = p ∨ v'.ownBlock = some i) (.slice (some ⟨g, 0, none⟩) Pl c) P := by
                have h1 := HF.out.2.1.kept (hkc.mono fun _ h => h.elim) (F' := fun i => i = p ∨ u7.ownBlock = some i) fun _ h => .inl h
                have h2 : BytesAt w' (fun i => i = p ∨ v'.ownBlock = some i) (.slice (some ⟨g, 0, none⟩) Pl c) P := h1.kept (hkp'.mono fun i hi => .inr hi) fun i hi => by
                  rcases hi with hi | hi
                  · exact .inl (.inl hi)
                  · rcases hnew i hi with h | h
                    · exact .inl (.inr h)
                    · exact .inr h
                exact h2.kept (hk6.mono fun i hi => .inl hi) fun _ h => .inl h
              have HG := Lib.hid (And.intro hr6 (And.intro hb6 (And.intro hw5 (And.intro hw6 (And.intro hblk hsz37)))))
              clear hr6 hb6 hw5 hw6 hblk hsz37 hr hF0 hzc hz0 hlogc hrowc hrow' hkp' hown hpo hlog' hB' hlog5 hlog5' hk5 hlog6 hk6 hvp hbl hBc hBs hkc crec hA0
              go_wp2_with (first
                | (at_builtin; refine wpList_append_run rfl _ _ _ _ rfl rfl rfl hap ?_)
                | (refine wpList_load_agg rfl 74 _ rfl rfl DK hldB ha hDi ?_)
                | (refine wpList_store_agg (cells := DK) rfl 74 _ _ rfl rfl rfl (by exact HG.out.2.2.2.2.1) hDi (by rw [hDs, HG.out.2.2.2.2.2]; decide) hD1 ?_; rw [HG.out.2.2.1]))
              rw [HG.out.2.2.2.1]
              go_roundw
              case rel => exact ⟨j + 1, true, lk, by omega, by have := HF.out.2.2.2.2.2.2.2.2.2.2.2.2.2.1; rw [this]; go_num, rfl, HG.out.1, HG.out.2.1⟩
              case measure => have := HF.out.2.2.2.2.2.2.2.2.2.2.2.2.2.2; simp [intOf]; omega
          · obtain rfl : j = m := by omega
            have hr0 := hr3 rfl
            rcases hmm with ⟨hmp, hT0, hkq⟩ | ⟨hmp, hkq, hmod, hstub⟩
            · -- a whole segment
              have hnle : ¬ N1 ≤ K1 := by omega
              have hna : ¬ a0 < Pl := by rw [hPl2, hr0, hT0]; simp
              have HF := Lib.hid (And.intro hrj (And.intro hkq (And.intro hi0 hmp)))
              clear hrj hbj hlog hll hLK hld hA0 hbA hr0 hT0 hkq hi0 hmp hby hmn hPlen hPb hdr hPl2 hr1 hr2 hr3 ha0 hN1 hfk
              go_upto_region 10 with fail
              refine wp_region_held_drew (S := fun w' => w'.cell? ⟨p, 3, none⟩ = some (.int .i64 (N1 : Int)) ∧ w'.cell? ⟨p, 1, none⟩ = some (.int .i64 (per : Int))) (by kernel_rfl) ⟨e3, e1⟩ (fun hHeld => ?_)
              refine take_yes (i := 0) (v := ?_) (some 54) rfl rfl (by kernel_rfl) (by kernel_rfl) (by kernel_rfl) (fun _ _ _ h => h) (Or.inl ⟨by rfl, ?_⟩) (by assumption) ?_
              rotate_left
              · (intro w hSw; (try dsimp only at hSw); go_simp <;> (try with_reducible rfl))
              ((try simp only [Act.put]); (try simp only [List.setIfInBounds_toArray]); (try simp only [List.set_cons_succ]); (try simp only [List.set_cons_zero]))
              refine take_yes (i := 1) (v := ?_) (some 55) rfl rfl (by kernel_rfl) (by kernel_rfl) (by kernel_rfl) (fun _ _ _ h => h) (Or.inl ⟨by rfl, ?_⟩) (by assumption) ?_
              rotate_left
              · (intro w hSw; (try dsimp only at hSw); go_simp <;> (try with_reducible rfl))
              ((try simp only [Act.put]); (try simp only [List.setIfInBounds_toArray]); (try simp only [List.set_cons_succ]); (try simp only [List.set_cons_zero]))
              refine take_yes (i := 2) (v := ?_) (some 56) rfl rfl (by kernel_rfl) (by kernel_rfl) (by kernel_rfl) (fun _ _ _ h => h) (Or.inl ⟨by rfl, ?_⟩) (by assumption) ?_
              rotate_left
              · (intro w hSw; (try dsimp only at hSw); go_simp <;> (try with_reducible rfl))
              ((try simp only [Act.put]); (try simp only [List.setIfInBounds_toArray]); (try simp only [List.set_cons_succ]); (try simp only [List.set_cons_zero]))
              refine take_yes (i := 3) (v := ?_) (some 57) rfl rfl (by kernel_rfl) (by kernel_rfl) (by kernel_rfl) (fun _ _ _ h => h) (Or.inl ⟨by rfl, ?_⟩) (by assumption) ?_
              rotate_left
              · (intro w hSw; (try dsimp only at hSw); go_simp <;> (try with_reducible rfl))
              ((try simp only [Act.put]); (try simp only [List.setIfInBounds_toArray]); (try simp only [List.set_cons_succ]); (try simp only [List.set_cons_zero]))
              refine take_yes (i := 4) (v := ?_) (some 58) rfl rfl (by kernel_rfl) (by kernel_rfl) (by kernel_rfl) (fun _ _ _ h => h) (Or.inl ⟨by rfl, ?_⟩) (by assumption) ?_
              rotate_left
              · (intro w hSw; (try dsimp only at hSw); go_simp <;> (try with_reducible rfl))
              ((try simp only [Act.put]); (try simp only [List.setIfInBounds_toArray]); (try simp only [List.set_cons_succ]); (try simp only [List.set_cons_zero]))
              refine take_yes (i := 5) (v := .int .i64 (k1 : Int)) (some 59) rfl rfl (by kernel_rfl) (by kernel_rfl) (by kernel_rfl) (fun _ _ _ h => h) (Or.inl ⟨by rfl, ?_⟩) (by assumption) ?_
              · (intro w hSw; (try dsimp only at hSw); go_simp <;> (first | (with_reducible rfl) | (rw [hwk1])))
              ((try simp only [Act.put]); (try simp only [List.setIfInBounds_toArray]); (try simp only [List.set_cons_succ]); (try simp only [List.set_cons_zero]))
              refine take_yes (i := 6) (v := ?_) (some 60) rfl rfl (by kernel_rfl) (by kernel_rfl) (by kernel_rfl) (fun _ _ _ h => h) (Or.inl ⟨by rfl, ?_⟩) (by assumption) ?_
              rotate_left
              · (intro w hSw; (try dsimp only at hSw); go_simp <;> (try with_reducible rfl))
              ((try simp only [Act.put]); (try simp only [List.setIfInBounds_toArray]); (try simp only [List.set_cons_succ]); (try simp only [List.set_cons_zero]))
              refine take_yes (i := 7) (v := ?_) (some 61) rfl rfl (by kernel_rfl) (by kernel_rfl) (by kernel_rfl) (fun _ _ _ h => h) (Or.inl ⟨by rfl, ?_⟩) (by assumption) ?_
              rotate_left
              · (intro w hSw; (try dsimp only at hSw); go_simp <;> (try with_reducible rfl))
              ((try simp only [Act.put]); (try simp only [List.setIfInBounds_toArray]); (try simp only [List.set_cons_succ]); (try simp only [List.set_cons_zero]))
              refine take_yes (i := 8) (v := ?_) (some 62) rfl rfl (by kernel_rfl) (by kernel_rfl) (by kernel_rfl) (fun _ _ _ h => h) (Or.inl ⟨by rfl, ?_⟩) (by assumption) ?_
              rotate_left
              · (intro w hSw; (try dsimp only at hSw); go_simp <;> (try with_reducible rfl))
              ((try simp only [Act.put]); (try simp only [List.setIfInBounds_toArray]); (try simp only [List.set_cons_succ]); (try simp only [List.set_cons_zero]))
              refine take_yes (i := 9) (v := ?_) (some 63) rfl rfl (by kernel_rfl) (by kernel_rfl) (by kernel_rfl) (fun _ _ _ h => h) (Or.inl ⟨by rfl, ?_⟩) (by assumption) ?_
              rotate_left
              · (intro w hSw; (try dsimp only at hSw); go_simp <;> (try with_reducible rfl))
              ((try simp only [Act.put]); (try simp only [List.setIfInBounds_toArray]); (try simp only [List.set_cons_succ]); (try simp only [List.set_cons_zero]))
              refine take_yes (i := 10) (v := .int .i64 (K1 : Int)) (some 64) rfl rfl (by kernel_rfl) (by kernel_rfl) (by kernel_rfl) (fun _ _ _ h => h) (Or.inl ⟨by rfl, ?_⟩) (by assumption) ?_
              · (intro w hSw; (try dsimp only at hSw); go_simp <;> (first | (with_reducible rfl) | (rw [hwK])))
              ((try simp only [Act.put]); (try simp only [List.setIfInBounds_toArray]); (try simp only [List.set_cons_succ]); (try simp only [List.set_cons_zero]))
              refine take_yes (i := 11) (v := ?_) (some 65) rfl rfl (by kernel_rfl) (by kernel_rfl) (by kernel_rfl) (fun _ _ _ h => h) (Or.inl ⟨by rfl, ?_⟩) (by assumption) ?_
              rotate_left
              · (intro w hSw; (try dsimp only at hSw); go_simp <;> (try with_reducible rfl))
              ((try simp only [Act.put]); (try simp only [List.setIfInBounds_toArray]); (try simp only [List.set_cons_succ]); (try simp only [List.set_cons_zero]))
              refine wpAnyH_done (by kernel_rfl) ?_ _
              go_wp2
              go_roundw
              case rel =>
                refine ⟨k1, kj, lj, by have := HN.out.1; omega, by have := HN.out.1; have := HF.out.2.1; omega, rfl, rfl, ?_⟩
                have := HF.out.1
                rw [HN.out.2.1, hKK, show kn + per = i0 by have := HF.out.2.2.1; have := HF.out.2.2.2; omega]
                exact this.step (Kp.refl _ wr).drew
              case measure => have := HN.out.1; have := HF.out.2.1; simp [intOf]; omega
            · -- broken off
              have hle : N1 ≤ K1 := by omega
              have hcb : ∀ W : World, Kp (fun _ => False) wr W → Calls Tryz.prog 87 #[.slice (some ⟨g, oA, none⟩) (Pl - a0) (c - a0), .int .i64 (N1 : Int)] W fun e w' => e = .returned (.tuple #[.slice none 0 0, .int .i64 0, .bool false]) ∧ Kp (fun _ => False) W w' := fun W hW => by
                obtain ⟨B, x0, hB1, hB2, hfr, hx0, hbr⟩ := hstub
                have hT : P.drop a0 = T' := by rw [hdr, hr0, List.nil_append]
                rw [hT] at hbA
                have hTb : Byts T' := by rw [← hT]; exact hPb.drop a0
                have hnr : n + 1 = N1 := by rw [← hN1, ← hi0, hmod, ← HN.out.2.2, hkq]; omega
                rw [hnr] at hfr
                refine (lbody_any (hbA.kept hW (F' := fun _ => False) fun _ h => .inl h) hTb (by omega) hB1 hB2 (by omega) hfr (Nat.le_of_lt hx0) (.inr hbr)).mono ?_
                rintro e w' ⟨⟨v, x, t, rfl, _, h2⟩, hk⟩
                obtain ⟨rfl, rfl, rfl⟩ := h2 hx0
                exact ⟨rfl, hk⟩
              have crec : ∀ W : World, Kp (fun _ => False) wr W → Calls Tryz.prog 61 #[.slice (some ⟨g, oA, none⟩) (Pl - a0) (c - a0), .int .i64 (N1 : Int), .agg LK, .bool kj] W fun e w' => e = .returned (.tuple #[.slice none 0 0, .agg LK, .int .i64 0, .bool false]) ∧ Kp (fun _ => False) W w' := fun W hW => by
                have := record_none (w := W) (known := kj) (r := (N1 : Int)) hll (fun W' hW' => hcb W' (hW.trans hW'))
                rw [hLK] at this
                exact this
              have HF := Lib.hid (And.intro hrj (And.intro hkq (And.intro hi0 (And.intro hmod (And.intro hld ha0)))))
              clear hrj hbj hlog hll hLK hld hbA hr0 hkq hi0 hmod hby hmn hPlen hPb hdr hPl2 hr1 hr2 hr3 ha0 hN1 hfk hstub hcb
              go_upto_region 10 with fail
              refine wp_region_held_drew (S := fun w' => w'.cell? ⟨p, 3, none⟩ = some (.int .i64 (N1 : Int)) ∧ w'.cell? ⟨p, 1, none⟩ = some (.int .i64 (per : Int))) (by kernel_rfl) ⟨e3, e1⟩ (fun hHeld => ?_)
              refine take_yes (i := 0) (v := ?_) (some 54) rfl rfl (by kernel_rfl) (by kernel_rfl) (by kernel_rfl) (fun _ _ _ h => h) (Or.inl ⟨by rfl, ?_⟩) (by assumption) ?_
              rotate_left
              · (intro w hSw; (try dsimp only at hSw); go_simp <;> (try with_reducible rfl))
              ((try simp only [Act.put]); (try simp only [List.setIfInBounds_toArray]); (try simp only [List.set_cons_succ]); (try simp only [List.set_cons_zero]))
              refine take_yes (i := 1) (v := ?_) (some 55) rfl rfl (by kernel_rfl) (by kernel_rfl) (by kernel_rfl) (fun _ _ _ h => h) (Or.inl ⟨by rfl, ?_⟩) (by assumption) ?_
              rotate_left
              · (intro w hSw; (try dsimp only at hSw); go_simp <;> (try with_reducible rfl))
              ((try simp only [Act.put]); (try simp only [List.setIfInBounds_toArray]); (try simp only [List.set_cons_succ]); (try simp only [List.set_cons_zero]))
              refine take_yes (i := 2) (v := ?_) (some 56) rfl rfl (by kernel_rfl) (by kernel_rfl) (by kernel_rfl) (fun _ _ _ h => h) (Or.inl ⟨by rfl, ?_⟩) (by assumption) ?_
              rotate_left
              · (intro w hSw; (try dsimp only at hSw); go_simp <;> (try with_reducible rfl))
              ((try simp only [Act.put]); (try simp only [List.setIfInBounds_toArray]); (try simp only [List.set_cons_succ]); (try simp only [List.set_cons_zero]))
              refine take_yes (i := 3) (v := ?_) (some 57) rfl rfl (by kernel_rfl) (by kernel_rfl) (by kernel_rfl) (fun _ _ _ h => h) (Or.inl ⟨by rfl, ?_⟩) (by assumption) ?_
              rotate_left
              · (intro w hSw; (try dsimp only at hSw); go_simp <;> (try with_reducible rfl))
              ((try simp only [Act.put]); (try simp only [List.setIfInBounds_toArray]); (try simp only [List.set_cons_succ]); (try simp only [List.set_cons_zero]))
              refine take_yes (i := 4) (v := ?_) (some 58) rfl rfl (by kernel_rfl) (by kernel_rfl) (by kernel_rfl) (fun _ _ _ h => h) (Or.inl ⟨by rfl, ?_⟩) (by assumption) ?_
              rotate_left
              · (intro w hSw; (try dsimp only at hSw); go_simp <;> (try with_reducible rfl))
              ((try simp only [Act.put]); (try simp only [List.setIfInBounds_toArray]); (try simp only [List.set_cons_succ]); (try simp only [List.set_cons_zero]))
              refine take_yes (i := 5) (v := .int .i64 (k1 : Int)) (some 59) rfl rfl (by kernel_rfl) (by kernel_rfl) (by kernel_rfl) (fun _ _ _ h => h) (Or.inl ⟨by rfl, ?_⟩) (by assumption) ?_
              · (intro w hSw; (try dsimp only at hSw); go_simp <;> (first | (with_reducible rfl) | (rw [hwk1])))
              ((try simp only [Act.put]); (try simp only [List.setIfInBounds_toArray]); (try simp only [List.set_cons_succ]); (try simp only [List.set_cons_zero]))
              refine take_yes (i := 6) (v := ?_) (some 60) rfl rfl (by kernel_rfl) (by kernel_rfl) (by kernel_rfl) (fun _ _ _ h => h) (Or.inl ⟨by rfl, ?_⟩) (by assumption) ?_
              rotate_left
              · (intro w hSw; (try dsimp only at hSw); go_simp <;> (try with_reducible rfl))
              ((try simp only [Act.put]); (try simp only [List.setIfInBounds_toArray]); (try simp only [List.set_cons_succ]); (try simp only [List.set_cons_zero]))
              refine take_yes (i := 7) (v := ?_) (some 61) rfl rfl (by kernel_rfl) (by kernel_rfl) (by kernel_rfl) (fun _ _ _ h => h) (Or.inl ⟨by rfl, ?_⟩) (by assumption) ?_
              rotate_left
              · (intro w hSw; (try dsimp only at hSw); go_simp <;> (try with_reducible rfl))
              ((try simp only [Act.put]); (try simp only [List.setIfInBounds_toArray]); (try simp only [List.set_cons_succ]); (try simp only [List.set_cons_zero]))
              refine take_yes (i := 8) (v := ?_) (some 62) rfl rfl (by kernel_rfl) (by kernel_rfl) (by kernel_rfl) (fun _ _ _ h => h) (Or.inl ⟨by rfl, ?_⟩) (by assumption) ?_
              rotate_left
              · (intro w hSw; (try dsimp only at hSw); go_simp <;> (try with_reducible rfl))
              ((try simp only [Act.put]); (try simp only [List.setIfInBounds_toArray]); (try simp only [List.set_cons_succ]); (try simp only [List.set_cons_zero]))
              refine take_yes (i := 9) (v := ?_) (some 63) rfl rfl (by kernel_rfl) (by kernel_rfl) (by kernel_rfl) (fun _ _ _ h => h) (Or.inl ⟨by rfl, ?_⟩) (by assumption) ?_
              rotate_left
              · (intro w hSw; (try dsimp only at hSw); go_simp <;> (try with_reducible rfl))
              ((try simp only [Act.put]); (try simp only [List.setIfInBounds_toArray]); (try simp only [List.set_cons_succ]); (try simp only [List.set_cons_zero]))
              refine take_yes (i := 10) (v := .int .i64 (K1 : Int)) (some 64) rfl rfl (by kernel_rfl) (by kernel_rfl) (by kernel_rfl) (fun _ _ _ h => h) (Or.inl ⟨by rfl, ?_⟩) (by assumption) ?_
              · (intro w hSw; (try dsimp only at hSw); go_simp <;> (first | (with_reducible rfl) | (rw [hwK])))
              ((try simp only [Act.put]); (try simp only [List.setIfInBounds_toArray]); (try simp only [List.set_cons_succ]); (try simp only [List.set_cons_zero]))
              refine take_yes (i := 11) (v := ?_) (some 65) rfl rfl (by kernel_rfl) (by kernel_rfl) (by kernel_rfl) (fun _ _ _ h => h) (Or.inl ⟨by rfl, ?_⟩) (by assumption) ?_
              rotate_left
              · (intro w hSw; (try dsimp only at hSw); go_simp <;> (try with_reducible rfl))
              ((try simp only [Act.put]); (try simp only [List.setIfInBounds_toArray]); (try simp only [List.set_cons_succ]); (try simp only [List.set_cons_zero]))
              refine wpAnyH_done (by kernel_rfl) ?_ _
              go_wp2
              go_cut [15] (fun vk wx => vk = .bool false ∧ Kp (fun _ => False) wr wx)
              case first =>
                have hldf := HF.out.2.2.2.2.1
                have hdw : Kp (fun _ => False) wr wr.drew.drew := (Kp.refl _ wr).drew.drew
                go_upto_region 11 with fail
                refine wp_region_held_drew (S := fun w' => w'.cell? ⟨p, 3, none⟩ = some (.int .i64 (N1 : Int)) ∧ ∀ j v, LK.toList[j]? = some v → w'.cell? ⟨p, 4 + j, none⟩ = some v) (by kernel_rfl) ⟨e3, hldf⟩ (fun hHeld => ?_)
                refine take_yes (i := 0) (v := ?_) (some 67) rfl rfl (by kernel_rfl) (by kernel_rfl) (by kernel_rfl) (fun _ _ _ h => h) (Or.inl ⟨by rfl, ?_⟩) (by assumption) ?_
                rotate_left
                · (intro w hSw; (try dsimp only at hSw); go_simp <;> (try with_reducible rfl))
                ((try simp only [Act.put]); (try simp only [List.setIfInBounds_toArray]); (try simp only [List.set_cons_succ]); (try simp only [List.set_cons_zero]))
                refine take_yes (i := 1) (v := ?_) (some 68) rfl rfl (by kernel_rfl) (by kernel_rfl) (by kernel_rfl) (fun _ _ _ h => h) (Or.inl ⟨by rfl, ?_⟩) (by assumption) ?_
                rotate_left
                · (intro w hSw; (try dsimp only at hSw); go_simp <;> (try with_reducible rfl))
                ((try simp only [Act.put]); (try simp only [List.setIfInBounds_toArray]); (try simp only [List.set_cons_succ]); (try simp only [List.set_cons_zero]))
                refine take_yes (i := 2) (v := ?_) (some 69) rfl rfl (by kernel_rfl) (by kernel_rfl) (by kernel_rfl) (fun _ _ _ h => h) (Or.inl ⟨by rfl, ?_⟩) (by assumption) ?_
                rotate_left
                · (intro w hSw; (try dsimp only at hSw); go_simp <;> (try with_reducible rfl))
                ((try simp only [Act.put]); (try simp only [List.setIfInBounds_toArray]); (try simp only [List.set_cons_succ]); (try simp only [List.set_cons_zero]))
                refine take_yes (i := 3) (v := ?_) (some 70) rfl rfl (by kernel_rfl) (by kernel_rfl) (by kernel_rfl) (fun _ _ _ h => h) (Or.inl ⟨by rfl, ?_⟩) (by assumption) ?_
                rotate_left
                · (intro w hSw; (try dsimp only at hSw); go_simp <;> (try with_reducible rfl))
                ((try simp only [Act.put]); (try simp only [List.setIfInBounds_toArray]); (try simp only [List.set_cons_succ]); (try simp only [List.set_cons_zero]))
                refine take_yes (i := 4) (v := ?_) (some 71) rfl rfl (by kernel_rfl) (by kernel_rfl) (by kernel_rfl) (fun _ _ _ h => h) (Or.inl ⟨by rfl, ?_⟩) (by assumption) ?_
                rotate_left
                · (intro w hSw; (try dsimp only at hSw); go_simp <;> (try with_reducible rfl))
                ((try simp only [Act.put]); (try simp only [List.setIfInBounds_toArray]); (try simp only [List.set_cons_succ]); (try simp only [List.set_cons_zero]))
                refine take_yes (i := 5) (v := ?_) (some 72) rfl rfl (by kernel_rfl) (by kernel_rfl) (by kernel_rfl) (fun _ _ _ h => h) (Or.inl ⟨by rfl, ?_⟩) (by assumption) ?_
                rotate_left
                · (intro w hSw; (try dsimp only at hSw); go_simp <;> (try with_reducible rfl))
                ((try simp only [Act.put]); (try simp only [List.setIfInBounds_toArray]); (try simp only [List.set_cons_succ]); (try simp only [List.set_cons_zero]))
                refine take_yes (i := 6) (v := ?_) (some 73) rfl rfl (by kernel_rfl) (by kernel_rfl) (by kernel_rfl) (fun _ _ _ h => h) (Or.inl ⟨by rfl, ?_⟩) (by assumption) ?_
                rotate_left
                · (intro w hSw; (try dsimp only at hSw); go_simp <;> (try with_reducible rfl))
                ((try simp only [Act.put]); (try simp only [List.setIfInBounds_toArray]); (try simp only [List.set_cons_succ]); (try simp only [List.set_cons_zero]))
                refine take_yes (i := 7) (v := ?_) (some 74) rfl rfl (by kernel_rfl) (by kernel_rfl) (by kernel_rfl) (fun _ _ _ h => h) (Or.inl ⟨by rfl, ?_⟩) (by assumption) ?_
                rotate_left
                · (intro w hSw; (try dsimp only at hSw); go_simp <;> (try with_reducible rfl))
                ((try simp only [Act.put]); (try simp only [List.setIfInBounds_toArray]); (try simp only [List.set_cons_succ]); (try simp only [List.set_cons_zero]))
                refine take_yes (i := 8) (v := ?_) (some 75) rfl rfl (by kernel_rfl) (by kernel_rfl) (by kernel_rfl) (fun _ _ _ h => h) (Or.inl ⟨by rfl, ?_⟩) (by assumption) ?_
                rotate_left
                · (intro w hSw; (try dsimp only at hSw); go_simp <;> (try with_reducible rfl))
                ((try simp only [Act.put]); (try simp only [List.setIfInBounds_toArray]); (try simp only [List.set_cons_succ]); (try simp only [List.set_cons_zero]))
                refine take_yes (i := 9) (v := ?_) (some 76) rfl rfl (by kernel_rfl) (by kernel_rfl) (by kernel_rfl) (fun _ _ _ h => h) (Or.inl ⟨by rfl, ?_⟩) (by assumption) ?_
                rotate_left
                · (intro w hSw; (try dsimp only at hSw); go_simp <;> (try with_reducible rfl))
                ((try simp only [Act.put]); (try simp only [List.setIfInBounds_toArray]); (try simp only [List.set_cons_succ]); (try simp only [List.set_cons_zero]))
                refine take_yes (i := 10) (v := .agg LK) (some 77) rfl rfl (by kernel_rfl) (by kernel_rfl) (by kernel_rfl) (fun _ _ _ h => h) (Or.inl ⟨by rfl, ?_⟩) (by assumption) ?_
                · exact fun w hSw => load_take _ _ rfl (by rfl) hSw.2 ha hLi
                ((try simp only [Act.put]); (try simp only [List.setIfInBounds_toArray]); (try simp only [List.set_cons_succ]); (try simp only [List.set_cons_zero]))
                refine take_yes (i := 11) (v := ?_) (some 78) rfl rfl (by kernel_rfl) (by kernel_rfl) (by kernel_rfl) (fun _ _ _ h => h) (Or.inl ⟨by rfl, ?_⟩) (by assumption) ?_
                rotate_left
                · (intro w hSw; (try dsimp only at hSw); go_simp <;> (try with_reducible rfl))
                ((try simp only [Act.put]); (try simp only [List.setIfInBounds_toArray]); (try simp only [List.set_cons_succ]); (try simp only [List.set_cons_zero]))
                refine wpAnyH_ready (rs := [12, 18]) (by kernel_rfl) (by simp) ?_
                refine AllReadyH.cons (o := _) rfl (fun K hK => ?_) (AllReadyH.cons (o := _) rfl (fun K hK => ?_) AllReadyH.nil)
                · go_simp
                  (go_at_call 61; refine (crec _ hdw).mono ?_; rintro e w4 ⟨rfl, hk4⟩; have H4c := Lib.hid (And.intro True.intro hk4); clear hk4)
                  refine hK.out _ _ ⟨H4c.out.2.cell e3 id, fun j v hj => H4c.out.2.cell (hldf j v hj) id⟩ (fun hHeld => ?_)
                  clear hK K
                  ((try simp only [Act.put]); (try simp only [List.setIfInBounds_toArray]); (try simp only [List.set_cons_succ]); (try simp only [List.set_cons_zero]))
                  refine take_yes (i := 13) (v := ?_) (some 66) rfl rfl (by kernel_rfl) (by kernel_rfl) (by kernel_rfl) (fun _ _ _ h => h) (Or.inl ⟨by rfl, ?_⟩) (by assumption) ?_
                  rotate_left
                  · (intro w hSw; (try dsimp only at hSw); go_simp <;> (try with_reducible rfl))
                  ((try simp only [Act.put]); (try simp only [List.setIfInBounds_toArray]); (try simp only [List.set_cons_succ]); (try simp only [List.set_cons_zero]))
                  refine take_yes (i := 14) (v := ?_) (some 80) rfl rfl (by kernel_rfl) (by kernel_rfl) (by kernel_rfl) (fun _ _ _ h => h) (Or.inl ⟨by rfl, ?_⟩) (by assumption) ?_
                  rotate_left
                  · (intro w hSw; (try dsimp only at hSw); go_simp <;> (try with_reducible rfl))
                  ((try simp only [Act.put]); (try simp only [List.setIfInBounds_toArray]); (try simp only [List.set_cons_succ]); (try simp only [List.set_cons_zero]))
                  refine take_yes (i := 15) (v := ?_) (some 81) rfl rfl (by kernel_rfl) (by kernel_rfl) (by kernel_rfl) (fun _ _ _ h => h) (Or.inl ⟨by rfl, ?_⟩) (by assumption) ?_
                  rotate_left
                  · (intro w hSw; (try dsimp only at hSw); go_simp <;> (try with_reducible rfl))
                  ((try simp only [Act.put]); (try simp only [List.setIfInBounds_toArray]); (try simp only [List.set_cons_succ]); (try simp only [List.set_cons_zero]))
                  refine take_yes (i := 16) (v := ?_) (some 82) rfl rfl (by kernel_rfl) (by kernel_rfl) (by kernel_rfl) (fun _ _ _ h => h) (Or.inl ⟨by rfl, ?_⟩) (by assumption) ?_
                  rotate_left
                  · (intro w hSw; (try dsimp only at hSw); go_simp <;> (try with_reducible rfl))
                  ((try simp only [Act.put]); (try simp only [List.setIfInBounds_toArray]); (try simp only [List.set_cons_succ]); (try simp only [List.set_cons_zero]))
                  refine take_yes (i := 17) (v := ?_) (some 83) rfl rfl (by kernel_rfl) (by kernel_rfl) (by kernel_rfl) (fun _ _ _ h => h) (Or.inl ⟨by rfl, ?_⟩) (by assumption) ?_
                  rotate_left
                  · (intro w hSw; (try dsimp only at hSw); go_simp <;> (try with_reducible rfl))
                  ((try simp only [Act.put]); (try simp only [List.setIfInBounds_toArray]); (try simp only [List.set_cons_succ]); (try simp only [List.set_cons_zero]))
                  refine wpAnyH_ready (rs := [18]) (by kernel_rfl) (by simp) ?_
                  refine AllReadyH.cons (o := _) rfl (fun K hK => ?_) AllReadyH.nil
                  go_simp
                  skip
                  refine hK.out _ _ ⟨((H4c.out.2.alloc (Obj.cells (byteVals (List.replicate 32 0)).toArray 74)).cell e3 id), fun j v hj => (H4c.out.2.alloc (Obj.cells (byteVals (List.replicate 32 0)).toArray 74)).cell (hldf j v hj) id⟩ (fun hHeld => ?_)
                  clear hK K
                  ((try simp only [Act.put]); (try simp only [List.setIfInBounds_toArray]); (try simp only [List.set_cons_succ]); (try simp only [List.set_cons_zero]))
                  refine take_yes (i := 19) (v := ?_) (some 12) rfl rfl (by kernel_rfl) (by kernel_rfl) (by kernel_rfl) (fun _ _ _ h => h) (Or.inl ⟨by rfl, ?_⟩) (by assumption) ?_
                  rotate_left
                  · (intro w hSw; (try dsimp only at hSw); go_simp <;> (try with_reducible rfl))
                  ((try simp only [Act.put]); (try simp only [List.setIfInBounds_toArray]); (try simp only [List.set_cons_succ]); (try simp only [List.set_cons_zero]))
                  have hA : Kp (fun _ => False) w4 ((w4.alloc (Obj.cells (byteVals (List.replicate 32 0)).toArray 74)).setRow w4.heap.size LK) := ((Kp.refl _ w4).alloc _).setRow (.inr (Nat.le_refl _)) _
                  have hZ : (w4.alloc (Obj.cells (byteVals (List.replicate 32 0)).toArray 74)).heap[w4.heap.size]? = some (.cells (byteVals (List.replicate 32 0)).toArray 74 (0, 0)) := heap_alloc_new w4 _
                  refine wpAnyH_ready (rs := [20]) (by kernel_rfl) (by simp) ?_
                  refine AllReadyH.cons (o := _) rfl (fun K hK => ?_) AllReadyH.nil
                  skip
                  (refine step_store_agg rfl _ _ _ rfl rfl rfl hZ hLi (by rw [hLs]; rfl) hL1 ?_)
                  refine hK.out _ _ ⟨(H4c.out.2.trans hA).cell e3 id, fun j v hj => (H4c.out.2.trans hA).cell (hldf j v hj) id⟩ (fun hHeld => ?_)
                  clear hK K
                  ((try simp only [Act.put]); (try simp only [List.setIfInBounds_toArray]); (try simp only [List.set_cons_succ]); (try simp only [List.set_cons_zero]))
                  refine take_yes (i := 21) (v := ?_) (some 14) rfl rfl (by kernel_rfl) (by kernel_rfl) (by kernel_rfl) (fun _ _ _ h => h) (Or.inl ⟨by rfl, ?_⟩) (by assumption) ?_
                  rotate_left
                  · (intro w hSw; (try dsimp only at hSw); go_simp <;> (try with_reducible rfl))
                  ((try simp only [Act.put]); (try simp only [List.setIfInBounds_toArray]); (try simp only [List.set_cons_succ]); (try simp only [List.set_cons_zero]))
                  refine take_yes (i := 22) (v := ?_) (some 15) rfl rfl (by kernel_rfl) (by kernel_rfl) (by kernel_rfl) (fun _ _ _ h => h) (Or.inl ⟨by rfl, ?_⟩) (by assumption) ?_
                  rotate_left
                  · (intro w hSw; (try dsimp only at hSw); go_simp <;> (try with_reducible rfl))
                  ((try simp only [Act.put]); (try simp only [List.setIfInBounds_toArray]); (try simp only [List.set_cons_succ]); (try simp only [List.set_cons_zero]))
                  refine wpAnyH_done (by kernel_rfl) ?_ _
                  go_wp2_with (fail)
                  go_meet
                  exact ⟨rfl, (Kp.refl (fun _ => False) wr).drew.drew.trans (H4c.out.2.trans hA)⟩
                · go_simp
                  skip
                  refine hK.out _ _ ⟨((Kp.refl (fun _ => False) wr.drew.drew).alloc (Obj.cells (byteVals (List.replicate 32 0)).toArray 74)).cell e3 id, fun j v hj => ((Kp.refl (fun _ => False) wr.drew.drew).alloc (Obj.cells (byteVals (List.replicate 32 0)).toArray 74)).cell (hldf j v hj) id⟩ (fun hHeld => ?_)
                  clear hK K
                  ((try simp only [Act.put]); (try simp only [List.setIfInBounds_toArray]); (try simp only [List.set_cons_succ]); (try simp only [List.set_cons_zero]))
                  have hZ : (wr.drew.drew.alloc (Obj.cells (byteVals (List.replicate 32 0)).toArray 74)).heap[wr.drew.heap.size]? = some (.cells (byteVals (List.replicate 32 0)).toArray 74 (0, 0)) := heap_alloc_new wr.drew.drew _
                  have hkZ : Kp (fun _ => False) wr.drew (wr.drew.drew.alloc (Obj.cells (byteVals (List.replicate 32 0)).toArray 74)) := (Kp.refl _ wr.drew).drew.alloc _
                  obtain ⟨wz, hwz⟩ : ∃ wz, wr.drew.drew.alloc (Obj.cells (byteVals (List.replicate 32 0)).toArray 74) = wz := ⟨_, rfl⟩
                  rw [hwz] at hZ hkZ
                  have hsZ : wz.heap.size = wr.drew.heap.size + 1 := by rw [← hwz]; simp
                  change wpAnyH _ _ _ _ _ _ _ _ (wr.drew.drew.alloc (Obj.cells (byteVals (List.replicate 32 0)).toArray 74))
                  rw [hwz]
                  refine wpAnyH_ready (rs := [12]) (by kernel_rfl) (by simp) ?_
                  refine AllReadyH.cons (o := _) rfl (fun K hK => ?_) AllReadyH.nil
                  go_simp
                  (go_at_call 61; refine (crec _ ((Kp.refl _ wr).drew.trans hkZ)).mono ?_; rintro e w4 ⟨rfl, hk4⟩; have H4c := Lib.hid (And.intro True.intro hk4); clear hk4)
                  refine hK.out _ _ ⟨(hkZ.trans H4c.out.2).cell e3 id, fun j v hj => (hkZ.trans H4c.out.2).cell (hldf j v hj) id⟩ (fun hHeld => ?_)
                  clear hK K
                  ((try simp only [Act.put]); (try simp only [List.setIfInBounds_toArray]); (try simp only [List.set_cons_succ]); (try simp only [List.set_cons_zero]))
                  refine take_yes (i := 13) (v := ?_) (some 66) rfl rfl (by kernel_rfl) (by kernel_rfl) (by kernel_rfl) (fun _ _ _ h => h) (Or.inl ⟨by rfl, ?_⟩) (by assumption) ?_
                  rotate_left
                  · (intro w hSw; (try dsimp only at hSw); go_simp <;> (try with_reducible rfl))
                  ((try simp only [Act.put]); (try simp only [List.setIfInBounds_toArray]); (try simp only [List.set_cons_succ]); (try simp only [List.set_cons_zero]))
                  refine take_yes (i := 14) (v := ?_) (some 80) rfl rfl (by kernel_rfl) (by kernel_rfl) (by kernel_rfl) (fun _ _ _ h => h) (Or.inl ⟨by rfl, ?_⟩) (by assumption) ?_
                  rotate_left
                  · (intro w hSw; (try dsimp only at hSw); go_simp <;> (try with_reducible rfl))
                  ((try simp only [Act.put]); (try simp only [List.setIfInBounds_toArray]); (try simp only [List.set_cons_succ]); (try simp only [List.set_cons_zero]))
                  refine take_yes (i := 15) (v := ?_) (some 81) rfl rfl (by kernel_rfl) (by kernel_rfl) (by kernel_rfl) (fun _ _ _ h => h) (Or.inl ⟨by rfl, ?_⟩) (by assumption) ?_
                  rotate_left
                  · (intro w hSw; (try dsimp only at hSw); go_simp <;> (try with_reducible rfl))
                  ((try simp only [Act.put]); (try simp only [List.setIfInBounds_toArray]); (try simp only [List.set_cons_succ]); (try simp only [List.set_cons_zero]))
                  refine take_yes (i := 16) (v := ?_) (some 82) rfl rfl (by kernel_rfl) (by kernel_rfl) (by kernel_rfl) (fun _ _ _ h => h) (Or.inl ⟨by rfl, ?_⟩) (by assumption) ?_
                  rotate_left
                  · (intro w hSw; (try dsimp only at hSw); go_simp <;> (try with_reducible rfl))
                  ((try simp only [Act.put]); (try simp only [List.setIfInBounds_toArray]); (try simp only [List.set_cons_succ]); (try simp only [List.set_cons_zero]))
                  refine take_yes (i := 17) (v := ?_) (some 83) rfl rfl (by kernel_rfl) (by kernel_rfl) (by kernel_rfl) (fun _ _ _ h => h) (Or.inl ⟨by rfl, ?_⟩) (by assumption) ?_
                  rotate_left
                  · (intro w hSw; (try dsimp only at hSw); go_simp <;> (try with_reducible rfl))
                  ((try simp only [Act.put]); (try simp only [List.setIfInBounds_toArray]); (try simp only [List.set_cons_succ]); (try simp only [List.set_cons_zero]))
                  refine take_yes (i := 19) (v := ?_) (some 12) rfl rfl (by kernel_rfl) (by kernel_rfl) (by kernel_rfl) (fun _ _ _ h => h) (Or.inl ⟨by rfl, ?_⟩) (by assumption) ?_
                  rotate_left
                  · (intro w hSw; (try dsimp only at hSw); go_simp <;> (try with_reducible rfl))
                  ((try simp only [Act.put]); (try simp only [List.setIfInBounds_toArray]); (try simp only [List.set_cons_succ]); (try simp only [List.set_cons_zero]))
                  have hZ4 := H4c.out.2.blk hZ id
                  have hA : Kp (fun _ => False) wr.drew (w4.setRow wr.drew.heap.size LK) := (hkZ.trans H4c.out.2).setRow (.inr (Nat.le_refl _)) _
                  refine wpAnyH_ready (rs := [20]) (by kernel_rfl) (by simp) ?_
                  refine AllReadyH.cons (o := _) rfl (fun K hK => ?_) AllReadyH.nil
                  skip
                  (refine step_store_agg rfl _ _ _ rfl rfl rfl hZ4 hLi (by rw [hLs]; rfl) hL1 ?_)
                  refine hK.out _ _ ⟨hA.cell e3 id, fun j v hj => hA.cell (hldf j v hj) id⟩ (fun hHeld => ?_)
                  clear hK K
                  ((try simp only [Act.put]); (try simp only [List.setIfInBounds_toArray]); (try simp only [List.set_cons_succ]); (try simp only [List.set_cons_zero]))
                  refine take_yes (i := 21) (v := ?_) (some 14) rfl rfl (by kernel_rfl) (by kernel_rfl) (by kernel_rfl) (fun _ _ _ h => h) (Or.inl ⟨by rfl, ?_⟩) (by assumption) ?_
                  rotate_left
                  · (intro w hSw; (try dsimp only at hSw); go_simp <;> (try with_reducible rfl))
                  ((try simp only [Act.put]); (try simp only [List.setIfInBounds_toArray]); (try simp only [List.set_cons_succ]); (try simp only [List.set_cons_zero]))
                  refine take_yes (i := 22) (v := ?_) (some 15) rfl rfl (by kernel_rfl) (by kernel_rfl) (by kernel_rfl) (fun _ _ _ h => h) (Or.inl ⟨by rfl, ?_⟩) (by assumption) ?_
                  rotate_left
                  · (intro w hSw; (try dsimp only at hSw); go_simp <;> (try with_reducible rfl))
                  ((try simp only [Act.put]); (try simp only [List.setIfInBounds_toArray]); (try simp only [List.set_cons_succ]); (try simp only [List.set_cons_zero]))
                  refine wpAnyH_done (by kernel_rfl) ?_ _
                  go_wp2_with (fail)
                  go_meet
                  exact ⟨rfl, (Kp.refl (fun _ => False) wr).drew.trans hA⟩
              case rest =>
                obtain ⟨rfl, hkc⟩ := hcut
                have HC := Lib.hid hkc
                clear hkc crec hA0
                go_wp2
                go_ret3
                have hin : i0 = n := by have h1 := HF.out.2.2.1; have h2 := HF.out.2.2.2.1; have h3 := HN.out.2.2; rw [← h1, h2, ← h3, HF.out.2.1]; omega
                refine ⟨u7, kj, lj, ?_, ?_⟩
                · rw [← HF.out.2.2.2.1, ← HF.out.2.1, HN.out.2.2, HF.out.2.2.2.2.2]; rfl
                · have := HF.out.1.step HC.out
                  rw [hin] at this
                  exact this
theorem RowP.mono {w : World} {B : Nat} {F F' : Nat → Prop} {v : Value} {ps : List (List Int)} (h : RowP w B F v ps) (hF : ∀ k, F' k → F k) : RowP w B F' v ps := by
  obtain ⟨vs, h1, h2, h3⟩ := h
  refine ⟨vs, h1, h2, fun j q hj => ?_⟩
  obtain ⟨x, hx, hb⟩ := h3 j q hj
  exact ⟨x, hx, hb.mono fun k hk => hk.imp (hF k) id⟩
theorem LRd.mono {w wr : World} {p d per f : Nat} {rs : List (List Int)} {G G' : Nat → Prop} {vo : Value} {kb : Bool} {n : Nat} {link : List Int} (h : LRd w wr p d per f rs G vo kb n link) (hG : ∀ k, G' k → G k) : LRd w wr p d per f rs G' vo kb n link :=
  ⟨h.log, h.byts, h.kbOk, h.linkOk, h.row.mono hG, h.kp⟩
end Go.Proofs.YtggnohbfdlebiaaGreatDoor

/-
  Merged of my texts, in order: LFull.
-/
import Derived.Test.YtggnohbfdlebiaaGreatDoorM22
import Derived.Test.YtggnohbfdlebiaaGreatDoorM23
/-
  LogFull: a record that there is no room for is refused; the log goes on with one that is smaller.
-/
namespace Go.Proofs.YtggnohbfdlebiaaGreatDoor
open Go.RowKit Go.Shelf Go.ChangeMaps Go.ChangeShapes Go.WideShapes Go.Deep Go.Joins

/-- A log in hand, and a row of payloads of the law's own. -/
structure Keeps (w0 wr : World) (p d per : Nat) (rs ps : List (List Int)) (S : St) (F : Nat → Prop) (vw : Value) : Prop where
  has : Has w0 wr p d per 0 rs S F
  idle : Idle S
  row : RowP wr w0.heap.size (fun k => F k ∨ k = p) vw ps
  own : ∀ k, vw.ownBlock = some k → ¬ (F k ∨ k = p)
theorem Keeps.step {w0 wr w' : World} {p d per : Nat} {rs ps : List (List Int)} {S : St} {F : Nat → Prop} {vw : Value} (h : Keeps w0 wr p d per rs ps S F vw) (hk : Kp (fun _ => False) wr w') : Keeps w0 w' p d per rs ps S F vw :=
  ⟨h.has.step hk, h.idle, h.row.kept hk (fun _ h => h.elim) (fun _ _ h => h) fun _ h => .inl h, h.own⟩
theorem Keeps.lt {w0 wr : World} {p d per : Nat} {rs ps : List (List Int)} {S : St} {F : Nat → Prop} {vw : Value} (h : Keeps w0 wr p d per rs ps S F vw) : ∀ k, F k ∨ k = p → k < wr.heap.size := fun k hk => by
  rcases hk with hk | rfl
  · exact h.has.lg.dsk.flt k hk
  · exact h.has.lg.log.lt
/-- The log's disk has been written. -/
theorem Keeps.moved {w0 wr w' : World} {p d per : Nat} {rs rs' ps : List (List Int)} {S S' : St} {F F' : Nat → Prop} {vw : Value} (h : Keeps w0 wr p d per rs ps S F vw) (hh : Has w0 w' p d per 0 rs' S' F') (hi : Idle S') (hF : ∀ k, F' k → F k ∨ wr.heap.size ≤ k) (hk : Kp (fun k => F k ∨ k = p) wr w') : Keeps w0 w' p d per rs' ps S' F' vw :=
  ⟨hh, hi, h.row.kept hk (fun _ h => h) h.own fun k hk' => by
    rcases hk' with hk' | hk'
    · exact (hF k hk').imp .inl id
    · exact .inl (.inr hk'), fun k hk' hf => by
    have hlt := (h.row.lt k hk').2
    rcases hf with hf | hf
    · rcases hF k hf with h1 | h1
      · exact h.own k hk' (.inl h1)
      · omega
    · exact h.own k hk' (.inr hf)⟩
/-- A payload is put behind the law's own row. -/
theorem Keeps.push {w0 wr : World} {p d per : Nat} {rs ps : List (List Int)} {S : St} {F : Nat → Prop} {vw x : Value} {q : List Int} (h : Keeps w0 wr p d per rs ps S F vw) (hx : BytesAt wr (fun k => (F k ∨ k = p) ∨ vw.ownBlock = some k) x q) (hn : ps.length ≤ 1000000) (ty : TypeId) :
    ∃ v' w', (Builtin.append_ #[29, 29] ty #[vw, .slice (some ⟨wr.heap.size, 0, none⟩) 1 1]).run Tryz.prog (wr.alloc (.cells #[x] 33)) = .ok v' w' ∧ Keeps w0 w' p d per rs (ps ++ [q]) S F v' ∧ Kp (fun k => vw.ownBlock = some k) wr w' := by
  obtain ⟨v', w', hr, hrow, hk, _, hnew⟩ := h.row.push hx h.has.lg.dsk.kp.size h.lt hn ty
  have hpo : ∀ k, vw.ownBlock = some k → ¬ F k := fun k hk hf => h.own k hk (.inl hf)
  refine ⟨v', w', hr, ⟨⟨⟨h.has.lg.dsk.beside hk (fun k hk hf => hpo k hk hf) (fun k hk => (h.row.lt k hk).1), h.has.lg.log.kept hk fun hk => h.own _ hk (.inr rfl), h.has.lg.out, h.has.lg.new⟩, h.has.lays⟩, h.idle, hrow, fun k hk' hf => ?_⟩, hk⟩
  rcases hnew k hk' with h1 | h1
  · exact h.own k h1 hf
  · have := h.lt k hf; omega
/-- The row is read again, behind another opening. -/
theorem Keeps.pay {w0 wr : World} {p d per : Nat} {rs ps : List (List Int)} {S : St} {F : Nat → Prop} {vw : Value} (h : Keeps w0 wr p d per rs ps S F vw) : PayAt wr (fun k => F k ∨ k = p) vw ps := h.row.pay h.own
theorem loads_len {rs : List (List Int)} (h : Loads rs) : ∀ q ∈ rs, q.length ≤ 140737488351232 := fun q hq => Nat.le_trans (h q hq).2.1 (by decide)

/-- A slice of numbers that comes in. -/
def U16At (w : World) (p : Option Addr) (len : Nat) : Prop := ∀ i, i < len → ∃ (b o m : Nat), p = some ⟨b, o, none⟩ ∧ m ≤ 65535 ∧ w.cell? ⟨b, o + i, none⟩ = some (.int .u16 (m : Int))
theorem U16At.kept {w w' : World} {p : Option Addr} {len : Nat} (h : U16At w p len) (hk : Kp (fun _ => False) w w') : U16At w' p len := fun i hi =>
  let ⟨b, o, m, h1, h2, h3⟩ := h i hi
  ⟨b, o, m, h1, h2, hk.cell h3 id⟩
set_option maxRecDepth 100000 in
theorem open_u16s {H : Type} {enc : TypeId × Value → H} {W : World} {base : Nat} {v : Value} {d : DataW H} {ps : List MemPlace} (hv : Value.okWide Tryz.prog W .any base 22 v) (h : DataW.Trod enc Tryz.prog W 0 (fun _ => true) true 22 v d ps) :
    ∃ p len cap, v = .slice p len cap ∧ len ≤ cap ∧ len ≤ maxLen ∧ U16At W p len := by
  obtain ⟨a0, l0, c0, rfl⟩ := okWide_slice Tryz.underlying22 hv
  obtain ⟨fuel, hf⟩ := h
  rcases open_ints Tryz.underlying22 Tryz.underlying32 (by kernel_rfl) hf with ⟨hcs, _⟩ | ⟨a, len, cap, zs, hcs, _, hl, hm, hz, hx, hcell, hwz⟩
  · simp [Value.cells] at hcs
    obtain ⟨rfl, rfl, rfl⟩ := hcs
    exact ⟨none, 0, 0, rfl, Nat.le_refl _, Nat.zero_le _, fun i hi => absurd hi (Nat.not_lt_zero i)⟩
  · simp [Value.cells] at hcs
    obtain ⟨rfl, rfl, rfl⟩ := hcs
    simp only [if_true] at hz
    refine ⟨_, _, _, rfl, hl, Nat.le_trans hl hm, fun i hi => ?_⟩
    clear hm
    obtain ⟨b, o, rfl, hc⟩ := ints_at hcell (show 0 < zs.length by omega)
    have hi' : i < zs.length := by omega
    have hci := hcell i hi'
    rw [Addr.add_lit] at hci
    have hb := bounds_u16 (hwz (zs.getD i 0) (by rw [List.getD_eq_getElem?_getD, List.getElem?_eq_getElem hi']; exact List.getElem_mem hi'))
    obtain ⟨m, hm⟩ := Int.eq_ofNat_of_zero_le hb.1
    rw [hm] at hci hb
    exact ⟨b, o, m, rfl, by omega, hci⟩

set_option maxRecDepth 100000 in
set_option maxHeartbeats 8000000 in
theorem LogFull_any (w : World) (r : Int) (hr : 0 ≤ r ∧ r ≤ 255) (sp : Option Addr) (sl sc : Nat) (hsl : sl ≤ maxLen) (hsz : U16At w sp sl) :
    Calls Tryz.prog 3 #[.int .u8 r, .slice sp sl sc] w fun e w' => e = .returned (.bool true) ∧ Kp (fun _ => False) w w' := by
  obtain ⟨n, hn⟩ : ∃ n : Nat, (n : Int) = 2 + r % 60 := ⟨(2 + r % 60).toNat, by omega⟩
  have hnb : 2 ≤ n ∧ n ≤ 61 := by omega
  have HN := Lib.hid hn
  have HSZ := Lib.hid hsz
  have HSL := Lib.hid hsl
  clear hsz hsl
  go_enter Tryz.func3, Tryz.ntmps3
  go_wp2_with (first
    | (go_at_call 9; refine (awake10_any _).mono ?_; rintro e w1 ⟨rfl, hk1⟩; have H1 := Lib.hid hk1; clear hk1)
    | (go_at_call 10; refine Hid.out ?_))
  refine Lib.hid ?_
  rw [← HN.out]
  refine (New_dsk (n : Int) (by omega) (by omega) w w1 H1.out).mono ?_
  rintro e w2 ⟨d, F2, rfl, h2, hF2, hk2⟩
  have H2 := Lib.hid h2
  clear h2 hF2 hk2
  go_wp2_with (go_at_call 11; refine Hid.out ?_)
  refine Lib.hid ?_
  have ho := H2.out.opens (per := 3) (f := 0) rfl (lays_nil (by decide))
  refine ho.mono ?_
  clear ho
  rintro e w3 ⟨p, v3, F3, rfl, h3, hp3, -, -, -⟩
  have hp3 : PayAt w3 _ v3 [] := hp3
  obtain ⟨q3, c3, rfl, -, -⟩ := hp3
  have h3 : Has w w3 p d 3 0 [] (St.new n) F3 := h3
  have hK3 : Keeps w w3 p d 3 [] [] (St.new n) F3 (.slice none 0 0) := ⟨h3, ⟨rfl, rfl⟩, RowP.nil _ _ _, fun k hk => by simp [Value.ownBlock] at hk⟩
  have H3 := Lib.hid hK3
  clear h3 hK3
  go_wp2
  go_loopw [47, 11, 12] (fun vi vu vw wr => ∃ (i U : Nat) (rs : List (List Int)) (S : St) (F : Nat → Prop), i ≤ sl ∧ i ≤ 60 ∧ vi = .int .i64 (i : Int) ∧ vu = .int .i64 (U : Int) ∧ Keeps w wr p d 3 rs rs S F vw ∧ S.room = (n : Int) ∧ used S.files = U ∧ rs.length ≤ i) (fun i _ _ _ => sl - (intOf i).toNat)
  case atStart => exact ⟨0, 0, [], _, _, Nat.zero_le _, by omega, rfl, rfl, H3.out, rfl, rfl, Nat.le_refl _⟩
  case round =>
    obtain ⟨i, U, rs, S, F, hi1, hi2, rfl, rfl, hkp, hroom, hused, hlen⟩ := hrel
    clear H3 H2
    have HK := Lib.hid (And.intro hkp (And.intro hroom (And.intro hused hlen)))
    clear hkp hroom hused hlen
    have hUn : (U : Int) ≤ n := by have h1 := HK.out.1.has.lg.dsk.ok.used; rw [HK.out.2.1, HK.out.2.2.1] at h1; exact h1
    by_cases his : i < sl
    · by_cases hi60 : i < 60
      · obtain ⟨sb, so, m, rfl, hm, hcm⟩ := (HSZ.out.kept HK.out.1.has.lg.dsk.kp) i his
        obtain ⟨z, hz⟩ : ∃ z : Nat, (z : Int) = 1 + (m : Int) % 400 := ⟨1 + m % 400, by omega⟩
        have hz1 : 1 ≤ z ∧ z ≤ 400 := by omega
        have hmk : (Instr.makeSlice 33 (.int .i64 (1 + (m : Int) % 400)) (.int .i64 (1 + (m : Int) % 400))).run Tryz.prog wr = .ok (.slice (some ⟨wr.heap.size, 0, none⟩) z z) (wr.alloc (.cells (madeCells #[.int .u8 0] z) 5)) := by
          rw [← hz]; exact make_bytes z (by omega) wr
        have hblk0 := heap_alloc_new wr (.cells (madeCells #[.int .u8 0] z) 5)
        have q0 : (wr.alloc (.cells (madeCells #[.int .u8 0] z) 5)).cell? ⟨wr.heap.size, 0, none⟩ = some (.int .u8 0) := by rw [blk_cell hblk0]; exact made_get z 0 (by omega)
        have qf : (wr.alloc (.cells (madeCells #[.int .u8 0] z) 5)).frozen? ⟨wr.heap.size, 0, none⟩ = false := blk_free hblk0 0
        have hblk := heap_alloc_new wr (.cells ((madeCells #[.int .u8 0] z).setIfInBounds 0 (.int .u8 (i : Int))) 5)
        clear hblk0
        have hwi : IntKind.u8.wrap (i : Int) = (i : Int) := IntWalk.u8_in _ (by omega)
        obtain ⟨q, hq⟩ : ∃ q : List Int, (i : Int) :: List.replicate (z - 1) 0 = q := ⟨_, rfl⟩
        have hql : q.length = z := by rw [← hq]; simp; omega
        have hqb : Byts q := by
          rw [← hq]; intro x hx
          rcases List.mem_cons.1 hx with rfl | hx
          · omega
          · rw [(List.mem_replicate.1 hx).2]; omega
        obtain ⟨w4, hw4⟩ : ∃ w4, wr.alloc (.cells ((madeCells #[.int .u8 0] z).setIfInBounds 0 (.int .u8 (i : Int))) 5) = w4 := ⟨_, rfl⟩
        have hk4 : Kp (fun _ => False) wr w4 := by rw [← hw4]; exact (Kp.refl _ wr).alloc _
        have hb4 : BytesAt w4 (fun k => k < wr.heap.size) (.slice (some ⟨wr.heap.size, 0, none⟩) z z) q := by
          refine ⟨_, z, by rw [hql], by rw [hql]; exact Nat.le_refl _, fun j x hj => ⟨_, _, rfl, Nat.lt_irrefl _, ?_⟩⟩
          have hjz : j < z := by rw [← hql]; exact (List.getElem?_eq_some_iff.1 hj).1
          rw [Nat.zero_add, ← hw4, blk_cell hblk, Array.getElem?_setIfInBounds]
          rw [← hq] at hj
          cases j with
          | zero => simp only [List.getElem?_cons_zero, Option.some.injEq] at hj; subst hj; simp [madeCells]; omega
          | succ j =>
            rw [List.getElem?_cons_succ, List.getElem?_replicate] at hj
            split at hj
            · injection hj with hj; subst hj; rw [if_neg (by omega)]; exact made_get z (j + 1) hjz
            · cases hj
        have hF4 : ∀ k, (F k ∨ k = p) → k < wr.heap.size := HK.out.1.lt
        have hb4' : BytesAt w4 (fun k => (F k ∨ k = p) ∨ u12.ownBlock = some k) (.slice (some ⟨wr.heap.size, 0, none⟩) z z) q := hb4.mono fun k hk => by
          rcases hk with hk | hk
          · exact hF4 k hk
          · exact (HK.out.1.row.lt k hk).2
        obtain ⟨K, hK⟩ : ∃ K, partsN (z + 36) = K := ⟨_, rfl⟩
        have hKv : (1 + (m : Int) % 400 + 36 + 23) / 24 = (K : Int) := by rw [← hK]; unfold partsN; omega
        have hK1 : 1 ≤ K ∧ K ≤ 20 := by rw [← hK]; unfold partsN; omega
        have H4 := Lib.hid (And.intro (HK.out.1.step hk4) (And.intro hb4' (And.intro hql (And.intro hqb (And.intro hw4 hK)))))
        clear hb4 hb4' hql hqb hk4 hq hK hF4 hblk hw4
        go_wp2_with (go_at_call 12; refine Hid.out ?_)
        refine Lib.hid ?_
        change Calls _ _ _ (wr.alloc (.cells ((madeCells #[.int .u8 0] z).setIfInBounds 0 (.int .u8 (i : Int))) 5)) _
        rw [H4.out.2.2.2.2.1]
        obtain ⟨B, hB⟩ : ∃ B, wr.heap.size = B := ⟨_, rfl⟩
        have H5 := Lib.hid (And.intro H4.out.1 (And.intro H4.out.2.1 (And.intro H4.out.2.2.1 (And.intro H4.out.2.2.2.1 H4.out.2.2.2.2.2))))
        rw [hB] at H5 ⊢
        clear H4 hmk q0 qf hB
        have hbq : BytesAt w4 (fun k => F k ∨ k = p) (.slice (some ⟨B, 0, none⟩) z z) q := H5.out.2.1.mono fun k hk => .inl hk
        by_cases hrm : (n : Int) < (U : Int) + (K : Int)
        · have hful := H5.out.1.has.full hbq ⟨by rw [H5.out.2.2.1]; omega, by rw [H5.out.2.2.1]; omega, H5.out.2.2.2.1⟩ (by have := HK.out.2.2.2; omega) (by rw [HK.out.2.1, HK.out.2.2.1, H5.out.2.2.1, H5.out.2.2.2.2]; exact hrm)
          refine hful.mono ?_
          clear hful hbq
          rintro e w5 ⟨rfl, F5, h5, f5, k5⟩
          have hk5 := H5.out.1.moved h5 H5.out.1.idle f5 k5
          have hd1 : decide ((U : Int) + (K : Int) > 2 + r % 60) = true := decide_eq_true (by rw [← HN.out]; omega)
          have H6 := Lib.hid hk5
          clear h5 f5 k5 hk5
          go_wp2
          go_roundw
          case rel => exact ⟨i + 1, U, rs, S, F5, by omega, by omega, by go_num, rfl, H6.out, HK.out.2.1, HK.out.2.2.1, by have := HK.out.2.2.2; omega⟩
          case measure => simp [intOf]; omega
        · have hap := H5.out.1.has.append H5.out.1.idle hbq ⟨by rw [H5.out.2.2.1]; omega, by rw [H5.out.2.2.1]; omega, H5.out.2.2.2.1⟩ (by have := HK.out.2.2.2; omega) (by rw [HK.out.2.1, HK.out.2.2.1, H5.out.2.2.1, H5.out.2.2.2.2]; exact hrm) (by have := HK.out.2.2.2; omega)
          refine hap.mono ?_
          clear hap hbq
          rintro e w5 ⟨rfl, S5, F5, h5, i5, g5, f5, k5⟩
          have hk5 := H5.out.1.moved h5 i5 f5 k5
          have hb5 : BytesAt w5 (fun k => (F5 k ∨ k = p) ∨ u12.ownBlock = some k) (.slice (some ⟨B, 0, none⟩) z z) q := H5.out.2.1.kept (k5.mono fun k hk => .inl hk) fun k hk => by
            rcases hk with (hk | hk) | hk
            · exact (f5 k hk).imp (fun h => .inl (.inl h)) id
            · exact .inl (.inl (.inr hk))
            · exact .inl (.inr hk)
          obtain ⟨v6, w6, hap6, hk6, -⟩ := hk5.push hb5 (by have := HK.out.2.2.2; omega) 29
          have hd1 : decide ((U : Int) + (K : Int) > 2 + r % 60) = false := decide_eq_false (by rw [← HN.out]; omega)
          have hu5 : used S5.files = U + K := by rw [g5.used, HK.out.2.2.1, H5.out.2.2.1, H5.out.2.2.2.2]
          have H6 := Lib.hid (And.intro hk6 (And.intro (g5.room.trans HK.out.2.1) hu5))
          clear h5 i5 g5 f5 k5 hk5 hb5 hk6 hu5
          go_wp2_with (at_builtin; refine wpList_append_run rfl _ _ _ _ rfl rfl rfl hap6 ?_)
          go_roundw
          case rel => exact ⟨i + 1, U + K, rs ++ [q], S5, F5, by omega, by omega, by go_num, by go_num, H6.out.1, H6.out.2.1, H6.out.2.2, by have := HK.out.2.2.2; rw [List.length_append]; simp; omega⟩
          case measure => simp [intOf]; omega
      · obtain rfl : i = 60 := by omega
        obtain ⟨sb, so, m, rfl, hm, hcm⟩ := (HSZ.out.kept HK.out.1.has.lg.dsk.kp) 60 his
        go_wp2_with (go_at_call 11; refine Hid.out ?_)
        refine Lib.hid ?_
        have ho := HK.out.1.has.lg.dsk.opens HK.out.1.idle.off HK.out.1.has.lays
        refine ho.mono ?_
        clear ho
        rintro e w4 ⟨p4, v4, F4, rfl, h4, hp4, -, f4, k4⟩
        rw [Nat.zero_mul, List.drop_zero] at hp4
        have hpw := HK.out.1.pay.kept (k4.mono fun k hk => .inl hk) (F' := fun k => F k ∨ k = p) fun _ h => .inl h
        have cs := same_any hp4 hpw (by have := HK.out.2.2.2; omega) (loads_len h4.lays.loads)
        have H4 := Lib.hid h4
        clear hp4 hpw h4 f4 k4
        go_wp2_with (go_at_call 13; refine cs.mono ?_; rintro e w5 ⟨rfl, hk5⟩; have H5 := Lib.hid hk5; clear hk5)
        go_ret
        exact ⟨rfl, H4.out.lg.dsk.kp.trans H5.out⟩
    · obtain rfl : i = sl := by omega
      go_wp2_with (go_at_call 11; refine Hid.out ?_)
      refine Lib.hid ?_
      have ho := HK.out.1.has.lg.dsk.opens HK.out.1.idle.off HK.out.1.has.lays
      refine ho.mono ?_
      clear ho
      rintro e w4 ⟨p4, v4, F4, rfl, h4, hp4, -, f4, k4⟩
      rw [Nat.zero_mul, List.drop_zero] at hp4
      have hpw := HK.out.1.pay.kept (k4.mono fun k hk => .inl hk) (F' := fun k => F k ∨ k = p) fun _ h => .inl h
      have cs := same_any hp4 hpw (by have := HK.out.2.2.2; omega) (loads_len h4.lays.loads)
      have H4 := Lib.hid h4
      clear hp4 hpw h4 f4 k4
      go_wp2_with (go_at_call 13; refine cs.mono ?_; rintro e w5 ⟨rfl, hk5⟩; have H5 := Lib.hid hk5; clear hk5)
      go_ret
      exact ⟨rfl, H4.out.lg.dsk.kp.trans H5.out⟩
end Go.Proofs.YtggnohbfdlebiaaGreatDoor

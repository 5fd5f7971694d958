/-
  SnapNewest: of snapshots of any numbers, in any order, the greatest number's is found.
-/
import Derived.Test.YtmcmapaapffadaaDoorSafe
import Derived.Test.YtmcmapaapffadaaDoorSnapKit
import Derived.Deep.Slices
import Derived.StillTailTactics
namespace Go.Proofs.YtmcmapaapffadaaDoor
open Go.RowKit Go.Shelf Go.ChangeMaps Go.ChangeShapes Go.WideShapes Go.Deep Go.Joins

/-- A slice of numbers that comes in. -/
def U16At (w : World) (p : Option Addr) (len : Nat) : Prop := ∀ i, i < len → ∃ (b o m : Nat), p = some ⟨b, o, none⟩ ∧ m ≤ 65535 ∧ w.cell? ⟨b, o + i, none⟩ = some (.int .u16 (m : Int))
/-- A slice of slices of bytes. -/
def RowsAt (w : World) (p : Option Addr) (len : Nat) : Prop := ∀ i, i < len → ∃ (b o : Nat) (q : Option Addr) (n c : Nat) (bs : List Int), p = some ⟨b, o, none⟩ ∧ w.cell? ⟨b, o + i, none⟩ = some (.slice q n c) ∧ BytesAt w (fun _ => False) (.slice q n c) bs ∧ Byts bs ∧ n ≤ maxLen
theorem U16At.kept {w w' : World} {p : Option Addr} {len : Nat} (h : U16At w p len) (hk : Kp (fun _ => False) w w') : U16At w' p len := fun i hi =>
  let ⟨b, o, m, h1, h2, h3⟩ := h i hi
  ⟨b, o, m, h1, h2, hk.cell h3 id⟩
theorem RowsAt.kept {w w' : World} {p : Option Addr} {len : Nat} (h : RowsAt w p len) (hk : Kp (fun _ => False) w w') : RowsAt w' p len := fun i hi =>
  let ⟨b, o, q, n, c, bs, h1, h2, h3, h4, h5⟩ := h i hi
  ⟨b, o, q, n, c, bs, h1, hk.cell h2 id, h3.kept hk fun _ h => .inl h, h4, h5⟩
set_option maxRecDepth 100000 in
theorem open_u16s {H : Type} {enc : TypeId × Value → H} {W : World} {base : Nat} {v : Value} {d : DataW H} {ps : List MemPlace} (hv : Value.okWide Tryd.prog W .any base 34 v) (h : DataW.Trod enc Tryd.prog W 0 (fun _ => true) true 34 v d ps) :
    ∃ p len cap, v = .slice p len cap ∧ len ≤ cap ∧ len ≤ maxLen ∧ U16At W p len := by
  obtain ⟨a0, l0, c0, rfl⟩ := okWide_slice Tryd.underlying34 hv
  obtain ⟨fuel, hf⟩ := h
  rcases open_ints Tryd.underlying34 Tryd.underlying39 (by kernel_rfl) hf with ⟨hcs, _⟩ | ⟨a, len, cap, zs, hcs, _, hl, hm, hz, hx, hcell, hwz⟩
  · simp [Value.cells] at hcs
    obtain ⟨rfl, rfl, rfl⟩ := hcs
    exact ⟨none, 0, 0, rfl, Nat.le_refl _, Nat.zero_le _, fun i hi => absurd hi (Nat.not_lt_zero i)⟩
  · simp [Value.cells] at hcs
    obtain ⟨rfl, rfl, rfl⟩ := hcs
    simp only [if_true] at hz
    refine ⟨_, _, _, rfl, hl, Nat.le_trans hl hm, fun i hi => ?_⟩
    clear hm
    obtain ⟨b, o, rfl, hc⟩ := ints_at hcell (show 0 < zs.length by omega)
    have hi' : i < zs.length := by omega
    have hci := hcell i hi'
    rw [Addr.add_lit] at hci
    have hb := bounds_u16 (hwz (zs.getD i 0) (by rw [List.getD_eq_getElem?_getD, List.getElem?_eq_getElem hi']; exact List.getElem_mem hi'))
    obtain ⟨m, hm⟩ := Int.eq_ofNat_of_zero_le hb.1
    rw [hm] at hci hb
    exact ⟨b, o, m, rfl, by omega, hci⟩
set_option maxRecDepth 100000 in
theorem open_row0 {H : Type} {enc : TypeId × Value → H} {W : World} {n : Nat} {v : Value} {y : DataW H × List MemPlace} (hf : DataW.trod enc Tryd.prog W 0 (fun _ => true) true n 22 [v] = some y) :
    ∃ p len cap bs, v = .slice p len cap ∧ BytesAt W (fun _ => False) (.slice p len cap) bs ∧ Byts bs ∧ len ≤ maxLen := by
  rcases open_ints Tryd.underlying22 Tryd.underlying5 cells_u8 hf with ⟨hcs, _⟩ | ⟨a, len, cap, zs, hcs, _, hl, hm, hz, hx, hcell, hwz⟩
  · obtain rfl : v = .slice none 0 0 := by simpa using hcs
    exact ⟨none, 0, 0, [], rfl, ⟨none, 0, rfl, Nat.le_refl _, fun j x hj => by simp at hj⟩, fun x hx => (by cases hx), Nat.zero_le _⟩
  · obtain rfl : v = .slice (some a) len cap := by simpa using hcs
    simp only [if_true] at hz
    have hlz : (zs.take len).length = len := by rw [List.length_take]; omega
    refine ⟨_, _, _, zs.take len, rfl, ⟨_, cap, by rw [hlz], by rw [hlz]; exact hl, fun j x hj => ?_⟩, fun x hx => ?_, Nat.le_trans hl hm⟩
    · have hjl := (List.getElem?_eq_some_iff.1 hj).1
      rw [List.getElem?_take, if_pos (by omega)] at hj
      obtain ⟨b, o, rfl, hc⟩ := ints_at hcell (show 0 < zs.length by omega)
      have hcj := hcell j (by omega)
      rw [Addr.add_lit, List.getD_eq_getElem?_getD, hj] at hcj
      exact ⟨b, o, rfl, id, hcj⟩
    · exact bounds_u8 (hwz x (List.mem_of_mem_take hx))
set_option maxRecDepth 100000 in
theorem open_rows {H : Type} {enc : TypeId × Value → H} {W : World} {base : Nat} {v : Value} {d : DataW H} {ps : List MemPlace} (hv : Value.okWide Tryd.prog W .any base 35 v) (h : DataW.Trod enc Tryd.prog W 0 (fun _ => true) true 35 v d ps) :
    ∃ p len cap, v = .slice p len cap ∧ len ≤ cap ∧ len ≤ maxLen ∧ RowsAt W p len := by
  obtain ⟨a0, l0, c0, rfl⟩ := okWide_slice Tryd.underlying35 hv
  obtain ⟨fuel, hf⟩ := h
  rcases open_slice1 Tryd.underlying35 (by kernel_rfl) hf with ⟨hcs, _⟩ | ⟨a, len, cap, m, n, V, D, Pl, hcs, _, hl, hm, hmm, hx, hi⟩
  · simp [Value.cells] at hcs
    obtain ⟨rfl, rfl, rfl⟩ := hcs
    exact ⟨none, 0, 0, rfl, Nat.le_refl _, Nat.zero_le _, fun i hi => absurd hi (Nat.not_lt_zero i)⟩
  · simp [Value.cells] at hcs
    obtain ⟨rfl, rfl, rfl⟩ := hcs
    simp only [if_true] at hmm
    subst hmm
    refine ⟨_, _, _, rfl, hl, Nat.le_trans hl hm, fun i hil => ?_⟩
    clear hm
    obtain ⟨ab, ao, spot⟩ := a
    obtain rfl : spot = none := by
      have h0 := (hi 0 (by omega)).1
      simpa [Addr.add] using World.cell?_spot h0
    obtain ⟨hc, ht⟩ := hi i (by omega)
    rw [Addr.add_lit] at hc
    obtain ⟨q, n2, c2, bs, e, hb, hby, hn2⟩ := open_row0 ht
    rw [e] at hc
    exact ⟨ab, ao, q, n2, c2, bs, rfl, hc, hb, hby, hn2⟩
/-- append of a slice that may be nil onto a row of one's own. -/
theorem own_any {w : World} {B : Nat} {v : Value} {bs cs : List Int} {F : Nat → Prop} {p : Option Addr} {n c : Nat} (h : Own8 w B v bs) (hx : BytesAt w F (.slice p n c) cs) (hB : B ≤ w.heap.size) (hn : bs.length + cs.length ≤ 100000000) (ty : TypeId) :
    ∃ v' w', (Builtin.append_ #[22, 22] ty #[v, .slice p n c]).run Tryd.prog w = .ok v' w' ∧ Own8 w' B v' (bs ++ cs) ∧ Grew w w' v v' := by
  cases p with
  | some a => exact own_append h hx hB hn ty
  | none =>
    obtain ⟨rfl, _⟩ := hx.len
    have h0 : cs = [] := by
      cases cs with
      | nil => rfl
      | cons x cs => obtain ⟨b, o, e, _⟩ := hx.at_ 0 x rfl; cases e
    subst h0
    obtain ⟨i, hi, hz, h1, h2⟩ := u8_parts
    have ht : Tryd.prog.underlying 22 = some (.slice 5) := by kernel_rfl
    refine ⟨v, w, ?_, by rw [List.append_nil]; exact h, ⟨⟨rfl, rfl, rfl, Nat.le_refl _, fun _ _ _ => rfl⟩, .inl rfl⟩⟩
    rcases h.2 with ⟨rfl, h0⟩ | ⟨g, cap, cur, rfl, _, _, hnc, _⟩
    · simp [Builtin.append_, run_underlying ht, sizeOf, typeInfo, hi, Builtin.lenOf, Builtin.firstCells]
    · simp [Builtin.append_, run_underlying ht, sizeOf, typeInfo, hi, Builtin.lenOf, Builtin.firstCells, hnc, storeCells]
theorem own_one (w : World) (x : Int) : Own8 (w.alloc (.cells #[.int .u8 x] 5)) w.heap.size (.slice (some ⟨w.heap.size, 0, none⟩) 1 1) [x] :=
  ⟨rfl, .inr ⟨w.heap.size, 1, _, rfl, Nat.le_refl _, heap_alloc_new w _, by simp, by decide, rfl, rfl⟩⟩
theorem Own8.at_ {w : World} {B : Nat} {v : Value} {bs : List Int} {F : Nat → Prop} (h : Own8 w B v bs) (hF : ∀ k, F k → k < B) : BytesAt w F v bs := h.bytes F fun k hk hf => by have := (h.lt k hk).1; have := hF k hf; omega
/-- The best so far. -/
def Best (w : World) (F : Nat → Prop) (M : Nat → Option (List Int)) (best : Int) (v : Value) : Prop :=
  (best = -1 ∧ v = .slice none 0 0 ∧ ∀ m, M m = none) ∨ (∃ (b : Nat) (bs : List Int), best = (b : Int) ∧ b ≤ 65535 ∧ BytesAt w F v bs ∧ M b = some bs ∧ Pay bs ∧ bs.length ≤ 201 ∧ ∀ m, (M m).isSome = true → m ≤ b)
theorem Best.lo {w : World} {F : Nat → Prop} {M : Nat → Option (List Int)} {best : Int} {v : Value} (h : Best w F M best v) : -1 ≤ best ∧ best ≤ 65535 := by
  rcases h with ⟨h, _⟩ | ⟨b, bs, h, hb, _⟩ <;> omega
theorem Best.turn {w w' : World} {F F' : Nat → Prop} {M : Nat → Option (List Int)} {best : Int} {v : Value} (h : Best w F M best v) (hk : Kp F w w') (hF : ∀ k, F' k → F k ∨ w.heap.size ≤ k) {m : Nat} {bs : List Int} (hm : (m : Int) < best) : Best w' F' (upd M m bs) best v := by
  rcases h with ⟨h, _⟩ | ⟨b, cs, h, hb, hx, hM, hp, hl, hmax⟩
  · omega
  · refine .inr ⟨b, cs, h, hb, hx.kept hk hF, by unfold upd; rw [if_neg (by omega)]; exact hM, hp, hl, fun k hk => ?_⟩
    unfold upd at hk
    by_cases hkm : k = m
    · omega
    · rw [if_neg hkm] at hk; exact hmax k hk
theorem Best.new {w w' : World} {F F' : Nat → Prop} {M : Nat → Option (List Int)} {best : Int} {v u : Value} (h : Best w F M best v) {m : Nat} {bs : List Int} (hm : best ≤ (m : Int)) (hm2 : m ≤ 65535) (hx : BytesAt w' F' u bs) (hp : Pay bs) (hl : bs.length ≤ 201) : Best w' F' (upd M m bs) (m : Int) u := by
  refine .inr ⟨m, bs, rfl, hm2, hx, by unfold upd; rw [if_pos rfl], hp, hl, fun k hk => ?_⟩
  unfold upd at hk
  by_cases hkm : k = m
  · omega
  · rw [if_neg hkm] at hk
    rcases h with ⟨_, _, h⟩ | ⟨b, cs, h, hb, _, _, _, _, hmax⟩
    · rw [h k] at hk; cases hk
    · have := hmax k hk; omega
theorem upd_one {k : Nat} {cs : List Int} (hk : k < 30) (hc : Byts cs) (hl : cs.length ≤ 200) : Pay (((k : Int) + 1) :: cs) ∧ (((k : Int) + 1) :: cs).length ≤ 201 :=
  ⟨⟨fun x hx => by
    rcases List.mem_cons.1 hx with rfl | hx
    · omega
    · exact hc x hx, by simp, by simp; omega⟩, by simp; omega⟩
/-- What is known between the rounds. -/
structure Loop1 (w0 wr : World) (d k : Nat) (best : Int) (v : Value) (S : St) (F : Nat → Prop) (M : Nat → Option (List Int)) : Prop where
  dsk : Dsk w0 wr d S F
  idle : Idle S
  whole : Whole S.files M
  room : S.room = 60000
  used : used S.files ≤ 10 * k
  len : S.files.length ≤ k
  best : Best wr F M best v
structure Loop2 (w0 wr : World) (d b : Nat) (bs : List Int) (v : Value) (j : Nat) (S : St) (F : Nat → Prop) (M : Nat → Option (List Int)) : Prop where
  dsk : Dsk w0 wr d S F
  idle : Idle S
  whole : Whole S.files M
  at_ : BytesAt wr F v bs
  is : M b = some bs
  most : ∀ m, (M m).isSome = true → m ≤ b
  only : 1 ≤ j → ∀ m, (M m).isSome = true → m = b
/-- One more has been written. -/
theorem Loop1.wrote {w0 wr wx w' : World} {d k : Nat} {best : Int} {v : Value} {S : St} {F F' : Nat → Prop} {M : Nat → Option (List Int)} (h : Loop1 w0 wr d k best v S F M) (hk : k < 30) {m : Nat} (hm : m ≤ 65535) {bs : List Int} (hp : Pay bs) (hl : bs.length ≤ 201) :
    S.wrE m bs = 0 ∧ (Dsk w0 w' d (S.wrS m bs) F' → Kp (fun _ => False) wr wx → Kp F wx w' → (∀ k, F' k → F k ∨ wx.heap.size ≤ k) → ∀ best' v', Best w' F' (upd M m bs) best' v' → Loop1 w0 w' d (k + 1) best' v' (S.wrS m bs) F' (upd M m bs)) := by
  have hpt : partsN (bs.length + 4) ≤ 10 := by unfold partsN; omega
  have hu := h.used
  have hr := h.room
  have hle := h.len
  obtain ⟨a1, a2, a3, a4, _, a6, a7⟩ := write_calm (n := m) h.idle h.whole (by omega) hp (by omega) (by omega)
  exact ⟨a1, fun hd _ _ _ best' v' hb => ⟨hd, a2, a3, a4.trans hr, by omega, by omega, hb⟩⟩

set_option maxRecDepth 100000 in
set_option maxHeartbeats 8000000 in
theorem SnapNewest_any (w : World) (p q : Option Addr) (pn pc qn qc : Nat) (hp : U16At w p pn) (hq : RowsAt w q qn) (_hpm : pn ≤ 9223372036854775807) (_hqm : qn ≤ 9223372036854775807) (_hpc : pn ≤ pc) (_hqc : qn ≤ qc) :
    Calls Tryd.prog 4 #[.slice p pn pc, .slice q qn qc] w (fun e w' => e = .returned (.bool true) ∧ Kp (fun _ => False) w w') := by
  have ha := awake11_any w
  have HP := Lib.hid hp
  have HQ := Lib.hid hq
  clear hp hq
  go_enter Tryd.func4, Tryd.ntmps4
  go_wp2_with (first
    | (go_at_call 7; refine ha.mono ?_; rintro e w1 ⟨rfl, hk1⟩; have c0 := New_dsk 60000 (by omega) (by omega) w w1 hk1; have HK1 := Lib.hid hk1; clear hk1 ha)
    | (go_at_call 13; refine c0.mono ?_; rintro e w2 ⟨d, F0, rfl, h2, -, -⟩; have H2 := Lib.hid h2; clear h2 c0))
  have HST : Hid (Loop1 w w2 d 0 (-1) (.slice none 0 0) (St.new 60000) F0 (fun _ => none)) := Lib.hid ⟨H2.out, ⟨rfl, rfl⟩, whole_new 60000, rfl, Nat.le_refl _, Nat.le_refl _, .inl ⟨rfl, rfl, fun _ => rfl⟩⟩
  go_loopw [7, 8, 25] (fun vb vw vi wr => ∃ (k : Nat) (best : Int) (v : Value) (S : St) (F : Nat → Prop) (M : Nat → Option (List Int)), k ≤ pn ∧ k ≤ 30 ∧ vi = .int .i64 k ∧ vb = .int .i64 best ∧ v = vw ∧ Loop1 w wr d k best v S F M) (fun _ _ i _ => 30 - (intOf i).toNat)
  case atStart => exact ⟨0, -1, _, _, _, _, Nat.zero_le _, by omega, rfl, rfl, rfl, HST.out⟩
  case round =>
    clear HST H2
    obtain ⟨k, best, vw, S, F, M, hk, hk30, rfl, rfl, rfl, hl⟩ := hrel
    by_cases hg : k < pn ∧ k < 30
    · obtain ⟨hkp, hk3⟩ := hg
      obtain ⟨b, o, m, rfl, hm, hcell⟩ := HP.out.kept hl.dsk.kp k hkp
      have hlo := hl.best.lo
      have h30 : ¬ (30 : Int) ≤ (k : Int) := by omega
      have hon := own_one wr ((k : Int) + 1)
      obtain ⟨wa, hwa⟩ : ∃ wa, wr.alloc (.cells #[.int .u8 ((k : Int) + 1)] 5) = wa := ⟨_, rfl⟩
      rw [hwa] at hon
      have hka : Kp (fun _ => False) wr wa := by rw [← hwa]; exact (Kp.refl _ wr).alloc _
      have hsa : wa.heap.size = wr.heap.size + 1 := by rw [← hwa]; simp
      have HL := Lib.hid hl
      by_cases hkq : k < qn
      · obtain ⟨b2, o2, q2, n2, c2, cs, rfl, hc2, hb2, hby2, hn2⟩ := HQ.out.kept (hl.dsk.kp.trans hka) k hkq
        have hk32 : (k : Int) < (qn : Int) := by omega
        have hnn := hb2.len.2
        have HB2 := Lib.hid (And.intro hb2 hby2)
        have HON := Lib.hid hon
        have HWA := Lib.hid (And.intro hwa hka)
        have HSA := Lib.hid hsa
        unfold maxLen at hn2
        have hmn1 : 0 ≤ min (n2 : Int) 200 := by omega
        have hmn2 : min (n2 : Int) 200 ≤ (c2 : Int) := by omega
        clear hl hb2 hby2 hon hka hwa hsa
        go_wp2
        rw [HWA.out.1]
        go_still_tail 12, (by kernel_rfl)
        change wpList _ _ _ _ _ wa.drew
        obtain ⟨z, hz⟩ : ∃ z, (min (n2 : Int) 200).toNat = z := ⟨_, rfl⟩
        have hz2 : z ≤ 200 := by omega
        have hzn : z ≤ n2 := by omega
        rw [hz]
        have hsrc := HB2.out.1.take hzn
        have hxl : (cs.take z).length = z := hsrc.len.1.symm
        obtain ⟨v3, wx, hap, hon3, hgr⟩ := own_any (w := wa.drew) HON.out (hsrc.kept (Kp.refl _ wa).drew (F' := fun _ => False) fun _ h => .inl h) (by show wr.heap.size ≤ wa.heap.size; have := HSA.out; omega) (by rw [hxl]; simp; omega) 22
        have hkx : Kp (fun _ => False) wr wx := HWA.out.2.drew.trans' (hgr.kp (F := fun k => wr.heap.size ≤ k) fun i hi => .inl (by simp only [Value.ownBlock, Option.some.injEq] at hi; omega)) fun i hi => .inr hi
        obtain ⟨bs, hbs⟩ : ∃ bs, [(k : Int) + 1] ++ cs.take z = bs := ⟨_, rfl⟩
        rw [hbs] at hon3
        have hpay : Pay bs ∧ bs.length ≤ 201 := by rw [← hbs]; exact upd_one (cs := cs.take z) hk3 (fun x hx => HB2.out.2 x (List.mem_of_mem_take hx)) (by rw [List.length_take]; omega)
        have hat : BytesAt wx F v3 bs := hon3.at_ fun k hk => HL.out.dsk.flt k hk
        have HX := Lib.hid (And.intro hkx (And.intro hpay hat))
        clear hsrc hxl hon3 hgr hkx hbs hpay hat HB2 HON hz hc2
        refine wpList_append_run rfl _ _ _ _ rfl rfl rfl hap ?_
        clear hap
        obtain ⟨hwe, hws⟩ := HL.out.wrote (wx := wx) (w' := wx) (F' := F) hk3 hm HX.out.2.1.1 HX.out.2.1.2
        have HWE := Lib.hid hwe
        have ctw := Twin_bytes HX.out.2.2 (by have := HX.out.2.1.2; omega)
        clear hwe hws
        have hdx := HL.out.dsk.step HX.out.1
        have HDX := Lib.hid hdx
        clear hdx
        go_wp2_with (go_at_call 9; refine Hid.out ?_)
        refine Lib.hid ?_
        refine ctw.mono ?_
        rintro e wt ⟨g, c, rfl, hgc, hg1, -, hgh, hgk⟩
        have cwr := HDX.out.write_new (n := m) HL.out.idle.off (by omega) HX.out.2.1.1 hgc hg1 hgh hgk
        rw [HWE.out] at cwr
        have HGK := Lib.hid hgk
        clear hgh hgk ctw hg1
        by_cases hbm : best ≤ (m : Int)
        · go_wp2_with (go_at_call 8; refine cwr.mono ?_; rintro e w4 ⟨rfl, F4, h4, hF4, hk4⟩; have H4 := Lib.hid (And.intro h4 (And.intro hF4 hk4)); clear h4 hF4 hk4 cwr)
          go_roundw
          case rel =>
            have hk5 : Kp F wx w4 := (HGK.out.mono fun _ h => h.elim).trans H4.out.2.2
            have hF5 : ∀ k, F4 k → F k ∨ wx.heap.size ≤ k := fun k h => (H4.out.2.1 k h).imp id fun h => Nat.le_trans HGK.out.size h
            exact ⟨k + 1, (m : Int), _, _, F4, _, by omega, by omega, by go_num, rfl, rfl, (HL.out.wrote (wx := wx) (w' := w4) (F' := F4) hk3 hm HX.out.2.1.1 HX.out.2.1.2).2 H4.out.1 HX.out.1 hk5 hF5 _ _ (HL.out.best.new hbm hm (HX.out.2.2.kept hk5 hF5) HX.out.2.1.1 HX.out.2.1.2)⟩
          case measure => simp [intOf]; omega
        · go_wp2_with (go_at_call 8; refine cwr.mono ?_; rintro e w4 ⟨rfl, F4, h4, hF4, hk4⟩; have H4 := Lib.hid (And.intro h4 (And.intro hF4 hk4)); clear h4 hF4 hk4 cwr)
          go_roundw
          case rel =>
            have hk5 : Kp F wx w4 := (HGK.out.mono fun _ h => h.elim).trans H4.out.2.2
            have hF5 : ∀ k, F4 k → F k ∨ wx.heap.size ≤ k := fun k h => (H4.out.2.1 k h).imp id fun h => Nat.le_trans HGK.out.size h
            have hk6 : Kp F wr w4 := (HX.out.1.mono fun _ h => h.elim).trans hk5
            exact ⟨k + 1, best, _, _, F4, _, by omega, by omega, by go_num, rfl, rfl, (HL.out.wrote (wx := wx) (w' := w4) (F' := F4) hk3 hm HX.out.2.1.1 HX.out.2.1.2).2 H4.out.1 HX.out.1 hk5 hF5 _ _ (HL.out.best.turn hk6 (fun k h => (hF5 k h).imp id fun h => Nat.le_trans HX.out.1.size h) (by omega))⟩
          case measure => simp [intOf]; omega
      · have hk32 : ¬ (k : Int) < (qn : Int) := by omega
        obtain ⟨bs, hbs⟩ : ∃ bs, [(k : Int) + 1] = bs := ⟨_, rfl⟩
        have hpay : Pay bs ∧ bs.length ≤ 201 := by rw [← hbs]; exact upd_one hk3 (fun x hx => by cases hx) (by simp)
        rw [hbs] at hon
        have hat : BytesAt wa F (.slice (some ⟨wr.heap.size, 0, none⟩) 1 1) bs := hon.at_ fun k hk => hl.dsk.flt k hk
        have HX := Lib.hid (And.intro hka (And.intro hpay hat))
        have HWA := Lib.hid hwa
        clear hl hon hka hwa hsa hbs hpay hat
        go_wp2_with (go_at_call 9; refine Hid.out ?_)
        obtain ⟨hwe, hws⟩ := HL.out.wrote (wx := wa) (w' := wa) (F' := F) hk3 hm HX.out.2.1.1 HX.out.2.1.2
        have HWE := Lib.hid hwe
        have ctw := Twin_bytes HX.out.2.2 (by have := HX.out.2.1.2; omega)
        clear hwe hws
        have hdx := HL.out.dsk.step HX.out.1
        have HDX := Lib.hid hdx
        clear hdx
        refine Lib.hid ?_
        rw [HWA.out]
        refine ctw.mono ?_
        rintro e wt ⟨g, c, rfl, hgc, hg1, -, hgh, hgk⟩
        have cwr := HDX.out.write_new (n := m) HL.out.idle.off (by omega) HX.out.2.1.1 hgc hg1 hgh hgk
        rw [HWE.out] at cwr
        have HGK := Lib.hid hgk
        clear hgh hgk ctw hg1
        by_cases hbm : best ≤ (m : Int)
        · go_wp2_with (go_at_call 8; refine cwr.mono ?_; rintro e w4 ⟨rfl, F4, h4, hF4, hk4⟩; have H4 := Lib.hid (And.intro h4 (And.intro hF4 hk4)); clear h4 hF4 hk4 cwr)
          go_roundw
          case rel =>
            have hk5 : Kp F wa w4 := (HGK.out.mono fun _ h => h.elim).trans H4.out.2.2
            have hF5 : ∀ k, F4 k → F k ∨ wa.heap.size ≤ k := fun k h => (H4.out.2.1 k h).imp id fun h => Nat.le_trans HGK.out.size h
            exact ⟨k + 1, (m : Int), _, _, F4, _, by omega, by omega, by go_num, rfl, rfl, (HL.out.wrote (wx := wa) (w' := w4) (F' := F4) hk3 hm HX.out.2.1.1 HX.out.2.1.2).2 H4.out.1 HX.out.1 hk5 hF5 _ _ (HL.out.best.new hbm hm (HX.out.2.2.kept hk5 hF5) HX.out.2.1.1 HX.out.2.1.2)⟩
          case measure => simp [intOf]; omega
        · go_wp2_with (go_at_call 8; refine cwr.mono ?_; rintro e w4 ⟨rfl, F4, h4, hF4, hk4⟩; have H4 := Lib.hid (And.intro h4 (And.intro hF4 hk4)); clear h4 hF4 hk4 cwr)
          go_roundw
          case rel =>
            have hk5 : Kp F wa w4 := (HGK.out.mono fun _ h => h.elim).trans H4.out.2.2
            have hF5 : ∀ k, F4 k → F k ∨ wa.heap.size ≤ k := fun k h => (H4.out.2.1 k h).imp id fun h => Nat.le_trans HGK.out.size h
            have hk6 : Kp F wr w4 := (HX.out.1.mono fun _ h => h.elim).trans hk5
            exact ⟨k + 1, best, _, _, F4, _, by omega, by omega, by go_num, rfl, rfl, (HL.out.wrote (wx := wa) (w' := w4) (F' := F4) hk3 hm HX.out.2.1.1 HX.out.2.1.2).2 H4.out.1 HX.out.1 hk5 hF5 _ _ (HL.out.best.turn hk6 (fun k h => (hF5 k h).imp id fun h => Nat.le_trans HX.out.1.size h) (by omega))⟩
          case measure => simp [intOf]; omega
    · have hx : (¬ (k : Int) < (pn : Int)) ∨ ∃ (b9 o9 m9 : Nat), p = some ⟨b9, o9, none⟩ ∧ wr.cell? ⟨b9, o9 + k, none⟩ = some (.int .u16 (m9 : Int)) ∧ m9 ≤ 65535 ∧ (k : Int) < (pn : Int) ∧ (30 : Int) ≤ (k : Int) := by
        by_cases hkp : k < pn
        · obtain ⟨b, o, m, h1, h2, h3⟩ := HP.out.kept hl.dsk.kp k hkp
          exact .inr ⟨b, o, m, h1, h3, h2, by omega, by omega⟩
        · exact .inl (by omega)
      have HL := Lib.hid hl
      by_cases hneg : best < 0
      · have hnone : ∀ m, M m = none := by
          rcases hl.best with ⟨_, _, h⟩ | ⟨b, bs, h, _⟩
          · exact h
          · omega
        have h0 : snapsOf S.files = [] := snaps_nil hl.whole.tidyS fun n hn => by rw [hl.whole.isSome hn, hnone n]; rfl
        have HC : Hid (TidyS S.files ∧ snapsOf S.files = []) := Lib.hid ⟨hl.whole.tidyS, h0⟩
        clear hl hnone h0
        rcases hx with hx | ⟨b9, o9, m9, rfl, hcell, hm9, hx, hx30⟩
        all_goals
          go_wp2
          go_loopw [68] (fun vi wq => vi = .int .i64 0 ∧ wq = wr) (fun _ _ => 0)
          case atStart => exact ⟨rfl, rfl⟩
          case round =>
            obtain ⟨rfl, rfl⟩ := hrel
            have cl := Load_none HL.out.dsk HL.out.idle.off HC.out.1 HC.out.2
            go_wp2_with (first
              | (go_at_call 6; refine cl.mono ?_; rintro e w5 ⟨rfl, hk5⟩; have HK5 := Lib.hid hk5; have cli := List_any (HL.out.dsk.step hk5) HL.out.idle.off HC.out.1; rw [HC.out.2] at cli; clear hk5 cl)
              | (go_at_call 12; refine cli.mono ?_; rintro e w6 ⟨v6, rfl, ho6, hk6⟩; obtain ⟨p6, c6, rfl⟩ := ho6.slice; have hk7 := HK5.out.trans hk6; have ccl := Clean_none (HL.out.dsk.step hk7) HL.out.idle.off HC.out.1 HC.out.2; have HK7 := Lib.hid hk7; clear hk6 hk7 ho6 cli)
              | (go_at_call 11; refine ccl.mono ?_; rintro e w8 ⟨rfl, hk8⟩; have HK8 := Lib.hid hk8; clear hk8 ccl))
            go_ret
            exact ⟨rfl, HL.out.dsk.kp.trans (HK7.out.trans HK8.out)⟩
      · obtain ⟨b, bs, hbb, hb2⟩ : ∃ (b : Nat) (bs : List Int), best = (b : Int) ∧ b ≤ 65535 ∧ BytesAt wr F vw bs ∧ M b = some bs ∧ Pay bs ∧ bs.length ≤ 201 ∧ ∀ m, (M m).isSome = true → m ≤ b := by
          rcases hl.best with ⟨h, _⟩ | h
          · omega
          · exact h
        subst hbb
        obtain ⟨hb5, hat, hM, hpay, hl201, hmax⟩ := hb2
        have HS : Hid (Loop2 w wr d b bs vw 0 S F M) := Lib.hid ⟨hl.dsk, hl.idle, hl.whole, hat, hM, hmax, fun h => by omega⟩
        have HPY := Lib.hid (And.intro hpay hl201)
        have hneg2 : ¬ (b : Int) < 0 := by omega
        clear hl hat hM hpay hl201 hmax HL hneg
        rcases hx with hx | ⟨b9, o9, m9, rfl, hcell, hm9, hx, hx30⟩
        all_goals
          go_wp2
          go_loopw [68] (fun vi wq => ∃ (j : Nat) (S : St) (F : Nat → Prop) (M : Nat → Option (List Int)), j ≤ 2 ∧ vi = .int .i64 j ∧ Loop2 w wq d b bs vw j S F M) (fun i _ => 2 - (intOf i).toNat)
          case atStart => exact ⟨0, _, _, _, by omega, rfl, HS.out⟩
          case round =>
            obtain ⟨j, S, F, M, hj, rfl, hl⟩ := hrel
            obtain ⟨hp1, ⟨ns, hns⟩, hch, hby⟩ := hl.whole.newest hl.idle.off (n := b) (by omega) hl.is fun m _ h => hl.most m h
            by_cases hj2 : j < 2
            · have cl := Load_some hl.dsk hl.idle.off hl.whole.tidyS hns (by omega) hch hby hp1.byts hp1.one hp1.most
              have HL := Lib.hid hl
              have HN := Lib.hid (And.intro hns (And.intro hch hby))
              clear hl hns hch hby hp1
              go_wp2_with (first
                | (go_at_call 6; refine cl.mono ?_; rintro e w5 ⟨v5, rfl, hb5, hk5⟩; obtain ⟨b5, o5, n5, c5, rfl⟩ := hb5.ptr HPY.out.1.one; have csm := Same_bytes hb5 (HL.out.at_.kept (hk5.mono fun _ h => h.elim) (F' := F) fun _ h => .inl h) (by have := HPY.out.2; omega); rw [decide_eq_true rfl] at csm; have HK5 := Lib.hid hk5; clear hb5 hk5 cl)
                | (go_at_call 14; refine csm.mono ?_; rintro e w6 ⟨rfl, hk6⟩; have hk7 := HK5.out.trans hk6; have ccl := Clean_some (HL.out.dsk.step hk7) HL.out.idle HL.out.whole.tidyS HL.out.whole.nodup HN.out.1 (by omega) HN.out.2.1 HN.out.2.2 HPY.out.1.byts HPY.out.1.one HPY.out.1.most; have HK7 := Lib.hid hk7; clear hk6 hk7 csm)
                | (go_at_call 11; refine ccl.mono ?_; rintro e w8 ⟨rfl, F8, h8, hF8, hk8⟩; have H8 := Lib.hid (And.intro h8 (And.intro hF8 hk8)); clear h8 hF8 hk8 ccl))
              go_roundw
              case rel =>
                have hk9 : Kp F _ w8 := (HK7.out.mono fun _ h => h.elim).trans H8.out.2.2
                refine ⟨j + 1, _, F8, only M b, by omega, by go_num, ⟨H8.out.1, rmAll_idle _ HL.out.idle, HL.out.whole.cleaned HL.out.idle b, HL.out.at_.kept hk9 fun k h => (H8.out.2.1 k h).imp id fun h => Nat.le_trans HK7.out.size h, ?_, fun m h => ?_, fun _ m h => ?_⟩⟩
                · unfold only; rw [if_pos rfl]; exact HL.out.is
                · unfold only at h
                  by_cases hm : m = b
                  · omega
                  · rw [if_neg hm] at h; cases h
                · unfold only at h
                  by_cases hm : m = b
                  · exact hm
                  · rw [if_neg hm] at h; cases h
              case measure => simp [intOf]; omega
            · obtain rfl : j = 2 := by omega
              have hls : snapsOf S.files = [b] := hl.whole.listed (by simp) fun n => by
                rw [List.mem_singleton]
                constructor
                · rintro rfl; exact ⟨by omega, by rw [hl.is]; rfl⟩
                · rintro ⟨_, h⟩; exact hl.only (by omega) n h
              have cli := List_any hl.dsk hl.idle.off hl.whole.tidyS
              rw [hls] at cli
              have HKL := Lib.hid hl.dsk.kp
              clear hl hls hns hch hby hp1
              go_wp2_with (first
                | (go_at_call 12; refine cli.mono ?_; rintro e wj ⟨vj, rfl, hrj, hkj⟩; have HR := Lib.hid hrj; have HKJ := Lib.hid hkj; clear hrj hkj)
                | (go_at_call 15; refine Hid.out ?_))
              refine Lib.hid ?_
              have h5 : RowI (wj.alloc (.cells #[.int .i64 (b : Int)] 2)) vj [b] := (HR.out.kept (F := fun _ => False) ((Kp.refl _ wj).alloc _) fun _ _ h => h).row
              have h6 : RowI (wj.alloc (.cells #[.int .i64 (b : Int)] 2)) (.slice (some ⟨wj.heap.size, 0, none⟩) 1 1) [b] := ⟨_, _, rfl, fun j n hj => ⟨_, rfl, by
                rw [blk_cell (heap_alloc_new wj _)]
                match j, hj with
                | 0, hj => injection hj with hj; subst hj; rfl⟩⟩
              refine (SameInts_same h5 h6 (by simp)).mono ?_
              rintro e wk ⟨rfl, hkk⟩
              have HK := Lib.hid (HKL.out.trans (HKJ.out.trans (((Kp.refl (fun _ => False) wj).alloc _).trans hkk)))
              clear h5 h6 cli hkk
              go_wp2
              go_ret
              exact ⟨rfl, HK.out⟩
end Go.Proofs.YtmcmapaapffadaaDoor

/-
  Merged of my texts, in order: ArgRows, LTail.
-/
import Derived.Test.YtggnohbfdlebiaaGreatDoorM23
import Derived.Test.YtggnohbfdlebiaaGreatDoorM24
import Derived.Deep.Slices
import Derived.StillTailTactics
/-
  Slices of slices of bytes that come in.
-/
namespace Go.Proofs.YtggnohbfdlebiaaGreatDoor
open Go.RowKit Go.Shelf Go.ChangeMaps Go.ChangeShapes Go.WideShapes Go.Deep Go.Joins

/-- A slice of slices of bytes. -/
def RowsAt (w : World) (p : Option Addr) (len : Nat) : Prop := ∀ i, i < len → ∃ (b o : Nat) (q : Option Addr) (n c : Nat) (bs : List Int), p = some ⟨b, o, none⟩ ∧ w.cell? ⟨b, o + i, none⟩ = some (.slice q n c) ∧ BytesAt w (fun _ => False) (.slice q n c) bs ∧ Byts bs ∧ n ≤ maxLen
theorem RowsAt.kept {w w' : World} {p : Option Addr} {len : Nat} (h : RowsAt w p len) (hk : Kp (fun _ => False) w w') : RowsAt w' p len := fun i hi =>
  let ⟨b, o, q, n, c, bs, h1, h2, h3, h4, h5⟩ := h i hi
  ⟨b, o, q, n, c, bs, h1, hk.cell h2 id, h3.kept hk fun _ h => .inl h, h4, h5⟩
set_option maxRecDepth 100000 in
theorem open_row0 {H : Type} {enc : TypeId × Value → H} {W : World} {n : Nat} {v : Value} {y : DataW H × List MemPlace} (hf : DataW.trod enc Tryz.prog W 0 (fun _ => true) true n 33 [v] = some y) :
    ∃ p len cap bs, v = .slice p len cap ∧ BytesAt W (fun _ => False) (.slice p len cap) bs ∧ Byts bs ∧ len ≤ maxLen := by
  rcases open_ints Tryz.underlying33 Tryz.underlying5 cells_u8 hf with ⟨hcs, _⟩ | ⟨a, len, cap, zs, hcs, _, hl, hm, hz, hx, hcell, hwz⟩
  · obtain rfl : v = .slice none 0 0 := by simpa using hcs
    exact ⟨none, 0, 0, [], rfl, ⟨none, 0, rfl, Nat.le_refl _, fun j x hj => by simp at hj⟩, fun x hx => (by cases hx), Nat.zero_le _⟩
  · obtain rfl : v = .slice (some a) len cap := by simpa using hcs
    simp only [if_true] at hz
    have hlz : (zs.take len).length = len := by rw [List.length_take]; omega
    refine ⟨_, _, _, zs.take len, rfl, ⟨_, cap, by rw [hlz], by rw [hlz]; exact hl, fun j x hj => ?_⟩, fun x hx => ?_, Nat.le_trans hl hm⟩
    · have hjl := (List.getElem?_eq_some_iff.1 hj).1
      rw [List.getElem?_take, if_pos (by omega)] at hj
      obtain ⟨b, o, rfl, hc⟩ := ints_at hcell (show 0 < zs.length by omega)
      have hcj := hcell j (by omega)
      rw [Addr.add_lit, List.getD_eq_getElem?_getD, hj] at hcj
      exact ⟨b, o, rfl, id, hcj⟩
    · exact bounds_u8 (hwz x (List.mem_of_mem_take hx))
set_option maxRecDepth 100000 in
theorem open_rows {H : Type} {enc : TypeId × Value → H} {W : World} {base : Nat} {v : Value} {d : DataW H} {ps : List MemPlace} (hv : Value.okWide Tryz.prog W .any base 29 v) (h : DataW.Trod enc Tryz.prog W 0 (fun _ => true) true 29 v d ps) :
    ∃ p len cap, v = .slice p len cap ∧ len ≤ cap ∧ len ≤ maxLen ∧ RowsAt W p len := by
  obtain ⟨a0, l0, c0, rfl⟩ := okWide_slice Tryz.underlying29 hv
  obtain ⟨fuel, hf⟩ := h
  rcases open_slice1 Tryz.underlying29 (by kernel_rfl) hf with ⟨hcs, _⟩ | ⟨a, len, cap, m, n, V, D, Pl, hcs, _, hl, hm, hmm, hx, hi⟩
  · simp [Value.cells] at hcs
    obtain ⟨rfl, rfl, rfl⟩ := hcs
    exact ⟨none, 0, 0, rfl, Nat.le_refl _, Nat.zero_le _, fun i hi => absurd hi (Nat.not_lt_zero i)⟩
  · simp [Value.cells] at hcs
    obtain ⟨rfl, rfl, rfl⟩ := hcs
    simp only [if_true] at hmm
    subst hmm
    refine ⟨_, _, _, rfl, hl, Nat.le_trans hl hm, fun i hil => ?_⟩
    clear hm
    obtain ⟨ab, ao, spot⟩ := a
    obtain rfl : spot = none := by
      have h0 := (hi 0 (by omega)).1
      simpa [Addr.add] using World.cell?_spot h0
    obtain ⟨hc, ht⟩ := hi i (by omega)
    rw [Addr.add_lit] at hc
    obtain ⟨q, n2, c2, bs, e, hb, hby, hn2⟩ := open_row0 ht
    rw [e] at hc
    exact ⟨ab, ao, q, n2, c2, bs, rfl, hc, hb, hby, hn2⟩
end Go.Proofs.YtggnohbfdlebiaaGreatDoor

/-
  LogTail: bytes that somebody puts behind the last record are cut off, and all records stay.
-/
namespace Go.Proofs.YtggnohbfdlebiaaGreatDoor
open Go.RowKit Go.Shelf Go.ChangeMaps Go.ChangeShapes Go.WideShapes Go.Deep Go.Joins

/-- A part of a slice that may be nil, from its front. -/
theorem BytesAt.front {w : World} {F : Nat → Prop} {p : Option Addr} {n c m : Nat} {bs : List Int} (h : BytesAt w F (.slice p n c) bs) (hm : m ≤ n) : BytesAt w F (.slice p m c) (bs.take m) := by
  obtain ⟨p', c', e, hc, h⟩ := h
  injection e with e1 e2 e3
  subst e1 e3
  refine ⟨_, _, by rw [List.length_take, ← e2, Nat.min_eq_left hm], by rw [List.length_take]; omega, fun j x hj => ?_⟩
  have hlt := (List.getElem?_eq_some_iff.1 hj).1
  rw [List.length_take] at hlt
  rw [List.getElem?_take, if_pos (by omega)] at hj
  exact h j x hj
/-- What lay there is older than all that is made. -/
theorem BytesAt.old {w : World} {v : Value} {bs : List Int} (h : BytesAt w (fun _ => False) v bs) : BytesAt w (fun k => w.heap.size ≤ k) v bs := by
  obtain ⟨p, c, rfl, hc, h⟩ := h
  refine ⟨p, c, rfl, hc, fun j x hj => ?_⟩
  obtain ⟨b, o, e, _, hx⟩ := h j x hj
  exact ⟨b, o, e, fun hb => by have : b < w.heap.size := block_lt_of_cell hx; omega, hx⟩
/-- A row of one payload, just made. -/
theorem row_one {w w' : World} {B : Nat} {F : Nat → Prop} {x : Value} {q : List Int} (hx : BytesAt w F x q) (hB : B ≤ w.heap.size) (hw : w.alloc (.cells #[x] 33) = w') : RowP w' B F (.slice (some ⟨w.heap.size, 0, none⟩) 1 1) [q] := by
  refine ⟨[x], ⟨rfl, .inr ⟨w.heap.size, 1, _, rfl, hB, by rw [← hw]; exact heap_alloc_new w _, Nat.le_refl _, by decide, rfl, rfl⟩⟩, rfl, fun j p hj => ?_⟩
  obtain rfl : j = 0 := by
    have := (List.getElem?_eq_some_iff.1 hj).1
    simpa using this
  simp only [List.getElem?_cons_zero, Option.some.injEq] at hj
  subst hj
  refine ⟨x, rfl, hx.kept (F' := fun k => F k ∨ (Value.slice (some ⟨w.heap.size, 0, none⟩) 1 1).ownBlock = some k) (by rw [← hw]; exact (Kp.refl F w).alloc _) fun k hk => ?_⟩
  rcases hk with hk | hk
  · exact .inl hk
  · simp only [Value.ownBlock, Option.some.injEq] at hk
    exact .inr (by omega)
theorem own_at {w w' : World} {F : Nat → Prop} {bs : List Int} {g c : Nat} (hF : ∀ k, F k → k < w.heap.size) (hc : bs.length ≤ c) (hg : w.heap.size ≤ g) (hh : Holds8 w' g 0 bs) : BytesAt w' F (.slice (some ⟨g, 0, none⟩) bs.length c) bs := by
  refine ⟨_, c, rfl, hc, fun j x hj => ⟨g, 0, rfl, fun hf => by have := hF g hf; omega, ?_⟩⟩
  exact hh j _ (by simp only [byteVals, List.getElem?_map, hj]; rfl)
theorem secs_byts {ss : List Int} (h : Byts ss) : Byts (bytesOf (secs ss)) := by
  intro x hx
  simp only [bytesOf, secs, List.mem_flatMap, List.mem_map, List.mem_range] at hx
  obtain ⟨s, ⟨j, _, rfl⟩, hx⟩ := hx
  simp only [secAt, List.mem_append, List.mem_replicate] at hx
  rcases hx with hx | ⟨_, rfl⟩
  · exact h x (List.mem_of_mem_drop (List.mem_of_mem_take hx))
  · omega
theorem secs_broken {ss : List Int} (h : ss.head? ≠ some 177) : Broken (bytesOf (secs ss)) 0 := by
  cases ss with
  | nil => exact .inl (by simp [bytesOf, secs, nsec])
  | cons x ss =>
    refine .inr fun e => h ?_
    obtain ⟨n, hn⟩ : ∃ n, nsec (x :: ss).length = n + 1 := ⟨(ss.length + 1 + 31) / 32 - 1, by unfold nsec; simp only [List.length_cons]; omega⟩
    unfold chunkOf bytesOf secs at e
    rw [hn, List.range_succ_eq_map] at e
    simpa [secAt] using e
/-- Bytes behind the last record, and what Open makes of them. -/
structure Tailed (S S1 S2 : St) (rs : List (List Int)) (T : List Int) : Prop where
  idle1 : Idle S1
  lays1 : Lays S1.files 1000 0 rs T
  e2 : S1.lopE (lnm 0) T = 0
  s2 : S1.lopS (lnm 0) T ((segB rs 0 rs.length).length / 32) = S2
  off2 : S2.off = false
  c0 : S.check (lnm 0) true = 0
  c2 : S2.check (lnm 0) true = 0
  size : S2.sizeOf (lnm 0) = S.sizeOf (lnm 0)
theorem tail_put {S : St} (hi : Idle S) {rs : List (List Int)} (hL : Lays S.files 1000 0 rs []) (h1 : 1 ≤ rs.length) (h2 : rs.length ≤ 21) (hlen : ∀ s ∈ getF S.files (lnm 0), s.bytes.length = 32) {ss : List Int} (hsy : Byts ss) (hl : ss.length ≤ 300) (hne : ss.head? ≠ some 177) (hr : S.room = 20000) (hu : used S.files ≤ 1000) :
    S.appE (lnm 0) ss.length = 0 ∧ ∃ S2 T, Tailed S (S.appT (lnm 0) ss) S2 rs T := by
  have hd : rs.length / 1000 = 0 := by omega
  have hm : rs.length % 1000 = rs.length := Nat.mod_eq_of_lt (by omega)
  have hsome : (get S.files (lnm 0)).isSome = true := by
    rcases hL.last with ⟨_, a2, _⟩ | ⟨a1, _⟩
    · omega
    · rw [hd] at a1; exact a1
  have hgl := hL.getF_last
  rw [hd, hm, List.append_nil, Nat.zero_mul] at hgl
  have hfit : Fits S (lnm 0) ss.length := by
    have := hL.fits (len := ss.length) (by rw [hr]; unfold nsec; omega) (by omega)
    rw [hd] at this; exact this
  obtain ⟨S1, hS1⟩ : ∃ S1, S.appT (lnm 0) ss = S1 := ⟨_, rfl⟩
  have hS1' : S1 = S.appS (lnm 0) ss := by rw [← hS1]; exact hfit.idleT hi
  have i1 : Idle S1 := by rw [hS1']; exact hi.appS _ _
  have f1 : S1.files = put S.files (lnm 0) (getF S.files (lnm 0) ++ secs ss) := by rw [hS1']; rfl
  obtain ⟨T, hT⟩ : ∃ T, bytesOf (secs ss) = T := ⟨_, rfl⟩
  have hl1 : Lays S1.files 1000 0 rs T := by
    have := hL.turn (T' := T) (L := getF S.files (lnm 0) ++ secs ss) (by rw [bytesOf_append, hgl, hT, hd, hm, Nat.zero_mul]) (stub_of _ (by rw [← hT]; exact secs_broken hne)) (by rw [← hT]; exact secs_byts hsy) (Nat.zero_le _)
    rw [hd] at this
    rw [f1]; exact this
  have g1 : getF S1.files (lnm 0) = getF S.files (lnm 0) ++ secs ss := by rw [f1, getF_put_eq]
  have k1 : S1.check (lnm 0) true = 0 := i1.there (nameB_lnm 0) (by rw [f1, get_put_eq]; rfl)
  have k0 : S.check (lnm 0) true = 0 := hi.there (nameB_lnm 0) hsome
  have hkk : (segB rs 0 rs.length).length = 32 * (getF S.files (lnm 0)).length := by rw [← hgl, bytesOf_length hlen]
  have hsz : S.sizeOf (lnm 0) = ((getF S.files (lnm 0)).length : Nat) := by unfold St.sizeOf; rw [if_pos k0]
  refine ⟨hfit.idleE hi, ?_⟩
  rw [hS1]
  by_cases hT0 : T = []
  · have hse : secs ss = [] := by
      cases hs : secs ss with
      | nil => rfl
      | cons s l =>
        have hs32 := secs_len ss s (by rw [hs]; simp)
        rw [hs] at hT
        rw [← hT] at hT0
        have := congrArg List.length hT0
        simp only [bytesOf, List.flatMap_cons, List.length_append, hs32, List.length_nil] at this
        omega
    refine ⟨S1, T, i1, hl1, if_pos hT0, if_pos hT0, i1.off, k0, k1, ?_⟩
    rw [hsz]
    unfold St.sizeOf
    rw [if_pos k1, g1, hse, List.append_nil]
  · obtain ⟨S2, hS2⟩ : ∃ S2, S1.doS (Hg.trunc (lnm 0) (((segB rs 0 rs.length).length / 32 : Nat) : Int)) = S2 := ⟨_, rfl⟩
    have f2 : S2.files = put S1.files (lnm 0) (syncAll ((getF S1.files (lnm 0)).take ((segB rs 0 rs.length).length / 32))) := by
      rw [← hS2, i1.did_files]; show put S1.files _ (syncAll ((getF S1.files _).take (Int.toNat _))) = _; rw [Int.toNat_natCast]
    have i2 : Idle S2 := by rw [← hS2]; exact i1.did _
    have k2 : S2.check (lnm 0) true = 0 := i2.there (nameB_lnm 0) (by rw [f2, get_put_eq]; rfl)
    refine ⟨S2, T, i1, hl1, ?_, ?_, i2.off, k0, k2, ?_⟩
    · unfold St.lopE; rw [if_neg hT0, k1]; exact i1.doE
    · unfold St.lopS; rw [if_neg hT0, k1]; exact hS2
    · rw [hsz]
      unfold St.sizeOf
      rw [if_pos k2, f2, getF_put_eq, syncAll_length, List.length_take, g1, List.length_append, hkk]
      congr 1
      omega
theorem lnm_zero : lnm 0 = (⟨#[108, 48, 48, 48, 48, 48, 48, 48, 48]⟩ : ByteArray) := by decide +kernel

set_option maxRecDepth 100000 in
set_option maxHeartbeats 16000000 in
theorem LogTail_any (w : World) (pp : Option Addr) (pl pc : Nat) (hpl : pl ≤ maxLen) (hrows : RowsAt w pp pl) (sp : Option Addr) (sl sc : Nat) (ss : List Int) (hsb : BytesAt w (fun _ => False) (.slice sp sl sc) ss) (hsy : Byts ss) (hss : sl ≤ 140737488351232) :
    Calls Tryz.prog 4 #[.slice pp pl pc, .slice sp sl sc] w fun e w' => e = .returned (.bool true) ∧ Kp (fun _ => False) w w' := by
  obtain rfl := hsb.len.1
  obtain ⟨sz, hsz⟩ : ∃ sz, ss.length = sz := ⟨_, rfl⟩
  rw [hsz] at hsb hss ⊢
  have HSS := Lib.hid (And.intro hsb (And.intro hsy (And.intro hss (And.intro hrows (And.intro hpl hsz)))))
  have c0 := New_dsk 20000 (by omega) (by omega) w
  clear hsb hsy hss hrows hpl hsz
  go_enter Tryz.func4, Tryz.ntmps4
  go_wp2_with (first
    | (go_at_call 9; refine (awake10_any _).mono ?_; rintro e w1 ⟨rfl, hk1⟩; have H1 := Lib.hid hk1; clear hk1)
    | (go_at_call 10; refine (c0 _ H1.out).mono ?_; rintro e w2 ⟨d, F2, rfl, h2, -, -⟩; have H2 := Lib.hid h2; clear h2)
    | (go_at_call 11; refine Hid.out ?_))
  refine Lib.hid ?_
  clear c0
  have ho := H2.out.opens (per := 1000) (f := 0) rfl (lays_nil (by decide))
  refine ho.mono ?_
  clear ho
  rintro e w3 ⟨p, v3, F3, rfl, h3, hp3, -, -, -⟩
  rw [List.drop_nil] at hp3
  obtain ⟨q3, c3, rfl, -, -⟩ := hp3
  have H3 := Lib.hid h3
  clear h3
  go_wp2_with (go_at_call 12; refine Hid.out ?_)
  refine Lib.hid ?_
  have hF3 : ∀ k, (F3 k ∨ k = p) → k < w3.heap.size := fun k hk => by
    rcases hk with hk | rfl
    · exact H3.out.lg.dsk.flt k hk
    · exact H3.out.lg.log.lt
  have hs1 : (w3.alloc (.cells #[.int .u8 1] 5)).heap.size = w3.heap.size + 1 := by simp
  have x1 := (own_one w3 1).at_ (F := fun k => F3 k ∨ k = p) hF3
  obtain ⟨w5, hw5⟩ : ∃ w5, (w3.alloc (.cells #[.int .u8 1] 5)).alloc (.cells #[.slice (some ⟨w3.heap.size, 0, none⟩) 1 1] 33) = w5 := ⟨_, rfl⟩
  have hrow := row_one (B := w.heap.size) x1 (by rw [hs1]; have := H3.out.lg.dsk.kp.size; omega) hw5
  rw [hs1] at hrow
  have hk5 : Kp (fun _ => False) w3 w5 := by rw [← hw5]; exact ((Kp.refl _ w3).alloc _).alloc _
  have hs5 : w5.heap.size = w3.heap.size + 1 + 1 := by rw [← hw5]; simp
  have hkp5 : Keeps w w5 p d 1000 [] [[1]] _ F3 (.slice (some ⟨w3.heap.size + 1, 0, none⟩) 1 1) := ⟨H3.out.step hk5, ⟨rfl, rfl⟩, hrow, fun k hk hf => by
    simp only [Value.ownBlock, Option.some.injEq] at hk
    have := hF3 k hf; omega⟩
  have hb6 := (own_one w5 1).at_ (F := fun k => F3 k ∨ k = p) fun k hk => by have := hF3 k hk; omega
  have hkp6 := hkp5.step ((Kp.refl (fun _ => False) w5).alloc (.cells #[.int .u8 1] 5))
  change Calls _ _ _ (((w3.alloc (.cells #[.int .u8 1] 5)).alloc (.cells #[.slice (some ⟨w3.heap.size, 0, none⟩) 1 1] 33)).alloc (.cells #[.int .u8 1] 5)) _
  rw [hw5]
  rw [hs5] at hb6
  have hap := hkp6.has.append hkp6.idle hb6 (one_load (by decide)) (by decide) (by show ¬ (20000 : Int) < ((0 : Nat) : Int) + ((partsN (1 + 36) : Nat) : Int); decide) (by decide)
  refine hap.mono ?_
  clear hap
  rintro e w7 ⟨rfl, S7, F7, h7, i7, g7, f7, k7⟩
  have hkp7 := hkp6.moved h7 i7 f7 k7
  have hu7 : used S7.files ≤ 10 * 1 := by rw [g7.used]; show 0 + partsN (1 + 36) ≤ 10; decide
  have H7 := Lib.hid (And.intro hkp7 (And.intro (show S7.room = 20000 from g7.room) hu7))
  clear h7 i7 g7 f7 k7 hkp7 hu7 hkp6 hb6 hkp5 hs5 hk5 hrow hw5 x1 hs1 hF3
  go_wp2
  go_loopw [54, 10] (fun vi vw wr => ∃ (i : Nat) (rs : List (List Int)) (S : St) (F : Nat → Prop), i ≤ pl ∧ vi = .int .i64 (i : Int) ∧ Keeps w wr p d 1000 rs rs S F vw ∧ S.room = 20000 ∧ used S.files ≤ 10 * rs.length ∧ rs.length ≤ i + 1 ∧ rs.length ≤ 21 ∧ 1 ≤ rs.length) (fun i _ _ => pl - (intOf i).toNat)
  case atStart => exact ⟨0, [[1]], S7, F7, Nat.zero_le _, rfl, H7.out.1, H7.out.2.1, H7.out.2.2, by decide, by decide, by decide⟩
  case round =>
    obtain ⟨i, rs, S, F, hi1, rfl, hkp, hroom, hused, hl1, hl2, hl3⟩ := hrel
    clear H7 H3
    have HK := Lib.hid (And.intro hkp (And.intro hroom (And.intro hused (And.intro hl1 hl2))))
    clear hkp hroom hused
    have hpm : pl ≤ maxLen := HSS.out.2.2.2.2.1
    have hpm2 : pl ≤ 9223372036854775807 := hpm
    by_cases hip : i < pl
    · obtain ⟨rb, ro, rq, rn, rc, bs, rfl, hcell0, hbs0, hby, hrn⟩ := HSS.out.2.2.2.1 i hip
      have hcell := HK.out.1.has.lg.dsk.kp.cell hcell0 id
      have hbs := hbs0.kept HK.out.1.has.lg.dsk.kp (F' := fun _ => False) fun _ h => .inl h
      clear hcell0
      have hrn2 : rn ≤ 9223372036854775807 := hrn
      clear hpm hrn
      by_cases hi20 : i < 20
      · by_cases hn0 : rn = 0
        · subst hn0
          clear hpm2 hrn2
          go_wp2
          go_roundw
          case rel => exact ⟨i + 1, rs, S, F, by omega, by go_num, HK.out.1, HK.out.2.1, HK.out.2.2.1, by omega, hl2, hl3⟩
          case measure => simp [intOf]; omega
        · obtain ⟨gb, go, gn, gc, ep⟩ := hbs.ptr (by have := hbs.len.1; omega)
          injection ep with e1 e2 e3
          subst e1 e2 e3
          obtain ⟨m, hm⟩ : ∃ m, min rn 200 = m := ⟨_, rfl⟩
          have hm1 : 1 ≤ m ∧ m ≤ 200 ∧ m ≤ rn := by omega
          have hmz : min (rn : Int) 200 = (m : Int) := by omega
          have hmc : m ≤ rc := Nat.le_trans hm1.2.2 hbs.len.2
          have hfr := hbs.front (m := m) hm1.2.2
          have hold := (hbs0.front (m := m) hm1.2.2).old
          obtain ⟨q, hq⟩ : ∃ q, bs.take m = q := ⟨_, rfl⟩
          rw [hq] at hfr hold
          have hql : q.length = m := hfr.len.1.symm
          have hqy : Byts q := by rw [← hq]; exact hby.take m
          have ctw := Twin_bytes hfr (by omega)
          have HB := Lib.hid (And.intro hfr (And.intro hql (And.intro hqy hold)))
          clear hbs hbs0 hold hfr hq hqy hby hm
          go_wp2_with (first
            | (go_at_call 14; refine ctw.mono ?_; rintro e w8 ⟨g8, c8, rfl, a8, b8, -, d8, k8⟩; rw [HB.out.2.1]; have H8 := Lib.hid (And.intro a8 (And.intro b8 (And.intro d8 k8))); clear a8 b8 d8 k8 ctw)
            | (go_at_call 12; refine Hid.out ?_))
          refine Lib.hid ?_
          have hb8 := own_at (F := fun k => F k ∨ k = p) HK.out.1.lt H8.out.1 H8.out.2.1 H8.out.2.2.1
          rw [HB.out.2.1] at hb8
          have hkp8 := HK.out.1.step H8.out.2.2.2
          have hap := hkp8.has.append hkp8.idle hb8 ⟨by rw [HB.out.2.1]; omega, by rw [HB.out.2.1]; omega, HB.out.2.2.1⟩ (by omega) (by rw [HK.out.2.1, HB.out.2.1]; have := HK.out.2.2.1; unfold partsN; omega) (Nat.le_trans (Nat.div_le_self _ _) (by omega))
          refine hap.mono ?_
          clear hap hb8
          rintro e w9 ⟨rfl, S9, F9, h9, i9, g9, f9, k9⟩
          have hkp9 := hkp8.moved h9 i9 f9 k9
          have hx9 : BytesAt w9 (fun k => (F9 k ∨ k = p) ∨ u10.ownBlock = some k) (.slice (some ⟨gb, go, none⟩) m rc) q := by
            exact (HB.out.2.2.2.kept (hkp9.has.lg.dsk.kp.mono fun _ h => h.elim) (F' := fun k => w.heap.size ≤ k) fun _ h => .inl h).mono fun k hk => by
              rcases hk with (hk | rfl) | hk
              · exact hkp9.has.lg.dsk.new k hk
              · exact hkp9.has.lg.new
              · exact (hkp9.row.lt k hk).1
          obtain ⟨v10, w10, hap10, hkp10, -⟩ := hkp9.push hx9 (by omega) 29
          have hu9 : used S9.files ≤ 10 * (rs ++ [q]).length := by rw [g9.used, HB.out.2.1, List.length_append]; have := HK.out.2.2.1; simp only [List.length_cons, List.length_nil]; unfold partsN; omega
          have H9 := Lib.hid (And.intro hkp10 (And.intro (g9.room.trans HK.out.2.1) hu9))
          clear h9 i9 g9 f9 k9 hkp9 hx9 hkp10 hu9 hkp8
          go_wp2_with (at_builtin; refine wpList_append_run rfl _ _ _ _ rfl rfl rfl hap10 ?_)
          go_roundw
          case rel => exact ⟨i + 1, rs ++ [q], S9, F9, by omega, by go_num, H9.out.1, H9.out.2.1, H9.out.2.2, by rw [List.length_append]; simp; omega, by rw [List.length_append]; simp; omega, by rw [List.length_append]; omega⟩
          case measure => simp [intOf]; omega
      · clear hrn2
        go_wp2
        go_roundw
        case rel => exact ⟨i + 1, rs, S, F, by omega, by go_num, HK.out.1, HK.out.2.1, HK.out.2.2.1, by omega, hl2, hl3⟩
        case measure => simp [intOf]; omega
    · obtain rfl : i = pl := by omega
      clear hpm hpm2
      have hdsk := HK.out.1.has.lg.dsk
      have hsec32 : ∀ s ∈ getF S.files (lnm 0), s.bytes.length = 32 := fun s hs => by
        have ok := hdsk.ok
        obtain ⟨x, hx, h1⟩ := getF_mem s hs; exact ok.secs x hx s h1
      obtain ⟨m, hm⟩ : ∃ m, min sz 300 = m := ⟨_, rfl⟩
      have hmz : min (sz : Int) 300 = (m : Int) := by omega
      have hm3 : m ≤ 300 ∧ m ≤ sz := by omega
      have hb0 := HSS.out.1.kept hdsk.kp (F' := fun _ => False) fun _ h => .inl h
      have hmc : m ≤ sc := Nat.le_trans hm3.2 hb0.len.2
      have hfr := hb0.front (m := m) hm3.2
      obtain ⟨st, hst⟩ : ∃ st, ss.take m = st := ⟨_, rfl⟩
      rw [hst] at hfr
      have hstl : st.length = m := hfr.len.1.symm
      have hsty : Byts st := by rw [← hst]; exact HSS.out.2.1.take m
      have hkp' := hdsk.kp
      obtain ⟨Z, hZ⟩ : ∃ Z, S.sizeOf (lnm 0) = Z := ⟨_, rfl⟩
      have hk0 : S.check (lnm 0) true = 0 := by
        refine HK.out.1.idle.there (nameB_lnm 0) ?_
        have hL := HK.out.1.has.lays
        rcases hL.last with ⟨_, a2, _⟩ | ⟨a1, _⟩
        · rw [Nat.mod_eq_of_lt (by omega)] at a2; omega
        · rw [show rs.length / 1000 = 0 by omega] at a1; exact a1
      have cSz := hdsk.size (lnm 0) (by rw [lnm_size]; decide)
      rw [hZ, hk0, lnm_zero] at cSz
      have ctw := Twin_bytes hfr (by omega)
      have HT := Lib.hid (And.intro hfr (And.intro hstl (And.intro hsty (And.intro hkp' (And.intro hsec32 (And.intro hZ hk0))))))
      clear hb0 hdsk hsec32 hkp' hZ hk0 hst hm hfr
      by_cases h177 : st.head? = some 177
      · have hm0 : 0 < m := by rw [← hstl]; cases st with | nil => simp at h177 | cons x l => simp
        obtain ⟨b8, o8, n8, c8, e8⟩ := HT.out.1.ptr (by omega)
        injection e8 with e1 e2 e3
        subst e1 e2 e3
        obtain ⟨b9, o9, e9, hc9⟩ := HT.out.1.at_ 0 177 (by rw [← List.head?_eq_getElem?]; exact h177)
        injection e9 with e9
        injection e9 with e1 e2 _
        subst e1 e2
        have hc9 : wr.cell? ⟨b8, o8, none⟩ = some (.int .u8 177) := hc9
        have hm0' : ¬ m = 0 := by omega
        go_wp2_with (go_at_call 15; refine cSz.mono ?_; rintro e w' ⟨rfl, hw'⟩; subst w')
        go_ret
        exact ⟨rfl, HT.out.2.2.2.1⟩
      · obtain ⟨hE, S2, T, hTl⟩ := tail_put HK.out.1.idle HK.out.1.has.lays hl3 hl2 HT.out.2.2.2.2.1 HT.out.2.2.1 (by rw [HT.out.2.1]; exact hm3.1) h177 HK.out.2.1 (by have := HK.out.2.2.1; omega)
        have HV := Lib.hid (And.intro hE hTl)
        clear hE hTl
        by_cases hm0 : m = 0
        · rcases sp with _ | a
          · subst hm0
            go_wp2_with (first
              | (go_at_call 15; refine cSz.mono ?_; rintro e w' ⟨rfl, hw'⟩; subst w')
              | (go_at_call 14; refine ctw.mono ?_; rintro e w8 ⟨g8, c8', rfl, a8, b8', -, d8, k8⟩; rw [HT.out.2.1]; have H8 := Lib.hid (And.intro a8 (And.intro b8' (And.intro d8 k8))); clear a8 b8' d8 k8)
              | (go_at_call 16; refine Hid.out ?_))
            refine Lib.hid ?_
            have hap := HK.out.1.has.lg.dsk.append_new (bs := st) H8.out.1 H8.out.2.2.1 H8.out.2.2.2 (lnm 0) (by rw [lnm_size]; decide) (by rw [HT.out.2.1]; omega)
            rw [HV.out.1, HT.out.2.1, lnm_zero] at hap
            refine hap.mono ?_
            clear hap
            rintro e w9 ⟨rfl, F9, h9, f9, k9⟩
            rw [← lnm_zero] at h9
            have hpay := HK.out.1.pay
            obtain ⟨qw, cw, hu, -, -⟩ := id hpay
            subst hu
            have hpay9 := (hpay.kept (H8.out.2.2.2.mono fun _ h => h.elim) (F' := fun k => F k ∨ k = p) fun _ h => .inl h).kept (k9.mono fun k hk => .inl hk) (F' := fun k => F9 k ∨ k = p) fun k hk => by
              rcases hk with hk | hk
              · exact (f9 k hk).imp .inl id
              · exact .inl (.inr hk)
            have H9 := Lib.hid (And.intro h9 hpay9)
            clear h9 f9 k9 hpay hpay9
            obtain ⟨L, hL⟩ : ∃ L, rs.length = L := ⟨_, rfl⟩
            rw [hL]
            go_wp2_with (go_at_call 11; refine Hid.out ?_)
            refine Lib.hid ?_
            have ho := LOpen_any H9.out.1 HV.out.2.idle1.off HV.out.2.lays1
            rw [show rs.length / 1000 = 0 by omega, HV.out.2.e2] at ho
            rw [show rs.length % 1000 = rs.length from Nat.mod_eq_of_lt (by omega), Nat.zero_mul, HV.out.2.s2] at ho
            refine ho.mono ?_
            clear ho
            rintro e w10 ⟨F10, f10, k10, ⟨h0, -⟩ | ⟨-, p4, v4, rfl, hlg, hp4, -⟩⟩
            · exact absurd rfl h0
            have hpay10 := H9.out.2.kept (k10.mono fun k hk => .inl hk) (F' := fun k => F10 k ∨ k = p) fun k hk => by
              rcases hk with hk | hk
              · exact (f10 k hk).imp .inl id
              · exact .inl (.inr hk)
            rw [Nat.zero_mul, List.drop_zero] at hp4
            replace hp4 := hp4.mono (F' := fun k => F10 k ∨ k = p4) fun _ h => .inr h
            have cs := same_any hp4 hpay10 (by omega) (loads_len HK.out.1.has.lays.loads)
            rw [hL] at cs
            have cS2 := hlg.dsk.size (lnm 0) (by rw [lnm_size]; decide)
            rw [HV.out.2.size, HT.out.2.2.2.2.2.1, HV.out.2.c2, lnm_zero] at cS2
            have cN : ∀ W, Kp (fun _ => False) w10 W → Calls Tryz.prog 17 #[.pointer (some ⟨p4, 0, none⟩)] W fun e w' => e = .returned (.int .i64 ((L : Int) + 1)) ∧ w' = W := fun W hW => by
              have := Next_at (hlg.step hW).log.next
              rw [hL, Int.natCast_add, Int.natCast_one] at this
              exact this
            have hkw10 := hlg.dsk.kp
            have H10 := Lib.hid hkw10
            clear hp4 hpay10 hlg f10 k10 hkw10
            go_wp2_with (first
              | (go_at_call 15; refine cS2.mono ?_; rintro e w' ⟨rfl, hw'⟩; subst w')
              | (go_at_call 13; refine cs.mono ?_; rintro e w11 ⟨rfl, hk11⟩; have cN2 := cN _ hk11; have H11 := Lib.hid hk11; clear hk11)
              | (go_at_call 17; refine cN2.mono ?_; rintro e w' ⟨rfl, hw'⟩; subst w'))
            go_ret
            exact ⟨rfl, H10.out.trans H11.out⟩
          · have ha0 : a.add 0 = a := by unfold Addr.add; simp
            subst hm0
            go_wp2_with (first
              | (go_at_call 15; refine cSz.mono ?_; rintro e w' ⟨rfl, hw'⟩; subst w')
              | (go_at_call 14; refine ctw.mono ?_; rintro e w8 ⟨g8, c8', rfl, a8, b8', -, d8, k8⟩; rw [HT.out.2.1]; have H8 := Lib.hid (And.intro a8 (And.intro b8' (And.intro d8 k8))); clear a8 b8' d8 k8)
              | (go_at_call 16; refine Hid.out ?_))
            refine Lib.hid ?_
            have hap := HK.out.1.has.lg.dsk.append_new (bs := st) H8.out.1 H8.out.2.2.1 H8.out.2.2.2 (lnm 0) (by rw [lnm_size]; decide) (by rw [HT.out.2.1]; omega)
            rw [HV.out.1, HT.out.2.1, lnm_zero] at hap
            refine hap.mono ?_
            clear hap
            rintro e w9 ⟨rfl, F9, h9, f9, k9⟩
            rw [← lnm_zero] at h9
            have hpay := HK.out.1.pay
            obtain ⟨qw, cw, hu, -, -⟩ := id hpay
            subst hu
            have hpay9 := (hpay.kept (H8.out.2.2.2.mono fun _ h => h.elim) (F' := fun k => F k ∨ k = p) fun _ h => .inl h).kept (k9.mono fun k hk => .inl hk) (F' := fun k => F9 k ∨ k = p) fun k hk => by
              rcases hk with hk | hk
              · exact (f9 k hk).imp .inl id
              · exact .inl (.inr hk)
            have H9 := Lib.hid (And.intro h9 hpay9)
            clear h9 f9 k9 hpay hpay9
            obtain ⟨L, hL⟩ : ∃ L, rs.length = L := ⟨_, rfl⟩
            rw [hL]
            go_wp2_with (go_at_call 11; refine Hid.out ?_)
            refine Lib.hid ?_
            have ho := LOpen_any H9.out.1 HV.out.2.idle1.off HV.out.2.lays1
            rw [show rs.length / 1000 = 0 by omega, HV.out.2.e2] at ho
            rw [show rs.length % 1000 = rs.length from Nat.mod_eq_of_lt (by omega), Nat.zero_mul, HV.out.2.s2] at ho
            refine ho.mono ?_
            clear ho
            rintro e w10 ⟨F10, f10, k10, ⟨h0, -⟩ | ⟨-, p4, v4, rfl, hlg, hp4, -⟩⟩
            · exact absurd rfl h0
            have hpay10 := H9.out.2.kept (k10.mono fun k hk => .inl hk) (F' := fun k => F10 k ∨ k = p) fun k hk => by
              rcases hk with hk | hk
              · exact (f10 k hk).imp .inl id
              · exact .inl (.inr hk)
            rw [Nat.zero_mul, List.drop_zero] at hp4
            replace hp4 := hp4.mono (F' := fun k => F10 k ∨ k = p4) fun _ h => .inr h
            have cs := same_any hp4 hpay10 (by omega) (loads_len HK.out.1.has.lays.loads)
            rw [hL] at cs
            have cS2 := hlg.dsk.size (lnm 0) (by rw [lnm_size]; decide)
            rw [HV.out.2.size, HT.out.2.2.2.2.2.1, HV.out.2.c2, lnm_zero] at cS2
            have cN : ∀ W, Kp (fun _ => False) w10 W → Calls Tryz.prog 17 #[.pointer (some ⟨p4, 0, none⟩)] W fun e w' => e = .returned (.int .i64 ((L : Int) + 1)) ∧ w' = W := fun W hW => by
              have := Next_at (hlg.step hW).log.next
              rw [hL, Int.natCast_add, Int.natCast_one] at this
              exact this
            have hkw10 := hlg.dsk.kp
            have H10 := Lib.hid hkw10
            clear hp4 hpay10 hlg f10 k10 hkw10
            go_wp2_with (first
              | (go_at_call 15; refine cS2.mono ?_; rintro e w' ⟨rfl, hw'⟩; subst w')
              | (go_at_call 13; refine cs.mono ?_; rintro e w11 ⟨rfl, hk11⟩; have cN2 := cN _ hk11; have H11 := Lib.hid hk11; clear hk11)
              | (go_at_call 17; refine cN2.mono ?_; rintro e w' ⟨rfl, hw'⟩; subst w'))
            go_ret
            exact ⟨rfl, H10.out.trans H11.out⟩
        · obtain ⟨b8, o8, n8, c8, e8⟩ := HT.out.1.ptr (by omega)
          injection e8 with e1 e2 e3
          subst e1 e2 e3
          obtain ⟨x0, hx0⟩ : ∃ x0, st[0]? = some x0 := ⟨_, List.getElem?_eq_getElem (by omega)⟩
          obtain ⟨b9, o9, e9, hc9⟩ := HT.out.1.at_ 0 x0 hx0
          injection e9 with e9
          injection e9 with e1 e2 _
          subst e1 e2
          have hc9 : wr.cell? ⟨b8, o8, none⟩ = some (.int .u8 x0) := hc9
          have hx177 : (x0 == 177) = false := by
            rw [List.head?_eq_getElem?, hx0] at h177
            simpa using h177
          clear hx0
          go_wp2_with (first
            | (go_at_call 15; refine cSz.mono ?_; rintro e w' ⟨rfl, hw'⟩; subst w')
            | (go_at_call 14; refine ctw.mono ?_; rintro e w8 ⟨g8, c8', rfl, a8, b8', -, d8, k8⟩; rw [HT.out.2.1]; have H8 := Lib.hid (And.intro a8 (And.intro b8' (And.intro d8 k8))); clear a8 b8' d8 k8)
            | (go_at_call 16; refine Hid.out ?_))
          refine Lib.hid ?_
          have hap := HK.out.1.has.lg.dsk.append_new (bs := st) H8.out.1 H8.out.2.2.1 H8.out.2.2.2 (lnm 0) (by rw [lnm_size]; decide) (by rw [HT.out.2.1]; omega)
          rw [HV.out.1, HT.out.2.1, lnm_zero] at hap
          refine hap.mono ?_
          clear hap
          rintro e w9 ⟨rfl, F9, h9, f9, k9⟩
          rw [← lnm_zero] at h9
          have hpay := HK.out.1.pay
          obtain ⟨qw, cw, hu, -, -⟩ := id hpay
          subst hu
          have hpay9 := (hpay.kept (H8.out.2.2.2.mono fun _ h => h.elim) (F' := fun k => F k ∨ k = p) fun _ h => .inl h).kept (k9.mono fun k hk => .inl hk) (F' := fun k => F9 k ∨ k = p) fun k hk => by
            rcases hk with hk | hk
            · exact (f9 k hk).imp .inl id
            · exact .inl (.inr hk)
          have H9 := Lib.hid (And.intro h9 hpay9)
          clear h9 f9 k9 hpay hpay9
          obtain ⟨L, hL⟩ : ∃ L, rs.length = L := ⟨_, rfl⟩
          rw [hL]
          go_wp2_with (go_at_call 11; refine Hid.out ?_)
          refine Lib.hid ?_
          have ho := LOpen_any H9.out.1 HV.out.2.idle1.off HV.out.2.lays1
          rw [show rs.length / 1000 = 0 by omega, HV.out.2.e2] at ho
          rw [show rs.length % 1000 = rs.length from Nat.mod_eq_of_lt (by omega), Nat.zero_mul, HV.out.2.s2] at ho
          refine ho.mono ?_
          clear ho
          rintro e w10 ⟨F10, f10, k10, ⟨h0, -⟩ | ⟨-, p4, v4, rfl, hlg, hp4, -⟩⟩
          · exact absurd rfl h0
          have hpay10 := H9.out.2.kept (k10.mono fun k hk => .inl hk) (F' := fun k => F10 k ∨ k = p) fun k hk => by
            rcases hk with hk | hk
            · exact (f10 k hk).imp .inl id
            · exact .inl (.inr hk)
          rw [Nat.zero_mul, List.drop_zero] at hp4
          replace hp4 := hp4.mono (F' := fun k => F10 k ∨ k = p4) fun _ h => .inr h
          have cs := same_any hp4 hpay10 (by omega) (loads_len HK.out.1.has.lays.loads)
          rw [hL] at cs
          have cS2 := hlg.dsk.size (lnm 0) (by rw [lnm_size]; decide)
          rw [HV.out.2.size, HT.out.2.2.2.2.2.1, HV.out.2.c2, lnm_zero] at cS2
          have cN : ∀ W, Kp (fun _ => False) w10 W → Calls Tryz.prog 17 #[.pointer (some ⟨p4, 0, none⟩)] W fun e w' => e = .returned (.int .i64 ((L : Int) + 1)) ∧ w' = W := fun W hW => by
            have := Next_at (hlg.step hW).log.next
            rw [hL, Int.natCast_add, Int.natCast_one] at this
            exact this
          have hkw10 := hlg.dsk.kp
          have H10 := Lib.hid hkw10
          clear hp4 hpay10 hlg f10 k10 hkw10
          go_wp2_with (first
            | (go_at_call 15; refine cS2.mono ?_; rintro e w' ⟨rfl, hw'⟩; subst w')
            | (go_at_call 13; refine cs.mono ?_; rintro e w11 ⟨rfl, hk11⟩; have cN2 := cN _ hk11; have H11 := Lib.hid hk11; clear hk11)
            | (go_at_call 17; refine cN2.mono ?_; rintro e w' ⟨rfl, hw'⟩; subst w'))
          go_ret
          exact ⟨rfl, H10.out.trans H11.out⟩
end Go.Proofs.YtggnohbfdlebiaaGreatDoor

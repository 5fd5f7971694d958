/-
  Merged of my texts, in order: Rest.
-/
import Derived.Test.YtggnohbfdlebiaaGreatDoorM7
/-
  Restart: the power is on again.
-/
namespace Go.Proofs.YtggnohbfdlebiaaGreatDoor
open Go.RowKit Go.Shelf Go.ChangeMaps

/-- The names as byte arrays, in order. -/
def namesB (fs : Files) : List Nm := (namesOf fs).map fun l => ⟨l.toArray⟩
theorem namesB_mem {fs : Files} : ∀ n ∈ namesB fs, n ∈ fs.map (·.1) := by
  intro n hn
  obtain ⟨l, hl, rfl⟩ := List.mem_map.1 hn
  have := (List.mergeSort_perm _ _).mem_iff.1 hl
  obtain ⟨p, hp, rfl⟩ := List.mem_map.1 this
  exact List.mem_map.2 ⟨p, hp, by simp⟩
theorem namesB_length (fs : Files) : (namesB fs).length = fs.length := by simp [namesB, namesOf]
/-- The files behind a restart. -/
def St.fated (S : St) (dn : Bool) : Files := if dn then (S.hangs.getD .noop).run S.files else S.files
def St.restart (S : St) (dn : Bool) (K : List Bool) : St := { S.wake with files := (fateFold K (namesB (S.fated dn)) (S.fated dn)).2 }

/-- A list of bools lies there. -/
def HoldsK (w : World) (kp : Option Addr) (K : List Bool) : Prop := ∀ j b, K[j]? = some b → ∃ kb ko, kp = some ⟨kb, ko, none⟩ ∧ w.cell? ⟨kb, ko + j, none⟩ = some (.bool b)
def OutK (F : Nat → Prop) (kp : Option Addr) : Prop := ∀ kb ko, kp = some ⟨kb, ko, none⟩ → ¬ F kb
theorem HoldsK.kept {w w' : World} {F : Nat → Prop} {kp : Option Addr} {K : List Bool} (h : HoldsK w kp K) (hk : Kp F w w') (ho : OutK F kp) : HoldsK w' kp K := by
  intro j b hj
  obtain ⟨kb, ko, h1, h2⟩ := h j b hj
  exact ⟨kb, ko, h1, hk.cell h2 (ho kb ko h1)⟩
theorem names_row {w : World} {base : Nat} {v : Value} {ns : List Nm} (h : w.ownsRow base 9 1 v ns.length (ns.map Value.string)) :
    ∃ np nc, v = .slice np ns.length nc ∧ ∀ j n, ns[j]? = some n → ∃ nb, np = some ⟨nb, 0, none⟩ ∧ base ≤ nb ∧ w.cell? ⟨nb, j, none⟩ = some (.string n) := by
  obtain ⟨_, ⟨rfl, h0⟩ | ⟨g, cap, cur, rfl, hb, hg, hn, hm, _, ht⟩⟩ := h
  · refine ⟨none, 0, by rw [h0], ?_⟩
    intro j n hj
    rw [List.eq_nil_of_length_eq_zero h0] at hj; simp at hj
  · refine ⟨_, cap, rfl, ?_⟩
    intro j n hj
    refine ⟨g, rfl, hb, ?_⟩
    rw [blk_cell hg]
    have hlt : j < ns.length := (List.getElem?_eq_some_iff.1 hj).1
    have h1 : (ns.map Value.string)[j]? = some (.string n) := by simp [hj]
    rw [← ht, List.getElem?_take, if_pos (by omega)] at h1
    simpa using h1

theorem le_step {c k : Nat} (h : c ≤ k * 65536) : c ≤ (k + 1) * 65536 := Nat.le_trans h (Nat.mul_le_mul_right _ (Nat.le_succ k))
theorem le_step2 {c k u x : Nat} (h : c ≤ k * 65536) (hu : u ≤ 65536) (hx : x = c + u) : x ≤ (k + 1) * 65536 := by rw [Nat.succ_mul, hx]; exact Nat.add_le_add h hu
theorem Restart_nil (v : Value) (hv : ∃ a b c e, v = .agg #[.bool a, .slice b c e]) (w : World) : Calls Tryz.prog 27 #[.pointer none, v] w fun e w' => e = .returned (.int .i64 7) ∧ Kp (fun _ => False) w w' := by
  obtain ⟨a, b, c, e, rfl⟩ := hv
  have hk := (Kp.refl (fun _ => False) w).alloc (.cells #[.bool a, .slice b c e] 67)
  go_enter Tryz.func27, Tryz.ntmps27
  go_wp2
  go_ret
  exact ⟨rfl, hk⟩
set_option maxHeartbeats 1000000 in
theorem Restart_on {w : World} {d m : Nat} {es : Array MapEntry} {clock : Nat} {hv : Value} {S : St} {F : Nat → Prop} (h : DiskIs w d m es clock hv S F) (hoff : S.off = false) (v : Value) (hvv : ∃ a b c e, v = .agg #[.bool a, .slice b c e]) :
    Calls Tryz.prog 27 #[.pointer (some ⟨d, 0, none⟩), v] w fun e w' => e = .returned (.int .i64 14) ∧ Kp (fun _ => False) w w' := by
  obtain ⟨a, b, c, e, rfl⟩ := hvv
  have hk := (Kp.refl (fun _ => False) w).alloc (.cells #[.bool a, .slice b c e] 67)
  have c2 := hk.cell h.cells.2.2.1 id
  rw [hoff] at c2
  clear h hoff
  go_enter Tryz.func27, Tryz.ntmps27
  go_wp2
  go_ret
  exact ⟨rfl, hk⟩

set_option maxRecDepth 100000 in
set_option maxHeartbeats 8000000 in
theorem Restart_kept {w : World} {d m : Nat} {es : Array MapEntry} {clock : Nat} {hv : Value} {S : St} {F : Nat → Prop} (h : DiskIs w d m es clock hv S F) (hoff : S.off = true) (K : List Bool) (kp : Option Addr) (kc : Nat)
    (_hkl : K.length ≤ kc) (_hkb : K.length ≤ 140737488351232) (hK : HoldsK w kp K) (hKo : OutK F kp) (hKw : OutK (fun k => w.heap.size ≤ k) kp) :
    Calls Tryz.prog 27 #[.pointer (some ⟨d, 0, none⟩), .agg #[.bool false, .slice kp K.length kc]] w (Does w d 0 (S.restart false K) F) := by
  obtain ⟨BX, hBX⟩ : ∃ BX, BX = Obj.cells #[.bool false, .slice kp K.length kc] 67 := ⟨_, rfl⟩
  obtain ⟨w0, hw0⟩ : ∃ w0, ((w.setCell ⟨d, 2, none⟩ (.bool false)).setCell ⟨d, 3, none⟩ (.int .i64 0)).alloc BX = w0 := ⟨_, rfl⟩
  have hW : DiskIs w0 d m es clock hv S.wake F := by rw [← hw0]; exact h.wake.kept ((Kp.refl (fun _ => False) _).alloc _) fun _ _ h => h
  have hk0 : Kp F w w0 := by rw [← hw0]; exact (((Kp.refl F w).setCell (.inl h.fd) _).setCell (.inl h.fd) _).alloc _
  have hdl : d < w.heap.size := blk_lt h.hd
  have hbx : w0.heap[w.heap.size]? = some BX := by rw [← hw0]; simpa using heap_alloc_new ((w.setCell ⟨d, 2, none⟩ (.bool false)).setCell ⟨d, 3, none⟩ (.int .i64 0)) BX
  rw [hBX] at hbx
  have b0 : w0.cell? ⟨w.heap.size, 0, none⟩ = some (.bool false) := blk_cell hbx 0
  have b1 : w0.cell? ⟨w.heap.size, 1, none⟩ = some (.slice kp K.length kc) := blk_cell hbx 1
  obtain ⟨_, _, a2, a3, _, _, az⟩ := h.cells
  rw [hoff] at a2
  have HK0 : Hid (HoldsK w0 kp K) := hK.kept hk0 hKo
  obtain ⟨hg, hhg, hokg⟩ := h.ok.hung hoff
  have hoff0 : S.wake.off = false := rfl
  have hbF : ¬ F w.heap.size := fun hf => by have := h.flt _ hf; omega
  have hFw := Lib.hid h.flt
  subst hBX
  obtain ⟨c0, _, c2, c3, _, c5, _⟩ := hW.cells
  have h1 := hW
  have hoff1 := hoff0
  have hb1 := hbF
  have hKo1 := hKo
  have hk1 := Kp.refl F w0
  have hF1 : ∀ i, F i → F i ∨ w0.heap.size ≤ i := fun _ h => .inl h
  have bx1 := b1
  have HK1 := HK0
  clear h hK hW b1 HK0
  go_enter Tryz.func27, Tryz.ntmps27
  go_wp2_with (go_at_call 57; refine Hid.out ?_)

  refine Lib.hid ?_
  refine (Names_on h1 hoff1).mono ?_
  rintro e w2 ⟨v, rfl, hrow, -, hB2⟩
  obtain ⟨ns, hns⟩ : ∃ ns, namesB (S.fated false) = ns := ⟨_, rfl⟩
  obtain ⟨fs, hfs⟩ : ∃ fs, S.fated false = fs := ⟨_, rfl⟩
  have hmem : ∀ n ∈ ns, n ∈ fs.map (·.1) := by rw [← hns, ← hfs]; exact namesB_mem
  have hrow' : w2.ownsRow w0.heap.size 9 1 v ns.length (ns.map Value.string) := by
    have e1 : ns.length = (namesOf (S.fated false)).length := by rw [← hns]; simp [namesB]
    have e2 : ns.map Value.string = (namesOf (S.fated false)).map Go.Proofs.encStr := by rw [← hns, namesB, List.map_map]; rfl
    rw [e1, e2]; exact hrow
  have hN : ns.length ≤ 64 := by have := h1.ok.count; rw [← hns, namesB_length]; exact this
  obtain ⟨np, nc, rfl, hnm⟩ := names_row hrow'
  have hk2 : Kp (fun _ => False) w0 w2 := Kp.of_below _ hB2
  have h2 : DiskIs w2 d m es clock hv { S.wake with files := fs } F := by rw [← hfs]; exact h1.kept hk2 fun _ _ h => h
  have HM := Lib.hid hnm
  have H2 := Lib.hid h2
  have H1F := Lib.hid h1.flt
  have HK2 : Hid (HoldsK w2 kp K) := HK1.out.kept hk2 fun _ _ _ h => h
  have bx2 : w2.cell? ⟨w.heap.size, 1, none⟩ = some (.slice kp K.length kc) := hk2.cell bx1 id
  have HRS : Hid ({ S.wake with files := (fateFold K ns fs).2 } = S.restart false K) := by rw [← hns, ← hfs]; rfl
  clear hrow hrow' hnm h1 h2 HK1 bx1 hB2 hns
  go_wp2
  go_loopw [35, 5] (fun vk vc wr => ∃ k c : Nat, k ≤ ns.length ∧ vk = .int .i64 k ∧ vc = .int .i64 c ∧ c ≤ k * 65536 ∧ c = (fateFold K (ns.take k) fs).1 ∧ (∃ Fk, DiskAt wr d { S.wake with files := (fateFold K (ns.take k) fs).2 } Fk ∧ ∀ i, Fk i → F i ∨ w2.heap.size ≤ i) ∧ Kp F w2 wr) (fun i _ _ => ns.length - (intOf i).toNat)
  case atStart => exact ⟨0, 0, Nat.zero_le _, rfl, rfl, Nat.zero_le _, rfl, ⟨F, ⟨_, _, _, _, H2.out⟩, fun _ h => .inl h⟩, Kp.refl _ _⟩
  case round =>
    obtain ⟨k, c, hk, rfl, rfl, hc, hcf, ⟨Fk, ⟨mk, esk, clk, hvk, hDk⟩, hFk⟩, hKk⟩ := hrel
    obtain ⟨wo, hwo⟩ : ∃ wo, wo = wr := ⟨_, rfl⟩
    subst hwo
    by_cases hlt : k < ns.length
    · obtain ⟨n, hn⟩ : ∃ n, ns[k] = n := ⟨_, rfl⟩
      obtain ⟨fk, hfk⟩ : ∃ fk, (fateFold K (ns.take k) fs).2 = fk := ⟨_, rfl⟩
      have hstep : fateFold K (ns.take (k + 1)) fs = (c + uns (getF fk n), put fk n (fateN K c (getF fk n))) := by rw [fateFold_step K hlt, hn]; unfold fateStep; rw [← hcf, hfk]
      rw [hfk] at hDk
      obtain ⟨nb, rfl, hnb, hnc⟩ := HM.out k n (by rw [List.getElem?_eq_getElem hlt, hn])
      have hgn : (get fk n).isSome = true := by
        rw [get_isSome, ← hfk]
        unfold fateFold
        rw [fateFold_keys K _ _ (fun x hx => hmem x (List.mem_of_mem_take hx)), ← hn]
        exact hmem _ (List.getElem_mem hlt)
      obtain ⟨l, hl⟩ := Option.isSome_iff_exists.1 hgn
      have hgl : getF fk n = l := by simp [getF, hl]
      obtain ⟨u, hlook, hu⟩ := look_some hDk hl false
      simp only [Bool.false_eq_true, if_false] at hlook
      have e0 := hDk.cells.1
      have en : wo.cell? ⟨nb, k, none⟩ = some (.string n) := hKk.cell hnc fun hf => by have := H1F.out _ hf; omega
      have hll : l.length ≤ 65536 := by
        have g1 := getF_le fk n
        have g2 := hDk.ok.used
        have g3 := hDk.ok.room
        rw [hgl] at g1
        simp only at g2 g3; omega
      have bxr : wo.cell? ⟨w.heap.size, 1, none⟩ = some (.slice kp K.length kc) := hKk.cell bx2 hb1
      have HKr : Hid (HoldsK wo kp K) := HK2.out.kept hKk hKo1
      have hcl := Clone_any hu (by omega)
      have hs0 : ∀ s ∈ l, s.bytes.length = 32 := hu.1
      have hok := put_fate_ok hDk.ok rfl hgn K c
      rw [show ({ S.wake with files := fk } : St).files = fk from rfl, hgl] at hok
      have HOK := Lib.hid hok
      have HD := Lib.hid hDk
      have HS0 := Lib.hid hs0
      have HKK := Lib.hid hKk
      have HFk := Lib.hid hFk
      have hwr : w.heap.size ≤ wo.heap.size := by have := hKk.size; have := hk2.size; have := hk1.size; have := hk0.size; omega
      clear hDk hu hs0 hok hnc hl hgn hFk hKk hfk hcf
      go_wp2_with (go_at_call 58; refine Hid.out ?_)
      refine Lib.hid ?_
      refine hcl.mono ?_
      rintro e w3 ⟨v', rfl, hf3, hk3⟩
      have D3 := HD.out.kept hk3 fun _ _ h => h
      have e03 := D3.cells.1
      have HD3 := Lib.hid D3
      obtain ⟨p3, c3, hv3, hV3⟩ : ∃ p3 c3, v' = .slice p3 l.length c3 ∧ FileRep w3 (fun k => wo.heap.size ≤ k) (.slice p3 l.length c3) l := by
        obtain ⟨q1, p3, c3, hv3, q2⟩ := hf3
        subst hv3
        exact ⟨p3, c3, rfl, q1, p3, c3, rfl, q2⟩
      rw [hv3]
      clear hv3 hcl hlook D3 hf3
      by_cases hne : l = []
      · subst hne
        clear hll
        obtain ⟨es5, clk5, hup, hAt, hKp5⟩ := put_any (G := fun _ => False) HD3.out n (fateN K c []) (.slice p3 0 c3) (by obtain ⟨q1, q2, q3, q4, q5, q6, _⟩ := hV3; exact ⟨q1, q2, q3, q4, q5, q6, fun h => absurd rfl h⟩) HOK.out
        simp only [List.length_nil]
        have HR : Hid (∃ k' c' : Nat, k' = k + 1 ∧ c' = c ∧ c' ≤ k' * 65536 ∧ c' = (fateFold K (ns.take k') fs).1 ∧ (∃ Fk, DiskAt (setBlock w3 mk (.map es5 clk5)) d { S.wake with files := (fateFold K (ns.take k') fs).2 } Fk ∧ ∀ i, Fk i → F i ∨ w2.heap.size ≤ i) ∧ Kp F w2 (setBlock w3 mk (.map es5 clk5))) := by
          refine ⟨k + 1, c, rfl, rfl, le_step hc, by rw [hstep, hgl]; rfl, ⟨_, by rw [hstep, hgl]; exact hAt, ?_⟩, ?_⟩
          · rintro i (h | h)
            · exact HFk.out i h
            · exact h.1.elim
          · exact (HKK.out.trans (hk3.mono fun _ h => h.elim)).trans' hKp5 fun i h => HFk.out i h
        clear hAt hKp5 hV3
        go_wp2
        go_loopw [48, 5] (fun i cc wr => i = .int .i64 0 ∧ cc = .int .i64 c ∧ wr = w3) (fun _ _ _ => 0)
        case atStart => exact ⟨rfl, rfl, rfl⟩
        case round =>
          obtain ⟨rfl, rfl, rfl⟩ := hrel
          go_wp2
          go_roundw
          case rel =>
            obtain ⟨k', c', rfl, rfl, r1, r2, r3, r4⟩ := HR.out
            exact ⟨k + 1, c', by omega, by go_num, rfl, r1, r2, r3, r4⟩
          case measure => simp [intOf]; omega
      · obtain ⟨g, rfl, hgw, hrow3⟩ : ∃ g, p3 = some ⟨g, 0, none⟩ ∧ wo.heap.size ≤ g ∧ RowIs w3 g l := by
          obtain ⟨_, p', c', q1, _, _, q2⟩ := hV3
          obtain ⟨g, cs, q3, q4, q5, q6⟩ := q2 hne
          injection q1 with q1 _ _
          exact ⟨g, q1.trans q3, q4, cs, q5, q6⟩
        have hpos : 0 < l.length := List.length_pos_iff.2 hne
        have HV3 : Hid (∀ wr, RowIs wr g (fateN K c l) → FileRep wr (fun i => i = g) (.slice (some ⟨g, 0, none⟩) l.length c3) (fateN K c l)) := by
          rintro wr ⟨cur, r1, r2⟩
          obtain ⟨_, p', c', q1, q2, q3, _⟩ := hV3
          injection q1 with _ _ q1
          subst q1
          rw [fateN_length] at r2
          exact ⟨fateN_len HS0.out c, _, c3, by rw [fateN_length], by rw [fateN_length]; exact q2, q3, fun _ => ⟨g, cur, rfl, rfl, r1, by rw [fateN_length]; exact r2⟩⟩
        clear hV3
        go_wp2
        go_loopw [48, 5] (fun vj vi wr => ∃ j ci : Nat, j ≤ l.length ∧ vj = .int .i64 j ∧ vi = .int .i64 ci ∧ ci = c + uns (l.take j) ∧ RowIs wr g (fateN K c (l.take j) ++ l.drop j) ∧ Kp (fun i => i = g) w3 wr) (fun i _ _ => l.length - (intOf i).toNat)
        case atStart => exact ⟨0, c, Nat.zero_le _, rfl, rfl, rfl, by simpa [fateN] using hrow3, Kp.refl _ _⟩
        case round =>
          obtain ⟨j, ci, hj, rfl, rfl, hci, hrowj, hkx⟩ := hrel
          have HKX := Lib.hid hkx
          by_cases hjl : j < l.length
          · obtain ⟨s, hs⟩ : ∃ s, l[j] = s := ⟨_, rfl⟩
            have hdrop : l.drop j = s :: l.drop (j + 1) := by rw [List.drop_eq_getElem_cons hjl, hs]
            rw [hdrop] at hrowj
            have hA : ∀ x ∈ fateN K c (l.take j), x.bytes.length = 32 := fateN_len (fun x hx => HS0.out x (List.mem_of_mem_take hx)) c
            have hBd : ∀ x ∈ l.drop (j + 1), x.bytes.length = 32 := fun x hx => HS0.out x (List.mem_of_mem_drop hx)
            have hs32 : s.bytes.length = 32 := by rw [← hs]; exact HS0.out _ (List.getElem_mem hjl)
            have hAl : (fateN K c (l.take j)).length = j := by rw [fateN_length, List.length_take]; omega
            have hnext : fateN K c (l.take (j + 1)) ++ l.drop (j + 1) = fateN K c (l.take j) ++ fateSec K ci s :: l.drop (j + 1) := by rw [fateN_step K hjl, hs, ← hci]; simp
            have hcn : c + uns (l.take (j + 1)) = ci + if s.synced = true then 0 else 1 := by rw [uns_step hjl, hs, hci]; omega
            have hcib : ci ≤ 5000000 := by
              have q := uns_le (l.take j)
              rw [List.length_take] at q
              omega
            have hcell := hrowj.cell hA hs32 hAl
            have hfree := hrowj.free
            have hbx' : wr.cell? ⟨w.heap.size, 1, none⟩ = some (.slice kp K.length kc) := hkx.cell (hk3.cell bxr id) (fun (e : w.heap.size = g) => by have : w.heap.size < wo.heap.size := block_lt_of_cell bxr; omega)
            have HKx : Hid (HoldsK wr kp K) := (HKr.out.kept hk3 fun _ _ _ h => h).kept hkx fun kb ko e (e2 : kb = g) => hKw kb ko e (show w.heap.size ≤ kb by omega)
            clear hs hdrop hkx hci
            cases hsy : s.synced with
            | true =>
              rw [hsy] at hcell
              have HN : Hid (RowIs (wr.setCell ⟨g, j * 33 + 32, none⟩ (.bool true)) g (fateN K c (l.take (j + 1)) ++ l.drop (j + 1))) := by rw [hnext, show fateSec K ci s = setSync s from if_pos (.inl hsy)]; exact hrowj.sync hA hs32 hAl
              have HKP : Hid (Kp (fun i => i = g) w3 (wr.setCell ⟨g, j * 33 + 32, none⟩ (.bool true))) := HKX.out.setCell (.inl rfl) _
              go_wp2
              go_roundw
              case rel => exact ⟨j + 1, ci, by omega, by go_num, by go_num, by rw [hcn, hsy]; rfl, HN.out, HKP.out⟩
              case measure => simp [intOf]; omega
            | false =>
              rw [hsy] at hcell
              by_cases hcK : ci < K.length
              · obtain ⟨b, hb⟩ : ∃ b, K[ci]? = some b := ⟨_, List.getElem?_eq_getElem hcK⟩
                obtain ⟨kb, ko, rfl, hkc⟩ := HKx.out ci b hb
                have hgd : K.getD ci false = b := by rw [List.getD_eq_getElem?_getD, hb]; rfl
                cases b with
                | true =>
                  have HN : Hid (RowIs (wr.setCell ⟨g, j * 33 + 32, none⟩ (.bool true)) g (fateN K c (l.take (j + 1)) ++ l.drop (j + 1))) := by rw [hnext, show fateSec K ci s = setSync s from if_pos (.inr hgd)]; exact hrowj.sync hA hs32 hAl
                  have HKP : Hid (Kp (fun i => i = g) w3 (wr.setCell ⟨g, j * 33 + 32, none⟩ (.bool true))) := HKX.out.setCell (.inl rfl) _
                  go_wp2
                  go_roundw
                  case rel => exact ⟨j + 1, ci + 1, by omega, by go_num, by go_num, by rw [hcn, hsy]; rfl, HN.out, HKP.out⟩
                  case measure => simp [intOf]; omega
                | false =>
                  have hnt : fateSec K ci s = setSync zeroSec := if_neg (by rw [hsy, hgd]; simp)
                  go_wp2_with (refine wpList_zero_sec rfl _ _ rfl (k := j) rfl rfl hrowj hA hs32 hBd hAl ?_; rintro wz hz hkz; have hcz := hz.cell hA rfl hAl; have hfz := hz.free; have HZ := Lib.hid hz; have HKZ := Lib.hid hkz; clear hz hkz)
                  have HN : Hid (RowIs (wz.setCell ⟨g, j * 33 + 32, none⟩ (.bool true)) g (fateN K c (l.take (j + 1)) ++ l.drop (j + 1))) := by rw [hnext, hnt]; exact HZ.out.sync hA rfl hAl
                  have HKP : Hid (Kp (fun i => i = g) w3 (wz.setCell ⟨g, j * 33 + 32, none⟩ (.bool true))) := (HKX.out.trans HKZ.out).setCell (.inl rfl) _
                  go_roundw
                  case rel => exact ⟨j + 1, ci + 1, by omega, by go_num, by go_num, by rw [hcn, hsy]; rfl, HN.out, HKP.out⟩
                  case measure => simp [intOf]; omega
              · have hgd : K.getD ci false = false := by rw [List.getD_eq_getElem?_getD, List.getElem?_eq_none (by omega)]; rfl
                have hnt : fateSec K ci s = setSync zeroSec := if_neg (by rw [hsy, hgd]; simp)
                go_wp2_with (refine wpList_zero_sec rfl _ _ rfl (k := j) rfl rfl hrowj hA hs32 hBd hAl ?_; rintro wz hz hkz; have hcz := hz.cell hA rfl hAl; have hfz := hz.free; have HZ := Lib.hid hz; have HKZ := Lib.hid hkz; clear hz hkz)
                have HN : Hid (RowIs (wz.setCell ⟨g, j * 33 + 32, none⟩ (.bool true)) g (fateN K c (l.take (j + 1)) ++ l.drop (j + 1))) := by rw [hnext, hnt]; exact HZ.out.sync hA rfl hAl
                have HKP : Hid (Kp (fun i => i = g) w3 (wz.setCell ⟨g, j * 33 + 32, none⟩ (.bool true))) := (HKX.out.trans HKZ.out).setCell (.inl rfl) _
                go_roundw
                case rel => exact ⟨j + 1, ci + 1, by omega, by go_num, by go_num, by rw [hcn, hsy]; rfl, HN.out, HKP.out⟩
                case measure => simp [intOf]; omega
          · obtain rfl : j = l.length := by omega
            rw [List.take_length] at hrowj hci
            rw [List.drop_length, List.append_nil] at hrowj
            have hfr := HV3.out wr hrowj
            have D5 := HD3.out.kept hkx fun i hi (e : i = g) => by have := HD.out.flt i hi; omega
            have HD5 := Lib.hid D5
            obtain ⟨es5, clk5, hup, hAt, hKp5⟩ := put_any HD5.out n (fateN K c l) _ hfr HOK.out
            have e05 := D5.cells.1
            clear D5
            have HR : Hid (∃ k' : Nat, k' = k + 1 ∧ ci ≤ k' * 65536 ∧ ci = (fateFold K (ns.take k') fs).1 ∧ (∃ Fk, DiskAt (setBlock wr mk (.map es5 clk5)) d { S.wake with files := (fateFold K (ns.take k') fs).2 } Fk ∧ ∀ i, Fk i → F i ∨ w2.heap.size ≤ i) ∧ Kp F w2 (setBlock wr mk (.map es5 clk5))) := by
              have q := uns_le l
              have q2 := HKK.out.size
              refine ⟨k + 1, rfl, le_step2 hc (Nat.le_trans q hll) hci, by rw [hstep, hgl]; exact hci, ⟨_, by rw [hstep, hgl]; exact hAt, ?_⟩, ?_⟩
              · rintro i (h | h)
                · exact HFk.out i h
                · exact .inr (by have := h.1; omega)
              · exact ((HKK.out.trans (hk3.mono fun _ h => h.elim)).trans' hkx fun i (h : i = g) => .inr (by omega)).trans' hKp5 fun i h => HFk.out i h
            clear hAt hKp5 hfr hrowj hkx
            go_wp2
            go_roundw
            case rel =>
              obtain ⟨k', rfl, r1, r2, r3, r4⟩ := HR.out
              exact ⟨k + 1, ci, by omega, by go_num, rfl, r1, r2, r3, r4⟩
            case measure => simp [intOf]; omega
    · obtain rfl : k = ns.length := by omega
      rw [List.take_length, HRS.out] at hDk
      have HFin : Hid (Does w d 0 (S.restart false K) F (.returned (.int .i64 0)) wo) := by
        have g1 : Kp F w0 wo := (hk2.mono fun _ h => h.elim).trans hKk
        have g2 : Kp F w wo := hk0.trans (hk1.trans' g1 fun i h => hF1 i h)
        refine ⟨rfl, Fk, ⟨mk, esk, clk, hvk, hDk⟩, fun i h => ?_, g2⟩
        have s1 := hk0.size
        have s2 := hk1.size
        have s3 := hk2.size
        rcases hFk i h with h | h
        · rcases hF1 i h with h | h
          · exact .inl h
          · exact .inr (Nat.le_trans s1 h)
        · exact .inr (Nat.le_trans s1 (Nat.le_trans s2 (Nat.le_trans s3 h)))
      clear hDk hFk hKk
      go_wp2
      go_ret
      exact HFin.out

set_option maxRecDepth 100000 in
set_option maxHeartbeats 8000000 in
theorem Restart_done {w : World} {d m : Nat} {es : Array MapEntry} {clock : Nat} {hv : Value} {S : St} {F : Nat → Prop} (h : DiskIs w d m es clock hv S F) (hoff : S.off = true) (K : List Bool) (kp : Option Addr) (kc : Nat)
    (_hkl : K.length ≤ kc) (_hkb : K.length ≤ 140737488351232) (hK : HoldsK w kp K) (hKo : OutK F kp) (hKw : OutK (fun k => w.heap.size ≤ k) kp) :
    Calls Tryz.prog 27 #[.pointer (some ⟨d, 0, none⟩), .agg #[.bool true, .slice kp K.length kc]] w (Does w d 0 (S.restart true K) F) := by
  obtain ⟨BX, hBX⟩ : ∃ BX, BX = Obj.cells #[.bool true, .slice kp K.length kc] 67 := ⟨_, rfl⟩
  obtain ⟨w0, hw0⟩ : ∃ w0, ((w.setCell ⟨d, 2, none⟩ (.bool false)).setCell ⟨d, 3, none⟩ (.int .i64 0)).alloc BX = w0 := ⟨_, rfl⟩
  have hW : DiskIs w0 d m es clock hv S.wake F := by rw [← hw0]; exact h.wake.kept ((Kp.refl (fun _ => False) _).alloc _) fun _ _ h => h
  have hk0 : Kp F w w0 := by rw [← hw0]; exact (((Kp.refl F w).setCell (.inl h.fd) _).setCell (.inl h.fd) _).alloc _
  have hdl : d < w.heap.size := blk_lt h.hd
  have hbx : w0.heap[w.heap.size]? = some BX := by rw [← hw0]; simpa using heap_alloc_new ((w.setCell ⟨d, 2, none⟩ (.bool false)).setCell ⟨d, 3, none⟩ (.int .i64 0)) BX
  rw [hBX] at hbx
  have b0 : w0.cell? ⟨w.heap.size, 0, none⟩ = some (.bool true) := blk_cell hbx 0
  have b1 : w0.cell? ⟨w.heap.size, 1, none⟩ = some (.slice kp K.length kc) := blk_cell hbx 1
  obtain ⟨_, _, a2, a3, _, _, az⟩ := h.cells
  rw [hoff] at a2
  have HK0 : Hid (HoldsK w0 kp K) := hK.kept hk0 hKo
  obtain ⟨hg, hhg, hokg⟩ := h.ok.hung hoff
  have hoff0 : S.wake.off = false := rfl
  have hbF : ¬ F w.heap.size := fun hf => by have := h.flt _ hf; omega
  have hFw := Lib.hid h.flt
  subst hBX
  obtain ⟨c0, _, c2, c3, _, c5, _⟩ := hW.cells
  clear h hK
  have hfat : S.fated true = hg.run S.files := by simp [St.fated, hhg]
  go_enter Tryz.func27, Tryz.ntmps27
  go_wp2_with (first
    | (refine wpList_hang rfl _ rfl hW rfl hoff0 hhg hokg ?_; rintro w1 ⟨-, F1, ⟨m1, es1, clk1, hv1, h1'⟩, hF1, hk1⟩)
    | (go_at_call 57; refine Hid.out ?_))
  have h1 : DiskIs w1 d m1 es1 clk1 hv1 { S.wake with files := S.fated true } F1 := by rw [hfat]; exact h1'
  have hoff1 : ({ S.wake with files := S.fated true } : St).off = false := rfl
  have hs0 := hk0.size
  have hs00 : w.heap.size < w0.heap.size := blk_lt hbx
  have hb1 : ¬ F1 w.heap.size := fun hf => by
    rcases hF1 _ hf with h | h
    · exact hbF h
    · omega
  have hKo1 : OutK F1 kp := fun kb ko e hf => by
    rcases hF1 _ hf with h | h
    · exact hKo kb ko e h
    · exact hKw kb ko e (show w.heap.size ≤ kb by omega)
  have bx1 := hk1.cell b1 hbF
  have HK1 : Hid (HoldsK w1 kp K) := HK0.out.kept hk1 hKo
  clear h1' hW b1 HK0

  refine Lib.hid ?_
  refine (Names_on h1 hoff1).mono ?_
  rintro e w2 ⟨v, rfl, hrow, -, hB2⟩
  obtain ⟨ns, hns⟩ : ∃ ns, namesB (S.fated true) = ns := ⟨_, rfl⟩
  obtain ⟨fs, hfs⟩ : ∃ fs, S.fated true = fs := ⟨_, rfl⟩
  have hmem : ∀ n ∈ ns, n ∈ fs.map (·.1) := by rw [← hns, ← hfs]; exact namesB_mem
  have hrow' : w2.ownsRow w1.heap.size 9 1 v ns.length (ns.map Value.string) := by
    have e1 : ns.length = (namesOf (S.fated true)).length := by rw [← hns]; simp [namesB]
    have e2 : ns.map Value.string = (namesOf (S.fated true)).map Go.Proofs.encStr := by rw [← hns, namesB, List.map_map]; rfl
    rw [e1, e2]; exact hrow
  have hN : ns.length ≤ 64 := by have := h1.ok.count; rw [← hns, namesB_length]; exact this
  obtain ⟨np, nc, rfl, hnm⟩ := names_row hrow'
  have hk2 : Kp (fun _ => False) w1 w2 := Kp.of_below _ hB2
  have h2 : DiskIs w2 d m1 es1 clk1 hv1 { S.wake with files := fs } F1 := by rw [← hfs]; exact h1.kept hk2 fun _ _ h => h
  have HM := Lib.hid hnm
  have H2 := Lib.hid h2
  have H1F := Lib.hid h1.flt
  have HK2 : Hid (HoldsK w2 kp K) := HK1.out.kept hk2 fun _ _ _ h => h
  have bx2 : w2.cell? ⟨w.heap.size, 1, none⟩ = some (.slice kp K.length kc) := hk2.cell bx1 id
  have HRS : Hid ({ S.wake with files := (fateFold K ns fs).2 } = S.restart true K) := by rw [← hns, ← hfs]; rfl
  clear hrow hrow' hnm h1 h2 HK1 bx1 hB2 hns
  go_wp2
  go_loopw [35, 5] (fun vk vc wr => ∃ k c : Nat, k ≤ ns.length ∧ vk = .int .i64 k ∧ vc = .int .i64 c ∧ c ≤ k * 65536 ∧ c = (fateFold K (ns.take k) fs).1 ∧ (∃ Fk, DiskAt wr d { S.wake with files := (fateFold K (ns.take k) fs).2 } Fk ∧ ∀ i, Fk i → F1 i ∨ w2.heap.size ≤ i) ∧ Kp F1 w2 wr) (fun i _ _ => ns.length - (intOf i).toNat)
  case atStart => exact ⟨0, 0, Nat.zero_le _, rfl, rfl, Nat.zero_le _, rfl, ⟨F1, ⟨_, _, _, _, H2.out⟩, fun _ h => .inl h⟩, Kp.refl _ _⟩
  case round =>
    obtain ⟨k, c, hk, rfl, rfl, hc, hcf, ⟨Fk, ⟨mk, esk, clk, hvk, hDk⟩, hFk⟩, hKk⟩ := hrel
    obtain ⟨wo, hwo⟩ : ∃ wo, wo = wr := ⟨_, rfl⟩
    subst hwo
    by_cases hlt : k < ns.length
    · obtain ⟨n, hn⟩ : ∃ n, ns[k] = n := ⟨_, rfl⟩
      obtain ⟨fk, hfk⟩ : ∃ fk, (fateFold K (ns.take k) fs).2 = fk := ⟨_, rfl⟩
      have hstep : fateFold K (ns.take (k + 1)) fs = (c + uns (getF fk n), put fk n (fateN K c (getF fk n))) := by rw [fateFold_step K hlt, hn]; unfold fateStep; rw [← hcf, hfk]
      rw [hfk] at hDk
      obtain ⟨nb, rfl, hnb, hnc⟩ := HM.out k n (by rw [List.getElem?_eq_getElem hlt, hn])
      have hgn : (get fk n).isSome = true := by
        rw [get_isSome, ← hfk]
        unfold fateFold
        rw [fateFold_keys K _ _ (fun x hx => hmem x (List.mem_of_mem_take hx)), ← hn]
        exact hmem _ (List.getElem_mem hlt)
      obtain ⟨l, hl⟩ := Option.isSome_iff_exists.1 hgn
      have hgl : getF fk n = l := by simp [getF, hl]
      obtain ⟨u, hlook, hu⟩ := look_some hDk hl false
      simp only [Bool.false_eq_true, if_false] at hlook
      have e0 := hDk.cells.1
      have en : wo.cell? ⟨nb, k, none⟩ = some (.string n) := hKk.cell hnc fun hf => by have := H1F.out _ hf; omega
      have hll : l.length ≤ 65536 := by
        have g1 := getF_le fk n
        have g2 := hDk.ok.used
        have g3 := hDk.ok.room
        rw [hgl] at g1
        simp only at g2 g3; omega
      have bxr : wo.cell? ⟨w.heap.size, 1, none⟩ = some (.slice kp K.length kc) := hKk.cell bx2 hb1
      have HKr : Hid (HoldsK wo kp K) := HK2.out.kept hKk hKo1
      have hcl := Clone_any hu (by omega)
      have hs0 : ∀ s ∈ l, s.bytes.length = 32 := hu.1
      have hok := put_fate_ok hDk.ok rfl hgn K c
      rw [show ({ S.wake with files := fk } : St).files = fk from rfl, hgl] at hok
      have HOK := Lib.hid hok
      have HD := Lib.hid hDk
      have HS0 := Lib.hid hs0
      have HKK := Lib.hid hKk
      have HFk := Lib.hid hFk
      have hwr : w.heap.size ≤ wo.heap.size := by have := hKk.size; have := hk2.size; have := hk1.size; have := hk0.size; omega
      clear hDk hu hs0 hok hnc hl hgn hFk hKk hfk hcf
      go_wp2_with (go_at_call 58; refine Hid.out ?_)
      refine Lib.hid ?_
      refine hcl.mono ?_
      rintro e w3 ⟨v', rfl, hf3, hk3⟩
      have D3 := HD.out.kept hk3 fun _ _ h => h
      have e03 := D3.cells.1
      have HD3 := Lib.hid D3
      obtain ⟨p3, c3, hv3, hV3⟩ : ∃ p3 c3, v' = .slice p3 l.length c3 ∧ FileRep w3 (fun k => wo.heap.size ≤ k) (.slice p3 l.length c3) l := by
        obtain ⟨q1, p3, c3, hv3, q2⟩ := hf3
        subst hv3
        exact ⟨p3, c3, rfl, q1, p3, c3, rfl, q2⟩
      rw [hv3]
      clear hv3 hcl hlook D3 hf3
      by_cases hne : l = []
      · subst hne
        clear hll
        obtain ⟨es5, clk5, hup, hAt, hKp5⟩ := put_any (G := fun _ => False) HD3.out n (fateN K c []) (.slice p3 0 c3) (by obtain ⟨q1, q2, q3, q4, q5, q6, _⟩ := hV3; exact ⟨q1, q2, q3, q4, q5, q6, fun h => absurd rfl h⟩) HOK.out
        simp only [List.length_nil]
        have HR : Hid (∃ k' c' : Nat, k' = k + 1 ∧ c' = c ∧ c' ≤ k' * 65536 ∧ c' = (fateFold K (ns.take k') fs).1 ∧ (∃ Fk, DiskAt (setBlock w3 mk (.map es5 clk5)) d { S.wake with files := (fateFold K (ns.take k') fs).2 } Fk ∧ ∀ i, Fk i → F1 i ∨ w2.heap.size ≤ i) ∧ Kp F1 w2 (setBlock w3 mk (.map es5 clk5))) := by
          refine ⟨k + 1, c, rfl, rfl, le_step hc, by rw [hstep, hgl]; rfl, ⟨_, by rw [hstep, hgl]; exact hAt, ?_⟩, ?_⟩
          · rintro i (h | h)
            · exact HFk.out i h
            · exact h.1.elim
          · exact (HKK.out.trans (hk3.mono fun _ h => h.elim)).trans' hKp5 fun i h => HFk.out i h
        clear hAt hKp5 hV3
        go_wp2
        go_loopw [48, 5] (fun i cc wr => i = .int .i64 0 ∧ cc = .int .i64 c ∧ wr = w3) (fun _ _ _ => 0)
        case atStart => exact ⟨rfl, rfl, rfl⟩
        case round =>
          obtain ⟨rfl, rfl, rfl⟩ := hrel
          go_wp2
          go_roundw
          case rel =>
            obtain ⟨k', c', rfl, rfl, r1, r2, r3, r4⟩ := HR.out
            exact ⟨k + 1, c', by omega, by go_num, rfl, r1, r2, r3, r4⟩
          case measure => simp [intOf]; omega
      · obtain ⟨g, rfl, hgw, hrow3⟩ : ∃ g, p3 = some ⟨g, 0, none⟩ ∧ wo.heap.size ≤ g ∧ RowIs w3 g l := by
          obtain ⟨_, p', c', q1, _, _, q2⟩ := hV3
          obtain ⟨g, cs, q3, q4, q5, q6⟩ := q2 hne
          injection q1 with q1 _ _
          exact ⟨g, q1.trans q3, q4, cs, q5, q6⟩
        have hpos : 0 < l.length := List.length_pos_iff.2 hne
        have HV3 : Hid (∀ wr, RowIs wr g (fateN K c l) → FileRep wr (fun i => i = g) (.slice (some ⟨g, 0, none⟩) l.length c3) (fateN K c l)) := by
          rintro wr ⟨cur, r1, r2⟩
          obtain ⟨_, p', c', q1, q2, q3, _⟩ := hV3
          injection q1 with _ _ q1
          subst q1
          rw [fateN_length] at r2
          exact ⟨fateN_len HS0.out c, _, c3, by rw [fateN_length], by rw [fateN_length]; exact q2, q3, fun _ => ⟨g, cur, rfl, rfl, r1, by rw [fateN_length]; exact r2⟩⟩
        clear hV3
        go_wp2
        go_loopw [48, 5] (fun vj vi wr => ∃ j ci : Nat, j ≤ l.length ∧ vj = .int .i64 j ∧ vi = .int .i64 ci ∧ ci = c + uns (l.take j) ∧ RowIs wr g (fateN K c (l.take j) ++ l.drop j) ∧ Kp (fun i => i = g) w3 wr) (fun i _ _ => l.length - (intOf i).toNat)
        case atStart => exact ⟨0, c, Nat.zero_le _, rfl, rfl, rfl, by simpa [fateN] using hrow3, Kp.refl _ _⟩
        case round =>
          obtain ⟨j, ci, hj, rfl, rfl, hci, hrowj, hkx⟩ := hrel
          have HKX := Lib.hid hkx
          by_cases hjl : j < l.length
          · obtain ⟨s, hs⟩ : ∃ s, l[j] = s := ⟨_, rfl⟩
            have hdrop : l.drop j = s :: l.drop (j + 1) := by rw [List.drop_eq_getElem_cons hjl, hs]
            rw [hdrop] at hrowj
            have hA : ∀ x ∈ fateN K c (l.take j), x.bytes.length = 32 := fateN_len (fun x hx => HS0.out x (List.mem_of_mem_take hx)) c
            have hBd : ∀ x ∈ l.drop (j + 1), x.bytes.length = 32 := fun x hx => HS0.out x (List.mem_of_mem_drop hx)
            have hs32 : s.bytes.length = 32 := by rw [← hs]; exact HS0.out _ (List.getElem_mem hjl)
            have hAl : (fateN K c (l.take j)).length = j := by rw [fateN_length, List.length_take]; omega
            have hnext : fateN K c (l.take (j + 1)) ++ l.drop (j + 1) = fateN K c (l.take j) ++ fateSec K ci s :: l.drop (j + 1) := by rw [fateN_step K hjl, hs, ← hci]; simp
            have hcn : c + uns (l.take (j + 1)) = ci + if s.synced = true then 0 else 1 := by rw [uns_step hjl, hs, hci]; omega
            have hcib : ci ≤ 5000000 := by
              have q := uns_le (l.take j)
              rw [List.length_take] at q
              omega
            have hcell := hrowj.cell hA hs32 hAl
            have hfree := hrowj.free
            have hbx' : wr.cell? ⟨w.heap.size, 1, none⟩ = some (.slice kp K.length kc) := hkx.cell (hk3.cell bxr id) (fun (e : w.heap.size = g) => by have : w.heap.size < wo.heap.size := block_lt_of_cell bxr; omega)
            have HKx : Hid (HoldsK wr kp K) := (HKr.out.kept hk3 fun _ _ _ h => h).kept hkx fun kb ko e (e2 : kb = g) => hKw kb ko e (show w.heap.size ≤ kb by omega)
            clear hs hdrop hkx hci
            cases hsy : s.synced with
            | true =>
              rw [hsy] at hcell
              have HN : Hid (RowIs (wr.setCell ⟨g, j * 33 + 32, none⟩ (.bool true)) g (fateN K c (l.take (j + 1)) ++ l.drop (j + 1))) := by rw [hnext, show fateSec K ci s = setSync s from if_pos (.inl hsy)]; exact hrowj.sync hA hs32 hAl
              have HKP : Hid (Kp (fun i => i = g) w3 (wr.setCell ⟨g, j * 33 + 32, none⟩ (.bool true))) := HKX.out.setCell (.inl rfl) _
              go_wp2
              go_roundw
              case rel => exact ⟨j + 1, ci, by omega, by go_num, by go_num, by rw [hcn, hsy]; rfl, HN.out, HKP.out⟩
              case measure => simp [intOf]; omega
            | false =>
              rw [hsy] at hcell
              by_cases hcK : ci < K.length
              · obtain ⟨b, hb⟩ : ∃ b, K[ci]? = some b := ⟨_, List.getElem?_eq_getElem hcK⟩
                obtain ⟨kb, ko, rfl, hkc⟩ := HKx.out ci b hb
                have hgd : K.getD ci false = b := by rw [List.getD_eq_getElem?_getD, hb]; rfl
                cases b with
                | true =>
                  have HN : Hid (RowIs (wr.setCell ⟨g, j * 33 + 32, none⟩ (.bool true)) g (fateN K c (l.take (j + 1)) ++ l.drop (j + 1))) := by rw [hnext, show fateSec K ci s = setSync s from if_pos (.inr hgd)]; exact hrowj.sync hA hs32 hAl
                  have HKP : Hid (Kp (fun i => i = g) w3 (wr.setCell ⟨g, j * 33 + 32, none⟩ (.bool true))) := HKX.out.setCell (.inl rfl) _
                  go_wp2
                  go_roundw
                  case rel => exact ⟨j + 1, ci + 1, by omega, by go_num, by go_num, by rw [hcn, hsy]; rfl, HN.out, HKP.out⟩
                  case measure => simp [intOf]; omega
                | false =>
                  have hnt : fateSec K ci s = setSync zeroSec := if_neg (by rw [hsy, hgd]; simp)
                  go_wp2_with (refine wpList_zero_sec rfl _ _ rfl (k := j) rfl rfl hrowj hA hs32 hBd hAl ?_; rintro wz hz hkz; have hcz := hz.cell hA rfl hAl; have hfz := hz.free; have HZ := Lib.hid hz; have HKZ := Lib.hid hkz; clear hz hkz)
                  have HN : Hid (RowIs (wz.setCell ⟨g, j * 33 + 32, none⟩ (.bool true)) g (fateN K c (l.take (j + 1)) ++ l.drop (j + 1))) := by rw [hnext, hnt]; exact HZ.out.sync hA rfl hAl
                  have HKP : Hid (Kp (fun i => i = g) w3 (wz.setCell ⟨g, j * 33 + 32, none⟩ (.bool true))) := (HKX.out.trans HKZ.out).setCell (.inl rfl) _
                  go_roundw
                  case rel => exact ⟨j + 1, ci + 1, by omega, by go_num, by go_num, by rw [hcn, hsy]; rfl, HN.out, HKP.out⟩
                  case measure => simp [intOf]; omega
              · have hgd : K.getD ci false = false := by rw [List.getD_eq_getElem?_getD, List.getElem?_eq_none (by omega)]; rfl
                have hnt : fateSec K ci s = setSync zeroSec := if_neg (by rw [hsy, hgd]; simp)
                go_wp2_with (refine wpList_zero_sec rfl _ _ rfl (k := j) rfl rfl hrowj hA hs32 hBd hAl ?_; rintro wz hz hkz; have hcz := hz.cell hA rfl hAl; have hfz := hz.free; have HZ := Lib.hid hz; have HKZ := Lib.hid hkz; clear hz hkz)
                have HN : Hid (RowIs (wz.setCell ⟨g, j * 33 + 32, none⟩ (.bool true)) g (fateN K c (l.take (j + 1)) ++ l.drop (j + 1))) := by rw [hnext, hnt]; exact HZ.out.sync hA rfl hAl
                have HKP : Hid (Kp (fun i => i = g) w3 (wz.setCell ⟨g, j * 33 + 32, none⟩ (.bool true))) := (HKX.out.trans HKZ.out).setCell (.inl rfl) _
                go_roundw
                case rel => exact ⟨j + 1, ci + 1, by omega, by go_num, by go_num, by rw [hcn, hsy]; rfl, HN.out, HKP.out⟩
                case measure => simp [intOf]; omega
          · obtain rfl : j = l.length := by omega
            rw [List.take_length] at hrowj hci
            rw [List.drop_length, List.append_nil] at hrowj
            have hfr := HV3.out wr hrowj
            have D5 := HD3.out.kept hkx fun i hi (e : i = g) => by have := HD.out.flt i hi; omega
            have HD5 := Lib.hid D5
            obtain ⟨es5, clk5, hup, hAt, hKp5⟩ := put_any HD5.out n (fateN K c l) _ hfr HOK.out
            have e05 := D5.cells.1
            clear D5
            have HR : Hid (∃ k' : Nat, k' = k + 1 ∧ ci ≤ k' * 65536 ∧ ci = (fateFold K (ns.take k') fs).1 ∧ (∃ Fk, DiskAt (setBlock wr mk (.map es5 clk5)) d { S.wake with files := (fateFold K (ns.take k') fs).2 } Fk ∧ ∀ i, Fk i → F1 i ∨ w2.heap.size ≤ i) ∧ Kp F1 w2 (setBlock wr mk (.map es5 clk5))) := by
              have q := uns_le l
              have q2 := HKK.out.size
              refine ⟨k + 1, rfl, le_step2 hc (Nat.le_trans q hll) hci, by rw [hstep, hgl]; exact hci, ⟨_, by rw [hstep, hgl]; exact hAt, ?_⟩, ?_⟩
              · rintro i (h | h)
                · exact HFk.out i h
                · exact .inr (by have := h.1; omega)
              · exact ((HKK.out.trans (hk3.mono fun _ h => h.elim)).trans' hkx fun i (h : i = g) => .inr (by omega)).trans' hKp5 fun i h => HFk.out i h
            clear hAt hKp5 hfr hrowj hkx
            go_wp2
            go_roundw
            case rel =>
              obtain ⟨k', rfl, r1, r2, r3, r4⟩ := HR.out
              exact ⟨k + 1, ci, by omega, by go_num, rfl, r1, r2, r3, r4⟩
            case measure => simp [intOf]; omega
    · obtain rfl : k = ns.length := by omega
      rw [List.take_length, HRS.out] at hDk
      have HFin : Hid (Does w d 0 (S.restart true K) F (.returned (.int .i64 0)) wo) := by
        have g1 : Kp F1 w1 wo := (hk2.mono fun _ h => h.elim).trans hKk
        have g2 : Kp F w wo := hk0.trans (hk1.trans' g1 fun i h => hF1 i h)
        refine ⟨rfl, Fk, ⟨mk, esk, clk, hvk, hDk⟩, fun i h => ?_, g2⟩
        have s1 := hk0.size
        have s2 := hk1.size
        have s3 := hk2.size
        rcases hFk i h with h | h
        · rcases hF1 i h with h | h
          · exact .inl h
          · exact .inr (Nat.le_trans s1 h)
        · exact .inr (Nat.le_trans s1 (Nat.le_trans s2 (Nat.le_trans s3 h)))
      clear hDk hFk hKk
      go_wp2
      go_ret
      exact HFin.out
end Go.Proofs.YtggnohbfdlebiaaGreatDoor

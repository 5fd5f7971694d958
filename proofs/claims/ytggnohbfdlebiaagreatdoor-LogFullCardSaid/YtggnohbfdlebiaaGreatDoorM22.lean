/-
  Merged of my texts, in order: LOpen, LogUse, Awake10, LNil.
-/
import Derived.Test.YtggnohbfdlebiaaGreatDoorM14
import Derived.Test.YtggnohbfdlebiaaGreatDoorM20
import Derived.Test.YtggnohbfdlebiaaGreatDoorM21
import Derived.Deep.DeepCutAuto
import Derived.Lib.ConvBytes
/-
  log.Open: what it answers and leaves, over a disk that a log laid.
-/
namespace Go.Proofs.YtggnohbfdlebiaaGreatDoor
open Go.RowKit Go.Shelf Go.ChangeMaps Go.ChangeShapes

/-- Opened: the error, the files. -/
def St.lopE (S : St) (nm : Nm) (T : List Int) : Int := if T = [] then 0 else S.opE (S.check nm true)
def St.lopS (S : St) (nm : Nm) (T : List Int) (k : Nat) : St := if T = [] then S else S.opS (S.check nm true) (Hg.trunc nm (k : Int))
def LOpened (w0 w w' : World) (e : Ending) (d per f : Nat) (rs : List (List Int)) (E : Int) (S : St) (F : Nat → Prop) : Prop :=
  ∃ F', (∀ k, F' k → F k ∨ w.heap.size ≤ k) ∧ Kp F w w' ∧
    ((E ≠ 0 ∧ e = .returned (.tuple #[.pointer none, .slice none 0 0, .int .i64 E]) ∧ Dsk w0 w' d S F') ∨
     (E = 0 ∧ ∃ p v, e = .returned (.tuple #[.pointer (some ⟨p, 0, none⟩), v, .int .i64 0]) ∧ Lg w0 w' p d (per : Int) ((f * per + 1 : Nat) : Int) ((rs.length + 1 : Nat) : Int) (linkAt rs rs.length) false S F' ∧ PayAt w' (fun k => k < w.heap.size ∨ F' k ∨ k = p) v (rs.drop (f * per)) ∧ w.heap.size ≤ p))
/-- The first segment that there is. -/
theorem Lays.segs {fs : Files} {per f : Nat} {rs : List (List Int)} {T : List Int} (h : Lays fs per f rs T) :
    (sortI (segsOf fs) = [] ∧ rs = [] ∧ f = 0 ∧ T = []) ∨ ∃ ms, sortI (segsOf fs) = f :: ms ∧ ∀ m ∈ sortI (segsOf fs), m ≤ rs.length / per := by
  obtain ⟨h1, h2, h3⟩ := h.parts
  have hfq := h.f_le
  have hall : ∀ m ∈ sortI (segsOf fs), m ≤ rs.length / per := fun m hm => by
    obtain ⟨a1, a2⟩ := (segs_mem h.tidyS m).1 (sortI_mem.1 hm)
    exact (h.only m a1 a2).2
  have hthere : f * per < rs.length → f ∈ segsOf fs := fun hf => by
    refine (segs_mem h.tidyS f).2 ⟨by omega, ?_⟩
    by_cases hq : f = rs.length / per
    · rcases h.last with ⟨a1, a2, _⟩ | ⟨a1, _⟩
      · rw [← hq] at h1; omega
      · rw [hq]; exact a1
    · have := Nat.mul_le_mul_right per (show f + 1 ≤ rs.length / per by omega)
      exact (h.whole f (Nat.le_refl _) (by omega)).1
  cases e : sortI (segsOf fs) with
  | nil =>
    refine .inl ⟨rfl, ?_⟩
    have hn := sortI_nil e
    rcases h.first with h' | h'
    · have := hthere h'; rw [hn] at this; cases this
    · subst h'
      have h0 : rs.length = 0 := by
        by_cases h0 : 0 < rs.length
        · have := hthere (by omega); rw [hn] at this; cases this
        · omega
      refine ⟨List.eq_nil_of_length_eq_zero h0, rfl, ?_⟩
      rcases h.last with ⟨_, _, a3⟩ | ⟨a1, _⟩
      · exact a3
      · have := (segs_mem h.tidyS (rs.length / per)).2 ⟨by omega, a1⟩
        rw [hn] at this; cases this
  | cons a ms =>
    refine .inr ⟨ms, ?_, by rw [← e]; exact hall⟩
    obtain ⟨b1, b2⟩ := sortI_head e
    obtain ⟨c1, c2⟩ := (segs_mem h.tidyS a).1 b1
    have hfa := (h.only a c1 c2).1
    rcases h.first with h' | h'
    · have := b2 f (hthere h')
      rw [show a = f by omega]
    · subst h'
      by_cases h0 : 0 < rs.length
      · have := b2 0 (hthere (by omega))
        rw [show a = 0 by omega]
      · have hr : rs = [] := List.eq_nil_of_length_eq_zero (by omega)
        have := (h.only a c1 c2).2
        rw [hr] at this
        simp at this
        rw [this]

/-- What has been read. -/
theorem LRd.lg {w0 w w' : World} {p d per f : Nat} {S : St} {F : Nat → Prop} {rs : List (List Int)} {T : List Int} {v : Value} {kb : Bool} {link : List Int} (h : Lg w0 w p d (per : Int) 1 1 (List.replicate 32 0) false S F) (hL : Lays S.files per f rs T)
    (hr : LRd w w' p d per f rs (fun i => F i ∨ i = p) v kb rs.length link) :
    Lg w0 w' p d (per : Int) ((f * per + 1 : Nat) : Int) ((rs.length + 1 : Nat) : Int) (linkAt rs rs.length) false S F ∧ RowP w' w.heap.size (fun i => F i ∨ i = p) v (rs.drop (f * per)) ∧ Kp (fun i => i = p) w w' := by
  have hkb : kb = true := hr.kbOk.2 (by
    rcases hL.first with h1 | h1
    · exact .inr h1
    · exact .inl h1)
  have hlog := hr.log
  rw [hr.linkOk hkb] at hlog
  refine ⟨⟨h.dsk.beside hr.kp (fun i hi hF => h.out (hi ▸ hF)) (fun i hi => hi ▸ h.new), hlog, h.out, h.new⟩, ?_, hr.kp⟩
  have := hr.row
  rwa [List.take_length] at this

set_option maxRecDepth 100000 in
set_option maxHeartbeats 8000000 in
theorem LOpen_any {w0 w : World} {d per f : Nat} {S : St} {F : Nat → Prop} {rs : List (List Int)} {T : List Int} (h : Dsk w0 w d S F) (hoff : S.off = false) (hL : Lays S.files per f rs T) :
    Calls Tryz.prog 11 #[.pointer (some ⟨d, 0, none⟩), .int .i64 (per : Int)] w fun e w' =>
      LOpened w0 w w' e d per f rs (S.lopE (lnm (rs.length / per)) T) (S.lopS (lnm (rs.length / per)) T ((segB rs (rs.length / per * per) (rs.length % per)).length / 32)) F := by
  obtain ⟨hq1, hq2, hq3⟩ := hL.parts
  have hper := hL.perOk
  have hcnt := hL.count
  have hgl := hL.getF_last
  have hlast := hL.last
  have hmod := segB_mod rs (rs.length / per * per) (m := rs.length % per) (by omega)
  obtain ⟨A, hA⟩ : ∃ A, (segB rs (rs.length / per * per) (rs.length % per)).length = A := ⟨_, rfl⟩
  obtain ⟨nm, hnm⟩ : ∃ nm, lnm (rs.length / per) = nm := ⟨_, rfl⟩
  have hnz : nm.size ≤ maxLen := by rw [← hnm, lnm_size]; decide
  have hnb : nameB nm = true := by rw [← hnm]; exact nameB_lnm _
  obtain ⟨kk, hkk⟩ := hmod
  rw [hA] at hkk
  have hk32 : A / 32 = kk := by omega
  have hlen : A + T.length = 32 * (getF S.files nm).length := by
    have ok := h.ok
    have e := congrArg List.length hgl
    rw [hnm, List.length_append, hA, bytesOf_length (fun s hs => by obtain ⟨x, hx, h1⟩ := getF_mem s hs; exact ok.secs x hx s h1)] at e
    exact e.symm
  have hzb : (getF S.files nm).length ≤ 65536 := by
    have ok := h.ok
    have e1 := getF_le S.files nm
    have e2 := ok.used
    have e3 := ok.room
    omega
  rw [hnm] at hlast
  rw [hnm, hA, hk32]
  obtain ⟨EE, hEE⟩ : ∃ EE, S.lopE nm T = EE := ⟨_, rfl⟩
  obtain ⟨SS, hSS⟩ : ∃ SS, S.lopS nm T kk = SS := ⟨_, rfl⟩
  rw [hEE, hSS]
  obtain ⟨q, hq⟩ : ∃ q, rs.length / per = q := ⟨_, rfl⟩
  obtain ⟨z, hz⟩ : ∃ z, (getF S.files nm).length = z := ⟨_, rfl⟩
  rw [hz] at hlen hzb
  rw [hq] at hq3
  obtain ⟨pz, hpz⟩ : ∃ pz : Int, (per : Int) = pz := ⟨_, rfl⟩
  have hpz1 : ¬ pz < 1 := by omega
  have hpz2 : ¬ 1000 < pz := by omega
  have hon := h.on
  rw [hoff] at hon
  have hsg := hL.segs
  have HL := Lib.hid hL
  have HS := Lib.hid (And.intro h (And.intro hoff (And.intro hq (And.intro hnm (And.intro hA (And.intro hpz hkk))))))
  have HE := Lib.hid (And.intro hEE (And.intro hSS (And.intro hlast hlen)))
  clear h hoff hnm hL hgl hq hA hEE hSS hlast hlen
  rw [hpz]
  clear hpz hkk hq1 hq2
  go_enter Tryz.func11, Tryz.ntmps11
  go_wp2_with (first
    | (go_at_call 25; refine hon.mono ?_; rintro e w' ⟨rfl, rfl⟩)
    | (go_at_call 29; refine Hid.out ?_))
  refine Lib.hid ?_
  obtain ⟨w1, hw1⟩ : ∃ w1, w.alloc (.cells (logCells d pz 1 1 (List.replicate 32 0) false).toArray 76 (0, 0)) = w1 := ⟨_, rfl⟩
  change Calls _ _ _ (w.alloc (.cells (logCells d pz 1 1 (List.replicate 32 0) false).toArray 76 (0, 0))) _
  rw [hw1]
  have hk1 : Kp (fun _ => False) w w1 := by rw [← hw1]; exact (Kp.refl _ w).alloc _
  have hs1 : w1.heap.size = w.heap.size + 1 := by rw [← hw1]; simp
  have hlog1 : LogAt w1 w.heap.size d (per : Int) 1 1 (List.replicate 32 0) false := ⟨by rw [← hw1, HS.out.2.2.2.2.2.1]; exact heap_alloc_new w _, by simp⟩
  have hpf : ¬ F w.heap.size := fun hf => by have := HS.out.1.flt _ hf; omega
  have hg1 : Lg w0 w1 w.heap.size d (per : Int) 1 1 (List.replicate 32 0) false S F := ⟨HS.out.1.step hk1, hlog1, hpf, HS.out.1.kp.size⟩
  obtain ⟨p, hp⟩ : ∃ p, w.heap.size = p := ⟨_, rfl⟩
  rw [hp] at hs1 hg1 ⊢
  clear hlog1 hpf hw1 hon
  refine (segments_any hg1.dsk HS.out.2.1 HL.out.tidyS).mono ?_
  rintro e w2 ⟨v2, rfl, hrow, hk2, hown⟩
  have hg2 := hg1.step hk2
  have H2 := Lib.hid (And.intro hg2 (And.intro (hk1.trans hk2) (And.intro hp (And.intro hs1 hown))))
  clear hg2 hg1 hk1 hk2 hp hown hs1
  rcases hsg with ⟨hnil, hrs, hf0, hT⟩ | ⟨ms, hms, hall⟩
  · rw [hnil] at hrow
    obtain ⟨p2, c2, rfl, -⟩ := hrow
    obtain rfl : EE = 0 := HE.out.1.symm.trans (if_pos hT)
    have hSS : SS = S := HE.out.2.1.symm.trans (if_pos hT)
    subst SS
    go_wp2
    go_ret3
    refine ⟨F, fun k hk => .inl hk, H2.out.2.1.mono fun _ h => h.elim, .inr ⟨rfl, p, .slice none 0 0, rfl, ?_, ?_, Nat.le_of_eq H2.out.2.2.1⟩⟩
    · subst hrs; subst hf0
      rw [Nat.zero_mul]
      exact H2.out.1
    · subst hrs
      rw [List.drop_nil]
      exact ⟨none, 0, rfl, Nat.le_refl _, fun j q hj => by simp at hj⟩
  · rw [hms] at hrow hall
    obtain ⟨p2, c2, rfl, hcells⟩ := hrow
    obtain ⟨b, rfl, hc0⟩ := hcells 0 f rfl
    have hbn : p < b := by have h1 := H2.out.2.2.2.2 b rfl; have h2 := H2.out.2.2.2.1; omega
    have hLl : (f :: ms).length ≤ 64 := by
      have e := congrArg List.length hms
      rw [sortI_length] at e
      rw [← e]
      refine Nat.le_trans (List.length_filterMap_le _ _) ?_
      rw [namesB_length]; exact HS.out.1.ok.count
    obtain ⟨l1, hl1⟩ : ∃ l1, (f :: ms).length = l1 + 1 := ⟨ms.length, rfl⟩
    obtain ⟨x, hx⟩ : ∃ x, (f :: ms)[l1]? = some x := ⟨_, List.getElem?_eq_getElem (by omega)⟩
    have hxq := hall x (List.mem_of_getElem? hx)
    rw [HS.out.2.2.1] at hxq
    obtain ⟨b', hb', hcL⟩ := hcells l1 x hx
    injection hb' with hb'
    injection hb' with hb' _ _
    subst hb'
    rw [hl1] at hLl ⊢
    clear hcells hms hall hl1 hx
    go_wp2_with (first
      | (go_at_call 30; refine Hid.out ?_))
    refine Lib.hid ?_
    have hrd := lread_new H2.out.1 HS.out.2.1 HL.out
    rw [HS.out.2.2.2.2.1, HS.out.2.2.1] at hrd
    refine hrd.mono ?_
    clear hrd hc0
    rintro e w3 ⟨v3, kb, link, rfl, hr3⟩
    have hdsk2 := H2.out.1
    obtain ⟨hg3, hrow3, hk3⟩ := (hr3.mono (G' := fun i => F i ∨ i = p) fun i hi => by
      rcases hi with hi | rfl
      · exact hdsk2.dsk.flt i hi
      · exact hdsk2.log.lt).lg hdsk2 HL.out
    have hrown := hr3.row
    rw [List.take_length] at hrown
    have hc3 := hk3.cell hcL (by omega)
    have hF3 : ∀ k, F k → k < w.heap.size := fun k hk => HS.out.1.flt k hk
    have hvp : ∀ k, v3.ownBlock = some k → w2.heap.size ≤ k := fun k hk => (hrow3.lt k hk).1
    have hkw3 : Kp (fun k => k = p) w w3 := (H2.out.2.1.mono fun _ h => h.elim).trans hk3
    have hpw2 : p < w2.heap.size := H2.out.1.log.lt
    have hpay3 : PayAt w3 (fun k => k < w.heap.size ∨ F k ∨ k = p) v3 (rs.drop (f * per)) := (hrown.mono (F' := fun k => k < w.heap.size ∨ F k ∨ k = p) fun k hk => by
      have h2 := H2.out.2.1.size
      rcases hk with hk | hk | rfl
      · show k < w2.heap.size; omega
      · exact hdsk2.dsk.flt k hk
      · exact hdsk2.log.lt).pay fun k hk hf => by
      have h1 := hvp k hk
      have h2 := H2.out.2.1.size
      rcases hf with hf | hf | rfl
      · omega
      · have := hF3 k hf; omega
      · omega
    have hbF : ¬ F b := fun hf => by have h1 := hF3 b hf; have h2 := H2.out.2.2.1; omega
    have H4 := Lib.hid (And.intro hg3 (And.intro hpay3 (And.intro hkw3 (And.intro hF3 (And.intro hbF hpw2)))))
    clear hr3 hg3 hrow3 hrown hk3 hcL hF3 hvp hkw3 hpay3 hdsk2 hbF hpw2
    have hnmq : lnm q = nm := by rw [← HS.out.2.2.1]; exact HS.out.2.2.2.1
    have hwz : IntKind.i64.wrap ((z : Int) * 32) = (z : Int) * 32 := IntWalk.i64_in _ (by omega)
    have hkw : Kp (fun k => F k) w w3 := (H4.out.2.2.1.mono' fun k hk => .inr (by rw [hk, H2.out.2.2.1]; exact Nat.le_refl _))
    have HKW := Lib.hid hkw
    have H5 := Lib.hid (Kp.refl (fun _ => False) w3)
    clear hkw
    rcases HE.out.2.2.1 with ⟨hno, hm0, hT⟩ | ⟨hso, hby⟩
    · obtain rfl : EE = 0 := HE.out.1.symm.trans (if_pos hT)
      have hSS : SS = S := HE.out.2.1.symm.trans (if_pos hT)
      subst SS
      have hchk : S.check nm true = 7 := gone_on hnb hno
      have hsz : S.sizeOf nm = 0 := by unfold St.sizeOf; rw [if_neg (by rw [hchk]; decide)]
      clear hno hm0 hT
      go_wp2_with (first
        | (go_at_call 31; refine (lname_any _ q (by omega)).mono ?_; rintro e w4 ⟨rfl, hk4⟩; rw [hnmq]; have H5 := Lib.hid (H5.out.trans hk4); clear hk4; have hc4 := H5.out.cell hc3 id)
        | (go_at_call 15; refine ((H4.out.1.dsk.step H5.out).size nm hnz).mono ?_; rintro e w' ⟨rfl, rfl⟩; rw [hsz, hchk]))
      go_loopw [15] (fun vi wx => vi = .int .i64 (l1 : Int) ∧ wx = w4) (fun _ _ => 0)
      case atStart => exact ⟨by go_num, rfl⟩
      case round =>
        obtain ⟨rfl, hwx⟩ := hrel
        subst wr
        go_wp2
        go_ret3
        refine ⟨F, fun k hk => .inl hk, HKW.out.trans (H5.out.mono fun _ h => h.elim), .inr ⟨rfl, p, v3, rfl, H4.out.1.step H5.out, H4.out.2.1.kept (H5.out.mono fun _ h => h.elim) (F' := fun k => k < w.heap.size ∨ F k ∨ k = p) fun _ h => .inl h, Nat.le_of_eq H2.out.2.2.1⟩⟩
    · have hchk : S.check nm true = 0 := there_on HS.out.2.1 hnb hso
      have hsz : S.sizeOf nm = (z : Int) := by unfold St.sizeOf; rw [if_pos hchk, hz]
      clear hby
      by_cases hT : T = []
      · obtain rfl : EE = 0 := HE.out.1.symm.trans (if_pos hT)
        have hSS : SS = S := HE.out.2.1.symm.trans (if_pos hT)
        subst SS
        have hlz : A = 32 * z := by have := HE.out.2.2.2; rw [hT] at this; simpa using this
        have hng : decide ((z : Int) * 32 > (A : Int)) = false := decide_eq_false (by omega)
        clear hT hlz
        go_wp2_with (first
          | (go_at_call 31; refine (lname_any _ q (by omega)).mono ?_; rintro e w4 ⟨rfl, hk4⟩; rw [hnmq]; have H5 := Lib.hid (H5.out.trans hk4); clear hk4; have hc4 := H5.out.cell hc3 id)
          | (go_at_call 15; refine ((H4.out.1.dsk.step H5.out).size nm hnz).mono ?_; rintro e w' ⟨rfl, rfl⟩; rw [hsz, hchk]))
        go_loopw [15] (fun vi wx => vi = .int .i64 (l1 : Int) ∧ wx = w4) (fun _ _ => 0)
        case atStart => exact ⟨by go_num, rfl⟩
        case round =>
          obtain ⟨rfl, hwx⟩ := hrel
          subst wr
          go_wp2
          go_ret3
          refine ⟨F, fun k hk => .inl hk, HKW.out.trans (H5.out.mono fun _ h => h.elim), .inr ⟨rfl, p, v3, rfl, H4.out.1.step H5.out, H4.out.2.1.kept (H5.out.mono fun _ h => h.elim) (F' := fun k => k < w.heap.size ∨ F k ∨ k = p) fun _ h => .inl h, Nat.le_of_eq H2.out.2.2.1⟩⟩
      · have hEE : EE = S.opE (S.check nm true) := HE.out.1.symm.trans (if_neg hT)
        have hSS : SS = S.opS (S.check nm true) (Hg.trunc nm (kk : Int)) := HE.out.2.1.symm.trans (if_neg hT)
        have hTl : 1 ≤ T.length := by cases T with | nil => exact absurd rfl hT | cons x T => simp
        have hgt : decide ((z : Int) * 32 > (A : Int)) = true := decide_eq_true (by have := HE.out.2.2.2; omega)
        have hE1 : S.truncE nm (kk : Int) = EE := by unfold St.truncE; rw [if_neg (by omega), ← hEE]
        have hS1 : S.truncS nm (kk : Int) = SS := by unfold St.truncS; rw [if_neg (by omega), ← hSS]
        have hq32 : Int.tdiv (A : Int) 32 = (kk : Int) := by rw [Int.tdiv_eq_ediv_of_nonneg (by omega)]; omega
        have hAn : A ≤ 3000000 := by have := HE.out.2.2.2; omega
        have hwkk : IntKind.i64.wrap (kk : Int) = (kk : Int) := IntWalk.i64_in _ (by omega)
        have HT := Lib.hid (And.intro hE1 hS1)
        clear hT hTl hE1 hS1 hEE hSS
        go_wp2_with (first
          | (go_at_call 31; refine (lname_any _ q (by omega)).mono ?_; rintro e w4 ⟨rfl, hk4⟩; rw [hnmq]; have H5 := Lib.hid (H5.out.trans hk4); clear hk4; have hc4 := H5.out.cell hc3 id)
          | (go_at_call 15; refine ((H4.out.1.dsk.step H5.out).size nm hnz).mono ?_; rintro e w' ⟨rfl, rfl⟩; rw [hsz, hchk])
          | (go_at_call 32; refine Hid.out ?_))
        refine Lib.hid ?_
        have htr := (H4.out.1.step H5.out).dsk.truncate nm hnz (kk : Int) (by omega)
        rw [HT.out.1, HT.out.2] at htr
        refine htr.mono ?_
        clear htr
        rintro e w6 ⟨rfl, F6, h6, hF6, hk6⟩
        have hc6 := hk6.cell hc4 H4.out.2.2.2.2.1
        have hg6 := (H4.out.1.step H5.out).goes h6 hF6 hk6
        have hp6 := (H4.out.2.1.kept (H5.out.mono fun _ h => h.elim) (F' := fun k => k < w.heap.size ∨ F k ∨ k = p) fun _ h => .inl h).kept (hk6.mono fun k h => .inr (.inl h)) (F' := fun k => k < w.heap.size ∨ F6 k ∨ k = p) fun k hk => by
          rcases hk with hk | hk | hk
          · exact .inl (.inl hk)
          · exact (hF6 k hk).imp (fun h => .inr (.inl h)) id
          · exact .inl (.inr (.inr hk))
        have hkw6 := (HKW.out.trans (H5.out.mono fun _ h => h.elim)).trans hk6
        have hF6' : ∀ k, F6 k → F k ∨ w.heap.size ≤ k := fun k hk => (hF6 k hk).imp id fun h => by
          have h1 := HKW.out.size
          have h2 := H5.out.size
          omega
        have H6 := Lib.hid (And.intro hg6 (And.intro hp6 (And.intro hkw6 hF6')))
        clear hg6 hp6 hkw6 hF6' h6 hF6 hk6
        by_cases hE0 : EE = 0
        · subst hE0
          go_wp2
          go_loopw [15] (fun vi wx => vi = .int .i64 (l1 : Int) ∧ wx = w6) (fun _ _ => 0)
          case atStart => exact ⟨by go_num, rfl⟩
          case round =>
            obtain ⟨rfl, hwx⟩ := hrel
            subst wr
            go_wp2
            go_ret3
            exact ⟨F6, H6.out.2.2.2, H6.out.2.2.1, .inr ⟨rfl, p, v3, rfl, H6.out.1, H6.out.2.1, Nat.le_of_eq H2.out.2.2.1⟩⟩
        · go_wp2
          go_ret3
          exact ⟨F6, H6.out.2.2.2, H6.out.2.2.1, .inl ⟨hE0, rfl, H6.out.1.dsk⟩⟩
end Go.Proofs.YtggnohbfdlebiaaGreatDoor

/-
  A log over a disk that is on and not armed: Append, Open, as the laws use them.
-/
namespace Go.Proofs.YtggnohbfdlebiaaGreatDoor
open Go.RowKit Go.Shelf Go.ChangeMaps

/-- A log in hand with these records, its disk on. -/
structure Has (w0 w : World) (p d per f : Nat) (rs : List (List Int)) (S : St) (F : Nat → Prop) : Prop where
  lg : Lg w0 w p d (per : Int) ((f * per + 1 : Nat) : Int) ((rs.length + 1 : Nat) : Int) (linkAt rs rs.length) false S F
  lays : Lays S.files per f rs []
theorem Has.step {w0 w w' : World} {p d per f : Nat} {rs : List (List Int)} {S : St} {F : Nat → Prop} (h : Has w0 w p d per f rs S F) (hk : Kp (fun _ => False) w w') : Has w0 w' p d per f rs S F := ⟨h.lg.step hk, h.lays⟩
theorem seg_next (n per : Nat) : segFile (n + 1) per = lnm (n / per) := rfl
/-- A record more. -/
theorem Has.append {w0 w : World} {p d per f : Nat} {rs : List (List Int)} {S : St} {F : Nat → Prop} (h : Has w0 w p d per f rs S F) (hi : Idle S) {v : Value} {q : List Int} (hb : BytesAt w (fun k => F k ∨ k = p) v q) (hq : 1 ≤ q.length ∧ q.length ≤ 4096 ∧ Byts q)
    (hc : rs.length < 90000) (hr : ¬ S.room < (used S.files : Int) + partsN (q.length + 36)) (hs : rs.length / per ≤ 61) :
    Calls Tryz.prog 12 #[.pointer (some ⟨p, 0, none⟩), v] w fun e w' => e = .returned (.tuple #[.int .i64 ((rs.length + 1 : Nat) : Int), .int .i64 0]) ∧ ∃ S' F', Has w0 w' p d per f (rs ++ [q]) S' F' ∧ Idle S' ∧ Grown S S' per f rs q ∧ (∀ k, F' k → F k ∨ w.heap.size ≤ k) ∧ Kp (fun k => F k ∨ k = p) w w' := by
  obtain ⟨b, o, n, c, rfl⟩ := hb.ptr (by omega)
  have hlen := hb.len.1
  obtain ⟨hE, hG⟩ := live_append (hi.live 2) h.lays hq hc hr hs
  have hA := LAppend_any (r := rs.length + 1) h.lg (linkAt_ok rs _).2 hb hq.2.2 (by omega) (by omega) h.lays.perOk.1 h.lays.perOk.2 (by omega) (by omega)
  rw [seg_next] at hA
  refine hA.mono ?_
  rintro e w' ⟨F', hF, hk, ⟨h0, _⟩ | ⟨_, rfl, hlg⟩⟩
  · exact absurd hE h0
  · refine ⟨rfl, _, F', ⟨?_, hG.lays⟩, ⟨hG.off, by rw [hG.armed, if_pos hi.armed]⟩, hG, hF, hk⟩
    have e1 : (rs ++ [q]).length = rs.length + 1 := by simp
    have e2 : linkAt (rs ++ [q]) (rs.length + 1) = chainF (linkAt rs rs.length) q := by
      rw [linkAt_succ (by simp), linkAt_append rs [q] (Nat.le_refl _)]; simp
    rw [e1, e2]
    exact hlg
/-- No room. -/
theorem Has.full {w0 w : World} {p d per f : Nat} {rs : List (List Int)} {S : St} {F : Nat → Prop} (h : Has w0 w p d per f rs S F) {v : Value} {q : List Int} (hb : BytesAt w (fun k => F k ∨ k = p) v q) (hq : 1 ≤ q.length ∧ q.length ≤ 4096 ∧ Byts q)
    (hc : rs.length < 90000) (hr : S.room < (used S.files : Int) + partsN (q.length + 36)) :
    Calls Tryz.prog 12 #[.pointer (some ⟨p, 0, none⟩), v] w fun e w' => e = .returned (.tuple #[.int .i64 0, .int .i64 17]) ∧ ∃ F', Has w0 w' p d per f rs S F' ∧ (∀ k, F' k → F k ∨ w.heap.size ≤ k) ∧ Kp (fun k => F k ∨ k = p) w w' := by
  obtain ⟨b, o, n, c, rfl⟩ := hb.ptr (by omega)
  have hlen := hb.len.1
  obtain ⟨hE, hS⟩ := full_append (per := per) (rs := rs) hr
  have hA := LAppend_any (r := rs.length + 1) h.lg (linkAt_ok rs _).2 hb hq.2.2 (by omega) (by omega) h.lays.perOk.1 h.lays.perOk.2 (by omega) (by omega)
  rw [seg_next] at hA
  refine hA.mono ?_
  rintro e w' ⟨F', hF, hk, ⟨_, he, hlg⟩ | ⟨h0, _⟩⟩
  · change e = .returned (.tuple #[.int .i64 0, .int .i64 (S.lapE (lnm (rs.length / per)) (nextB rs q))]) at he
    change Lg w0 w' p d (per : Int) _ _ _ (S.lapE (lnm (rs.length / per)) (nextB rs q) == 18) (S.lapS (lnm (rs.length / per)) (nextB rs q)) F' at hlg
    rw [hE] at he hlg
    rw [hS] at hlg
    exact ⟨he, F', ⟨hlg, h.lays⟩, hF, hk⟩
  · have h0' : S.lapE (lnm (rs.length / per)) (nextB rs q) = 0 := h0
    rw [hE] at h0'
    exact absurd h0' (by decide)
/-- Opened, where nothing is to be cut. -/
theorem Dsk.opens {w0 w : World} {d per f : Nat} {S : St} {F : Nat → Prop} {rs : List (List Int)} (h : Dsk w0 w d S F) (hoff : S.off = false) (hL : Lays S.files per f rs []) :
    Calls Tryz.prog 11 #[.pointer (some ⟨d, 0, none⟩), .int .i64 (per : Int)] w fun e w' => ∃ p v F', e = .returned (.tuple #[.pointer (some ⟨p, 0, none⟩), v, .int .i64 0]) ∧ Has w0 w' p d per f rs S F' ∧ PayAt w' (fun k => F' k ∨ k = p) v (rs.drop (f * per)) ∧ w.heap.size ≤ p ∧ (∀ k, F' k → F k ∨ w.heap.size ≤ k) ∧ Kp F w w' := by
  refine (LOpen_any h hoff hL).mono ?_
  rintro e w' ⟨F', hF, hk, ⟨h0, _⟩ | ⟨_, p, v, rfl, hlg, hp, hpw⟩⟩
  · exact absurd (if_pos rfl) h0
  · rw [show S.lopS (lnm (rs.length / per)) [] _ = S from if_pos rfl] at hlg
    exact ⟨p, v, F', rfl, ⟨hlg, hL⟩, hp.mono fun _ h => .inr h, hpw, hF, hk⟩
/-- A log in hand, its disk opened again. -/
theorem LogAt.opened {w w' : World} {p d : Nat} {per first next : Int} {link : List Int} {ended : Bool} {F : Nat → Prop} (h : LogAt w p d per first next link ended) (hk : Kp F w w') (hp : ¬ F p) : LogAt w' p d per first next link ended := h.kept hk hp
theorem Has.room {w0 w : World} {p d per f : Nat} {rs : List (List Int)} {S : St} {F : Nat → Prop} (h : Has w0 w p d per f rs S F) : S.room ≤ 65536 := h.lg.dsk.ok.room.2
end Go.Proofs.YtggnohbfdlebiaaGreatDoor

/-
  passbooklaw10.awake: the document's first example.
-/
namespace Go.Proofs.YtggnohbfdlebiaaGreatDoor
open Go.RowKit Go.Shelf Go.ChangeMaps

theorem byteB_one (b : UInt8) : (⟨#[b]⟩ : ByteArray).size = 1 := rfl
/-- []byte(s), of a string of one byte. -/
theorem conv_one (w : World) (b : UInt8) (F : Nat → Prop) (hF : ∀ k, F k → k < w.heap.size) :
    ∃ c w', (convert 9 33 (.string ⟨#[b]⟩)).run Tryz.prog w = .ok (.slice (some ⟨w.heap.size, 0, none⟩) 1 c) w' ∧ Kp (fun _ => False) w w' ∧ BytesAt w' F (.slice (some ⟨w.heap.size, 0, none⟩) 1 c) [(b.toNat : Int)] := by
  have hr := Lib.run_convert_string_bytes (P := Tryz.prog) w 9 33 5 ⟨#[b]⟩ (u := .string) (by kernel_rfl) (by kernel_rfl) (by kernel_rfl)
  refine ⟨_, _, hr, ⟨?_, ?_, ?_, ?_, ?_⟩, ?_⟩
  · rfl
  · rfl
  · rfl
  · rw [Lib.bytesWorld_size]; omega
  · intro k hk _; exact Lib.bytesWorld_at_old w _ _ k hk
  · refine ⟨_, _, rfl, grownCap_ge w 1 0 5, fun j x hj => ⟨_, _, rfl, fun h => Nat.lt_irrefl _ (hF _ h), ?_⟩⟩
    obtain rfl : j = 0 := by
      have := (List.getElem?_eq_some_iff.1 hj).1
      simpa using this
    have := Lib.bytesWorld_cell w 5 ⟨#[b]⟩ 0 Nat.one_pos
    rw [Nat.zero_add, this]
    simpa using hj
abbrev abc : List (List Int) := [[97], [98], [99]]
structure AwSt (S : St) (k : Nat) : Prop where
  idle : Idle S
  room : S.room = 100
  used : used S.files ≤ 2 * k
theorem one_load {x : Int} (h : 0 ≤ x ∧ x ≤ 255) : 1 ≤ [x].length ∧ [x].length ≤ 4096 ∧ Byts [x] := ⟨by simp, by simp, fun y hy => by rw [List.mem_singleton] at hy; subst hy; exact h⟩

set_option maxRecDepth 100000 in
set_option maxHeartbeats 4000000 in
theorem awake10_any (w : World) : Calls Tryz.prog 9 #[] w fun e w' => e = .returned (.bool true) ∧ Kp (fun _ => False) w w' := by
  have c0 := New_dsk 100 (by omega) (by omega) w w (Kp.refl _ w)
  go_enter Tryz.func9, Tryz.ntmps9
  go_wp2_with (first
    | (go_at_call 10; refine c0.mono ?_; rintro e w1 ⟨d, F1, rfl, h1, hF1, -⟩; have H1 := Lib.hid h1; clear h1)
    | (go_at_call 11; refine Hid.out ?_))
  refine Lib.hid ?_
  have ho := H1.out.opens (per := 2) (f := 0) rfl (lays_nil (by decide))
  refine ho.mono ?_
  clear ho c0
  rintro e w2 ⟨p, v2, F2, rfl, h2, hp2, -, -, -⟩
  have hp2 : PayAt w2 _ v2 [] := hp2
  obtain ⟨q2, c2, rfl, -, -⟩ := hp2
  have H2 := Lib.hid h2
  clear h2 hF1
  go_wp2
  obtain ⟨w3, hw3⟩ : ∃ w3, w2.alloc (.cells #[.string { data := #[97] }, .string { data := #[98] }, .string { data := #[99] }] 9) = w3 := ⟨_, rfl⟩
  obtain ⟨B, hB⟩ : ∃ B, w2.heap.size = B := ⟨_, rfl⟩
  have hb3 : w3.heap[B]? = some (.cells #[.string { data := #[97] }, .string { data := #[98] }, .string { data := #[99] }] 9 (0, 0)) := by rw [← hw3, ← hB]; exact heap_alloc_new w2 _
  have hk3 : Kp (fun _ => False) w2 w3 := by rw [← hw3]; exact (Kp.refl _ w2).alloc _
  have hBp : ∀ k, (F2 k ∨ k = p) → ¬ k = B := fun k hk hf => by
    rcases hk with hk | hk
    · have := H2.out.lg.dsk.flt k hk; omega
    · have := H2.out.lg.log.lt; omega
  have hB0 : w.heap.size ≤ B := by rw [← hB]; exact H2.out.lg.dsk.kp.size
  have H3 := Lib.hid (And.intro (H2.out.step hk3) (And.intro hb3 (And.intro hBp hB0)))
  rw [hw3, hB]
  clear hw3 hb3 hk3 hBp hB0 hB
  go_loopw [37] (fun vi wr => ∃ (k : Nat) (S : St) (F : Nat → Prop), k ≤ 3 ∧ vi = .int .i64 (k : Int) ∧ Has w wr p d 2 0 (abc.take k) S F ∧ AwSt S k ∧ wr.heap[B]? = some (.cells #[.string { data := #[97] }, .string { data := #[98] }, .string { data := #[99] }] 9 (0, 0)) ∧ (∀ i, (F i ∨ i = p) → ¬ i = B)) (fun i _ => 3 - (intOf i).toNat)
  case atStart => exact ⟨0, _, _, by omega, rfl, H3.out.1, ⟨⟨rfl, rfl⟩, rfl, Nat.le_refl _⟩, H3.out.2.1, H3.out.2.2.1⟩
  case round =>
    obtain ⟨k, S, F, hk, rfl, hh, ha, hb, hn⟩ := hrel
    clear H3 H2
    rcases (by omega : k = 0 ∨ k = 1 ∨ k = 2 ∨ k = 3) with rfl | rfl | rfl | rfl
    · have hc := blk_cell hb 0
      obtain ⟨cv, wv, hcv, hkv, hbv⟩ := conv_one wr 97 (fun i => F i ∨ i = p) fun i hi => by
        rcases hi with hi | hi
        · exact hh.lg.dsk.flt i hi
        · rw [hi]; exact hh.lg.log.lt
      have hbv : BytesAt wv (fun i => F i ∨ i = p) (.slice (some ⟨wr.heap.size, 0, none⟩) 1 cv) [97] := hbv
      have hH := Lib.hid (And.intro hh (And.intro ha (And.intro hb (And.intro hn (And.intro hkv hbv)))))
      clear hh ha hb hn hkv hbv
      have hc : wr.cell? ⟨B, 0, none⟩ = some (.string { data := #[97] }) := hc
      go_wp2_with (go_at_call 12; refine Hid.out ?_)
      refine Lib.hid ?_
      have hap := (hH.out.1.step hH.out.2.2.2.2.1).append hH.out.2.1.idle hH.out.2.2.2.2.2 (one_load (by decide)) (by decide) (by rw [hH.out.2.1.room]; have := hH.out.2.1.used; rw [show partsN (([97] : List Int).length + 36) = 2 from rfl]; omega) (by decide)
      refine hap.mono ?_
      clear hap hcv hc
      rintro e w5 ⟨rfl, S5, F5, h5, i5, g5, f5, k5⟩
      have hb5 := k5.blk (hH.out.2.2.2.2.1.blk hH.out.2.2.1 id) fun hf => hH.out.2.2.2.1 B hf rfl
      have hn5 : ∀ i, (F5 i ∨ i = p) → ¬ i = B := fun i hi he => by
        rcases hi with hi | hi
        · rcases f5 i hi with h | h
          · exact hH.out.2.2.2.1 i (.inl h) he
          · have h1 := blk_lt hH.out.2.2.1
            have h2 := hH.out.2.2.2.2.1.size
            omega
        · exact hH.out.2.2.2.1 i (.inr hi) he
      have H5 := Lib.hid (And.intro h5 (And.intro (AwSt.mk i5 (g5.room.trans hH.out.2.1.room) (by rw [g5.used]; have := hH.out.2.1.used; rw [show partsN (([97] : List Int).length + 36) = 2 from rfl]; omega) : AwSt S5 1) (And.intro hb5 hn5)))
      clear h5 i5 g5 f5 k5 hb5 hn5
      go_wp2
      go_roundw
      case rel => exact ⟨1, S5, F5, by omega, by go_num, H5.out.1, H5.out.2.1, H5.out.2.2.1, H5.out.2.2.2⟩
      case measure => simp [intOf]
    · have hc := blk_cell hb 1
      obtain ⟨cv, wv, hcv, hkv, hbv⟩ := conv_one wr 98 (fun i => F i ∨ i = p) fun i hi => by
        rcases hi with hi | hi
        · exact hh.lg.dsk.flt i hi
        · rw [hi]; exact hh.lg.log.lt
      have hbv : BytesAt wv (fun i => F i ∨ i = p) (.slice (some ⟨wr.heap.size, 0, none⟩) 1 cv) [98] := hbv
      have hH := Lib.hid (And.intro hh (And.intro ha (And.intro hb (And.intro hn (And.intro hkv hbv)))))
      clear hh ha hb hn hkv hbv
      have hc : wr.cell? ⟨B, 1, none⟩ = some (.string { data := #[98] }) := hc
      go_wp2_with (go_at_call 12; refine Hid.out ?_)
      refine Lib.hid ?_
      have hap := (hH.out.1.step hH.out.2.2.2.2.1).append hH.out.2.1.idle hH.out.2.2.2.2.2 (one_load (by decide)) (by decide) (by rw [hH.out.2.1.room]; have := hH.out.2.1.used; rw [show partsN (([98] : List Int).length + 36) = 2 from rfl]; omega) (by decide)
      refine hap.mono ?_
      clear hap hcv hc
      rintro e w5 ⟨rfl, S5, F5, h5, i5, g5, f5, k5⟩
      have hb5 := k5.blk (hH.out.2.2.2.2.1.blk hH.out.2.2.1 id) fun hf => hH.out.2.2.2.1 B hf rfl
      have hn5 : ∀ i, (F5 i ∨ i = p) → ¬ i = B := fun i hi he => by
        rcases hi with hi | hi
        · rcases f5 i hi with h | h
          · exact hH.out.2.2.2.1 i (.inl h) he
          · have h1 := blk_lt hH.out.2.2.1
            have h2 := hH.out.2.2.2.2.1.size
            omega
        · exact hH.out.2.2.2.1 i (.inr hi) he
      have H5 := Lib.hid (And.intro h5 (And.intro (AwSt.mk i5 (g5.room.trans hH.out.2.1.room) (by rw [g5.used]; have := hH.out.2.1.used; rw [show partsN (([98] : List Int).length + 36) = 2 from rfl]; omega) : AwSt S5 2) (And.intro hb5 hn5)))
      clear h5 i5 g5 f5 k5 hb5 hn5
      go_wp2
      go_roundw
      case rel => exact ⟨2, S5, F5, by omega, by go_num, H5.out.1, H5.out.2.1, H5.out.2.2.1, H5.out.2.2.2⟩
      case measure => simp [intOf]
    · have hc := blk_cell hb 2
      obtain ⟨cv, wv, hcv, hkv, hbv⟩ := conv_one wr 99 (fun i => F i ∨ i = p) fun i hi => by
        rcases hi with hi | hi
        · exact hh.lg.dsk.flt i hi
        · rw [hi]; exact hh.lg.log.lt
      have hbv : BytesAt wv (fun i => F i ∨ i = p) (.slice (some ⟨wr.heap.size, 0, none⟩) 1 cv) [99] := hbv
      have hH := Lib.hid (And.intro hh (And.intro ha (And.intro hb (And.intro hn (And.intro hkv hbv)))))
      clear hh ha hb hn hkv hbv
      have hc : wr.cell? ⟨B, 2, none⟩ = some (.string { data := #[99] }) := hc
      go_wp2_with (go_at_call 12; refine Hid.out ?_)
      refine Lib.hid ?_
      have hap := (hH.out.1.step hH.out.2.2.2.2.1).append hH.out.2.1.idle hH.out.2.2.2.2.2 (one_load (by decide)) (by decide) (by rw [hH.out.2.1.room]; have := hH.out.2.1.used; rw [show partsN (([99] : List Int).length + 36) = 2 from rfl]; omega) (by decide)
      refine hap.mono ?_
      clear hap hcv hc
      rintro e w5 ⟨rfl, S5, F5, h5, i5, g5, f5, k5⟩
      have hb5 := k5.blk (hH.out.2.2.2.2.1.blk hH.out.2.2.1 id) fun hf => hH.out.2.2.2.1 B hf rfl
      have hn5 : ∀ i, (F5 i ∨ i = p) → ¬ i = B := fun i hi he => by
        rcases hi with hi | hi
        · rcases f5 i hi with h | h
          · exact hH.out.2.2.2.1 i (.inl h) he
          · have h1 := blk_lt hH.out.2.2.1
            have h2 := hH.out.2.2.2.2.1.size
            omega
        · exact hH.out.2.2.2.1 i (.inr hi) he
      have H5 := Lib.hid (And.intro h5 (And.intro (AwSt.mk i5 (g5.room.trans hH.out.2.1.room) (by rw [g5.used]; have := hH.out.2.1.used; rw [show partsN (([99] : List Int).length + 36) = 2 from rfl]; omega) : AwSt S5 3) (And.intro hb5 hn5)))
      clear h5 i5 g5 f5 k5 hb5 hn5
      go_wp2
      go_roundw
      case rel => exact ⟨3, S5, F5, by omega, by go_num, H5.out.1, H5.out.2.1, H5.out.2.2.1, H5.out.2.2.2⟩
      case measure => simp [intOf]
    · have hH := Lib.hid (And.intro hh (And.intro ha hb))
      clear hh ha hb hn
      go_wp2_with (go_at_call 11; refine Hid.out ?_)
      refine Lib.hid ?_
      have ho := hH.out.1.lg.dsk.opens hH.out.2.1.idle.off hH.out.1.lays
      refine ho.mono ?_
      clear ho
      rintro e w4 ⟨p4, v4, F4, rfl, h4, hp4, -, -, hk4⟩
      have hp4 : PayAt w4 (fun k => F4 k ∨ k = p4) v4 abc := hp4
      obtain ⟨q4, c4, rfl, -, -⟩ := id hp4
      obtain ⟨b0, o0, x0, hq0, y0, z0⟩ := hp4.get (j := 0) rfl
      obtain ⟨b2, o2, x2, hq2, y2, z2⟩ := hp4.get (j := 2) rfl
      subst hq0
      injection hq2 with hq2
      injection hq2 with e1 e2 _
      subst e1 e2
      obtain ⟨g0, i0, n0, m0, rfl⟩ := z0.ptr (by decide)
      obtain ⟨g2, i2, n2, m2, rfl⟩ := z2.ptr (by decide)
      have s0 := convert_bytes z0
      have s2 := convert_bytes z2
      rw [show strOfNums [97] = (⟨#[97]⟩ : ByteArray) from rfl] at s0
      rw [show strOfNums [99] = (⟨#[99]⟩ : ByteArray) from rfl] at s2
      have hl4 := hH.out.1.lg.log.kept hk4 hH.out.1.lg.out
      have cf : Calls Tryz.prog 20 #[.pointer (some ⟨p, 0, none⟩)] w4 fun e w' => e = .returned (.int .i64 1) ∧ w' = w4 := First_at hl4.first
      have cn : Calls Tryz.prog 17 #[.pointer (some ⟨p, 0, none⟩)] w4 fun e w' => e = .returned (.int .i64 4) ∧ w' = w4 := Next_at hl4.next
      have H4 := Lib.hid h4
      have y0 : w4.cell? ⟨b0, o0, none⟩ = some (.slice (some ⟨g0, i0, none⟩) n0 m0) := y0
      have hc3 : (abc : List (List Int)).length = 3 := rfl
      clear hp4 z0 z2 hl4 h4 hk4
      rw [hc3]
      go_wp2_with (first
        | (go_at_call 20; refine cf.mono ?_; rintro e w' ⟨rfl, rfl⟩)
        | (go_at_call 17; refine cn.mono ?_; rintro e w' ⟨rfl, rfl⟩))
      go_ret
      exact ⟨rfl, H4.out.lg.dsk.kp⟩
end Go.Proofs.YtggnohbfdlebiaaGreatDoor

/-
  LogNil: a nil log, and one that is opened over a nil disk.
-/
namespace Go.Proofs.YtggnohbfdlebiaaGreatDoor
open Go.RowKit Go.Shelf Go.ChangeMaps

set_option maxRecDepth 100000 in
set_option maxHeartbeats 4000000 in
theorem LogNil_any (w : World) (p : Option Addr) (len cap : Nat) (bs : List Int) (hb : BytesAt w (fun _ => False) (.slice p len cap) bs) (hs : len ≤ 140737488351232) (n per : Int) :
    Calls Tryz.prog 6 #[.slice p len cap, .int .i64 n, .int .i64 per] w fun e w' => e = .returned (.bool true) ∧ Kp (fun _ => False) w w' := by
  obtain rfl := hb.len.1
  have ct := Twin_bytes hb hs
  obtain ⟨z, hz⟩ : ∃ z, bs.length = z := ⟨_, rfl⟩
  rw [hz] at hs ct ⊢
  clear hb
  obtain ⟨E, hE⟩ : ∃ E, nilE z = E := ⟨_, rfl⟩
  obtain ⟨O, hO⟩ : ∃ O, nilO per = O := ⟨_, rfl⟩
  go_enter Tryz.func6, Tryz.ntmps6
  go_wp2_with (first
    | (go_at_call 14; refine ct.mono ?_; rintro e w1 ⟨g, c, rfl, -, -, -, -, hk1⟩; rw [hz]; have H1 := Lib.hid hk1; clear hk1)
    | (go_at_call 12; refine (LAppend_nilE w1 _ z c).mono ?_; rintro e w' ⟨rfl, rfl⟩; rw [hE])
    | (go_at_call 22; refine (DocAppend_nil _ _ z cap).mono ?_; rintro e w' ⟨rfl, rfl⟩; rw [hE])
    | (go_at_call 11; refine (LOpen_nil _ per).mono ?_; rintro e w' ⟨rfl, rfl⟩; rw [hO])
    | (go_at_call 23; refine (DocOpen_nil _ per).mono ?_; rintro e w' ⟨rfl, rfl⟩; rw [hO])
    | (go_at_call 9; refine (awake10_any _).mono ?_; rintro e w2 ⟨rfl, hk2⟩; have H2 := Lib.hid (H1.out.trans hk2); clear hk2)
    | (go_at_call 24; refine (LPrune_nil _ n).mono ?_; rintro e w' ⟨rfl, rfl⟩)
    | (go_at_call 20; refine (First_nil _).mono ?_; rintro e w' ⟨rfl, rfl⟩)
    | (go_at_call 17; refine (Next_nil _).mono ?_; rintro e w' ⟨rfl, rfl⟩))
  go_ret
  exact ⟨rfl, H2.out⟩
end Go.Proofs.YtggnohbfdlebiaaGreatDoor

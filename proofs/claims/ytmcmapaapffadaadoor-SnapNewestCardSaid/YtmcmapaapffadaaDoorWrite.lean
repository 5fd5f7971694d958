/-
  snap.Write: what it answers and leaves.
-/
import Derived.Test.YtmcmapaapffadaaDoorSteps
namespace Go.Proofs.YtmcmapaapffadaaDoor
open Go.RowKit Go.Shelf Go.ChangeMaps

/-- What lies at "t" is taken away. -/
def St.rmE (S : St) : Int := if (get S.files tN).isSome then S.opE (S.check tN true) else 0
def St.rmS (S : St) : St := if (get S.files tN).isSome then S.opS (S.check tN true) (Hg.remove tN) else S
/-- The state behind i steps. -/
def St.stepS (S : St) (n : Nat) (bs : List Int) : Nat → St
  | 0 => S
  | 1 => S.appT tN (secF bs)
  | 2 => let T := S.appT tN (secF bs); T.opS (T.check tN true) (Hg.sync tN)
  | _ => let T := S.appT tN (secF bs); let T := T.opS (T.check tN true) (Hg.sync tN); T.renS tN (nmOf n)
def St.stepE (S : St) (n : Nat) (bs : List Int) : Nat → Int
  | 0 => 0
  | 1 => S.appE tN (secF bs).length
  | 2 => let T := S.stepS n bs 1; T.opE (T.check tN true)
  | _ => let T := S.stepS n bs 2; T.renE tN (nmOf n)
def St.wrE (S : St) (n : Nat) (bs : List Int) : Int :=
  if S.rmE ≠ 0 then S.rmE else if S.rmS.stepE n bs 1 ≠ 0 then S.rmS.stepE n bs 1 else if S.rmS.stepE n bs 2 ≠ 0 then S.rmS.stepE n bs 2 else S.rmS.stepE n bs 3
def St.wrS (S : St) (n : Nat) (bs : List Int) : St :=
  if S.rmE ≠ 0 then S.rmS else if S.rmS.stepE n bs 1 ≠ 0 then S.rmS.stepS n bs 1 else if S.rmS.stepE n bs 2 ≠ 0 then S.rmS.stepS n bs 2 else S.rmS.stepS n bs 3
/-- The disk, as S has it, behind the world w. -/
def Hand (w0 w : World) (d : Nat) (S : St) (F : Nat → Prop) (wr : World) : Prop := ∃ F', Dsk w0 wr d S F' ∧ (∀ k, F' k → F k ∨ w.heap.size ≤ k) ∧ Kp F w wr
theorem Hand.step {w0 w wr w' : World} {d : Nat} {S : St} {F : Nat → Prop} (h : Hand w0 w d S F wr) (hk : Kp (fun _ => False) wr w') : Hand w0 w d S F w' := by
  obtain ⟨F', h1, h2, h3⟩ := h
  exact ⟨F', h1.step hk, h2, h3.trans (hk.mono fun _ h => h.elim)⟩
theorem Hand.trans {w0 w w1 w2 : World} {d : Nat} {S : St} {F F1 : Nat → Prop} (hk : Kp F w w1) (hF : ∀ k, F1 k → F k ∨ w.heap.size ≤ k) (h : Hand w0 w1 d S F1 w2) : Hand w0 w d S F w2 := by
  obtain ⟨F', h1, h2, h3⟩ := h
  refine ⟨F', h1, fun k hk' => ?_, hk.trans' h3 hF⟩
  rcases h2 k hk' with h | h
  · exact hF k h
  · exact .inr (Nat.le_trans hk.size h)
theorem namesB_iff {fs : Files} {x : Nm} : x ∈ namesB fs ↔ (get fs x).isSome = true := by
  rw [get_isSome]
  refine ⟨namesB_mem x, fun h => ?_⟩
  obtain ⟨p, hp, rfl⟩ := List.mem_map.1 h
  exact List.mem_map.2 ⟨p.1.data.toList, (List.mergeSort_perm _ _).mem_iff.2 (List.mem_map.2 ⟨p, hp, rfl⟩), rfl⟩
set_option maxRecDepth 100000 in
set_option maxHeartbeats 2000000 in
theorem Write_any {w0 w : World} {d : Nat} {S : St} {F : Nat → Prop} {n : Nat} {b o len cap : Nat} {bs : List Int} (h : Dsk w0 w d S F) (hoff : S.off = false) (hn : n ≤ 999999999999) 
    (hp : BytesAt w F (.slice (some ⟨b, o, none⟩) len cap) bs) (hb : Byts bs) (h1 : 1 ≤ len) (h2 : len ≤ 400000) :
    Calls Tryd.prog 8 #[.pointer (some ⟨d, 0, none⟩), .int .i64 n, .slice (some ⟨b, o, none⟩) len cap] w (Goes w0 w d (S.wrE n bs) (S.wrS n bs) F) := by
  have hc : ¬ 999999999999 < (n : Int) := by omega
  have hc1 : ¬ (n : Int) < 0 := by omega
  have hc2 : ¬ 400000 < (len : Int) := by omega
  have hc3 : ((len : Int) == 0) = false := by simp; omega
  have HH := Lib.hid (And.intro h (And.intro hoff (And.intro hn (And.intro hp (And.intro hb (And.intro h1 h2))))))
  clear h hoff hn hp hb h1 h2
  go_enter Tryd.func8, Tryd.ntmps8
  go_wp2_with (go_at_call 25; refine Hid.out ?_)
  obtain ⟨w3, hw3⟩ : ∃ w3, ((w.alloc (.cells #[.pointer (some ⟨d, 0, none⟩)] 36)).alloc (.cells #[.int .i64 (n : Int)] 2)).alloc (.cells #[.slice (some ⟨b, o, none⟩) len cap] 22) = w3 := ⟨_, rfl⟩
  rw [hw3]
  have hs3 : w3.heap.size = w.heap.size + 1 + 1 + 1 := by rw [← hw3]; simp
  have hk3 : Kp (fun _ => False) w w3 := by rw [← hw3]; exact (((Kp.refl _ w).alloc _).alloc _).alloc _
  have q0 : w3.cell? ⟨w.heap.size, 0, none⟩ = some (.pointer (some ⟨d, 0, none⟩)) := by rw [← hw3]; exact blk_cell (blk_alloc _ (blk_alloc _ (heap_alloc_new w _))) 0
  have q1 : w3.cell? ⟨w.heap.size + 1, 0, none⟩ = some (.int .i64 (n : Int)) := by
    rw [← hw3]; have := blk_alloc (.cells #[.slice (some ⟨b, o, none⟩) len cap] 22) (heap_alloc_new (w.alloc (.cells #[.pointer (some ⟨d, 0, none⟩)] 36)) (.cells #[.int .i64 (n : Int)] 2))
    rw [World.size_alloc] at this
    exact blk_cell this 0
  have q2 : w3.cell? ⟨w.heap.size + 1 + 1, 0, none⟩ = some (.slice (some ⟨b, o, none⟩) len cap) := by
    rw [← hw3]; have := heap_alloc_new ((w.alloc (.cells #[.pointer (some ⟨d, 0, none⟩)] 36)).alloc (.cells #[.int .i64 (n : Int)] 2)) (.cells #[.slice (some ⟨b, o, none⟩) len cap] 22)
    simp only [World.size_alloc] at this
    exact blk_cell this 0
  clear hw3
  obtain ⟨B, hB⟩ : ∃ B, w.heap.size = B := ⟨_, rfl⟩
  simp only [hB] at q0 q1 q2 ⊢
  have hd3 : Dsk w0 w3 d S F := HH.out.1.step hk3
  have hl : (namesB S.files).length ≤ 1000 := by have := HH.out.1.ok.count; rw [namesB_length]; omega
  have HD3 := Lib.hid hd3
  have HK3 := Lib.hid hk3
  have HS3 := Lib.hid (And.intro hs3 hB)
  clear hs3 hB hk3 hd3
  refine Lib.hid ?_
  refine (HD3.out.names HH.out.2.1).mono ?_
  rintro e w4 ⟨v4, rfl, hrow, hk4⟩
  have r0 := hk4.cell q0 id
  have r1 := hk4.cell q1 id
  have r2 := hk4.cell q2 id
  obtain ⟨np, nc, rfl, _⟩ := names_row hrow
  have hct := Contains_names hrow hl tN
  have HK4 := Lib.hid hk4
  clear q0 q1 q2 hrow hk4 hl
  have HNS : Hid (¬ F B ∧ ¬ F (B + 1) ∧ ¬ F (B + 1 + 1)) := by
    have := HD3.out.flt
    have h0 := HS3.out.2
    have := HH.out.1.flt
    exact Lib.hid ⟨fun h => by have := this _ h; omega, fun h => by have := this _ h; omega, fun h => by have := this _ h; omega⟩
  have hrem := (HD3.out.step HK4.out).remove tN (by rw [tN_size]; decide)
  go_wp2_with (go_at_call 24; refine Hid.out ?_)
  refine Lib.hid ?_
  refine hct.mono ?_
  rintro e w5 ⟨bt, rfl, hbt, rfl⟩
  rw [namesB_iff] at hbt
  have hbe : bt = (get S.files tN).isSome := by cases bt <;> cases hq : (get S.files tN).isSome <;> simp_all
  clear hct hbt
  have HBE := Lib.hid hbe
  clear hbe
  cases bt with
  | false =>
    obtain ⟨T, hT⟩ : ∃ T, S.rmS = T := ⟨_, rfl⟩
    have hT2 : S = T := by rw [← hT]; unfold St.rmS; rw [← HBE.out]; rfl
    have hE : S.rmE = 0 := by unfold St.rmE; rw [← HBE.out]; rfl
    have HDK := Lib.hid (show Dsk w0 w4 d T F from hT2 ▸ HD3.out.step HK4.out)
    have HRM := Lib.hid (And.intro hE hT)
    clear hT hT2 hE hrem
    have PK : Hid (∃ F1, Dsk w0 w4 d T F1 ∧ (∀ k, F1 k → F k ∨ B + 3 ≤ k) ∧ Kp F w w4) :=
      Lib.hid ⟨F, HDK.out, fun _ h => .inl h, (HK3.out.trans HK4.out).mono fun _ h => h.elim⟩
    have HB4 : Hid (B + 3 ≤ w4.heap.size) := by have := HK4.out.size; have := HS3.out; exact Lib.hid (by omega)
    have z0 := r0
    have z1 := r1
    have z2 := r2
    clear HDK HK3 HK4 HD3 r0 r1 r2
    obtain ⟨wz, hz⟩ : ∃ wz, wz = w4 := ⟨_, rfl⟩
    subst hz
    go_wp2
    obtain ⟨F1, hD1, hF1, hk1⟩ := PK.out
    have hzz := HB4.out
    obtain ⟨we, hwe⟩ : ∃ we, wz.alloc (.cells #[.func (.func 27) #[] #[.pointer (some ⟨B, 0, none⟩), .pointer (some ⟨B + 1 + 1, 0, none⟩)], .func (.func 30) #[] #[.pointer (some ⟨B, 0, none⟩)], .func (.func 32) #[] #[.pointer (some ⟨B, 0, none⟩), .pointer (some ⟨B + 1, 0, none⟩)]] 62) = we := ⟨_, rfl⟩
    rw [hwe]
    obtain ⟨R, hR⟩ : ∃ R, wz.heap.size = R := ⟨_, rfl⟩
    have hRb : we.heap[R]? = some (.cells #[.func (.func 27) #[] #[.pointer (some ⟨B, 0, none⟩), .pointer (some ⟨B + 1 + 1, 0, none⟩)], .func (.func 30) #[] #[.pointer (some ⟨B, 0, none⟩)], .func (.func 32) #[] #[.pointer (some ⟨B, 0, none⟩), .pointer (some ⟨B + 1, 0, none⟩)]] 62) := by rw [← hwe, ← hR]; exact heap_alloc_new wz _
    have hke : Kp (fun _ => False) wz we := by rw [← hwe]; exact (Kp.refl _ wz).alloc _
    have hFz : ∀ k, F1 k → k < R := by rw [← hR]; exact hD1.flt
    have hFw := HH.out.1.flt
    have hFB : ∀ k, k < B + 3 → B ≤ k → ¬ F1 k := fun k h1 h2 hf => by
      rcases hF1 k hf with h | h
      · have := hFw k h; have := HS3.out.2; omega
      · omega
    have PW : Hid (Hand w0 we d T F1 we ∧ Kp (fun k => F k) w we ∧ BytesAt we F1 (.slice (some ⟨b, o, none⟩) len cap) bs) := by
      refine Lib.hid ⟨⟨F1, hD1.step hke, fun _ h => .inl h, Kp.refl _ _⟩, hk1.trans (hke.mono fun _ h => h.elim), ?_⟩
      exact (HH.out.2.2.2.1.kept (hk1.trans (hke.mono fun _ h => h.elim)) (F' := F1) fun k h => (hF1 k h).imp id fun h => by have := HS3.out.2; omega)
    have PB : Hid (we.cell? ⟨B, 0, none⟩ = some (.pointer (some ⟨d, 0, none⟩)) ∧ we.cell? ⟨B + 1, 0, none⟩ = some (.int .i64 (n : Int)) ∧ we.cell? ⟨B + 1 + 1, 0, none⟩ = some (.slice (some ⟨b, o, none⟩) len cap)) :=
      Lib.hid ⟨hke.cell z0 id, hke.cell z1 id, hke.cell z2 id⟩
    have PN : Hid (¬ F1 B ∧ ¬ F1 (B + 1) ∧ ¬ F1 (B + 1 + 1) ∧ ¬ F1 R) := Lib.hid ⟨hFB _ (by omega) (by omega), hFB _ (by omega) (by omega), hFB _ (by omega) (by omega), fun h => by have := hFz _ h; omega⟩
    have PR := Lib.hid hRb
    have HF1 := Lib.hid hF1
    have HR := Lib.hid hR
    rw [hR]
    clear hRb hke hFz hFw hFB z0 z1 z2 hD1 hF1 hk1 hwe hR hzz PK
    go_loopw [42] (fun vi wr => ∃ i : Nat, i ≤ 3 ∧ vi = .int .i64 i ∧ Hand w0 we d (T.stepS n bs i) F1 wr ∧ ∀ j, j ≤ i → T.stepE n bs j = 0) (fun i _ => 3 - (intOf i).toNat)
    case atStart => exact ⟨0, by omega, rfl, PW.out.1, fun j hj => by obtain rfl : j = 0 := by omega
                                                                      rfl⟩
    case round =>
      obtain ⟨i, hi, rfl, hh, he⟩ := hrel
      obtain ⟨F2, hD2, hF2, hk2⟩ := hh
      have y0 := hk2.cell PB.out.1 PN.out.1
      have y1 := hk2.cell PB.out.2.1 PN.out.2.1
      have y2 := hk2.cell PB.out.2.2 PN.out.2.2.1
      have yr := hk2.blk PR.out PN.out.2.2.2
      have x0 := blk_cell yr 0
      have x1 := blk_cell yr 1
      have x2 := blk_cell yr 2
      simp only [List.getElem?_toArray, List.getElem?_cons_zero, List.getElem?_cons_succ] at x0 x1 x2
      have hby := PW.out.2.2.kept hk2 hF2
      have hwes : B + 3 ≤ we.heap.size := by
        have h1 := block_lt_of_cell PB.out.2.2
        simp only at h1; omega
      have n0 : ¬ F2 B := fun h => (hF2 _ h).elim PN.out.1 fun h => by omega
      have n1 : ¬ F2 (B + 1) := fun h => (hF2 _ h).elim PN.out.2.1 fun h => by omega
      have n2 : ¬ F2 (B + 1 + 1) := fun h => (hF2 _ h).elim PN.out.2.2.1 fun h => by omega
      have hlen := hby.len.1
      have HHK := Lib.hid (And.intro hF2 hk2)
      have HE := Lib.hid he
      clear yr
      rcases (by omega : i = 0 ∨ i = 1 ∨ i = 2 ∨ i = 3) with rfl | rfl | rfl | rfl
      · have hcall : Calls Tryd.prog 27 _ wr (Goes w0 wr d (T.stepE n bs 1) (T.stepS n bs 1) F2) := Step1_any hD2 y0 y2 n0 n2 hby HH.out.2.2.2.2.1 (by have := HH.out.2.2.2.2.2; omega) (by have := HH.out.2.2.2.2.2; omega)
        obtain ⟨ee, hst⟩ : ∃ ee, T.stepE n bs 1 = ee := ⟨_, rfl⟩
        rw [hst] at hcall
        have HST := Lib.hid hst
        clear hD2 hF2 hk2 y0 y1 y2 hby n0 n1 n2 hlen he hwes hst
        by_cases h0 : ee = 0
        · subst h0
          go_wp2_with (go_at_call 27; refine hcall.mono ?_; rintro e w6 ⟨rfl, hg⟩; have HG := Lib.hid hg; clear hg)
          go_roundw
          case rel => exact ⟨1, by omega, by go_num, Hand.trans HHK.out.2 HHK.out.1 HG.out, fun j hj => by
              rcases (by omega : j ≤ 0 ∨ j = 1) with h | rfl
              · exact HE.out j h
              · exact HST.out⟩
          case measure => simp [intOf]
        · have h0b : (ee != 0) = true := by simpa using h0
          go_wp2_with (go_at_call 27; refine hcall.mono ?_; rintro e w6 ⟨rfl, hg⟩; have HG := Lib.hid hg; clear hg)
          go_ret
          have he := HE.out
          have hst := HST.out
          have e1 : S.wrE n bs = ee := by unfold St.wrE; rw [HRM.out.1, HRM.out.2, if_neg (by simp), hst, if_pos h0]
          have e2 : S.wrS n bs = T.stepS n bs 1 := by unfold St.wrS; rw [HRM.out.1, HRM.out.2, if_neg (by simp), hst, if_pos h0]
          rw [e1, e2]
          exact ⟨rfl, Hand.trans PW.out.2.1 (fun k h => (HF1.out k h).imp id fun h => by have := HS3.out.2; omega) (Hand.trans HHK.out.2 HHK.out.1 HG.out)⟩
      · have hcall : Calls Tryd.prog 30 _ wr (Goes w0 wr d (T.stepE n bs 2) (T.stepS n bs 2) F2) := Step2_any hD2 y0
        obtain ⟨ee, hst⟩ : ∃ ee, T.stepE n bs 2 = ee := ⟨_, rfl⟩
        rw [hst] at hcall
        have HST := Lib.hid hst
        clear hD2 hF2 hk2 y0 y1 y2 hby n0 n1 n2 hlen he hwes hst
        by_cases h0 : ee = 0
        · subst h0
          go_wp2_with (go_at_call 30; refine hcall.mono ?_; rintro e w6 ⟨rfl, hg⟩; have HG := Lib.hid hg; clear hg)
          go_roundw
          case rel => exact ⟨2, by omega, by go_num, Hand.trans HHK.out.2 HHK.out.1 HG.out, fun j hj => by
              rcases (by omega : j ≤ 1 ∨ j = 2) with h | rfl
              · exact HE.out j h
              · exact HST.out⟩
          case measure => simp [intOf]
        · have h0b : (ee != 0) = true := by simpa using h0
          go_wp2_with (go_at_call 30; refine hcall.mono ?_; rintro e w6 ⟨rfl, hg⟩; have HG := Lib.hid hg; clear hg)
          go_ret
          have he := HE.out
          have hst := HST.out
          have e1 : S.wrE n bs = ee := by unfold St.wrE; rw [HRM.out.1, HRM.out.2, if_neg (by simp), he 1 (by omega), if_neg (by simp), hst, if_pos h0]
          have e2 : S.wrS n bs = T.stepS n bs 2 := by unfold St.wrS; rw [HRM.out.1, HRM.out.2, if_neg (by simp), he 1 (by omega), if_neg (by simp), hst, if_pos h0]
          rw [e1, e2]
          exact ⟨rfl, Hand.trans PW.out.2.1 (fun k h => (HF1.out k h).imp id fun h => by have := HS3.out.2; omega) (Hand.trans HHK.out.2 HHK.out.1 HG.out)⟩
      · have hcall : Calls Tryd.prog 32 _ wr (Goes w0 wr d (T.stepE n bs 3) (T.stepS n bs 3) F2) := Step3_any hD2 HH.out.2.2.1 y0 y1 n0 n1
        obtain ⟨ee, hst⟩ : ∃ ee, T.stepE n bs 3 = ee := ⟨_, rfl⟩
        rw [hst] at hcall
        have HST := Lib.hid hst
        clear hD2 hF2 hk2 y0 y1 y2 hby n0 n1 n2 hlen he hwes hst
        by_cases h0 : ee = 0
        · subst h0
          go_wp2_with (go_at_call 32; refine hcall.mono ?_; rintro e w6 ⟨rfl, hg⟩; have HG := Lib.hid hg; clear hg)
          go_roundw
          case rel => exact ⟨3, by omega, by go_num, Hand.trans HHK.out.2 HHK.out.1 HG.out, fun j hj => by
              rcases (by omega : j ≤ 2 ∨ j = 3) with h | rfl
              · exact HE.out j h
              · exact HST.out⟩
          case measure => simp [intOf]
        · have h0b : (ee != 0) = true := by simpa using h0
          go_wp2_with (go_at_call 32; refine hcall.mono ?_; rintro e w6 ⟨rfl, hg⟩; have HG := Lib.hid hg; clear hg)
          go_ret
          have he := HE.out
          have hst := HST.out
          have e1 : S.wrE n bs = ee := by unfold St.wrE; rw [HRM.out.1, HRM.out.2, if_neg (by simp), he 1 (by omega), if_neg (by simp), he 2 (by omega), if_neg (by simp), hst]
          have e2 : S.wrS n bs = T.stepS n bs 3 := by unfold St.wrS; rw [HRM.out.1, HRM.out.2, if_neg (by simp), he 1 (by omega), if_neg (by simp), he 2 (by omega), if_neg (by simp)]
          rw [e1, e2]
          exact ⟨rfl, Hand.trans PW.out.2.1 (fun k h => (HF1.out k h).imp id fun h => by have := HS3.out.2; omega) (Hand.trans HHK.out.2 HHK.out.1 HG.out)⟩
      · have HY := Lib.hid hD2
        clear hD2 hF2 hk2 y0 y1 y2 x0 x1 x2 hby n0 n1 n2 hlen he hwes
        go_wp2
        go_ret
        have he := HE.out
        have e1 : S.wrE n bs = 0 := by unfold St.wrE; rw [HRM.out.1, HRM.out.2, if_neg (by simp), he 1 (by omega), if_neg (by simp), he 2 (by omega), if_neg (by simp), he 3 (by omega)]
        have e2 : S.wrS n bs = T.stepS n bs 3 := by unfold St.wrS; rw [HRM.out.1, HRM.out.2, if_neg (by simp), he 1 (by omega), if_neg (by simp), he 2 (by omega), if_neg (by simp)]
        rw [e1, e2]
        exact ⟨rfl, Hand.trans PW.out.2.1 (fun k h => (HF1.out k h).imp id fun h => by have := HS3.out.2; omega) ⟨F2, HY.out, HHK.out.1, HHK.out.2⟩⟩
  | true =>
    obtain ⟨T, hT⟩ : ∃ T, S.rmS = T := ⟨_, rfl⟩
    have hT2 : S.opS (S.check tN true) (Hg.remove tN) = T := by rw [← hT]; unfold St.rmS; rw [← HBE.out]; rfl
    have hE : S.rmE = S.opE (S.check tN true) := by unfold St.rmE; rw [← HBE.out]; rfl
    rw [hT2, ← hE] at hrem
    obtain ⟨e0, he0⟩ : ∃ e0, S.rmE = e0 := ⟨_, rfl⟩
    rw [he0] at hrem
    have HRM := Lib.hid (And.intro he0 hT)
    clear hT hT2 hE he0
    by_cases h0 : e0 = 0
    · subst h0
      go_wp2_with (go_at_call 26; refine hrem.mono ?_; rintro e wz ⟨rfl, hg⟩; have HG := Lib.hid hg; clear hg)
      obtain ⟨F1, hD1, hF1, hk1⟩ := HG.out
      have hB4 : B + 3 ≤ w4.heap.size := by have := HK4.out.size; have := HS3.out; omega
      have z0 := hk1.cell r0 HNS.out.1
      have z1 := hk1.cell r1 HNS.out.2.1
      have z2 := hk1.cell r2 HNS.out.2.2
      have PK : Hid (∃ F1, Dsk w0 wz d T F1 ∧ (∀ k, F1 k → F k ∨ B + 3 ≤ k) ∧ Kp F w wz) :=
        Lib.hid ⟨F1, hD1, fun k h => (hF1 k h).imp id fun h => by omega, ((HK3.out.trans HK4.out).mono fun _ h => h.elim).trans hk1⟩
      have HB4 : Hid (B + 3 ≤ wz.heap.size) := by have := hk1.size; exact Lib.hid (by omega)
      clear HG HK3 HK4 HD3 r0 r1 r2 hD1 hF1 hk1 hB4
      obtain ⟨F1, hD1, hF1, hk1⟩ := PK.out
      have hzz := HB4.out
      obtain ⟨we, hwe⟩ : ∃ we, wz.alloc (.cells #[.func (.func 27) #[] #[.pointer (some ⟨B, 0, none⟩), .pointer (some ⟨B + 1 + 1, 0, none⟩)], .func (.func 30) #[] #[.pointer (some ⟨B, 0, none⟩)], .func (.func 32) #[] #[.pointer (some ⟨B, 0, none⟩), .pointer (some ⟨B + 1, 0, none⟩)]] 62) = we := ⟨_, rfl⟩
      rw [hwe]
      obtain ⟨R, hR⟩ : ∃ R, wz.heap.size = R := ⟨_, rfl⟩
      have hRb : we.heap[R]? = some (.cells #[.func (.func 27) #[] #[.pointer (some ⟨B, 0, none⟩), .pointer (some ⟨B + 1 + 1, 0, none⟩)], .func (.func 30) #[] #[.pointer (some ⟨B, 0, none⟩)], .func (.func 32) #[] #[.pointer (some ⟨B, 0, none⟩), .pointer (some ⟨B + 1, 0, none⟩)]] 62) := by rw [← hwe, ← hR]; exact heap_alloc_new wz _
      have hke : Kp (fun _ => False) wz we := by rw [← hwe]; exact (Kp.refl _ wz).alloc _
      have hFz : ∀ k, F1 k → k < R := by rw [← hR]; exact hD1.flt
      have hFw := HH.out.1.flt
      have hFB : ∀ k, k < B + 3 → B ≤ k → ¬ F1 k := fun k h1 h2 hf => by
        rcases hF1 k hf with h | h
        · have := hFw k h; have := HS3.out.2; omega
        · omega
      have PW : Hid (Hand w0 we d T F1 we ∧ Kp (fun k => F k) w we ∧ BytesAt we F1 (.slice (some ⟨b, o, none⟩) len cap) bs) := by
        refine Lib.hid ⟨⟨F1, hD1.step hke, fun _ h => .inl h, Kp.refl _ _⟩, hk1.trans (hke.mono fun _ h => h.elim), ?_⟩
        exact (HH.out.2.2.2.1.kept (hk1.trans (hke.mono fun _ h => h.elim)) (F' := F1) fun k h => (hF1 k h).imp id fun h => by have := HS3.out.2; omega)
      have PB : Hid (we.cell? ⟨B, 0, none⟩ = some (.pointer (some ⟨d, 0, none⟩)) ∧ we.cell? ⟨B + 1, 0, none⟩ = some (.int .i64 (n : Int)) ∧ we.cell? ⟨B + 1 + 1, 0, none⟩ = some (.slice (some ⟨b, o, none⟩) len cap)) :=
        Lib.hid ⟨hke.cell z0 id, hke.cell z1 id, hke.cell z2 id⟩
      have PN : Hid (¬ F1 B ∧ ¬ F1 (B + 1) ∧ ¬ F1 (B + 1 + 1) ∧ ¬ F1 R) := Lib.hid ⟨hFB _ (by omega) (by omega), hFB _ (by omega) (by omega), hFB _ (by omega) (by omega), fun h => by have := hFz _ h; omega⟩
      have PR := Lib.hid hRb
      have HF1 := Lib.hid hF1
      have HR := Lib.hid hR
      rw [hR]
      clear hRb hke hFz hFw hFB z0 z1 z2 hD1 hF1 hk1 hwe hR hzz PK
      go_loopw [42] (fun vi wr => ∃ i : Nat, i ≤ 3 ∧ vi = .int .i64 i ∧ Hand w0 we d (T.stepS n bs i) F1 wr ∧ ∀ j, j ≤ i → T.stepE n bs j = 0) (fun i _ => 3 - (intOf i).toNat)
      case atStart => exact ⟨0, by omega, rfl, PW.out.1, fun j hj => by obtain rfl : j = 0 := by omega
                                                                        rfl⟩
      case round =>
        obtain ⟨i, hi, rfl, hh, he⟩ := hrel
        obtain ⟨F2, hD2, hF2, hk2⟩ := hh
        have y0 := hk2.cell PB.out.1 PN.out.1
        have y1 := hk2.cell PB.out.2.1 PN.out.2.1
        have y2 := hk2.cell PB.out.2.2 PN.out.2.2.1
        have yr := hk2.blk PR.out PN.out.2.2.2
        have x0 := blk_cell yr 0
        have x1 := blk_cell yr 1
        have x2 := blk_cell yr 2
        simp only [List.getElem?_toArray, List.getElem?_cons_zero, List.getElem?_cons_succ] at x0 x1 x2
        have hby := PW.out.2.2.kept hk2 hF2
        have hwes : B + 3 ≤ we.heap.size := by
          have h1 := block_lt_of_cell PB.out.2.2
          simp only at h1; omega
        have n0 : ¬ F2 B := fun h => (hF2 _ h).elim PN.out.1 fun h => by omega
        have n1 : ¬ F2 (B + 1) := fun h => (hF2 _ h).elim PN.out.2.1 fun h => by omega
        have n2 : ¬ F2 (B + 1 + 1) := fun h => (hF2 _ h).elim PN.out.2.2.1 fun h => by omega
        have hlen := hby.len.1
        have HHK := Lib.hid (And.intro hF2 hk2)
        have HE := Lib.hid he
        clear yr
        rcases (by omega : i = 0 ∨ i = 1 ∨ i = 2 ∨ i = 3) with rfl | rfl | rfl | rfl
        · have hcall : Calls Tryd.prog 27 _ wr (Goes w0 wr d (T.stepE n bs 1) (T.stepS n bs 1) F2) := Step1_any hD2 y0 y2 n0 n2 hby HH.out.2.2.2.2.1 (by have := HH.out.2.2.2.2.2; omega) (by have := HH.out.2.2.2.2.2; omega)
          obtain ⟨ee, hst⟩ : ∃ ee, T.stepE n bs 1 = ee := ⟨_, rfl⟩
          rw [hst] at hcall
          have HST := Lib.hid hst
          clear hD2 hF2 hk2 y0 y1 y2 hby n0 n1 n2 hlen he hwes hst
          by_cases h0 : ee = 0
          · subst h0
            go_wp2_with (go_at_call 27; refine hcall.mono ?_; rintro e w6 ⟨rfl, hg⟩; have HG := Lib.hid hg; clear hg)
            go_roundw
            case rel => exact ⟨1, by omega, by go_num, Hand.trans HHK.out.2 HHK.out.1 HG.out, fun j hj => by
                rcases (by omega : j ≤ 0 ∨ j = 1) with h | rfl
                · exact HE.out j h
                · exact HST.out⟩
            case measure => simp [intOf]
          · have h0b : (ee != 0) = true := by simpa using h0
            go_wp2_with (go_at_call 27; refine hcall.mono ?_; rintro e w6 ⟨rfl, hg⟩; have HG := Lib.hid hg; clear hg)
            go_ret
            have he := HE.out
            have hst := HST.out
            have e1 : S.wrE n bs = ee := by unfold St.wrE; rw [HRM.out.1, HRM.out.2, if_neg (by simp), hst, if_pos h0]
            have e2 : S.wrS n bs = T.stepS n bs 1 := by unfold St.wrS; rw [HRM.out.1, HRM.out.2, if_neg (by simp), hst, if_pos h0]
            rw [e1, e2]
            exact ⟨rfl, Hand.trans PW.out.2.1 (fun k h => (HF1.out k h).imp id fun h => by have := HS3.out.2; omega) (Hand.trans HHK.out.2 HHK.out.1 HG.out)⟩
        · have hcall : Calls Tryd.prog 30 _ wr (Goes w0 wr d (T.stepE n bs 2) (T.stepS n bs 2) F2) := Step2_any hD2 y0
          obtain ⟨ee, hst⟩ : ∃ ee, T.stepE n bs 2 = ee := ⟨_, rfl⟩
          rw [hst] at hcall
          have HST := Lib.hid hst
          clear hD2 hF2 hk2 y0 y1 y2 hby n0 n1 n2 hlen he hwes hst
          by_cases h0 : ee = 0
          · subst h0
            go_wp2_with (go_at_call 30; refine hcall.mono ?_; rintro e w6 ⟨rfl, hg⟩; have HG := Lib.hid hg; clear hg)
            go_roundw
            case rel => exact ⟨2, by omega, by go_num, Hand.trans HHK.out.2 HHK.out.1 HG.out, fun j hj => by
                rcases (by omega : j ≤ 1 ∨ j = 2) with h | rfl
                · exact HE.out j h
                · exact HST.out⟩
            case measure => simp [intOf]
          · have h0b : (ee != 0) = true := by simpa using h0
            go_wp2_with (go_at_call 30; refine hcall.mono ?_; rintro e w6 ⟨rfl, hg⟩; have HG := Lib.hid hg; clear hg)
            go_ret
            have he := HE.out
            have hst := HST.out
            have e1 : S.wrE n bs = ee := by unfold St.wrE; rw [HRM.out.1, HRM.out.2, if_neg (by simp), he 1 (by omega), if_neg (by simp), hst, if_pos h0]
            have e2 : S.wrS n bs = T.stepS n bs 2 := by unfold St.wrS; rw [HRM.out.1, HRM.out.2, if_neg (by simp), he 1 (by omega), if_neg (by simp), hst, if_pos h0]
            rw [e1, e2]
            exact ⟨rfl, Hand.trans PW.out.2.1 (fun k h => (HF1.out k h).imp id fun h => by have := HS3.out.2; omega) (Hand.trans HHK.out.2 HHK.out.1 HG.out)⟩
        · have hcall : Calls Tryd.prog 32 _ wr (Goes w0 wr d (T.stepE n bs 3) (T.stepS n bs 3) F2) := Step3_any hD2 HH.out.2.2.1 y0 y1 n0 n1
          obtain ⟨ee, hst⟩ : ∃ ee, T.stepE n bs 3 = ee := ⟨_, rfl⟩
          rw [hst] at hcall
          have HST := Lib.hid hst
          clear hD2 hF2 hk2 y0 y1 y2 hby n0 n1 n2 hlen he hwes hst
          by_cases h0 : ee = 0
          · subst h0
            go_wp2_with (go_at_call 32; refine hcall.mono ?_; rintro e w6 ⟨rfl, hg⟩; have HG := Lib.hid hg; clear hg)
            go_roundw
            case rel => exact ⟨3, by omega, by go_num, Hand.trans HHK.out.2 HHK.out.1 HG.out, fun j hj => by
                rcases (by omega : j ≤ 2 ∨ j = 3) with h | rfl
                · exact HE.out j h
                · exact HST.out⟩
            case measure => simp [intOf]
          · have h0b : (ee != 0) = true := by simpa using h0
            go_wp2_with (go_at_call 32; refine hcall.mono ?_; rintro e w6 ⟨rfl, hg⟩; have HG := Lib.hid hg; clear hg)
            go_ret
            have he := HE.out
            have hst := HST.out
            have e1 : S.wrE n bs = ee := by unfold St.wrE; rw [HRM.out.1, HRM.out.2, if_neg (by simp), he 1 (by omega), if_neg (by simp), he 2 (by omega), if_neg (by simp), hst]
            have e2 : S.wrS n bs = T.stepS n bs 3 := by unfold St.wrS; rw [HRM.out.1, HRM.out.2, if_neg (by simp), he 1 (by omega), if_neg (by simp), he 2 (by omega), if_neg (by simp)]
            rw [e1, e2]
            exact ⟨rfl, Hand.trans PW.out.2.1 (fun k h => (HF1.out k h).imp id fun h => by have := HS3.out.2; omega) (Hand.trans HHK.out.2 HHK.out.1 HG.out)⟩
        · have HY := Lib.hid hD2
          clear hD2 hF2 hk2 y0 y1 y2 x0 x1 x2 hby n0 n1 n2 hlen he hwes
          go_wp2
          go_ret
          have he := HE.out
          have e1 : S.wrE n bs = 0 := by unfold St.wrE; rw [HRM.out.1, HRM.out.2, if_neg (by simp), he 1 (by omega), if_neg (by simp), he 2 (by omega), if_neg (by simp), he 3 (by omega)]
          have e2 : S.wrS n bs = T.stepS n bs 3 := by unfold St.wrS; rw [HRM.out.1, HRM.out.2, if_neg (by simp), he 1 (by omega), if_neg (by simp), he 2 (by omega), if_neg (by simp)]
          rw [e1, e2]
          exact ⟨rfl, Hand.trans PW.out.2.1 (fun k h => (HF1.out k h).imp id fun h => by have := HS3.out.2; omega) ⟨F2, HY.out, HHK.out.1, HHK.out.2⟩⟩
    · have h0b : (e0 != 0) = true := by simpa using h0
      go_wp2_with (go_at_call 26; refine hrem.mono ?_; rintro e w6 ⟨rfl, hg⟩; have HG := Lib.hid hg; clear hg)
      go_ret
      have e1 : S.wrE n bs = e0 := by unfold St.wrE; rw [HRM.out.1, if_pos h0]
      have e2 : S.wrS n bs = T := by unfold St.wrS; rw [HRM.out.1, if_pos h0]; exact HRM.out.2
      rw [e1, e2]
      exact ⟨rfl, Hand.trans (F1 := F) ((HK3.out.trans HK4.out).mono fun _ h => h.elim) (fun _ h => .inl h) HG.out⟩
end Go.Proofs.YtmcmapaapffadaaDoor

/-
  snap.Clean: all snapshots but the newest are removed; plainly, and the walk.
-/
import Derived.Test.YtmcmapaapffadaaDoorCalm
namespace Go.Proofs.YtmcmapaapffadaaDoor
open Go.RowKit Go.Shelf Go.ChangeMaps

def rmStep (n : Nat) (S : St) (m : Nat) : St := if m = n then S else S.doS (.remove (nmOf m))
def St.rmAll (S : St) (n : Nat) (l : List Nat) : St := l.foldl (rmStep n) S
theorem rmStep_idle {S : St} (hi : Idle S) (n m : Nat) : Idle (rmStep n S m) := by unfold rmStep; split; exact hi; exact hi.did _
theorem rmAll_idle {n : Nat} : ∀ (l : List Nat) {S : St} (_ : Idle S), Idle (S.rmAll n l)
  | [], _, h => h
  | m :: l, _, h => rmAll_idle l (rmStep_idle h n m)
theorem rmStep_files {S : St} (hi : Idle S) (n m : Nat) : (rmStep n S m).files = if m = n then S.files else del S.files (nmOf m) := by
  unfold rmStep; split
  · rfl
  · rw [hi.did_files]; rfl
theorem rmStep_room {S : St} (hi : Idle S) (n m : Nat) : (rmStep n S m).room = S.room := by unfold rmStep; split; rfl; exact hi.did_room _
theorem rmAll_room {n : Nat} : ∀ (l : List Nat) {S : St} (_ : Idle S), (S.rmAll n l).room = S.room
  | [], _, _ => rfl
  | m :: l, _, h => (rmAll_room l (rmStep_idle h n m)).trans (rmStep_room h n m)
theorem rmStep_nodup {S : St} (hi : Idle S) (hd : (S.files.map (·.1)).Nodup) (n m : Nat) : ((rmStep n S m).files.map (·.1)).Nodup := by
  rw [rmStep_files hi]; split; exact hd; exact nodup_del hd _
theorem rmAll_nodup {n : Nat} : ∀ (l : List Nat) {S : St} (_ : Idle S) (_ : (S.files.map (·.1)).Nodup), ((S.rmAll n l).files.map (·.1)).Nodup
  | [], _, _, hd => hd
  | m :: l, _, h, hd => rmAll_nodup l (rmStep_idle h n m) (rmStep_nodup h hd n m)
theorem rmAll_stays {n : Nat} {s : Nm} : ∀ (l : List Nat) {S : St} (_ : Idle S) (_ : ∀ m ∈ l, m ≠ n → s ≠ nmOf m), get (S.rmAll n l).files s = get S.files s
  | [], _, _, _ => rfl
  | m :: l, S, hi, h => by
    show get ((rmStep n S m).rmAll n l).files s = _
    rw [rmAll_stays l (rmStep_idle hi n m) fun k hk => h k (by simp [hk]), rmStep_files hi]
    split
    · rfl
    · rename_i hm; exact get_del_ne (h m (by simp) hm)
theorem rmAll_none {n : Nat} {s : Nm} : ∀ (l : List Nat) {S : St} (_ : Idle S) (_ : (S.files.map (·.1)).Nodup) (_ : get S.files s = none), get (S.rmAll n l).files s = none
  | [], _, _, _, h => h
  | m :: l, S, hi, hd, h => by
    show get ((rmStep n S m).rmAll n l).files s = none
    refine rmAll_none l (rmStep_idle hi n m) (rmStep_nodup hi hd n m) ?_
    rw [rmStep_files hi]
    split
    · exact h
    · rw [get_del hd]; split; rfl; exact h
theorem rmAll_gone {n : Nat} {k : Nat} (hkn : k ≠ n) : ∀ (l : List Nat) {S : St} (_ : Idle S) (_ : (S.files.map (·.1)).Nodup) (_ : k ∈ l), get (S.rmAll n l).files (nmOf k) = none
  | [], _, _, _, h => by cases h
  | m :: l, S, hi, hd, h => by
    show get ((rmStep n S m).rmAll n l).files (nmOf k) = none
    by_cases hkm : k = m
    · subst hkm
      refine rmAll_none l (rmStep_idle hi n k) (rmStep_nodup hi hd n k) ?_
      rw [rmStep_files hi, if_neg hkn, get_del hd, if_pos rfl]
    · exact rmAll_gone hkn l (rmStep_idle hi n m) (rmStep_nodup hi hd n m) ((List.mem_cons.1 h).resolve_left hkm)
theorem rmAll_used {n : Nat} : ∀ (l : List Nat) {S : St} (_ : Idle S), used (S.rmAll n l).files ≤ used S.files ∧ (S.rmAll n l).files.length ≤ S.files.length
  | [], _, _ => ⟨Nat.le_refl _, Nat.le_refl _⟩
  | m :: l, S, hi => by
    have h := rmAll_used (n := n) l (rmStep_idle hi n m)
    have h2 : used (rmStep n S m).files ≤ used S.files ∧ (rmStep n S m).files.length ≤ S.files.length := by
      rw [rmStep_files hi]
      split
      · exact ⟨Nat.le_refl _, Nat.le_refl _⟩
      · have := used_del S.files (nmOf m); exact ⟨by omega, del_length _ _⟩
    exact ⟨Nat.le_trans h.1 h2.1, Nat.le_trans h.2 h2.2⟩
/-- One is kept. -/
def only (M : Nat → Option (List Int)) (n : Nat) : Nat → Option (List Int) := fun m => if m = n then M n else none
theorem Whole.cleaned {S : St} {M : Nat → Option (List Int)} (h : Whole S.files M) (hi : Idle S) (n : Nat) : Whole (S.rmAll n (snapsOf S.files)).files (only M n) := by
  have hmem : ∀ {m : Nat}, m ∈ snapsOf S.files ↔ m ≤ 999999999999 ∧ (get S.files (nmOf m)).isSome = true := mem_snaps h.tidyS
  have hg : ∀ m, m ≤ 999999999999 → m = n → get (S.rmAll n (snapsOf S.files)).files (nmOf m) = get S.files (nmOf m) := fun m hm e =>
    rmAll_stays _ hi fun k hk hkn he => hkn ((nmOf_inj hm (hmem.1 hk).1 he).symm.trans e)
  refine ⟨rmAll_nodup _ hi h.nodup, fun s hs => h.tidy s ?_, fun m bs hm e => ?_, fun m hm e => ?_⟩
  · cases e : get S.files s with
    | none => rw [rmAll_none _ hi h.nodup e] at hs; cases hs
    | some l => rfl
  · unfold only at e
    by_cases hmn : m = n
    · rw [if_pos hmn, ← hmn] at e
      rw [hg m hm hmn]; exact h.some_ m bs hm e
    · rw [if_neg hmn] at e; cases e
  · unfold only at e
    by_cases hmn : m = n
    · rw [if_pos hmn, ← hmn] at e
      rw [hg m hm hmn]; exact h.none_ m hm e
    · by_cases hs : (get S.files (nmOf m)).isSome = true
      · exact rmAll_gone hmn _ hi h.nodup (hmem.2 ⟨hm, hs⟩)
      · exact rmAll_none _ hi h.nodup (by simpa using hs)
theorem rmAll_take {S : St} {n : Nat} {l : List Nat} {k : Nat} (hk : k < l.length) : S.rmAll n (l.take (k + 1)) = rmStep n (S.rmAll n (l.take k)) l[k] := by
  unfold St.rmAll
  rw [List.take_succ_eq_append_getElem hk, List.foldl_append]; rfl
/-- What is to be removed is still there. -/
theorem rmAll_there {S : St} (hi : Idle S) {n : Nat} {l : List Nat} (hl : l.Pairwise (· < ·)) (hb : ∀ m ∈ l, m ≤ 999999999999 ∧ (get S.files (nmOf m)).isSome = true) {k : Nat} (hk : k < l.length) :
    (S.rmAll n (l.take k)).check (nmOf l[k]) true = 0 := by
  refine (rmAll_idle _ hi).there (nameB_nm _) ?_
  rw [rmAll_stays _ hi]
  · exact (hb _ (List.getElem_mem hk)).2
  · intro m hm _ he
    have e := nmOf_inj (hb _ (List.getElem_mem hk)).1 (hb m (List.mem_of_mem_take hm)).1 he
    obtain ⟨j, hj, hj2⟩ := List.getElem_of_mem hm
    rw [List.getElem_take] at hj2
    have hjk : j < k := by rw [List.length_take] at hj; omega
    have := List.pairwise_iff_getElem.1 hl j k (by omega) hk hjk
    omega
theorem opE_idle {S : St} (hi : Idle S) {n : Nm} (hc : S.check n true = 0) : S.opE (S.check n true) = 0 := by rw [hc]; exact hi.doE
set_option maxRecDepth 100000 in
set_option maxHeartbeats 2000000 in
theorem Clean_none {w0 w : World} {d : Nat} {S : St} {F : Nat → Prop} (h : Dsk w0 w d S F) (hoff : S.off = false) (ht : TidyS S.files) (h0 : snapsOf S.files = []) :
    Calls Tryd.prog 11 #[.pointer (some ⟨d, 0, none⟩)] w fun e w' => e = .returned (.int .i64 0) ∧ Kp (fun _ => False) w w' := by
  have hl := Load_none h hoff ht h0
  clear h hoff ht h0
  go_enter Tryd.func11, Tryd.ntmps11
  go_wp2_with (go_at_call 6; refine hl.mono ?_; rintro e w1 ⟨rfl, hk1⟩; have HK := Lib.hid hk1; clear hk1)
  go_ret
  exact ⟨rfl, HK.out⟩
set_option maxRecDepth 100000 in
set_option maxHeartbeats 2000000 in
theorem Clean_some {w0 w : World} {d : Nat} {S : St} {F : Nat → Prop} {ns : List Nat} {n : Nat} {bs : List Int} (h : Dsk w0 w d S F) (hi : Idle S) (ht : TidyS S.files) (hnd : (S.files.map (·.1)).Nodup) (h0 : snapsOf S.files = ns ++ [n]) (hn : n ≤ 999999999999)
    (hmem : S.check (nmOf n) true = 0) (hfile : bytesOf (getF S.files (nmOf n)) = secF bs) (hb : Byts bs) (h1 : 1 ≤ bs.length) (h2 : bs.length ≤ 400000) :
    Calls Tryd.prog 11 #[.pointer (some ⟨d, 0, none⟩)] w (Goes w0 w d 0 (S.rmAll n (snapsOf S.files)) F) := by
  have hL := Load_some h hi.off ht h0 hn hmem hfile hb h1 h2
  have hri := snaps_rising ht hnd
  have hbd : ∀ m ∈ snapsOf S.files, m ≤ 999999999999 ∧ (get S.files (nmOf m)).isSome = true := fun m hm => (mem_snaps ht).1 hm
  have hnl : (snapsOf S.files).length ≤ 64 := Nat.le_trans (snapsOf_length _) h.ok.count
  have HLI : Hid (∀ w1, Kp (fun _ => False) w w1 → Calls Tryd.prog 12 #[.pointer (some ⟨d, 0, none⟩)] w1 fun e w' => ∃ v, e = .returned v ∧ OwnI w' w1.heap.size v (snapsOf S.files) ∧ Kp (fun _ => False) w1 w') :=
    Lib.hid fun w1 hk => List_any (h.step hk) hi.off ht
  have HD := Lib.hid (And.intro h hi)
  obtain ⟨l, hl⟩ : ∃ l, snapsOf S.files = l := ⟨_, rfl⟩
  rw [hl] at hri hbd hnl HLI ⊢
  have HBD := Lib.hid (And.intro hri hbd)
  have HB1 := Lib.hid h1
  clear h hi ht hnd h0 hn hmem hfile hb h1 h2 hri hbd hl
  go_enter Tryd.func11, Tryd.ntmps11
  go_wp2_with (first
    | (go_at_call 6; refine hL.mono ?_; rintro e w1 ⟨v1, rfl, hb1, hk1⟩; obtain ⟨b1, o1, n1, c1, rfl⟩ := hb1.ptr HB1.out; have HK1 := Lib.hid hk1; clear hb1 hk1)
    | (go_at_call 12; refine (HLI.out _ HK1.out).mono ?_; rintro e w2 ⟨v2, rfl, ho2, hk2⟩; obtain ⟨p2, c2, rfl⟩ := ho2.slice; have HO2 := Lib.hid ho2; have HK2 := Lib.hid hk2; clear ho2 hk2))
  have hk : Kp (fun _ => False) w w2 := HK1.out.trans HK2.out
  have hd2 := HD.out.1.step hk
  have hsz : ∀ k, F k → k < w1.heap.size := fun k hk' => Nat.lt_of_lt_of_le (HD.out.1.flt k hk') HK1.out.size
  have HS := Lib.hid hsz
  have HKK := Lib.hid hk
  have HAT : Hid (Hand w0 w2 d (S.rmAll n (l.take 0)) F w2) := Lib.hid ⟨F, hd2, fun _ h => .inl h, Kp.refl _ _⟩
  clear hk hd2 hsz HK2
  go_loopw [27] (fun vi wr => ∃ k : Nat, k ≤ l.length ∧ vi = .int .i64 k ∧ Hand w0 w2 d (S.rmAll n (l.take k)) F wr) (fun i _ => l.length - (intOf i).toNat)
  case atStart => exact ⟨0, Nat.zero_le _, rfl, HAT.out⟩
  case round =>
    obtain ⟨k, hk, rfl, hh⟩ := hrel
    by_cases hkl : k < l.length
    · obtain ⟨m, hm⟩ : ∃ m, l[k] = m := ⟨_, rfl⟩
      have hmk : l[k]? = some m := by rw [← hm]; exact List.getElem?_eq_getElem hkl
      obtain ⟨F2, hD2, hF2, hk2⟩ := hh
      obtain ⟨pp, cc, e, hcl⟩ := HO2.out.row
      obtain ⟨bb, hbb, hcell⟩ := hcl k m hmk
      injection e with e1 e2 e3
      rw [← e1] at hbb
      subst hbb
      have hnF : ¬ F bb := fun hf => by
        have h1 := HS.out bb hf
        have h2 := (HO2.out.lt bb rfl).1
        omega
      have hcell2 := hk2.cell hcell hnF
      have hstep := rmAll_take (S := S) (n := n) hkl
      rw [hm] at hstep
      have HST := Lib.hid hstep
      clear hcl e1 e2 e3 hcell hstep hnF
      by_cases hmn : m = n
      · subst hmn
        have HX : Hid (Hand w0 w2 d (S.rmAll m (l.take (k + 1))) F wr) := Lib.hid ⟨F2, by rw [HST.out]; unfold rmStep; rw [if_pos rfl]; exact hD2, hF2, hk2⟩
        clear hD2 hF2 hk2 hm hmk
        go_wp2
        go_roundw
        case rel => exact ⟨k + 1, by omega, by go_num, HX.out⟩
        case measure => simp [intOf]; omega
      · have hb : ((m : Int) == (n : Int)) = false := by simp; omega
        have hch := rmAll_there HD.out.2 (n := n) HBD.out.1 HBD.out.2 hkl
        rw [hm] at hch
        have hidl : Idle (S.rmAll n (l.take k)) := rmAll_idle _ HD.out.2
        have hm9 : m ≤ 999999999999 := (HBD.out.2 m (List.mem_of_getElem? hmk)).1
        have hst2 : S.rmAll n (l.take (k + 1)) = (S.rmAll n (l.take k)).opS ((S.rmAll n (l.take k)).check (nmOf m) true) (.remove (nmOf m)) := by
          rw [HST.out, hch]; unfold rmStep; rw [if_neg hmn]; rfl
        have HRM : Hid (∀ w3, Kp (fun _ => False) wr w3 → Calls Tryd.prog 26 #[.pointer (some ⟨d, 0, none⟩), .string (nmOf m)] w3 (Goes w0 w3 d 0 (S.rmAll n (l.take (k + 1))) F2)) := by
          refine Lib.hid fun w3 hk3 => ?_
          have := (hD2.step hk3).remove (nmOf m) (by rw [nm_size]; decide)
          rw [← hst2, opE_idle hidl hch] at this
          exact this
        have HNM := Lib.hid (name_any wr m hm9)
        have HF := Lib.hid (And.intro hF2 hk2)
        clear hD2 hF2 hk2 hm hmk hch hidl hm9 hst2 hmn
        go_wp2_with (first
          | (go_at_call 22; refine HNM.out.mono ?_; rintro e w3 ⟨rfl, hk3⟩; have HK3 := Lib.hid hk3; clear hk3)
          | (go_at_call 26; refine (HRM.out _ HK3.out).mono ?_; rintro e w4 ⟨rfl, hg⟩; have HG := Lib.hid hg; clear hg))
        go_roundw
        case rel => exact ⟨k + 1, by omega, by go_num, Hand.trans (HF.out.2.trans (HK3.out.mono fun _ h => h.elim)) (fun i h => (HF.out.1 i h).imp id fun h => h) (HG.out)⟩
        case measure => simp [intOf]; omega
    · obtain rfl : k = l.length := by omega
      have HH := Lib.hid hh
      clear hh
      go_wp2
      go_ret
      obtain ⟨F', h1, h2, h3⟩ := HH.out
      rw [List.take_length] at h1
      exact ⟨rfl, F', h1, fun k hk' => (h2 k hk').imp id fun h => Nat.le_trans HKK.out.size h, (HKK.out.mono fun _ h => h.elim).trans h3⟩
end Go.Proofs.YtmcmapaapffadaaDoor

/-
  snap.Load: of a disk that is on, whose last snapshot is whole; of one that has none; of no disk.
-/
import Derived.Test.YtmcmapaapffadaaDoorList
import Derived.Test.YtmcmapaapffadaaDoorPayload
import Derived.OwnWalk
namespace Go.Proofs.YtmcmapaapffadaaDoor
open Go.RowKit Go.Shelf Go.ChangeMaps

set_option maxRecDepth 100000 in
set_option maxHeartbeats 2000000 in
theorem Load_nil (w : World) : Calls Tryd.prog 6 #[.pointer none] w fun e w' => e = .returned (.tuple #[.int .i64 0, .slice none 0 0, .int .i64 7]) ∧ w = w' := by
  go_enter Tryd.func6, Tryd.ntmps6
  go_wp2
  go_ret3
  exact ⟨rfl, rfl⟩
theorem BytesAt.ptr {w : World} {F : Nat → Prop} {v : Value} {bs : List Int} (h : BytesAt w F v bs) (hn : 0 < bs.length) : ∃ b o n c, v = .slice (some ⟨b, o, none⟩) n c := by
  obtain ⟨p, c, rfl, _, h⟩ := h
  obtain ⟨b, o, rfl, _⟩ := h 0 bs[0] (List.getElem?_eq_getElem hn)
  exact ⟨_, _, _, _, rfl⟩
theorem rev_z {w : World} {B z c : Nat} {p : Option Addr} {ns : List Nat} (h : OwnI w B (.slice p ns.length c) ns) (hz : ns.length = z) (hl : z ≤ 64) :
    Calls Tryd.prog 20 #[.slice p z c] w fun e w' => e = .returned (.tuple #[]) ∧ RowI w' (.slice p ns.length c) ns.reverse ∧ Kp (fun k => (Value.slice p ns.length c).ownBlock = some k) w w' := by
  have := Reverse_ints h (by omega)
  rw [hz] at this ⊢; exact this
theorem snapsOf_length (fs : Files) : (snapsOf fs).length ≤ fs.length := by
  unfold snapsOf
  have := List.length_filterMap_le numB (namesB fs)
  rw [namesB_length] at this; exact this
set_option maxRecDepth 100000 in
set_option maxHeartbeats 2000000 in
theorem Load_none {w0 w : World} {d : Nat} {S : St} {F : Nat → Prop} (h : Dsk w0 w d S F) (hoff : S.off = false) (ht : ∀ s ∈ S.files.map (·.1), Tidy s) (h0 : snapsOf S.files = []) :
    Calls Tryd.prog 6 #[.pointer (some ⟨d, 0, none⟩)] w fun e w' => e = .returned (.tuple #[.int .i64 0, .slice none 0 0, .int .i64 7]) ∧ Kp (fun _ => False) w w' := by
  have hL := List_any h hoff ht
  have hon := h.on
  rw [hoff] at hon
  rw [h0] at hL
  clear h hoff ht h0
  go_enter Tryd.func6, Tryd.ntmps6
  go_wp2_with (first
    | (go_at_call 19; refine hon.mono ?_; rintro e w' ⟨rfl, rfl⟩)
    | (go_at_call 12; refine hL.mono ?_; rintro e w1 ⟨v1, rfl, ho1, hk1⟩; obtain ⟨p1, c1, rfl⟩ := ho1.slice; have HO1 := Lib.hid ho1; have HK1 := Lib.hid hk1; clear ho1 hk1)
    | (go_at_call 20; refine (Reverse_ints HO1.out (by simp)).mono ?_; rintro e w2 ⟨rfl, hr2, hk2⟩; have HR2 := Lib.hid hr2; have HK2 := Lib.hid hk2; clear hr2 hk2))
  go_loopw [23] (fun vi wr => vi = .int .i64 0 ∧ wr = w2) (fun _ _ => 0)
  case atStart => exact ⟨rfl, rfl⟩
  case round =>
    obtain ⟨rfl, rfl⟩ := hrel
    go_wp2
    go_ret3
    exact ⟨rfl, HK1.out.trans' HK2.out fun i hi => .inr (HO1.out.lt i hi).1⟩
set_option maxRecDepth 100000 in
set_option maxHeartbeats 2000000 in
theorem Load_some {w0 w : World} {d : Nat} {S : St} {F : Nat → Prop} {ns : List Nat} {n : Nat} {bs : List Int} (h : Dsk w0 w d S F) (hoff : S.off = false) (ht : ∀ s ∈ S.files.map (·.1), Tidy s) (h0 : snapsOf S.files = ns ++ [n]) (hn : n ≤ 999999999999)
    (hmem : S.check (nmOf n) true = 0) (hfile : bytesOf (getF S.files (nmOf n)) = secF bs) (hb : Byts bs) (h1 : 1 ≤ bs.length) (h2 : bs.length ≤ 400000) :
    Calls Tryd.prog 6 #[.pointer (some ⟨d, 0, none⟩)] w fun e w' => ∃ v, e = .returned (.tuple #[.int .i64 (n : Nat), v, .int .i64 0]) ∧ BytesAt w' F v bs ∧ Kp (fun _ => False) w w' := by
  have hL := List_any h hoff ht
  have hon := h.on
  have hnl : (ns ++ [n]).length ≤ 64 := by rw [← h0]; exact Nat.le_trans (snapsOf_length _) h.ok.count
  rw [hoff] at hon
  rw [h0] at hL
  have HN := Lib.hid hn
  have HD := Lib.hid (And.intro h (And.intro hmem (And.intro hfile (And.intro hb (And.intro h1 h2)))))
  clear h hoff ht h0 hn hmem hfile hb h1 h2
  obtain ⟨l, hl⟩ : ∃ l, ns ++ [n] = l := ⟨_, rfl⟩
  have hrev : l.reverse = n :: ns.reverse := by rw [← hl]; simp
  have hlen : l.length = ns.length + 1 := by rw [← hl]; simp
  rw [hl] at hL hnl
  clear hl
  have HREV := Lib.hid hrev
  obtain ⟨z, hz⟩ : ∃ z, l.length = z := ⟨_, rfl⟩
  have hlen : 1 ≤ z ∧ z ≤ 64 := by omega
  have HZ := Lib.hid hz
  have HLEN := Lib.hid hlen
  clear hrev hz hlen hnl
  go_enter Tryd.func6, Tryd.ntmps6
  go_wp2_with (first
    | (go_at_call 19; refine hon.mono ?_; rintro e w' ⟨rfl, rfl⟩)
    | (go_at_call 12; refine hL.mono ?_; rintro e w1 ⟨v1, rfl, ho1, hk1⟩; obtain ⟨p1, c1, rfl⟩ := ho1.slice; have HO1 := Lib.hid ho1; have HK1 := Lib.hid hk1; clear ho1 hk1; rw [HZ.out])
    | (go_at_call 20; refine (rev_z HO1.out HZ.out HLEN.out.2).mono ?_; rintro e w2 ⟨rfl, hr2, hk2⟩; have HR2 := Lib.hid hr2; have HK2 := Lib.hid hk2; clear hr2 hk2))
  go_loopw [23] (fun vi wr => vi = .int .i64 0 ∧ wr = w2) (fun _ _ => 0)
  case atStart => exact ⟨rfl, rfl⟩
  case round =>
    obtain ⟨rfl, rfl⟩ := hrel
    have hk3 : Kp (fun _ => False) w wr := HK1.out.trans' HK2.out fun i hi => .inr (HO1.out.lt i hi).1
    have hD3 := HD.out.1.step hk3
    have HK3 := Lib.hid hk3
    obtain ⟨pp, cc, e, hcl⟩ := HR2.out
    injection e with e1 e2 e3
    obtain ⟨bb, hbb, hcell⟩ := hcl 0 n (by rw [HREV.out]; rfl)
    rw [← e1] at hbb
    subst hbb
    have h01 : (0 : Int) < (z : Int) := by have := HLEN.out; omega
    have HD3 := Lib.hid hD3
    clear hcl e1 e2 e3 hk3 hD3
    have hnc := (name_any wr n HN.out)
    go_wp2_with (first
      | (go_at_call 22; refine hnc.mono ?_; rintro e w4 ⟨rfl, hk4⟩; have HK4 := Lib.hid hk4; clear hk4)
      | (go_at_call 21; refine ((HD3.out.step HK4.out).read_ok (nmOf n) (by rw [nm_size]; decide) HD.out.2.1).mono ?_; rintro e w5 ⟨v5, rfl, hd5, hk5, hb5⟩; have HD5 := Lib.hid hd5; have HK5 := Lib.hid hk5; have HB5 := Lib.hid hb5; clear hd5 hk5 hb5)
      | (go_at_call 23; refine Hid.out ?_))
    obtain ⟨_, _, hfile, hby, hl1, hl2⟩ := HD.out
    have hb5 := HB5.out
    rw [hfile] at hb5
    obtain ⟨b5, o5, n5, c5, rfl⟩ := hb5.ptr (by rw [secF_length]; unfold partsN; omega)
    refine Lib.hid ?_
    refine (payload_any hb5 hby hl1 hl2).mono ?_
    rintro e w6 ⟨v6, rfl, hb6, hk6⟩
    have HB6 := Lib.hid hb6
    have HK6 := Lib.hid hk6
    clear hb5 hb6 hk6 hfile hby hl1 hl2
    go_wp2
    go_ret3
    exact ⟨_, rfl, HB6.out.mono fun k hk => HD5.out.flt k hk, HK3.out.trans (HK4.out.trans (HK5.out.trans HK6.out))⟩
end Go.Proofs.YtmcmapaapffadaaDoor

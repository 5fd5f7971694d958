/-
  The three steps of snap.Write: Append, Sync, Rename.
-/
import Derived.Test.YtmcmapaapffadaaDoorLoad
import Derived.Laws.EntriesVeiled
namespace Go.Proofs.YtmcmapaapffadaaDoor
open Go.RowKit Go.Shelf Go.ChangeMaps

def tN : Nm := ⟨#[116]⟩
theorem tN_size : tN.size = 1 := rfl
theorem Goes.pre {w0 w w1 w2 : World} {d : Nat} {n : Int} {S : St} {F : Nat → Prop} {e : Ending} (hk : Kp (fun _ => False) w w1) (h : Goes w0 w1 d n S F e w2) : Goes w0 w d n S F e w2 := by
  obtain ⟨he, F', h1, h2, h3⟩ := h
  refine ⟨he, F', h1, fun k hk' => (h2 k hk').imp id fun h => Nat.le_trans hk.size h, (hk.mono fun _ h => h.elim).trans h3⟩
theorem BytesAt.holds {w : World} {F : Nat → Prop} {b o n c : Nat} {bs : List Int} (h : BytesAt w F (.slice (some ⟨b, o, none⟩) n c) bs) : Holds8 w b o bs := by
  intro j v hj
  simp only [byteVals, List.getElem?_map, Option.map_eq_some_iff] at hj
  obtain ⟨x, hx, rfl⟩ := hj
  obtain ⟨b', o', e, hc⟩ := h.at_ j x hx
  injection e with e
  injection e with e1 e2 _
  subst e1 e2
  exact hc
theorem secF_len_le {bs : List Int} (h : bs.length ≤ 400000) : (secF bs).length ≤ 600000 := by rw [secF_length]; unfold partsN; omega

set_option maxRecDepth 100000 in
set_option maxHeartbeats 2000000 in
theorem Step1_any {w0 w : World} {d : Nat} {S : St} {F : Nat → Prop} {Bd Bp b o len cap : Nat} {bs : List Int} (h : Dsk w0 w d S F)
    (c1 : w.cell? ⟨Bd, 0, none⟩ = some (.pointer (some ⟨d, 0, none⟩))) (c2 : w.cell? ⟨Bp, 0, none⟩ = some (.slice (some ⟨b, o, none⟩) len cap)) (hf1 : ¬ F Bd) (hf2 : ¬ F Bp)
    (hp : BytesAt w F (.slice (some ⟨b, o, none⟩) len cap) bs) (hb : Byts bs) (h1 : 1 ≤ bs.length) (h2 : bs.length ≤ 400000) :
    Calls Tryd.prog 27 #[.pointer (some ⟨Bd, 0, none⟩), .pointer (some ⟨Bp, 0, none⟩)] w (Goes w0 w d (S.appE tN (secF bs).length) (S.appT tN (secF bs)) F) := by
  have hkd : Kp (fun _ => False) w w.drew := (Kp.refl _ w).drew
  have hs := sectors_any (hp.kept (Kp.refl F w).drew (F' := F) fun _ h => .inl h) hb h2
  have hd := h.drew
  have c1' : w.drew.cell? ⟨Bd, 0, none⟩ = some (.pointer (some ⟨d, 0, none⟩)) := c1
  have c2' : w.drew.cell? ⟨Bp, 0, none⟩ = some (.slice (some ⟨b, o, none⟩) len cap) := c2
  have HAP : Hid (∀ w1 v1, Own8 w1 w.drew.heap.size v1 (secF bs) → Kp (fun _ => False) w.drew w1 → ∃ b2 o2 n2 c2, v1 = .slice (some ⟨b2, o2, none⟩) n2 c2 ∧
      (w1.cell? ⟨Bd, 0, none⟩ = some (.pointer (some ⟨d, 0, none⟩)) ∧ w1.cell? ⟨Bp, 0, none⟩ = some (.slice (some ⟨b, o, none⟩) len cap)) ∧
      Calls Tryd.prog 28 #[.pointer (some ⟨d, 0, none⟩), .string tN, .slice (some ⟨b2, o2, none⟩) n2 c2] w1 fun e w' => Goes w0 w d (S.appE tN (secF bs).length) (S.appT tN (secF bs)) F e w' ∧
        w'.cell? ⟨Bd, 0, none⟩ = some (.pointer (some ⟨d, 0, none⟩)) ∧ w'.cell? ⟨Bp, 0, none⟩ = some (.slice (some ⟨b, o, none⟩) len cap)) := by
    refine Lib.hid fun w1 v1 ho hk => ?_
    have hb := ho.bytes (fun k => k < w.drew.heap.size) fun k hk hF => by have := (ho.lt k hk).1; omega
    have hsl : 0 < (secF bs).length := by rw [secF_length]; unfold partsN; omega
    obtain ⟨b2, o2, n2, c2, rfl⟩ := hb.ptr hsl
    obtain ⟨rfl, hcap⟩ := hb.len
    have e0 := hk.cell c1' id
    have e1 := hk.cell c2' id
    refine ⟨_, _, _, _, rfl, ⟨e0, e1⟩, ?_⟩
    refine ((hd.step hk).append tN (by rw [tN_size]; decide) _ _ _ (Nat.le_trans (secF_len_le h2) (by decide)) hcap (secF bs) rfl b2 o2 (fun _ => rfl) hb.holds).mono ?_
    rintro e w2 hg
    have hg' := hg
    obtain ⟨_, F', _, _, hk2⟩ := hg'
    exact ⟨Goes.pre (hkd.trans hk) hg, hk2.cell e0 hf1, hk2.cell e1 hf2⟩
  clear h hp hb h1 h2 hd hkd c1 c2
  go_enter Tryd.func27, Tryd.ntmps27
  go_wp2
  go_region_held3 (fun w' => w'.cell? ⟨Bd, 0, none⟩ = some (.pointer (some ⟨d, 0, none⟩)) ∧ w'.cell? ⟨Bp, 0, none⟩ = some (.slice (some ⟨b, o, none⟩) len cap)) (first | exact ⟨c1', c2'⟩ | exact ⟨e0, e1⟩ | exact ⟨f0, f1⟩) (first
    | (go_at_call 29; refine hs.mono ?_; rintro e w1 ⟨v1, rfl, ho1, hk1⟩; obtain ⟨b2, o2, n2, c2, rfl, ⟨e0, e1⟩, hap⟩ := HAP.out w1 v1 ho1 hk1; clear ho1 hk1)
    | (go_at_call 28; refine hap.mono ?_; rintro e w2 ⟨⟨rfl, hg⟩, f0, f1⟩; have HG := Lib.hid hg; clear hg))
  go_wp2
  go_ret
  exact ⟨rfl, HG.out⟩
set_option maxRecDepth 100000 in
set_option maxHeartbeats 2000000 in
theorem Step2_any {w0 w : World} {d : Nat} {S : St} {F : Nat → Prop} {Bd : Nat} (h : Dsk w0 w d S F) (c1 : w.cell? ⟨Bd, 0, none⟩ = some (.pointer (some ⟨d, 0, none⟩))) :
    Calls Tryd.prog 30 #[.pointer (some ⟨Bd, 0, none⟩)] w (Goes w0 w d (S.opE (S.check tN true)) (S.opS (S.check tN true) (Hg.sync tN)) F) := by
  have hs := h.sync tN (by rw [tN_size]; decide)
  clear h
  go_enter Tryd.func30, Tryd.ntmps30
  go_wp2_with (go_at_call 31; refine hs.mono ?_; rintro e w1 ⟨rfl, hg⟩; have HG := Lib.hid hg; clear hg)
  go_ret
  exact ⟨rfl, HG.out⟩
set_option maxRecDepth 100000 in
set_option maxHeartbeats 2000000 in
theorem Step3_any {w0 w : World} {d : Nat} {S : St} {F : Nat → Prop} {Bd Bn n : Nat} (h : Dsk w0 w d S F) (hn : n ≤ 999999999999) (c1 : w.cell? ⟨Bd, 0, none⟩ = some (.pointer (some ⟨d, 0, none⟩)))
    (c2 : w.cell? ⟨Bn, 0, none⟩ = some (.int .i64 (n : Int))) (hf1 : ¬ F Bd) (hf2 : ¬ F Bn) :
    Calls Tryd.prog 32 #[.pointer (some ⟨Bd, 0, none⟩), .pointer (some ⟨Bn, 0, none⟩)] w (Goes w0 w d (S.renE tN (nmOf n)) (S.renS tN (nmOf n)) F) := by
  have hkd : Kp (fun _ => False) w w.drew := (Kp.refl _ w).drew
  have c1' : w.drew.cell? ⟨Bd, 0, none⟩ = some (.pointer (some ⟨d, 0, none⟩)) := c1
  have c2' : w.drew.cell? ⟨Bn, 0, none⟩ = some (.int .i64 (n : Int)) := c2
  have hnm := name_any w.drew n hn
  have HAP : Hid (∀ w1, Kp (fun _ => False) w.drew w1 →
      (w1.cell? ⟨Bd, 0, none⟩ = some (.pointer (some ⟨d, 0, none⟩)) ∧ w1.cell? ⟨Bn, 0, none⟩ = some (.int .i64 (n : Int))) ∧
      Calls Tryd.prog 33 #[.pointer (some ⟨d, 0, none⟩), .string tN, .string (nmOf n)] w1 fun e w' => Goes w0 w d (S.renE tN (nmOf n)) (S.renS tN (nmOf n)) F e w' ∧
        w'.cell? ⟨Bd, 0, none⟩ = some (.pointer (some ⟨d, 0, none⟩)) ∧ w'.cell? ⟨Bn, 0, none⟩ = some (.int .i64 (n : Int))) := by
    refine Lib.hid fun w1 hk => ?_
    have e0 := hk.cell c1' id
    have e1 := hk.cell c2' id
    refine ⟨⟨e0, e1⟩, ?_⟩
    refine ((h.drew.step hk).rename tN (nmOf n) (by rw [tN_size]; decide) (by rw [nm_size]; decide)).mono ?_
    rintro e w2 hg
    have hg' := hg
    obtain ⟨_, F', _, _, hk2⟩ := hg'
    exact ⟨Goes.pre (hkd.trans hk) hg, hk2.cell e0 hf1, hk2.cell e1 hf2⟩
  clear h hn hkd c1 c2
  go_enter Tryd.func32, Tryd.ntmps32
  go_wp2
  go_region_held3 (fun w' => w'.cell? ⟨Bd, 0, none⟩ = some (.pointer (some ⟨d, 0, none⟩)) ∧ w'.cell? ⟨Bn, 0, none⟩ = some (.int .i64 (n : Int))) (first | exact ⟨c1', c2'⟩ | exact ⟨e0, e1⟩ | exact ⟨f0, f1⟩) (first
    | (go_at_call 22; refine hnm.mono ?_; rintro e w1 ⟨rfl, hk1⟩; obtain ⟨⟨e0, e1⟩, hap⟩ := HAP.out w1 hk1; clear hk1)
    | (go_at_call 33; refine hap.mono ?_; rintro e w2 ⟨⟨rfl, hg⟩, f0, f1⟩; have HG := Lib.hid hg; clear hg))
  go_wp2
  go_ret
  exact ⟨rfl, HG.out⟩
end Go.Proofs.YtmcmapaapffadaaDoor

/-
  passbooklaw11.awake: the document's first example.
-/
import Derived.Test.YtmcmapaapffadaaDoorCalm
namespace Go.Proofs.YtmcmapaapffadaaDoor
open Go.RowKit Go.Shelf Go.ChangeMaps

structure AwPath (S1 S2 : St) : Prop where
  e1 : (St.new 100).wrE 5 [97] = 0
  s1 : (St.new 100).wrS 5 [97] = S1
  o1 : S1.off = false
  e2 : S1.wrE 7 [98] = 0
  s2 : S1.wrS 7 [98] = S2
  o2 : S2.off = false
  tidy : TidyS S2.files
  list : snapsOf S2.files = [5, 7]
  chk : S2.check (nmOf 7) true = 0
  bytes : bytesOf (getF S2.files (nmOf 7)) = secF [98]
theorem pay_one {x : Int} (h : 0 ≤ x ∧ x ≤ 255) : Pay [x] := ⟨fun y hy => by rw [List.mem_singleton] at hy; subst hy; exact h, by simp, by simp⟩
theorem aw_path : ∃ S1 S2, AwPath S1 S2 := by
  have hi : Idle (St.new 100) := ⟨rfl, rfl⟩
  obtain ⟨a1, a2, a3, a4, _, a6, a7⟩ := write_calm (n := 5) hi (whole_new 100) (by decide) (pay_one (x := 97) (by decide)) (by decide) (by decide)
  obtain ⟨S1, hS1⟩ : ∃ S1, (St.new 100).wrS 5 [97] = S1 := ⟨_, rfl⟩
  rw [hS1] at a2 a3 a4 a6 a7
  have u1 : used S1.files ≤ 1 := a6
  have l1 : S1.files.length ≤ 1 := a7
  have r1 : S1.room = 100 := a4
  obtain ⟨b1, b2, b3, _⟩ := write_calm (n := 7) a2 a3 (by decide) (pay_one (x := 98) (by decide)) (by rw [r1, show partsN (([98] : List Int).length + 4) = 1 from rfl]; omega) (by omega)
  obtain ⟨S2, hS2⟩ : ∃ S2, S1.wrS 7 [98] = S2 := ⟨_, rfl⟩
  rw [hS2] at b2 b3
  have hM : ∀ m, ((upd (upd (fun _ => none) 5 [97]) 7 [98] m).isSome = true) ↔ m = 5 ∨ m = 7 := by
    intro m
    unfold upd
    by_cases h7 : m = 7
    · simp [h7]
    · by_cases h5 : m = 5
      · simp [h5]
      · simp [h7, h5]
  obtain ⟨_, _, c, d⟩ := b3.newest b2.off (n := 7) (bs := [98]) (by decide) (by simp [upd]) fun m _ h => by rcases (hM m).1 h with h | h <;> omega
  exact ⟨S1, S2, a1, hS1, a2.off, b1, hS2, b2.off, b3.tidyS, b3.listed (by decide) fun n => by rw [hM]; simp; omega, c, d⟩
theorem const_bytes {w : World} {F : Nat → Prop} (x : Int) (hF : ∀ k, F k → k < w.heap.size) : BytesAt (w.alloc (.cells #[.int .u8 x] 5 (1, 2))) F (.slice (some ⟨w.heap.size, 0, none⟩) 1 1) [x] := by
  refine ⟨_, 1, rfl, Nat.le_refl _, fun j y hj => ⟨_, _, rfl, fun h => Nat.lt_irrefl _ (hF _ h), ?_⟩⟩
  obtain rfl : j = 0 := by
    have := (List.getElem?_eq_some_iff.1 hj).1
    simpa using this
  rw [Nat.zero_add, blk_cell (heap_alloc_new w _)]
  simpa using hj

set_option maxRecDepth 100000 in
set_option maxHeartbeats 2000000 in
theorem awake11_any (w : World) : Calls Tryd.prog 7 #[] w fun e w' => e = .returned (.bool true) ∧ Kp (fun _ => False) w w' := by
  obtain ⟨S1, S2, P⟩ := aw_path
  have c0 := New_dsk 100 (by omega) (by omega) w w (Kp.refl _ w)
  go_enter Tryd.func7, Tryd.ntmps7
  go_wp2_with (first
    | (go_at_call 13; refine c0.mono ?_; rintro e w1 ⟨d, F1, rfl, h1, -, -⟩; have H1 := Lib.hid h1; clear h1; have hcv := Lib.run_convert_bytes_const (P := Tryd.prog) w1 22 5 #[.int .u8 97] 1 1 (by kernel_rfl) (by kernel_rfl))
    | (go_at_call 8; refine Hid.out ?_))
  refine Lib.hid ?_
  have hw := Write_any (n := 5) (H1.out.alloc (.cells #[.int .u8 97] 5 (1, 2))) rfl (by decide) (const_bytes 97 H1.out.flt) (pay_one (x := 97) (by decide)).byts (by decide) (by decide)
  rw [P.e1, P.s1] at hw
  refine hw.mono ?_
  rintro e w2 ⟨rfl, F2, h2, -, -⟩
  have H2 := Lib.hid h2
  have hcv2 := Lib.run_convert_bytes_const (P := Tryd.prog) w2 22 5 #[.int .u8 98] 1 1 (by kernel_rfl) (by kernel_rfl)
  clear hw h2 hcv c0
  go_wp2_with (go_at_call 8; refine Hid.out ?_)
  refine Lib.hid ?_
  have hw := Write_any (n := 7) (H2.out.alloc (.cells #[.int .u8 98] 5 (1, 2))) P.o1 (by decide) (const_bytes 98 H2.out.flt) (pay_one (x := 98) (by decide)).byts (by decide) (by decide)
  rw [P.e2, P.s2] at hw
  refine hw.mono ?_
  rintro e w3 ⟨rfl, F3, h3, -, -⟩
  have hl := Load_some (ns := [5]) (n := 7) (bs := [98]) h3 P.o2 P.tidy P.list (by decide) P.chk P.bytes (pay_one (x := 98) (by decide)).byts (by decide) (by decide)
  have H3 := Lib.hid h3
  clear hw h3 hcv2
  go_wp2_with (go_at_call 6; refine hl.mono ?_; rintro e w4 ⟨v4, rfl, hb4, hk4⟩; have HK4 := Lib.hid hk4; obtain ⟨b4, o4, n4, c4, rfl⟩ := hb4.ptr (by decide); have hcv4 := convert_bytes hb4; rw [show strOfNums [98] = (⟨#[98]⟩ : ByteArray) from rfl] at hcv4; clear hb4 hk4)
  have hL := List_any (H3.out.step HK4.out) P.o2 P.tidy
  rw [P.list] at hL
  clear hcv4 hl
  go_wp2_with (first
    | (go_at_call 12; refine hL.mono ?_; rintro e w5 ⟨v5, rfl, hr5, hk5⟩; have HR5 := Lib.hid hr5; have HK5 := Lib.hid hk5; clear hr5 hk5)
    | (go_at_call 15; refine Hid.out ?_))
  refine Lib.hid ?_
  have h5 : RowI (w5.alloc (.cells #[.int .i64 5, .int .i64 7] 2)) v5 [5, 7] := (HR5.out.kept (F := fun _ => False) ((Kp.refl _ w5).alloc _) fun _ _ h => h).row
  have h6 : RowI (w5.alloc (.cells #[.int .i64 5, .int .i64 7] 2)) (.slice (some ⟨w5.heap.size, 0, none⟩) 2 2) [5, 7] := ⟨_, _, rfl, fun j n hj => ⟨_, rfl, by
    rw [blk_cell (heap_alloc_new w5 _)]
    match j, hj with
    | 0, hj => injection hj with hj; subst hj; rfl
    | 1, hj => injection hj with hj; subst hj; rfl⟩⟩
  refine (SameInts_same h5 h6 (by decide)).mono ?_
  rintro e w6 ⟨rfl, hk6⟩
  have HK := Lib.hid (H3.out.kp.trans (HK4.out.trans (HK5.out.trans (((Kp.refl (fun _ => False) w5).alloc _).trans hk6))))
  clear h5 h6 hL hk6
  go_wp2
  go_ret
  exact ⟨rfl, HK.out⟩
end Go.Proofs.YtmcmapaapffadaaDoor

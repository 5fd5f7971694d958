/-
  awake: the document's first example is as it should be.
-/
import Derived.Test.YtdncdnnlmddjhaaDoorOps
namespace Go.Proofs.YtdncdnnlmddjhaaDoor
open Go.RowKit Go.Shelf Go.ChangeMaps

def nmA : Nm := { data := #[97] }
def nmB : Nm := { data := #[98] }
theorem namesB_one {fs : Files} {n : Nm} {l : List Sec} (h : fs = [(n, l)]) : namesB fs = [n] := by
  subst h; simp [namesB, namesOf]
def awS1 : St := (St.new 4).appS nmA (List.replicate 33 0)
def awS2 : St := { awS1 with armed := 1 }
def awS3 : St := awS2.appS nmA [7]
def awL : List Sec := [secAt (List.replicate 33 0) 0, secAt (List.replicate 33 0) 1, secAt [7] 0]
theorem aw_e1 : (St.new 4).appE nmA 33 = 0 := by decide
theorem aw_t1 : (St.new 4).appT nmA (List.replicate 33 0) = awS1 := by
  unfold St.appT
  rw [if_neg (by decide), if_neg (by decide), if_neg (by decide), if_neg (by decide)]; rfl
theorem aw_f1 : awS1.files = [(nmA, [secAt (List.replicate 33 0) 0, secAt (List.replicate 33 0) 1])] := by rfl
theorem aw_e2 : awS1.appE nmB 96 = 17 := by decide
theorem aw_t2 : awS1.appT nmB (List.replicate 96 0) = awS1 := by
  unfold St.appT
  rw [if_neg (by decide), if_pos (by decide)]
theorem aw_e3 : awS2.appE nmA 1 = 18 := by decide
theorem aw_t3 : awS2.appT nmA [7] = awS3 := by
  unfold St.appT
  rw [if_neg (by decide), if_neg (by decide), if_neg (by decide), if_neg (by decide)]; rfl
theorem aw_off1 : awS1.off = false := by rfl
theorem aw_off3 : awS3.off = true := by rfl
theorem aw_ops3 : awS3.ops = 2 := by
  show wrap64 (wrap64 (0 + 1) + 1) = 2
  unfold wrap64; omega
theorem aw_f3 : awS3.files = [(nmA, awL)] := by rfl
def awS4 : St := awS3.restart false [false, true, true]
theorem aw_f4 : awS4.files = [(nmA, fateN [false, true, true] 0 awL)] := by
  unfold awS4 St.restart
  show (fateFold _ (namesB awS3.files) awS3.files).2 = _
  rw [aw_f3, namesB_one rfl]; rfl
theorem aw_c4 : awS4.check nmA true = 0 := by
  unfold St.check
  rw [if_neg (by decide), if_neg (by rw [aw_f4]; rintro ⟨_, h⟩; cases h), if_neg (by rintro h; cases h)]
theorem aw_b4 : bytesOf (getF awS4.files nmA) = List.replicate 64 0 ++ 7 :: List.replicate 31 0 := by
  rw [aw_f4]; rfl

theorem goes_cast {w0 w : World} {d : Nat} {n n' : Int} {S S' : St} {F : Nat → Prop} (hn : n = n') (hS : S = S') : Goes w0 w d n S F = Goes w0 w d n' S' F := by rw [hn, hS]
set_option maxRecDepth 100000 in
set_option maxHeartbeats 8000000 in
theorem awake_any (w : World) : Calls Tryd.prog 9 #[] w (fun e w' => e = .returned (.bool true) ∧ Kp (fun _ => False) w w') := by
  have hn := New_dsk 4 (by omega) (by omega) w w (Kp.refl _ w)
  have m33 := fun w => make_bytes 33 (by omega) w
  have m96 := fun w => make_bytes 96 (by omega) w
  simp only [Int.cast_ofNat_Int] at m33 m96
  go_enter Tryd.func9, Tryd.ntmps9
  go_wp2_with (first
    | (go_at_call 10; refine hn.mono ?_; rintro e w1 ⟨d, F1, rfl, h1, -, -⟩)
    | (go_at_call 12; refine Hid.out ?_))
  refine Lib.hid ?_
  have c1 := (h1.alloc (.cells (madeCells #[.int .u8 0] 33) 5)).append nmA (by decide) (some ⟨w1.heap.size, 0, none⟩) 33 33 (by omega) (by omega) (List.replicate 33 0) rfl w1.heap.size 0 (fun _ => rfl) (made_holds 33 w1)
  rw [aw_e1, aw_t1] at c1
  refine c1.mono ?_
  rintro e w2 ⟨rfl, F2, h2, -, -⟩
  clear c1 h1
  go_wp2_with (go_at_call 12; refine Hid.out ?_)
  refine Lib.hid ?_
  have c2 := (h2.alloc (.cells (madeCells #[.int .u8 0] 96) 5)).append nmB (by decide) (some ⟨w2.heap.size, 0, none⟩) 96 96 (by omega) (by omega) (List.replicate 96 0) rfl w2.heap.size 0 (fun _ => rfl) (made_holds 96 w2)
  rw [aw_e2, aw_t2] at c2
  refine c2.mono ?_
  rintro e w3 ⟨rfl, F3, h3, -, -⟩
  clear c2 h2
  have c3 := h3.arm aw_off1 1 ⟨by omega, by omega⟩
  go_wp2_with (first
    | (go_at_call 16; refine c3.mono ?_; rintro e w4 ⟨rfl, F4, h4, -, -⟩)
    | (go_at_call 12; refine Hid.out ?_))
  refine Lib.hid ?_
  have c4 := (h4.alloc (.cells #[.int .u8 7] 5)).append nmA (by decide) (some ⟨w4.heap.size, 0, none⟩) 1 1 (by omega) (by omega) [7] rfl w4.heap.size 0 (fun _ => rfl) (by
    intro j v hj
    rw [Nat.zero_add, blk_cell (heap_alloc_new w4 _)]
    simpa [byteVals] using hj)
  rw [show ({ awS1 with armed := 1 } : St) = awS2 from rfl, aw_e3, aw_t3] at c4
  refine c4.mono ?_
  rintro e w5 ⟨rfl, F5, h5, -, -⟩
  clear c4 c3 h4 h3
  have c5 := h5.on
  have c6 := h5.ops
  rw [aw_off3] at c5
  rw [aw_ops3] at c6
  have ho : OutK F5 (some ⟨w5.heap.size, 0, none⟩) := fun kb ko e hf => by have := h5.flt kb hf; injection e with e; injection e with e _ _; omega
  have c7 := (h5.alloc (.cells #[.bool false, .bool true, .bool true] 4)).restart aw_off3 false [false, true, true] (some ⟨w5.heap.size, 0, none⟩) 3 (by simp) (by simp) (by
    intro j b hj
    refine ⟨_, _, rfl, ?_⟩
    rw [Nat.zero_add, blk_cell (heap_alloc_new w5 _)]
    match j, hj with
    | 0, hj => injection hj with hj; subst hj; rfl
    | 1, hj => injection hj with hj; subst hj; rfl
    | 2, hj => injection hj with hj; subst hj; rfl) ho (fun kb ko e hf => by injection e with e; injection e with e _ _; simp at hf; omega)
  go_wp2_with (first
    | (go_at_call 22; refine c5.mono ?_; rintro e w' ⟨rfl, rfl⟩)
    | (go_at_call 21; refine c6.mono ?_; rintro e w' ⟨rfl, rfl⟩)
    | (go_at_call 17; refine c7.mono ?_; rintro e w6 ⟨rfl, F6, h6, -, -⟩)
    | (go_at_call 15; refine Hid.out ?_))
  refine Lib.hid ?_
  have c8 := h6.read_ok nmA (by decide) aw_c4
  refine c8.mono ?_
  rintro e w7 ⟨v, rfl, h7, -, hb⟩
  clear c8 c7 c6 c5
  rw [show awS3.restart false [false, true, true] = awS4 from rfl, aw_b4] at hb
  obtain ⟨p, c, rfl, -, hb⟩ := hb
  obtain ⟨b, o, rfl, -, hx⟩ := hb 64 7 (by decide)
  have hl : (List.replicate 64 (0 : Int) ++ 7 :: List.replicate 31 0).length = 96 := by decide
  rw [hl]
  have HK := Lib.hid h7.kp
  clear h7 h6 h5 hb hl
  go_wp2
  go_ret
  exact ⟨rfl, HK.out⟩
end Go.Proofs.YtdncdnnlmddjhaaDoor

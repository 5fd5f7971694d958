/-
  DiskFull: what is refused for room changes nothing, and as much as there is room for is taken.
-/
import Derived.Test.YtdncdnnlmddjhaaDoorAwake
namespace Go.Proofs.YtdncdnnlmddjhaaDoor
open Go.RowKit Go.Shelf Go.ChangeMaps

/-- Where one file alone is written: u sectors. -/
structure FullInv (n : Int) (u : Nat) (S : St) : Prop where
  room : S.room = n
  off : S.off = false
  armed : S.armed = 0
  files : S.files = [] ∧ u = 0 ∨ ∃ l, S.files = [(nmA, l)] ∧ l.length = u
  le : (u : Int) ≤ n
theorem nameB_A : nameB nmA = true := by decide
theorem FullInv.used {n : Int} {u : Nat} {S : St} (h : FullInv n u S) : used S.files = u := by
  rcases h.files with ⟨e, rfl⟩ | ⟨l, e, rfl⟩ <;> simp [e, Proofs.YtdncdnnlmddjhaaDoor.used]
theorem FullInv.getF {n : Int} {u : Nat} {S : St} (h : FullInv n u S) : (getF S.files nmA).length = u := by
  rcases h.files with ⟨e, rfl⟩ | ⟨l, e, rfl⟩ <;> simp [e, Proofs.YtdncdnnlmddjhaaDoor.getF, get]
theorem FullInv.count {n : Int} {u : Nat} {S : St} (h : FullInv n u S) : S.files.length ≠ 64 := by
  rcases h.files with ⟨e, rfl⟩ | ⟨l, e, rfl⟩ <;> simp [e]
theorem FullInv.check {n : Int} {u : Nat} {S : St} (h : FullInv n u S) : S.check nmA true = 0 ∨ (S.check nmA true = 7 ∧ u = 0) := by
  unfold St.check
  rw [if_neg (by rw [nameB_A]; simp)]
  rcases h.files with ⟨h', rfl⟩ | ⟨l, h', rfl⟩
  · right; rw [if_pos ⟨rfl, by rw [h']; rfl⟩]; exact ⟨rfl, rfl⟩
  · left; rw [if_neg (by rw [h']; rintro ⟨_, e⟩; simp [get] at e), if_neg (by rw [h.off]; simp)]
theorem FullInv.size {n : Int} {u : Nat} {S : St} (h : FullInv n u S) : S.sizeOf nmA = u := by
  unfold St.sizeOf
  rcases h.check with hc | ⟨hc, rfl⟩
  · rw [if_pos hc, h.getF]
  · rw [if_neg (by rw [hc]; decide)]; rfl
theorem nsec_32 (k : Nat) : nsec (32 * k) = k := by unfold nsec; omega
theorem FullInv.no {n : Int} {u k : Nat} {S : St} (h : FullInv n u S) (hk : n < (u : Int) + k) : S.appE nmA (32 * k) = 17 ∧ S.appT nmA (List.replicate (32 * k) 0) = S := by
  unfold St.appE St.appT
  rw [List.length_replicate, nsec_32, h.used, h.room, nameB_A]
  simp only [if_pos hk]
  exact ⟨rfl, rfl⟩
theorem FullInv.yes {n : Int} {u k : Nat} {S : St} (h : FullInv n u S) (hk : ¬ n < (u : Int) + k) : S.appE nmA (32 * k) = 0 ∧ FullInv n (u + k) (S.appT nmA (List.replicate (32 * k) 0)) ∧ (S.appT nmA (List.replicate (32 * k) 0)).check nmA true = 0 := by
  have e : S.appT nmA (List.replicate (32 * k) 0) = S.appS nmA (List.replicate (32 * k) 0) := by
    unfold St.appT
    rw [List.length_replicate, nsec_32, h.used, h.room, if_neg (by rw [nameB_A]; simp), if_neg hk, if_neg (fun e => h.count e.2), if_neg (by rw [h.off]; simp)]
  have hd : S.doS .noop = { S with ops := wrap64 (S.ops + 1), armed := 0, files := S.files } := by
    unfold St.doS; rw [if_neg (by rw [h.armed]; decide), if_pos h.armed]; rfl
  obtain ⟨l, hl, hll⟩ : ∃ l, (S.appS nmA (List.replicate (32 * k) 0)).files = [(nmA, l)] ∧ l.length = u + k := by
    refine ⟨Proofs.YtdncdnnlmddjhaaDoor.getF S.files nmA ++ (List.range (nsec (32 * k))).map (secAt (List.replicate (32 * k) 0)), ?_, ?_⟩
    · unfold St.appS
      rw [List.length_replicate]
      rcases h.files with ⟨h', rfl⟩ | ⟨l, h', rfl⟩
      · rw [h']; rfl
      · rw [h']; simp [put]
    · rw [List.length_append, h.getF, List.length_map, List.length_range, nsec_32]
  refine ⟨?_, ?_, ?_⟩
  · unfold St.appE
    rw [nsec_32, h.used, h.room, if_neg (by rw [nameB_A]; simp), if_neg hk, if_neg (fun e => h.count e.2), if_neg (by rw [h.off]; simp)]
    unfold St.doE
    rw [if_neg (by rw [h.armed]; decide)]
  · rw [e]
    refine ⟨?_, ?_, ?_, .inr ⟨l, hl, hll⟩, by omega⟩
    · show (S.doS .noop).room = n; rw [hd]; exact h.room
    · show (S.doS .noop).off = false; rw [hd]; exact h.off
    · show (S.doS .noop).armed = 0; rw [hd]
  · rw [e]
    unfold St.check
    rw [if_neg (by rw [nameB_A]; simp), if_neg (by rw [hl]; rintro ⟨_, e⟩; simp [get] at e), if_neg]
    show ¬ (S.doS .noop).off = true
    rw [hd]; simpa using h.off

set_option maxRecDepth 100000 in
set_option maxHeartbeats 8000000 in
theorem DiskFull_any (w : World) (r : Int) (hr : 0 ≤ r ∧ r ≤ 255) (p : Option Addr) (len cap : Nat) (hlen : len ≤ 9223372036854775807)
    (hx : ∀ j, j < len → ∃ b o x, p = some ⟨b, o, none⟩ ∧ 0 ≤ x ∧ x ≤ 255 ∧ w.cell? ⟨b, o + j, none⟩ = some (.int .u8 x)) :
    Calls Tryd.prog 3 #[.int .u8 r, .slice p len cap] w (fun e w' => e = .returned (.bool true) ∧ Kp (fun _ => False) w w') := by
  have ha := awake_any w
  obtain ⟨n, hn⟩ : ∃ n, n = 1 + r % 40 := ⟨_, rfl⟩
  have hn1 : 1 ≤ n ∧ n ≤ 65536 := by omega
  have HX := Lib.hid hx
  have HL := Lib.hid hlen
  clear hx hlen
  go_enter Tryd.func3, Tryd.ntmps3
  go_wp2_with (first
    | (go_at_call 9; refine ha.mono ?_; rintro e w1 ⟨rfl, hk1⟩)
    | (go_at_call 10; refine Hid.out ?_))
  refine Lib.hid ?_
  have hn' := New_dsk n hn1.1 hn1.2 w w1 hk1
  rw [← hn]
  refine hn'.mono ?_
  rintro e w2 ⟨d, F, rfl, h2, -, -⟩
  have H2 := Lib.hid h2
  have HI : Hid (FullInv n 0 (St.new n)) := ⟨rfl, rfl, rfl, .inl ⟨rfl, rfl⟩, by omega⟩
  clear h2 hn' ha hk1 hn
  go_wp2
  go_loopw [36, 8] (fun vi vu wr => ∃ i u : Nat, i ≤ len ∧ vi = .int .i64 i ∧ vu = .int .i64 u ∧ ∃ S F, Dsk w wr d S F ∧ FullInv n u S) (fun i _ _ => len - (intOf i).toNat)
  case atStart => exact ⟨0, 0, Nat.zero_le _, rfl, rfl, _, _, H2.out, HI.out⟩
  case round =>
    obtain ⟨i, u, hi, rfl, rfl, S, F, hD, hI⟩ := hrel
    have HI := Lib.hid hI
    have hun := hI.le
    clear H2
    by_cases hil : i < len
    · obtain ⟨b, o, x, rfl, x0, x1, hxc⟩ := HX.out i hil
      have hxr := hD.kp.cell hxc id
      have hHD := Lib.hid hD
      have HKP := Lib.hid hD.kp
      by_cases h100 : i < 100
      · obtain ⟨k, hk⟩ : ∃ k : Nat, x % 9 = (k : Int) := ⟨(x % 9).toNat, by omega⟩
        have hk9 : k < 9 := by omega
        have hm : ∀ w, (Instr.makeSlice 22 (.int .i64 (32 * (k : Int))) (.int .i64 (32 * (k : Int)))).run Tryd.prog w = .ok (.slice (some ⟨w.heap.size, 0, none⟩) (32 * k) (32 * k)) (w.alloc (.cells (madeCells #[.int .u8 0] (32 * k)) 5)) := fun w => by
          have := make_bytes (32 * k) (by omega) w
          simpa using this
        have cs := hD.size nmA (by decide)
        rw [hI.size] at cs
        have hap := (hD.alloc (.cells (madeCells #[.int .u8 0] (32 * k)) 5)).append nmA (by decide) (some ⟨wr.heap.size, 0, none⟩) (32 * k) (32 * k) (by omega) (Nat.le_refl _) (List.replicate (32 * k) 0) (by simp) wr.heap.size 0 (fun _ => rfl) (made_holds (32 * k) wr)
        have hck := hI.check
        by_cases hno : n < (u : Int) + k
        · obtain ⟨q1, q2⟩ := hI.no hno
          rw [q1, q2] at hap
          clear hD q1 q2 HX
          rcases hck with hc | ⟨hc, hu0⟩
          · rw [hc] at cs
            go_wp2_with (first
              | (go_at_call 11; refine cs.mono ?_; rintro e w' ⟨rfl, rfl⟩)
              | (go_at_call 12; refine hap.mono ?_; rintro e w3 ⟨rfl, F3, h3, -, -⟩; have cs2 := h3.size nmA (by decide); rw [HI.out.size, hc] at cs2; have H3 := Lib.hid h3; clear h3)
              | (go_at_call 11; refine cs2.mono ?_; rintro e w' ⟨rfl, rfl⟩))
            go_roundw
            case rel => exact ⟨i + 1, u, by omega, by go_num, rfl, S, F3, H3.out, HI.out⟩
            case measure => simp [intOf]; omega
          · rw [hc] at cs
            go_wp2_with (first
              | (go_at_call 11; refine cs.mono ?_; rintro e w' ⟨rfl, rfl⟩)
              | (go_at_call 12; refine hap.mono ?_; rintro e w3 ⟨rfl, F3, h3, -, -⟩; have cs2 := h3.size nmA (by decide); rw [HI.out.size, hc] at cs2; have H3 := Lib.hid h3; clear h3)
              | (go_at_call 11; refine cs2.mono ?_; rintro e w' ⟨rfl, rfl⟩))
            go_roundw
            case rel => exact ⟨i + 1, u, by omega, by go_num, by simp [hu0], S, F3, H3.out, HI.out⟩
            case measure => simp [intOf]; omega
        · obtain ⟨q1, q2, q3⟩ := hI.yes hno
          rw [q1] at hap
          have HI2 := Lib.hid q2
          clear hD q1 q2 HX
          rcases hck with hc | ⟨hc, hu0⟩
          · rw [hc] at cs
            go_wp2_with (first
              | (go_at_call 11; refine cs.mono ?_; rintro e w' ⟨rfl, rfl⟩)
              | (go_at_call 12; refine hap.mono ?_; rintro e w3 ⟨rfl, F3, h3, -, -⟩; have cs2 := h3.size nmA (by decide); rw [HI2.out.size, q3] at cs2; have H3 := Lib.hid h3; clear h3)
              | (go_at_call 11; refine cs2.mono ?_; rintro e w' ⟨rfl, rfl⟩))
            go_roundw
            case rel => exact ⟨i + 1, u + k, by omega, by go_num, by go_num, _, F3, H3.out, HI2.out⟩
            case measure => simp [intOf]; omega
          · rw [hc] at cs
            go_wp2_with (first
              | (go_at_call 11; refine cs.mono ?_; rintro e w' ⟨rfl, rfl⟩)
              | (go_at_call 12; refine hap.mono ?_; rintro e w3 ⟨rfl, F3, h3, -, -⟩; have cs2 := h3.size nmA (by decide); rw [HI2.out.size, q3] at cs2; have H3 := Lib.hid h3; clear h3)
              | (go_at_call 11; refine cs2.mono ?_; rintro e w' ⟨rfl, rfl⟩))
            go_roundw
            case rel => exact ⟨i + 1, u + k, by omega, by go_num, by first | go_num | simp [hu0], _, F3, H3.out, HI2.out⟩
            case measure => simp [intOf]; omega
      · clear hD hI HX
        go_wp2
        go_ret
        exact ⟨rfl, HKP.out⟩
    · have HKP := Lib.hid hD.kp
      clear hD hI HX
      obtain rfl : i = len := by omega
      go_wp2
      go_ret
      exact ⟨rfl, HKP.out⟩
end Go.Proofs.YtdncdnnlmddjhaaDoor

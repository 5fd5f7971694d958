/-
  SnapNil: a nil disk.
-/
import Derived.Test.YtmcmapaapffadaaDoorAwakeS
import Derived.Test.YtmcmapaapffadaaDoorBytes
namespace Go.Proofs.YtmcmapaapffadaaDoor
open Go.RowKit Go.Shelf Go.ChangeMaps

def wrNil (n : Int) (len : Nat) : Int := if n < 0 ∨ 999999999999 < n then 1 else if 400000 < len then 2 else if len = 0 then 3 else 7
set_option maxRecDepth 100000 in
set_option maxHeartbeats 2000000 in
theorem Write_nil (w : World) (n : Int) (p : Option Addr) (len cap : Nat) : Calls Tryd.prog 8 #[.pointer none, .int .i64 n, .slice p len cap] w fun e w' => e = .returned (.int .i64 (wrNil n len)) ∧ Kp (fun _ => False) w w' := by
  have HK : Hid (Kp (fun _ => False) w (((w.alloc (.cells #[.pointer none] 36)).alloc (.cells #[.int .i64 n] 2)).alloc (.cells #[.slice p len cap] 22))) := Lib.hid ((((Kp.refl _ w).alloc _).alloc _).alloc _)
  unfold wrNil
  by_cases h1 : n < 0
  · have hb : (decide (n < 0)) = true := by simpa using h1
    rw [if_pos (.inl h1)]
    clear h1
    go_enter Tryd.func8, Tryd.ntmps8
    go_wp2
    go_ret
    exact ⟨rfl, HK.out⟩
  by_cases h2 : 999999999999 < n
  · rw [if_pos (.inr h2)]
    go_enter Tryd.func8, Tryd.ntmps8
    go_wp2
    go_ret
    exact ⟨rfl, HK.out⟩
  rw [if_neg (by omega)]
  by_cases h3 : 400000 < len
  · rw [if_pos h3]
    have h3' : (400000 : Int) < (len : Int) := by omega
    clear h3
    go_enter Tryd.func8, Tryd.ntmps8
    go_wp2
    go_ret
    exact ⟨rfl, HK.out⟩
  rw [if_neg h3]
  have h3' : ¬ (400000 : Int) < (len : Int) := by omega
  clear h3
  by_cases h4 : len = 0
  · subst h4
    rw [if_pos rfl]
    go_enter Tryd.func8, Tryd.ntmps8
    go_wp2
    go_ret
    exact ⟨rfl, HK.out⟩
  rw [if_neg h4]
  have h4' : ((len : Int) == 0) = false := by simp; omega
  clear h4
  go_enter Tryd.func8, Tryd.ntmps8
  go_wp2
  go_ret
  exact ⟨rfl, HK.out⟩
set_option maxRecDepth 100000 in
set_option maxHeartbeats 2000000 in
theorem DocWrite_nil (w : World) (n : Int) (p : Option Addr) (len cap : Nat) : Calls Tryd.prog 10 #[.pointer none, .int .i64 n, .slice p len cap] w fun e w' => e = .returned (.int .i64 (wrNil n len)) ∧ w = w' := by
  unfold wrNil
  by_cases h1 : n < 0
  · rw [if_pos (.inl h1)]
    go_enter Tryd.func10, Tryd.ntmps10
    go_wp2
    go_ret
    exact ⟨rfl, rfl⟩
  by_cases h2 : 999999999999 < n
  · rw [if_pos (.inr h2)]
    go_enter Tryd.func10, Tryd.ntmps10
    go_wp2
    go_ret
    exact ⟨rfl, rfl⟩
  rw [if_neg (by omega)]
  by_cases h3 : 400000 < len
  · rw [if_pos h3]
    have h3' : (400000 : Int) < (len : Int) := by omega
    clear h3
    go_enter Tryd.func10, Tryd.ntmps10
    go_wp2
    go_ret
    exact ⟨rfl, rfl⟩
  rw [if_neg h3]
  have h3' : ¬ (400000 : Int) < (len : Int) := by omega
  clear h3
  by_cases h4 : len = 0
  · subst h4
    rw [if_pos rfl]
    go_enter Tryd.func10, Tryd.ntmps10
    go_wp2
    go_ret
    exact ⟨rfl, rfl⟩
  rw [if_neg h4]
  have h4' : ((len : Int) == 0) = false := by simp; omega
  clear h4
  go_enter Tryd.func10, Tryd.ntmps10
  go_wp2
  go_ret
  exact ⟨rfl, rfl⟩
set_option maxRecDepth 100000 in
set_option maxHeartbeats 2000000 in
theorem Clean_nil (w : World) : Calls Tryd.prog 11 #[.pointer none] w fun e w' => e = .returned (.int .i64 7) ∧ w = w' := by
  have hl := Load_nil w
  go_enter Tryd.func11, Tryd.ntmps11
  go_wp2_with (go_at_call 6; refine hl.mono ?_; rintro e w' ⟨rfl, rfl⟩)
  go_ret
  exact ⟨rfl, rfl⟩
set_option maxRecDepth 100000 in
set_option maxHeartbeats 2000000 in
theorem List_nil (w : World) : Calls Tryd.prog 12 #[.pointer none] w fun e w' => e = .returned (.slice none 0 0) ∧ w = w' := by
  have hl := Names_nil w
  go_enter Tryd.func12, Tryd.ntmps12
  go_wp2_with (go_at_call 25; refine hl.mono ?_; rintro e w' ⟨rfl, rfl⟩)
  go_loopw [3, 11] (fun vl vi wr => vl = .slice none 0 0 ∧ vi = .int .i64 0 ∧ wr = w) (fun _ _ _ => 0)
  case atStart => exact ⟨rfl, rfl, rfl⟩
  case round =>
    obtain ⟨rfl, rfl, rfl⟩ := hrel
    go_wp2
    go_ret
    exact ⟨rfl, rfl⟩
set_option maxRecDepth 100000 in
set_option maxHeartbeats 2000000 in
theorem SnapNil_any (w : World) (n : Int) (p : Option Addr) (len cap : Nat) (bs : List Int) (hp : BytesAt w (fun _ => False) (.slice p len cap) bs) (hl : len ≤ 140737488351232) :
    Calls Tryd.prog 3 #[.int .i64 n, .slice p len cap] w fun e w' => e = .returned (.bool true) ∧ Kp (fun _ => False) w w' := by
  obtain ⟨rfl, hc⟩ := hp.len
  have h0 := Load_nil w
  have ha := awake11_any w
  have HP := Lib.hid hp
  have HL := Lib.hid hl
  clear hp hl hc
  go_enter Tryd.func3, Tryd.ntmps3
  go_wp2_with (first
    | (go_at_call 6; refine h0.mono ?_; rintro e w' ⟨rfl, rfl⟩)
    | (go_at_call 7; refine ha.mono ?_; rintro e w1 ⟨rfl, hk1⟩; have HK1 := Lib.hid hk1; clear hk1)
    | (go_at_call 9; refine (Twin_bytes (HP.out.kept HK1.out (F' := fun _ => False) fun _ h => .inl h) HL.out).mono ?_; rintro e w2 ⟨g, c, rfl, -, -, -, -, hk2⟩; have HK2 := Lib.hid hk2; clear hk2)
    | (go_at_call 8; refine (Write_nil _ n _ _ _).mono ?_; rintro e w3 ⟨rfl, hk3⟩; have HK3 := Lib.hid hk3; clear hk3)
    | (go_at_call 10; refine (DocWrite_nil _ n _ _ _).mono ?_; rintro e w' ⟨rfl, rfl⟩)
    | (go_at_call 11; refine (Clean_nil _).mono ?_; rintro e w' ⟨rfl, rfl⟩)
    | (go_at_call 12; refine (List_nil _).mono ?_; rintro e w' ⟨rfl, rfl⟩))
  go_ret
  exact ⟨rfl, HK1.out.trans (HK2.out.trans HK3.out)⟩
end Go.Proofs.YtmcmapaapffadaaDoor

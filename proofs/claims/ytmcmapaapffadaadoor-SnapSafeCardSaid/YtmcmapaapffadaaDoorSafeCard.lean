/-
  SnapSafe is proved for every input, without conditions: at whatever operation of a write of a greater number the power goes, whatever sectors are kept, the snapshot that was found ahead of it is found, or the new one, byte for byte, and the next write does what it should; the arguments read as before.
-/
import Derived.Test.YtmcmapaapffadaaDoorLawKit
import Derived.Test.YtmcmapaapffadaaDoorSnapKit
import Derived.Test.YtmcmapaapffadaaDoorSafe
namespace Go.Proofs.YtmcmapaapffadaaDoor.snapSafe
open Go.ChangeShapes Go.WideShapes Go.ChangeAt Go.RowKit Go.Proofs.YtmcmapaapffadaaDoor

set_option maxRecDepth 100000 in
theorem contract (H : Type) (enc : TypeId × Value → H) (W : World) (base : Nat) (args : Array Value) (ds gs : List (DataW H)) (before : List MemPlace)
    (hval : ∀ (j : Nat) t v, Tryd.f5.params[j]? = some t → args[j]? = some v → Value.okWide Tryd.prog W .any base t v)
    (hW : DataW.Whole enc Tryd.prog Tryd.f5.params.toList Rows.snapSafeSpec.vars false W args.toList ds gs before)
    (hsz : (DataW.weightsEach Tryd.prog (Tryd.f5.params.toList ++ Rows.snapSafeSpec.plain.varTypes Tryd.prog) (ds ++ gs)).all (· ≤ reachBytes) = true) :
    Calls Tryd.prog 5 args W fun e W' => ∃ v, e = .returned v ∧ Rows.snapSafeSpec.post enc Tryd.prog Tryd.f5 false true false false W args v W' := by
  have hW' := hW
  obtain ⟨p, q, hA0, hV, rfl, _, _⟩ := hW
  have hA : DataW.TrodAll enc Tryd.prog W 0 (fun _ => true) true Tryd.f5.params.toList args.toList ds p := hA0
  rw [Tryd.params5] at hA hval
  obtain ⟨v0, v1, v2, v3, v4, d0, d1, d2, d3, d4, p0, p1, p2, p3, p4, rfl, rfl, rfl, h0, h1, h2, h3, h4⟩ := trodAll_five hA
  obtain ⟨rfl, rfl⟩ := trodVars_none hV
  have k0 := hval 0 22 v0 rfl rfl
  have k1 := hval 1 22 v1 rfl rfl
  have k2 := hval 2 22 v2 rfl rfl
  have k3 := hval 3 5 v3 rfl rfl
  have k4 := hval 4 45 v4 rfl rfl
  obtain ⟨a0, len0, cap0, bs0, rfl, hb0, hby0, hm0, hsl0⟩ := open_row k0 h0
  have hs0 : len0 ≤ 140737488351232 := hsl0 fun n hn => by
    have := List.all_eq_true.1 hsz _ (DataW.weights_mem_each (j := 0) (t := 22) (d := d0) (by rw [Tryd.params5]; rfl) rfl n hn)
    simpa using this
  obtain ⟨a1, len1, cap1, bs1, rfl, hb1, hby1, hm1, hsl1⟩ := open_row k1 h1
  have hs1 : len1 ≤ 140737488351232 := hsl1 fun n hn => by
    have := List.all_eq_true.1 hsz _ (DataW.weights_mem_each (j := 1) (t := 22) (d := d1) (by rw [Tryd.params5]; rfl) rfl n hn)
    simpa using this
  obtain ⟨a2, len2, cap2, bs2, rfl, hb2, hby2, hm2, hsl2⟩ := open_row k2 h2
  have hs2 : len2 ≤ 140737488351232 := hsl2 fun n hn => by
    have := List.all_eq_true.1 hsz _ (DataW.weights_mem_each (j := 2) (t := 22) (d := d2) (by rw [Tryd.params5]; rfl) rfl n hn)
    simpa using this
  obtain ⟨r3, rfl, rfl, rfl, w3⟩ := open_int Tryd.underlying5 k3 h3
  have w3 := bounds_u8 w3
  obtain ⟨dn4, L4, kp4, kc4, rfl, hL4, hLl4⟩ := open_fate k4 h4
  have hLs4 : L4.length ≤ 140737488351232 := hLl4 fun n hn => by
    have := List.all_eq_true.1 hsz _ (DataW.weights_mem_each (j := 4) (t := 45) (d := d4) (by rw [Tryd.params5]; rfl) rfl n hn)
    simpa using this
  clear hA0 hval hsz
  refine (SnapSafe_any W a0 a1 a2 len0 cap0 len1 cap1 len2 cap2 bs0 bs1 bs2 hb0 hb1 hb2 hby0 hby1 hby2 (by omega) (by omega) (by omega) r3 w3 dn4 L4 kp4 kc4 hL4 hLs4).mono fun e W' ⟨he, hk⟩ => ?_
  subst he
  exact ⟨_, rfl, law_post rfl rfl ⟨rfl, rfl⟩ rfl (by rw [Tryd.params5]; intro t ht; simp only [List.mem_cons, List.not_mem_nil, or_false] at ht; rcases ht with rfl | rfl | rfl | rfl | rfl <;> exact ⟨by kernel_rfl, of_decide_eq_true (by kernel_rfl)⟩) hW' hk⟩

theorem reads (os : Os) {H : Type} (enc : TypeId × Value → H) : ∃ places, DataW.whole enc Tryd.prog ((laidWorld os).forCall (fun _ _ => 0) ⟨#[], #[.slice none 0 0, .slice none 0 0, .slice none 0 0, .int .u8 0, .agg #[.bool false, .slice none 0 0]], []⟩).memory Tryd.f5.params.toList Rows.snapSafeSpec.vars false #[Value.slice none 0 0, .slice none 0 0, .slice none 0 0, .int .u8 0, .agg #[.bool false, .slice none 0 0]].toList 8 = some ([.nil, .nil, .nil, .lit (.int .u8 0), .agg [.lit (.bool false), .nil]], [], places) :=
  ⟨[], by kernel_rfl⟩

set_option maxRecDepth 100000 in
theorem lifted (os : Os) (started : os.Started) (H : Type) (enc : TypeId × Value → H) (F : Stop.Interp) :
    ReturnsInHanded {} Tryd.checked os 5 .any ((OpenSpec.ofChange Rows.snapSafeSpec).preRow enc Tryd.prog Tryd.f5 Rows.snapSafeRow.domain false Rows.snapSafeRow.laid) (((OpenSpec.ofChange Rows.snapSafeSpec).at F).post enc Tryd.prog Tryd.f5 false true false false) := by
  obtain ⟨places, hx⟩ := reads os enc
  refine returnsInHanded_of_row (C := Tryd.checked) (s := OpenSpec.ofChange Rows.snapSafeSpec) own started (by kernel_rfl) Tryd.func5
    (witness_row_at (enc := enc) (C := Tryd.checked) false (laidWorld os) #[.slice none 0 0, .slice none 0 0, .slice none 0 0, .int .u8 0, .agg #[.bool false, .slice none 0 0]] rfl (by kernel_rfl) (by kernel_rfl) (by kernel_rfl)
      (OpenSpec.preRow_of_cond 8 hx (by kernel_rfl) (fun k hk => by cases hk) (by kernel_rfl) (laid_met os _))) ?_
  intro W base args ds gs before hval hW _ _ hsz _ _ _
  exact contract H enc W base args ds gs before hval hW hsz

theorem said : Rows.SnapSafeSaid :=
  OpenClaim.holds_of_cond 5 Tryd.f5 rfl rfl rfl rfl rfl rfl rfl ⟨rfl, rfl, rfl, rfl, rfl⟩ rfl rfl rfl rfl rfl (by kernel_rfl) Tryd.func5 (by kernel_rfl)
    (of_decide_eq_true (by kernel_rfl)) (by unfold Func.isWrapper; first | (rw [if_pos (by decide +kernel)]; kernel_rfl) | (rw [if_neg (by decide +kernel)]; exact ⟨rfl, rfl⟩))
    (fun os started H enc _ F => by rw [OpenClaim.pre_eq_preRow]; exact lifted os started H enc F)

theorem plain (f : FuncId) (fn : Func) (hf : Tryd.pinned.checked.prog.funcNamed "passbook/passbooklaw11.SnapSafe" = some f) (hfn : Tryd.pinned.checked.prog.funcs[f]? = some fn) :
    false = Tryd.pinned.checked.prog.looks [] ∧ ∀ (j : Nat) t, fn.params[j]? = some t → Tryd.pinned.checked.prog.wantsStandIn t = false := by
  obtain rfl : f = 5 := Option.some.inj ((show Tryd.prog.funcNamed "passbook/passbooklaw11.SnapSafe" = some 5 by kernel_rfl).symm.trans hf) |>.symm
  obtain rfl : fn = Tryd.f5 := (Option.some.inj (Tryd.func5.symm.trans hfn)).symm
  refine ⟨by kernel_rfl, fun j t ht => ?_⟩
  have hall : ∀ x ∈ Tryd.f5.params.toList, Tryd.prog.wantsStandIn x = false := by
    rw [Tryd.params5]
    intro t ht
    simp only [List.mem_cons, List.not_mem_nil, or_false] at ht
    rcases ht with rfl | rfl | rfl | rfl | rfl <;> kernel_rfl
  exact hall t (by simpa using Array.mem_of_getElem? ht)

/-- The card. -/
theorem card : Rows.SnapSafeCardSaid :=
  Claim7.holds_tied_plain_at .later [] _ _ _ _ said (fun _ h => by cases h) (by kernel_rfl) (fun _ h => by cases h) snapSafe_row_tie rfl ⟨rfl, rfl⟩ (by kernel_rfl) rfl plain (by kernel_rfl)
end Go.Proofs.YtmcmapaapffadaaDoor.snapSafe

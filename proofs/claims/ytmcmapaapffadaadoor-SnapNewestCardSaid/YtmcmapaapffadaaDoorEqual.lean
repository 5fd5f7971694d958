/-
  bytes.Equal of what is alike.
-/
import Derived.Test.YtmcmapaapffadaaDoorBytes
import Derived.Laws.BytesArg
namespace Go.Proofs.YtmcmapaapffadaaDoor
open Go.RowKit Go.Shelf Go.ChangeMaps

theorem convert_bytes {w : World} {F : Nat → Prop} {b o n c : Nat} {bs : List Int} (h : BytesAt w F (.slice (some ⟨b, o, none⟩) n c) bs) :
    (convert 22 9 (.slice (some ⟨b, o, none⟩) n c)).run Tryd.prog w = .ok (.string (strOfNums bs)) w := by
  obtain rfl := h.len.1
  refine run_convert_bytes_arg (P := Tryd.prog) w 22 5 (by kernel_rfl) (by kernel_rfl) b o bs.length c bs rfl (fun i hi => ?_) 9 (by kernel_rfl)
  obtain ⟨b', o', e, hc⟩ := h.at_ i bs[i] (List.getElem?_eq_getElem hi)
  injection e with e
  injection e with e1 e2 _
  subst e1 e2
  rw [hc, List.getD_eq_getElem?_getD, List.getElem?_eq_getElem hi]; rfl
theorem Equal_same {w : World} {F G : Nat → Prop} {b1 o1 n1 c1 b2 o2 n2 c2 : Nat} {bs : List Int} (h1 : BytesAt w F (.slice (some ⟨b1, o1, none⟩) n1 c1) bs) (h2 : BytesAt w G (.slice (some ⟨b2, o2, none⟩) n2 c2) bs) :
    Calls Tryd.prog 47 #[.slice (some ⟨b1, o1, none⟩) n1 c1, .slice (some ⟨b2, o2, none⟩) n2 c2] w fun e w' => e = .returned (.bool true) ∧ w = w' := by
  have e1 := convert_bytes h1
  have e2 := convert_bytes h2
  obtain ⟨s, hs⟩ : ∃ s, strOfNums bs = s := ⟨_, rfl⟩
  rw [hs] at e1 e2
  clear h1 h2 hs
  go_enter Tryd.func47, Tryd.ntmps47
  go_wp2
  go_ret

  exact ⟨rfl, rfl⟩
end Go.Proofs.YtmcmapaapffadaaDoor

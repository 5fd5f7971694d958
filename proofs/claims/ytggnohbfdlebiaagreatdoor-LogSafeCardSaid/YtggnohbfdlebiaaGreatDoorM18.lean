/-
  Merged of my texts, in order: LogSet.
-/
import Derived.Test.YtggnohbfdlebiaaGreatDoorM14
import Derived.Test.YtggnohbfdlebiaaGreatDoorM17
/-
  A log in memory is written; a file is read.
-/
namespace Go.Proofs.YtggnohbfdlebiaaGreatDoor
open Go.RowKit Go.Shelf Go.ChangeMaps

section
variable {w : World} {p d : Nat} {per first next : Int} {link : List Int} {ended : Bool}
theorem LogAt.setFirst (h : LogAt w p d per first next link ended) (x : Int) : LogAt (w.setCell ⟨p, 2, none⟩ (.int .i64 x)) p d per x next link ended :=
  ⟨by rw [blk_set h.1]; simp [logCells], h.2⟩
theorem LogAt.setNext (h : LogAt w p d per first next link ended) (x : Int) : LogAt (w.setCell ⟨p, 3, none⟩ (.int .i64 x)) p d per first x link ended :=
  ⟨by rw [blk_set h.1]; simp [logCells], h.2⟩
theorem LogAt.setLink (h : LogAt w p d per first next link ended) {lk : List Int} (hl : lk.length = 32) : LogAt (w.setRow p (splice (logCells d per first next link ended).toArray 4 (byteVals lk).toArray.toList)) p d per first next lk ended := by
  refine ⟨?_, hl⟩
  rw [setRow_blk h.1]
  congr 2
  unfold splice logCells
  rw [List.append_assoc]
  simp [byteVals_length, h.2, hl]
theorem LogAt.free (h : LogAt w p d per first next link ended) (i : Nat) : w.frozen? ⟨p, i, none⟩ = false := blk_free h.1 i
theorem LogAt.size (h : LogAt w p d per first next link ended) : (logCells d per first next link ended).toArray.size = 37 := by
  simp [logCells, byteVals_length, h.2]
end
/-- The file is read: where its bytes lie. -/
theorem Dsk.read_at {w0 w : World} {d : Nat} {S : St} {F : Nat → Prop} (h : Dsk w0 w d S F) (n : Nm) (hs : n.size ≤ maxLen) (h0 : S.check n true = 0) :
    Calls Tryz.prog 19 #[.pointer (some ⟨d, 0, none⟩), .string n] w fun e w' => ∃ v, e = .returned (.tuple #[v, .int .i64 0]) ∧ Kp (fun _ => False) w w' ∧ BytesAt w' (fun k => k < w.heap.size) v (bytesOf (getF S.files n)) ∧
      ((v = .slice none 0 0 ∧ bytesOf (getF S.files n) = []) ∨ ∃ g c, v = .slice (some ⟨g, 0, none⟩) (bytesOf (getF S.files n)).length c) := by
  obtain ⟨m, es, clock, hv, hd⟩ := h.at_
  refine (Read_ok hd n hs h0).mono ?_
  rintro e w' ⟨v, rfl, hrow, hk⟩
  obtain ⟨bs, hbs⟩ : ∃ bs, bytesOf (getF S.files n) = bs := ⟨_, rfl⟩
  rw [hbs] at hrow ⊢
  refine ⟨v, rfl, hk, ?_, ?_⟩
  · obtain ⟨hl, ⟨rfl, hn⟩ | ⟨g, cap, cur, rfl, hb, hg, hn, _, _, ht⟩⟩ := hrow
    · have h0 := List.eq_nil_of_length_eq_zero hn
      rw [h0]
      exact ⟨none, 0, rfl, Nat.le_refl _, by simp⟩
    · refine ⟨_, cap, rfl, hn, fun j x hj => ⟨g, 0, rfl, fun hf => ?_, ?_⟩⟩
      · omega
      · rw [Nat.zero_add, blk_cell hg]
        have hlt : j < bs.length := (List.getElem?_eq_some_iff.1 hj).1
        have h1 : (byteVals bs)[j]? = some (.int .u8 x) := by simp [byteVals, hj]
        rw [← ht, List.getElem?_take, if_pos (by omega)] at h1
        simpa using h1
  · obtain ⟨hl, ⟨rfl, hn⟩ | ⟨g, cap, cur, rfl, _⟩⟩ := hrow
    · exact .inl ⟨rfl, List.eq_nil_of_length_eq_zero hn⟩
    · exact .inr ⟨g, cap, rfl⟩
theorem lbody_empty (w : World) (r : Int) : Calls Tryz.prog 87 #[.slice none 0 0, .int .i64 r] w fun e w' => e = .returned (.tuple #[.slice none 0 0, .int .i64 0, .bool false]) ∧ Kp (fun _ => False) w w' :=
  (lbody_nil w r).mono fun e w' ⟨h1, h2⟩ => ⟨h1, by rw [h2]; exact Kp.refl _ _⟩
end Go.Proofs.YtggnohbfdlebiaaGreatDoor

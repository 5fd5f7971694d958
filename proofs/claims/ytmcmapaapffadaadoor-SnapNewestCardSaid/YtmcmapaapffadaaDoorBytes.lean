/-
  Lists of bytes in memory, for the laws: arguments, copies, comparison, parts.
-/
import Derived.Test.YtmcmapaapffadaaDoorOps
import Derived.Test.YtmcmapaapffadaaDoorLists
import Derived.Test.YtmcmapaapffadaaDoorPlain
namespace Go.Proofs.YtmcmapaapffadaaDoor
open Go.RowKit Go.Shelf Go.ChangeMaps

theorem bytesAt_cells {w : World} {F : Nat → Prop} {v : Value} {bs : List Int} : BytesAt w F v bs ↔ CellsAt w F v (bs.map (Value.int .u8)) := by
  unfold BytesAt CellsAt
  constructor
  · rintro ⟨p, c, rfl, hc, h⟩
    refine ⟨p, c, by rw [List.length_map], by rw [List.length_map]; exact hc, fun j x hj => ?_⟩
    rw [List.getElem?_map, Option.map_eq_some_iff] at hj
    obtain ⟨y, hy, rfl⟩ := hj
    exact h j y hy
  · rintro ⟨p, c, rfl, hc, h⟩
    rw [List.length_map] at hc ⊢
    exact ⟨p, c, rfl, hc, fun j x hj => h j (.int .u8 x) (by rw [List.getElem?_map, hj]; rfl)⟩
theorem BytesAt.mono {w : World} {F F' : Nat → Prop} {v : Value} {bs : List Int} (h : BytesAt w F v bs) (hF : ∀ k, F' k → F k) : BytesAt w F' v bs := bytesAt_cells.2 ((bytesAt_cells.1 h).mono hF)
theorem BytesAt.take {w : World} {F : Nat → Prop} {p : Option Addr} {n c : Nat} {bs : List Int} (h : BytesAt w F (.slice p n c) bs) {k : Nat} (hk : k ≤ n) : BytesAt w F (.slice p k c) (bs.take k) := by
  have := (bytesAt_cells.1 h).take hk
  rw [← List.map_take] at this
  exact bytesAt_cells.2 this
theorem BytesAt.len {w : World} {F : Nat → Prop} {p : Option Addr} {n c : Nat} {bs : List Int} (h : BytesAt w F (.slice p n c) bs) : n = bs.length ∧ n ≤ c := by
  obtain ⟨h1, h2, _⟩ := (bytesAt_cells.1 h).holds
  rw [List.length_map] at h1 h2
  exact ⟨h1, by omega⟩
theorem BytesAt.at_ {w : World} {F : Nat → Prop} {p : Option Addr} {n c : Nat} {bs : List Int} (h : BytesAt w F (.slice p n c) bs) : ∀ (j : Nat) x, bs[j]? = some x → ∃ b o, p = some ⟨b, o, none⟩ ∧ w.cell? ⟨b, o + j, none⟩ = some (.int .u8 x) := by
  obtain ⟨p', c', e, _, h⟩ := h
  injection e with e1 e2 e3
  subst e1
  exact fun j x hj => let ⟨b, o, e, _, hx⟩ := h j x hj; ⟨b, o, e, hx⟩
/-- They are bytes. -/
def Byts (bs : List Int) : Prop := ∀ x ∈ bs, 0 ≤ x ∧ x ≤ 255
/-- A part of it. -/
theorem BytesAt.part {w : World} {F : Nat → Prop} {b o n c : Nat} {bs : List Int} (h : BytesAt w F (.slice (some ⟨b, o, none⟩) n c) bs) {i k : Nat} (hk : i + k ≤ n) :
    BytesAt w F (.slice (some ⟨b, o + i, none⟩) k (c - i)) ((bs.drop i).take k) := by
  obtain ⟨p', c', e, hc, h⟩ := h
  injection e with e1 e2 e3
  subst e1 e2 e3
  have hl : ((bs.drop i).take k).length = k := by rw [List.length_take, List.length_drop]; omega
  refine ⟨_, _, by rw [hl], by omega, fun j x hj => ?_⟩
  rw [List.getElem?_take] at hj
  split at hj
  · rw [List.getElem?_drop] at hj
    obtain ⟨b', o', e', h1, h2⟩ := h _ _ hj
    injection e' with e'
    injection e' with e1 e2 _
    subst e1 e2
    exact ⟨_, _, rfl, h1, by rw [Nat.add_assoc]; exact h2⟩
  · cases hj
/-- Noughts, just made. -/
theorem made_bytes (n : Nat) (w : World) (F : Nat → Prop) (hF : ∀ k, F k → k < w.heap.size) : BytesAt (w.alloc (.cells (madeCells #[.int .u8 0] n) 5)) F (.slice (some ⟨w.heap.size, 0, none⟩) n n) (List.replicate n 0) := by
  refine ⟨_, n, by rw [List.length_replicate], by simp, fun j x hj => ⟨_, _, rfl, fun h => Nat.lt_irrefl _ (hF _ h), ?_⟩⟩
  exact made_holds n w j _ (by simp only [byteVals, List.getElem?_map, hj]; rfl)
theorem list_of {P : Nat → Int → Prop} : ∀ (n : Nat) (_ : ∀ j, j < n → ∃ x, P j x), ∃ l : List Int, l.length = n ∧ ∀ (j : Nat) x, l[j]? = some x → P j x
  | 0, _ => ⟨[], rfl, fun j x hj => by simp at hj⟩
  | n + 1, h => by
    obtain ⟨l, hl, hp⟩ := list_of n fun j hj => h j (by omega)
    obtain ⟨x, hx⟩ := h n (by omega)
    refine ⟨l ++ [x], by simp [hl], fun j y hj => ?_⟩
    by_cases hjn : j < n
    · rw [List.getElem?_append_left (by omega)] at hj; exact hp j y hj
    · rw [List.getElem?_append_right (by omega)] at hj
      by_cases h0 : j = n
      · subst h0; rw [hl, Nat.sub_self] at hj; simp at hj; subst hj; exact hx
      · rw [List.getElem?_eq_none (by simp; omega)] at hj; cases hj
/-- An argument's bytes. -/
theorem arg_bytes {w : World} {p : Option Addr} {len cap : Nat} (hc : len ≤ cap) (hx : ∀ j, j < len → ∃ b o x, p = some ⟨b, o, none⟩ ∧ 0 ≤ x ∧ x ≤ 255 ∧ w.cell? ⟨b, o + j, none⟩ = some (.int .u8 x)) :
    ∃ bs, bs.length = len ∧ BytesAt w (fun _ => False) (.slice p len cap) bs := by
  obtain ⟨bs, hl, hp⟩ := list_of (P := fun j x => ∃ b o, p = some ⟨b, o, none⟩ ∧ w.cell? ⟨b, o + j, none⟩ = some (.int .u8 x)) len fun j hj => by
    obtain ⟨b, o, x, h1, _, _, h2⟩ := hx j hj
    exact ⟨x, b, o, h1, h2⟩
  subst hl
  exact ⟨bs, rfl, p, cap, rfl, hc, fun j x hj => let ⟨b, o, h1, h2⟩ := hp j x hj; ⟨b, o, h1, id, h2⟩⟩

/-- A row of its own, with these bytes. -/
def OwnBytes (w : World) (bs : List Int) (e : Ending) (w' : World) : Prop :=
  ∃ g c, e = .returned (.slice (some ⟨g, 0, none⟩) bs.length c) ∧ bs.length ≤ c ∧ w.heap.size ≤ g ∧ g < w'.heap.size ∧ Holds8 w' g 0 bs ∧ Kp (fun _ => False) w w'
theorem Twin_bytes {w : World} {F : Nat → Prop} {v : Value} {bs : List Int} (h : BytesAt w F v bs) (hl : bs.length ≤ 140737488351232) : Calls Tryd.prog 9 #[v] w (OwnBytes w bs) := by
  refine (Twin_any (bytesAt_cells.1 h) (by rw [List.length_map]; exact hl)).mono ?_
  rintro e w' ⟨u, rfl, g, c, rfl, h1, h2, h3, h4, h5⟩
  rw [List.length_map] at h1 ⊢
  exact ⟨g, c, rfl, h1, h2, h3, h4, h5⟩
theorem Same_bytes {w : World} {F G : Nat → Prop} {v1 v2 : Value} {a b : List Int} (h1 : BytesAt w F v1 a) (h2 : BytesAt w G v2 b) (ha : a.length ≤ 140737488351232) :
    Calls Tryd.prog 14 #[v1, v2] w fun e w' => e = .returned (.bool (decide (a = b))) ∧ Kp (fun _ => False) w w' := SameBytes_any (bytesAt_cells.1 h1) (bytesAt_cells.1 h2) ha
/-- What was handed in, copied, is written. -/
theorem Dsk.append_new {w0 w w' : World} {d : Nat} {S : St} {F : Nat → Prop} (h : Dsk w0 w d S F) {bs : List Int} {g c : Nat} (hc : bs.length ≤ c) (hh : Holds8 w' g 0 bs) (hk : Kp (fun _ => False) w w') (name : Nm) (hs : name.size ≤ maxLen) (hl : bs.length ≤ 140737488351232) :
    Calls Tryd.prog 28 #[.pointer (some ⟨d, 0, none⟩), .string name, .slice (some ⟨g, 0, none⟩) bs.length c] w' (Goes w0 w' d (S.appE name bs.length) (S.appT name bs) F) :=
  (h.step hk).append name hs _ _ _ hl hc bs rfl g 0 (fun _ => rfl) hh
theorem Dsk.append_nil {w0 w : World} {d : Nat} {S : St} {F : Nat → Prop} (h : Dsk w0 w d S F) (name : Nm) (hs : name.size ≤ maxLen) :
    Calls Tryd.prog 28 #[.pointer (some ⟨d, 0, none⟩), .string name, .slice none 0 0] w (Goes w0 w d (S.appE name 0) (S.appT name []) F) :=
  h.append name hs none 0 0 (by omega) (by omega) [] rfl 0 0 (fun h => absurd rfl h) fun j v hj => by simp [byteVals] at hj
end Go.Proofs.YtmcmapaapffadaaDoor

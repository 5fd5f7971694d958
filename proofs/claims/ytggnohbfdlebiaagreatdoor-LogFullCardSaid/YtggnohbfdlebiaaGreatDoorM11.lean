/-
  Merged of my texts, in order: Ops, Plain, Bytes, Small, Own, Crc, Count, Equal, Sha, ArrEq, LogName, Ints, Segs.
-/
import Derived.Test.YtggnohbfdlebiaaGreatDoorM1
import Derived.Test.YtggnohbfdlebiaaGreatDoorM8
import Derived.Test.YtggnohbfdlebiaaGreatDoorM9
import Derived.Test.YtggnohbfdlebiaaGreatDoorM10
import Derived.Deep.OwnRows
import Derived.Maps.AppendAt
import Derived.Lib.AppendZeros
import Derived.Shelf.Bytes.SlCountOne
import Derived.Test.YtggnohbfdlebiaaGreatDoorLayX
import Derived.Laws.BytesArg
import Derived.BigQuiet
import Derived.OpenShut
import Derived.ChangeKeysEq
import Derived.Laws.StructEq
import Derived.Lib.SlBytesConst
import Derived.Shelf.SortM.Plain
import Derived.Shelf.SortM.SortNone
import Derived.Sort.Grow
/-
  The calls of a disk in hand (Dsk): what each answers and leaves, in every case; new rows of bytes.
-/
namespace Go.Proofs.YtggnohbfdlebiaaGreatDoor
open Go.RowKit Go.Shelf Go.ChangeMaps

/-- A disk in hand: all its blocks are newer than the world w0, and of what lay there nothing has turned. -/
structure Dsk (w0 w : World) (d : Nat) (S : St) (F : Nat → Prop) : Prop where
  at_ : DiskAt w d S F
  new : ∀ k, F k → w0.heap.size ≤ k
  kp : Kp (fun _ => False) w0 w
theorem Dsk.alloc {w0 w : World} {d : Nat} {S : St} {F : Nat → Prop} (h : Dsk w0 w d S F) (o : Obj) : Dsk w0 (w.alloc o) d S F := ⟨h.at_.kept ((Kp.refl (fun _ => False) w).alloc o) fun _ _ h => h, h.new, h.kp.alloc o⟩
theorem Dsk.drew {w0 w : World} {d : Nat} {S : St} {F : Nat → Prop} (h : Dsk w0 w d S F) : Dsk w0 w.drew d S F := ⟨h.at_.kept (Kp.refl (fun _ => False) w).drew fun _ _ h => h, h.new, h.kp.drew⟩
theorem Dsk.step {w0 w w' : World} {d : Nat} {S : St} {F : Nat → Prop} (h : Dsk w0 w d S F) (hk : Kp (fun _ => False) w w') : Dsk w0 w' d S F := ⟨h.at_.kept hk fun _ _ h => h, h.new, h.kp.trans hk⟩
theorem Dsk.flt {w0 w : World} {d : Nat} {S : St} {F : Nat → Prop} (h : Dsk w0 w d S F) : ∀ k, F k → k < w.heap.size := let ⟨_, _, _, _, h⟩ := h.at_; h.flt
theorem Dsk.ok {w0 w : World} {d : Nat} {S : St} {F : Nat → Prop} (h : Dsk w0 w d S F) : S.Ok := let ⟨_, _, _, _, h⟩ := h.at_; h.ok
/-- Answered: n; the disk is as S' has it. -/
def Goes (w0 w : World) (d : Nat) (n : Int) (S' : St) (F : Nat → Prop) (e : Ending) (w' : World) : Prop :=
  e = .returned (.int .i64 n) ∧ ∃ F', Dsk w0 w' d S' F' ∧ (∀ k, F' k → F k ∨ w.heap.size ≤ k) ∧ Kp F w w'
theorem Does.goes {w0 w : World} {d : Nat} {n : Int} {S S' : St} {F : Nat → Prop} (h : Dsk w0 w d S F) {e : Ending} {w' : World} (hd : Does w d n S' F e w') : Goes w0 w d n S' F e w' := by
  obtain ⟨he, F', h1, h2, h3⟩ := hd
  refine ⟨he, F', ⟨h1, fun k hk => ?_, h.kp.trans' h3 fun i hi => .inr (h.new i hi)⟩, h2, h3⟩
  rcases h2 k hk with h' | h'
  · exact h.new k h'
  · exact Nat.le_trans h.kp.size h'
theorem Refused.goes {w0 w : World} {d : Nat} {n : Int} {S : St} {F : Nat → Prop} (h : Dsk w0 w d S F) {e : Ending} {w' : World} (hd : Refused w n e w') : Goes w0 w d n S F e w' :=
  ⟨hd.1, F, h.step hd.2, fun _ h => .inl h, hd.2.mono fun _ h => h.elim⟩
/-- What Append answers; what it leaves. -/
def St.appE (S : St) (name : Nm) (n : Nat) : Int :=
  if nameB name = false then 1 else if S.room < (used S.files : Int) + nsec n then 17 else if get S.files name = none ∧ S.files.length = 64 then 17 else if S.off = true then 18 else S.doE
def St.appT (S : St) (name : Nm) (bs : List Int) : St :=
  if nameB name = false then S else if S.room < (used S.files : Int) + nsec bs.length then S else if get S.files name = none ∧ S.files.length = 64 then S else if S.off = true then S else S.appS name bs
theorem Dsk.append {w0 w : World} {d : Nat} {S : St} {F : Nat → Prop} (h : Dsk w0 w d S F) (name : Nm) (hs : name.size ≤ maxLen) (p : Option Addr) (len cap : Nat) (hlen : len ≤ 140737488351232)
    (hcap : len ≤ cap) (bs : List Int) (hbl : bs.length = len) (b off : Nat) (hp : len ≠ 0 → p = some ⟨b, off, none⟩) (hsrc : Holds8 w b off bs) :
    Calls Tryz.prog 16 #[.pointer (some ⟨d, 0, none⟩), .string name, .slice p len cap] w (Goes w0 w d (S.appE name len) (S.appT name bs) F) := by
  obtain ⟨m, es, clock, hv, hd⟩ := h.at_
  unfold St.appE St.appT
  rw [hbl]
  by_cases h1 : nameB name = false
  · rw [if_pos h1, if_pos h1]; exact (Append_arg hd name hs h1 _).mono fun _ _ hr => hr.goes h
  rw [if_neg h1, if_neg h1]
  have h1' : nameB name = true := by simpa using h1
  by_cases h2 : S.room < (used S.files : Int) + nsec len
  · rw [if_pos h2, if_pos h2]; exact (Append_fullA hd name hs h1' p len cap hlen h2).mono fun _ _ hr => hr.goes h
  rw [if_neg h2, if_neg h2]
  by_cases h3 : get S.files name = none ∧ S.files.length = 64
  · rw [if_pos h3, if_pos h3]; exact (Append_fullB hd name hs h1' p len cap hlen h2 h3).mono fun _ _ hr => hr.goes h
  rw [if_neg h3, if_neg h3]
  by_cases h4 : S.off = true
  · rw [if_pos h4, if_pos h4]; exact (Append_off hd name hs h1' p len cap hlen h2 h3 h4).mono fun _ _ hr => hr.goes h
  rw [if_neg h4, if_neg h4]
  exact (Append_ok hd name hs h1' p len cap hlen h2 h3 (by simpa using h4) hcap bs hbl b off hp hsrc).mono fun _ _ hr => hr.goes h
theorem Dsk.sync {w0 w : World} {d : Nat} {S : St} {F : Nat → Prop} (h : Dsk w0 w d S F) (n : Nm) (hs : n.size ≤ maxLen) :
    Calls Tryz.prog 37 #[.pointer (some ⟨d, 0, none⟩), .string n] w (Goes w0 w d (S.opE (S.check n true)) (S.opS (S.check n true) (Hg.sync n)) F) := by
  obtain ⟨m, es, clock, hv, hd⟩ := h.at_
  exact (Sync_any hd n hs).mono fun _ _ hr => hr.goes h
theorem Dsk.remove {w0 w : World} {d : Nat} {S : St} {F : Nat → Prop} (h : Dsk w0 w d S F) (n : Nm) (hs : n.size ≤ maxLen) :
    Calls Tryz.prog 33 #[.pointer (some ⟨d, 0, none⟩), .string n] w (Goes w0 w d (S.opE (S.check n true)) (S.opS (S.check n true) (Hg.remove n)) F) := by
  obtain ⟨m, es, clock, hv, hd⟩ := h.at_
  exact (Remove_any hd n hs).mono fun _ _ hr => hr.goes h
def St.truncE (S : St) (n : Nm) (k : Int) : Int := if k < 0 then 1 else S.opE (S.check n true)
def St.truncS (S : St) (n : Nm) (k : Int) : St := if k < 0 then S else S.opS (S.check n true) (Hg.trunc n k)
theorem Dsk.truncate {w0 w : World} {d : Nat} {S : St} {F : Nat → Prop} (h : Dsk w0 w d S F) (n : Nm) (hs : n.size ≤ maxLen) (k : Int) (hk : k ≤ 9223372036854775807) :
    Calls Tryz.prog 32 #[.pointer (some ⟨d, 0, none⟩), .string n, .int .i64 k] w (Goes w0 w d (S.truncE n k) (S.truncS n k) F) := by
  obtain ⟨m, es, clock, hv, hd⟩ := h.at_
  unfold St.truncE St.truncS
  by_cases h0 : k < 0
  · rw [if_pos h0, if_pos h0]; exact (Truncate_neg hd n k h0).mono fun _ _ hr => hr.goes h
  · rw [if_neg h0, if_neg h0]
    obtain ⟨j, rfl⟩ := Int.eq_ofNat_of_zero_le (Int.not_lt.1 h0)
    exact (Truncate_any hd n hs j (by omega)).mono fun _ _ hr => hr.goes h
def St.renE (S : St) (x y : Nm) : Int := if nameB y = false then 1 else S.opE (S.check x true)
def St.renS (S : St) (x y : Nm) : St := if nameB y = false then S else S.opS (S.check x true) (Hg.rename x y)
theorem Dsk.arm {w0 w : World} {d : Nat} {S : St} {F : Nat → Prop} (h : Dsk w0 w d S F) (hoff : S.off = false) (n : Int) (hn : 0 ≤ n ∧ n ≤ 9223372036854775807) :
    Calls Tryz.prog 26 #[.pointer (some ⟨d, 0, none⟩), .int .i64 n] w (Goes w0 w d 0 { S with armed := n } F) := by
  obtain ⟨m, es, clock, hv, hd⟩ := h.at_
  exact (Arm_on hd hoff n hn).mono fun _ _ hr => hr.goes h
theorem Dsk.arm_off {w0 w : World} {d : Nat} {S : St} {F : Nat → Prop} (h : Dsk w0 w d S F) (hoff : S.off = true) (n : Int) (hn : 0 ≤ n) :
    Calls Tryz.prog 26 #[.pointer (some ⟨d, 0, none⟩), .int .i64 n] w fun e w' => e = .returned (.int .i64 18) ∧ w = w' := by
  obtain ⟨m, es, clock, hv, hd⟩ := h.at_
  exact Arm_off hd hoff n hn
theorem Dsk.restart {w0 w : World} {d : Nat} {S : St} {F : Nat → Prop} (h : Dsk w0 w d S F) (hoff : S.off = true) (dn : Bool) (K : List Bool) (kp : Option Addr) (kc : Nat)
    (hkl : K.length ≤ kc) (hkb : K.length ≤ 140737488351232) (hK : HoldsK w kp K) (hKo : OutK F kp) (hKw : OutK (fun k => w.heap.size ≤ k) kp) :
    Calls Tryz.prog 27 #[.pointer (some ⟨d, 0, none⟩), .agg #[.bool dn, .slice kp K.length kc]] w (Goes w0 w d 0 (S.restart dn K) F) := by
  obtain ⟨m, es, clock, hv, hd⟩ := h.at_
  cases dn with
  | false => exact (Restart_kept hd hoff K kp kc hkl hkb hK hKo hKw).mono fun _ _ hr => hr.goes h
  | true => exact (Restart_done hd hoff K kp kc hkl hkb hK hKo hKw).mono fun _ _ hr => hr.goes h
theorem Dsk.on {w0 w : World} {d : Nat} {S : St} {F : Nat → Prop} (h : Dsk w0 w d S F) : Calls Tryz.prog 25 #[.pointer (some ⟨d, 0, none⟩)] w fun e w' => e = .returned (.bool !S.off) ∧ w = w' := by
  obtain ⟨m, es, clock, hv, hd⟩ := h.at_
  exact On_any d S.off w hd.cells.2.2.1
theorem Dsk.ops {w0 w : World} {d : Nat} {S : St} {F : Nat → Prop} (h : Dsk w0 w d S F) : Calls Tryz.prog 18 #[.pointer (some ⟨d, 0, none⟩)] w fun e w' => e = .returned (.int .i64 S.ops) ∧ w = w' := by
  obtain ⟨m, es, clock, hv, hd⟩ := h.at_
  exact Ops_any d S.ops w hd.cells.2.2.2.2.1
theorem Dsk.size {w0 w : World} {d : Nat} {S : St} {F : Nat → Prop} (h : Dsk w0 w d S F) (n : Nm) (hs : n.size ≤ maxLen) :
    Calls Tryz.prog 15 #[.pointer (some ⟨d, 0, none⟩), .string n] w fun e w' => e = .returned (.tuple #[.int .i64 (S.sizeOf n), .int .i64 (S.check n true)]) ∧ w = w' := by
  obtain ⟨m, es, clock, hv, hd⟩ := h.at_
  exact Size_any hd n hs
theorem Dsk.read_err {w0 w : World} {d : Nat} {S : St} {F : Nat → Prop} (h : Dsk w0 w d S F) (n : Nm) (hs : n.size ≤ maxLen) (h0 : S.check n true ≠ 0) :
    Calls Tryz.prog 19 #[.pointer (some ⟨d, 0, none⟩), .string n] w fun e w' => e = .returned (.tuple #[.slice none 0 0, .int .i64 (S.check n true)]) ∧ w = w' := by
  obtain ⟨m, es, clock, hv, hd⟩ := h.at_
  exact Read_err hd n hs h0
/-- A slice of bytes that lie there, none of them in F. -/
def BytesAt (w : World) (F : Nat → Prop) (v : Value) (bs : List Int) : Prop :=
  ∃ p c, v = .slice p bs.length c ∧ bs.length ≤ c ∧ ∀ j x, bs[j]? = some x → ∃ b o, p = some ⟨b, o, none⟩ ∧ ¬ F b ∧ w.cell? ⟨b, o + j, none⟩ = some (.int .u8 x)
theorem BytesAt.kept {w w' : World} {F F' : Nat → Prop} {v : Value} {bs : List Int} (h : BytesAt w F v bs) (hk : Kp F w w') (hF : ∀ k, F' k → F k ∨ w.heap.size ≤ k) : BytesAt w' F' v bs := by
  obtain ⟨p, c, rfl, hc, h⟩ := h
  refine ⟨p, c, rfl, hc, fun j x hj => ?_⟩
  obtain ⟨b, o, e, hb, hx⟩ := h j x hj
  refine ⟨b, o, e, fun h' => ?_, hk.cell hx hb⟩
  rcases hF b h' with h1 | h1
  · exact hb h1
  · have : b < w.heap.size := block_lt_of_cell hx
    omega
theorem Dsk.read_ok {w0 w : World} {d : Nat} {S : St} {F : Nat → Prop} (h : Dsk w0 w d S F) (n : Nm) (hs : n.size ≤ maxLen) (h0 : S.check n true = 0) :
    Calls Tryz.prog 19 #[.pointer (some ⟨d, 0, none⟩), .string n] w fun e w' => ∃ v, e = .returned (.tuple #[v, .int .i64 0]) ∧ Dsk w0 w' d S F ∧ Kp (fun _ => False) w w' ∧ BytesAt w' F v (bytesOf (getF S.files n)) := by
  obtain ⟨m, es, clock, hv, hd⟩ := h.at_
  refine (Read_ok hd n hs h0).mono ?_
  rintro e w' ⟨v, rfl, hrow, hk⟩
  refine ⟨v, rfl, h.step hk, hk, ?_⟩
  obtain ⟨hl, ⟨rfl, hn⟩ | ⟨g, cap, cur, rfl, hb, hg, hn, _, _, ht⟩⟩ := hrow
  · have h0 := List.eq_nil_of_length_eq_zero hn
    rw [h0]
    exact ⟨none, 0, rfl, Nat.le_refl _, by simp⟩
  · refine ⟨_, cap, rfl, hn, fun j x hj => ⟨g, 0, rfl, fun hf => ?_, ?_⟩⟩
    · have := h.flt g hf; omega
    · rw [Nat.zero_add, blk_cell hg]
      have hlt : j < (bytesOf (getF S.files n)).length := (List.getElem?_eq_some_iff.1 hj).1
      have h1 : (byteVals (bytesOf (getF S.files n)))[j]? = some (.int .u8 x) := by simp [byteVals, hj]
      rw [← ht, List.getElem?_take, if_pos (by omega)] at h1
      simpa using h1
theorem New_dsk (n : Int) (h1 : 1 ≤ n) (h2 : n ≤ 65536) (w0 w : World) (hk0 : Kp (fun _ => False) w0 w) :
    Calls Tryz.prog 10 #[.int .i64 n] w fun e w' => ∃ d F, e = .returned (.tuple #[.pointer (some ⟨d, 0, none⟩), .int .i64 0]) ∧ Dsk w0 w' d (St.new n) F ∧ (∀ k, F k → w.heap.size ≤ k) ∧ Kp (fun _ => False) w w' := by
  refine (New_any n h1 h2 w).mono ?_
  rintro e w' ⟨d, F, rfl, _, hD, hF, hk⟩
  exact ⟨d, F, rfl, ⟨hD, fun k hk' => Nat.le_trans hk0.size (hF k hk'), hk0.trans hk⟩, hF, hk⟩
/-- make([]byte, n). -/
theorem make_bytes (n : Nat) (hn : n ≤ 140737488351232) (w : World) :
    (Instr.makeSlice 33 (.int .i64 (n : Int)) (.int .i64 (n : Int))).run Tryz.prog w = .ok (.slice (some ⟨w.heap.size, 0, none⟩) n n) (w.alloc (.cells (madeCells #[.int .u8 0] n) 5)) :=
  run_make_row' 33 5 (.int .u8 0) 1 (by kernel_rfl) (by kernel_rfl) rfl .i64 .i64 n (by omega) (by omega) w
theorem made_get (n j : Nat) (hj : j < n) : (madeCells #[.int .u8 0] n)[j]? = some (.int .u8 0) := by
  simp [madeCells, hj, Nat.mod_one]
/-- Noughts, just made. -/
theorem made_holds (n : Nat) (w : World) : Holds8 (w.alloc (.cells (madeCells #[.int .u8 0] n) 5)) w.heap.size 0 (List.replicate n 0) := by
  intro j v hj
  rw [Nat.zero_add, blk_cell (heap_alloc_new w _)]
  simp only [byteVals, List.map_replicate, List.getElem?_replicate] at hj
  split at hj
  · rename_i h; injection hj with hj; rw [made_get n j h, hj]
  · cases hj
end Go.Proofs.YtggnohbfdlebiaaGreatDoor

/-
  What a disk without a fault does to its files, plainly: no program stands in it.
-/
namespace Go.Proofs.YtggnohbfdlebiaaGreatDoor
open Go.RowKit

/-! ### lists of pairs -/
section
variable {α : Type}
theorem get_del_ne {l : List (Nm × α)} {x y : Nm} (h : y ≠ x) : get (del l x) y = get l y := by
  induction l with
  | nil => rfl
  | cons p l ih =>
    obtain ⟨k, u⟩ := p
    by_cases hk : x = k
    · subst hk; simp [del, get, h]
    · simp only [del, if_neg hk, get, ih]
theorem get_put_ne {l : List (Nm × α)} {x y : Nm} (h : y ≠ x) (v : α) : get (put l x v) y = get l y := by rw [get_put, if_neg h]
theorem get_put_eq (l : List (Nm × α)) (x : Nm) (v : α) : get (put l x v) x = some v := by rw [get_put, if_pos rfl]
theorem put_length (l : List (Nm × α)) (x : Nm) (v : α) : (put l x v).length ≤ l.length + 1 := by
  have h := congrArg List.length (put_keys l x v)
  rw [List.length_map] at h
  rw [h]; split <;> simp
theorem del_length (l : List (Nm × α)) (x : Nm) : (del l x).length ≤ l.length := by
  induction l with
  | nil => exact Nat.le_refl _
  | cons p l ih =>
    obtain ⟨k, u⟩ := p
    by_cases hk : x = k
    · subst hk; simp [del]
    · simp only [del, if_neg hk, List.length_cons]; omega
end
theorem getF_put_eq (fs : Files) (x : Nm) (l : List Sec) : getF (put fs x l) x = l := by simp [getF, get_put_eq]
theorem getF_put_ne {fs : Files} {x y : Nm} (h : y ≠ x) (l : List Sec) : getF (put fs x l) y = getF fs y := by simp [getF, get_put_ne h]
theorem getF_del_ne {fs : Files} {x y : Nm} (h : y ≠ x) : getF (del fs x) y = getF fs y := by simp [getF, get_del_ne h]

/-! ### sectors of bytes -/
def secs (bs : List Int) : List Sec := (List.range (nsec bs.length)).map (secAt bs)
theorem secs_length (bs : List Int) : (secs bs).length = nsec bs.length := by simp [secs]
theorem secs_len (bs : List Int) : ∀ s ∈ secs bs, s.bytes.length = 32 := by
  intro s hs
  obtain ⟨j, _, rfl⟩ := List.mem_map.1 hs
  exact secAt_len bs j
theorem bytesOf_append (a b : List Sec) : bytesOf (a ++ b) = bytesOf a ++ bytesOf b := by simp [bytesOf]
theorem bytesOf_sync (l : List Sec) : bytesOf (syncAll l) = bytesOf l := by simp [bytesOf, syncAll, List.flatMap_map]
theorem syncAll_length (l : List Sec) : (syncAll l).length = l.length := by simp [syncAll]
theorem syncAll_len {l : List Sec} (h : ∀ s ∈ l, s.bytes.length = 32) : ∀ s ∈ syncAll l, s.bytes.length = 32 := by
  intro s hs
  obtain ⟨x, hx, rfl⟩ := List.mem_map.1 hs
  exact h x hx
theorem bytesOf_take {l : List Sec} (h : ∀ s ∈ l, s.bytes.length = 32) (k : Nat) : bytesOf (l.take k) = (bytesOf l).take (32 * k) := by
  induction l generalizing k with
  | nil => simp [bytesOf]
  | cons s l ih =>
    cases k with
    | zero => simp [bytesOf]
    | succ k =>
      have h0 := h s (by simp)
      have h1 := ih (fun x hx => h x (by simp [hx])) k
      simp only [List.take_succ_cons]
      show s.bytes ++ bytesOf (l.take k) = (s.bytes ++ bytesOf l).take (32 * (k + 1))
      rw [h1, List.take_append, List.take_of_length_le (l := s.bytes) (by omega), h0, show 32 * (k + 1) - 32 = 32 * k by omega]
/-- Number k of the sectors, out of the bytes. -/
theorem bytesOf_at {l : List Sec} (h : ∀ s ∈ l, s.bytes.length = 32) {k : Nat} (hk : k < l.length) : ((bytesOf l).drop (32 * k)).take 32 = l[k].bytes := by
  induction l generalizing k with
  | nil => simp at hk
  | cons s l ih =>
    have h0 := h s (by simp)
    cases k with
    | zero =>
      show ((s.bytes ++ bytesOf l).drop (32 * 0)).take 32 = s.bytes
      rw [Nat.mul_zero, List.drop_zero, List.take_append, List.take_of_length_le (by omega), h0, Nat.sub_self]; simp
    | succ k =>
      have h1 := ih (fun x hx => h x (by simp [hx])) (k := k) (by simpa using hk)
      show ((s.bytes ++ bytesOf l).drop (32 * (k + 1))).take 32 = _
      rw [List.drop_append, List.drop_eq_nil_of_le (by omega), h0, show 32 * (k + 1) - 32 = 32 * k by omega, List.nil_append, h1]
      rfl

/-! ### behind a crash -/
def AllSafe (l : List Sec) : Prop := ∀ s ∈ l, s.synced = true
theorem syncAll_safe (l : List Sec) : AllSafe (syncAll l) := by
  intro s hs
  obtain ⟨x, _, rfl⟩ := List.mem_map.1 hs
  rfl
theorem fateN_safe (K : List Bool) {l : List Sec} (h : AllSafe l) : ∀ i, fateN K i l = l := by
  induction l with
  | nil => intro i; rfl
  | cons s l ih =>
    intro i
    have hs := h s (by simp)
    have e : fateSec K i s = s := by
      unfold fateSec; rw [if_pos (.inl hs)]; cases s; simp only [setSync] at *; rw [hs]
    rw [fateN, e, ih fun x hx => h x (by simp [hx])]
theorem fateN_all (K : List Bool) (l : List Sec) : ∀ i, AllSafe (fateN K i l) := by
  induction l with
  | nil => intro i s hs; simp [fateN] at hs
  | cons x l ih =>
    intro i s hs
    simp only [fateN, List.mem_cons] at hs
    rcases hs with rfl | hs
    · unfold fateSec; split <;> rfl
    · exact ih _ s hs
theorem fateN_idem (K : List Bool) (l : List Sec) (i j : Nat) : fateN K j (fateN K i l) = fateN K i l := fateN_safe K (fateN_all K l i) j
/-- Each sector is what it was, or noughts. -/
theorem fateN_get (K : List Bool) {l : List Sec} {k : Nat} (hk : k < l.length) : ∀ i, ∃ s, (fateN K i l)[k]? = some s ∧ (s.bytes = l[k].bytes ∨ s.bytes = List.replicate 32 0) := by
  induction l generalizing k with
  | nil => simp at hk
  | cons x l ih =>
    intro i
    cases k with
    | zero =>
      refine ⟨fateSec K i x, rfl, ?_⟩
      unfold fateSec
      split
      · exact .inl rfl
      · exact .inr rfl
    | succ k =>
      obtain ⟨s, h1, h2⟩ := ih (k := k) (by simpa using hk) (if x.synced = true then i else i + 1)
      exact ⟨s, by simpa [fateN] using h1, by simpa using h2⟩
theorem foldl_fate (K : List Bool) (n : Nm) : ∀ (ns : List Nm) (p : Nat × Files), (∃ i, getF (ns.foldl (fateStep K) p).2 n = fateN K i (getF p.2 n)) ∨ (n ∉ ns ∧ getF (ns.foldl (fateStep K) p).2 n = getF p.2 n)
  | [], p => .inr ⟨by simp, rfl⟩
  | m :: ns, p => by
    rw [List.foldl_cons]
    by_cases h : n = m
    · subst h
      have e : getF (fateStep K p n).2 n = fateN K p.1 (getF p.2 n) := getF_put_eq _ _ _
      rcases foldl_fate K n ns (fateStep K p n) with ⟨i, hi⟩ | ⟨_, hi⟩
      · rw [e, fateN_idem] at hi; exact .inl ⟨_, hi⟩
      · rw [e] at hi; exact .inl ⟨_, hi⟩
    · have e : getF (fateStep K p m).2 n = getF p.2 n := getF_put_ne h _
      rcases foldl_fate K n ns (fateStep K p m) with ⟨i, hi⟩ | ⟨h', hi⟩
      · rw [e] at hi; exact .inl ⟨_, hi⟩
      · rw [e] at hi; exact .inr ⟨by simp [h, h'], hi⟩
theorem mem_namesB {fs : Files} {n : Nm} : n ∈ namesB fs ↔ n ∈ fs.map (·.1) := by
  constructor
  · exact namesB_mem n
  · intro h
    obtain ⟨p, hp, rfl⟩ := List.mem_map.1 h
    refine List.mem_map.2 ⟨p.1.data.toList, (List.mergeSort_perm _ _).mem_iff.2 (List.mem_map.2 ⟨p, hp, rfl⟩), by simp⟩
theorem fated_getF (K : List Bool) {fs : Files} {n : Nm} (h : (get fs n).isSome = true) : ∃ i, getF (fateFold K (namesB fs) fs).2 n = fateN K i (getF fs n) := by
  rcases foldl_fate K n (namesB fs) (0, fs) with h1 | ⟨h1, _⟩
  · exact h1
  · exact absurd (mem_namesB.2 (get_isSome.1 h)) h1
theorem fated_keys (K : List Bool) (fs : Files) : (fateFold K (namesB fs) fs).2.map (·.1) = fs.map (·.1) := fateFold_keys K (namesB fs) (0, fs) fun n hn => namesB_mem n hn
theorem fated_isSome (K : List Bool) (fs : Files) (n : Nm) : (get (fateFold K (namesB fs) fs).2 n).isSome = (get fs n).isSome := by
  rw [Bool.eq_iff_iff, get_isSome, get_isSome, fated_keys]

/-! ### a disk that is on and not armed -/
structure Idle (S : St) : Prop where
  off : S.off = false
  armed : S.armed = 0
namespace Idle
variable {S : St} (h : Idle S)
include h
theorem doE : S.doE = 0 := by unfold St.doE; rw [if_neg (by rw [h.armed]; decide)]
theorem doS (hg : Hg) : S.doS hg = { S with ops := wrap64 (S.ops + 1), armed := 0, files := hg.run S.files } := by
  unfold St.doS; rw [if_neg (by rw [h.armed]; decide), if_pos h.armed]
theorem did (hg : Hg) : Idle (S.doS hg) := by rw [h.doS]; exact ⟨h.off, rfl⟩
theorem did_files (hg : Hg) : (S.doS hg).files = hg.run S.files := by rw [h.doS]
theorem did_room (hg : Hg) : (S.doS hg).room = S.room := by rw [h.doS]
theorem opE (c : Int) : S.opE c = c := by unfold St.opE; split <;> simp_all [h.doE]
theorem opS (c : Int) (hg : Hg) : Idle (S.opS c hg) := by unfold St.opS; split; exact h.did hg; exact h
theorem opS_room (c : Int) (hg : Hg) : (S.opS c hg).room = S.room := by unfold St.opS; split; exact h.did_room hg; rfl
theorem check (n : Nm) (hn : nameB n = true) : S.check n true = if get S.files n = none then 7 else 0 := by
  unfold St.check
  rw [if_neg (by rw [hn]; simp), h.off]
  by_cases hg : get S.files n = none <;> simp [hg]
theorem there {n : Nm} (hn : nameB n = true) (hs : (get S.files n).isSome = true) : S.check n true = 0 := by
  rw [h.check n hn, if_neg (by rintro e; rw [e] at hs; cases hs)]
theorem gone {n : Nm} (hn : nameB n = true) (hs : get S.files n = none) : S.check n true = 7 := by
  rw [h.check n hn, if_pos hs]
theorem appS (n : Nm) (bs : List Int) : Idle (S.appS n bs) := ⟨(h.did .noop).off, (h.did .noop).armed⟩
theorem appT (n : Nm) (bs : List Int) : Idle (S.appT n bs) := by
  unfold St.appT
  split
  · exact h
  · split
    · exact h
    · split
      · exact h
      · split
        · exact h
        · exact h.appS n bs
end Idle
theorem appS_files (S : St) (n : Nm) (bs : List Int) : (S.appS n bs).files = put S.files n (getF S.files n ++ secs bs) := rfl
theorem appS_room (S : St) (n : Nm) (bs : List Int) : (S.appS n bs).room = S.room := doS_room S .noop
/-- There is room for it. -/
structure Fits (S : St) (n : Nm) (len : Nat) : Prop where
  named : nameB n = true
  room : ¬ S.room < (used S.files : Int) + nsec len
  count : ¬ (get S.files n = none ∧ S.files.length = 64)
theorem Fits.of {S : St} {n : Nm} {len u : Nat} (hn : nameB n = true) (hu : used S.files ≤ u) (hr : (u : Int) + nsec len ≤ S.room) (hc : S.files.length < 64) : Fits S n len :=
  ⟨hn, by omega, fun h => by omega⟩
theorem Fits.appE {S : St} {n : Nm} {len : Nat} (h : Fits S n len) : S.appE n len = if S.off = true then 18 else S.doE := by
  unfold St.appE; rw [if_neg (by rw [h.named]; simp), if_neg h.room, if_neg h.count]
theorem Fits.appT {S : St} {n : Nm} {bs : List Int} (h : Fits S n bs.length) : S.appT n bs = if S.off = true then S else S.appS n bs := by
  unfold St.appT; rw [if_neg (by rw [h.named]; simp), if_neg h.room, if_neg h.count]
theorem Fits.idleE {S : St} {n : Nm} {len : Nat} (h : Fits S n len) (hi : Idle S) : S.appE n len = 0 := by rw [h.appE, if_neg (by rw [hi.off]; simp), hi.doE]
theorem Fits.idleT {S : St} {n : Nm} {bs : List Int} (h : Fits S n bs.length) (hi : Idle S) : S.appT n bs = S.appS n bs := by rw [h.appT, if_neg (by rw [hi.off]; simp)]
theorem used_put_le (fs : Files) (n : Nm) (l : List Sec) : used (put fs n (getF fs n ++ l)) = used fs + l.length := by
  have h := used_put fs n (getF fs n ++ l)
  rw [List.length_append] at h; omega
theorem used_put_same (fs : Files) (n : Nm) (l : List Sec) (hl : l.length = (getF fs n).length) : used (put fs n l) = used fs := by
  have h := used_put fs n l; omega
theorem nsec_le {n k : Nat} (h : n ≤ 32 * k) : nsec n ≤ k := by unfold nsec; omega
/-- Armed for the next operation. -/
theorem armed_append {S : St} {n : Nm} {bs : List Int} (hf : Fits S n bs.length) (hoff : S.off = false) :
    ({ S with armed := 1 } : St).appE n bs.length = 18 ∧ ({ S with armed := 1 } : St).appT n bs = { S with ops := wrap64 (S.ops + 1), armed := 0, off := true, hangs := some .noop, files := put S.files n (getF S.files n ++ secs bs) } := by
  have hf' : Fits ({ S with armed := 1 } : St) n bs.length := ⟨hf.named, hf.room, hf.count⟩
  have ho : ¬ ({ S with armed := 1 } : St).off = true := by show ¬ S.off = true; rw [hoff]; simp
  refine ⟨?_, ?_⟩
  · rw [hf'.appE, if_neg ho]; rfl
  · rw [hf'.appT, if_neg ho]; rfl
/-- Restarted, where nothing hung: the files, each by its fate. -/
theorem restart_idle (S : St) (dn : Bool) (K : List Bool) : Idle (S.restart dn K) := ⟨rfl, rfl⟩
theorem fated_noop {S : St} (h : S.hangs = some .noop) (dn : Bool) : S.fated dn = S.files := by
  unfold St.fated; rw [h]; cases dn <;> rfl
theorem restart_files {S : St} (h : S.hangs = some .noop) (dn : Bool) (K : List Bool) : (S.restart dn K).files = (fateFold K (namesB S.files) S.files).2 := by
  unfold St.restart; rw [fated_noop h]
/-- A disk with one file, just written. -/
theorem first_write {m : Int} {n : Nm} {bs : List Int} (hn : nameB n = true) (hm : (nsec bs.length : Int) ≤ m) :
    (St.new m).appE n bs.length = 0 ∧ Idle ((St.new m).appT n bs) ∧ ((St.new m).appT n bs).files = [(n, secs bs)] ∧ ((St.new m).appT n bs).room = m := by
  have hi : Idle (St.new m) := ⟨rfl, rfl⟩
  have hu : used (St.new m).files ≤ 0 := Nat.le_refl _
  have hf : Fits (St.new m) n bs.length := Fits.of hn hu (by show _ ≤ m; omega) (by show 0 < 64; omega)
  rw [hf.idleE hi, hf.idleT hi]
  exact ⟨rfl, hi.appS n bs, rfl, appS_room _ n bs⟩
end Go.Proofs.YtggnohbfdlebiaaGreatDoor

/-
  Lists of bytes in memory, for the laws: arguments, copies, comparison, parts.
-/
namespace Go.Proofs.YtggnohbfdlebiaaGreatDoor
open Go.RowKit Go.Shelf Go.ChangeMaps

theorem bytesAt_cells {w : World} {F : Nat → Prop} {v : Value} {bs : List Int} : BytesAt w F v bs ↔ CellsAt w F v (bs.map (Value.int .u8)) := by
  unfold BytesAt CellsAt
  constructor
  · rintro ⟨p, c, rfl, hc, h⟩
    refine ⟨p, c, by rw [List.length_map], by rw [List.length_map]; exact hc, fun j x hj => ?_⟩
    rw [List.getElem?_map, Option.map_eq_some_iff] at hj
    obtain ⟨y, hy, rfl⟩ := hj
    exact h j y hy
  · rintro ⟨p, c, rfl, hc, h⟩
    rw [List.length_map] at hc ⊢
    exact ⟨p, c, rfl, hc, fun j x hj => h j (.int .u8 x) (by rw [List.getElem?_map, hj]; rfl)⟩
theorem BytesAt.mono {w : World} {F F' : Nat → Prop} {v : Value} {bs : List Int} (h : BytesAt w F v bs) (hF : ∀ k, F' k → F k) : BytesAt w F' v bs := bytesAt_cells.2 ((bytesAt_cells.1 h).mono hF)
theorem BytesAt.take {w : World} {F : Nat → Prop} {p : Option Addr} {n c : Nat} {bs : List Int} (h : BytesAt w F (.slice p n c) bs) {k : Nat} (hk : k ≤ n) : BytesAt w F (.slice p k c) (bs.take k) := by
  have := (bytesAt_cells.1 h).take hk
  rw [← List.map_take] at this
  exact bytesAt_cells.2 this
theorem BytesAt.len {w : World} {F : Nat → Prop} {p : Option Addr} {n c : Nat} {bs : List Int} (h : BytesAt w F (.slice p n c) bs) : n = bs.length ∧ n ≤ c := by
  obtain ⟨h1, h2, _⟩ := (bytesAt_cells.1 h).holds
  rw [List.length_map] at h1 h2
  exact ⟨h1, by omega⟩
theorem BytesAt.at_ {w : World} {F : Nat → Prop} {p : Option Addr} {n c : Nat} {bs : List Int} (h : BytesAt w F (.slice p n c) bs) : ∀ (j : Nat) x, bs[j]? = some x → ∃ b o, p = some ⟨b, o, none⟩ ∧ w.cell? ⟨b, o + j, none⟩ = some (.int .u8 x) := by
  obtain ⟨p', c', e, _, h⟩ := h
  injection e with e1 e2 e3
  subst e1
  exact fun j x hj => let ⟨b, o, e, _, hx⟩ := h j x hj; ⟨b, o, e, hx⟩
/-- They are bytes. -/
def Byts (bs : List Int) : Prop := ∀ x ∈ bs, 0 ≤ x ∧ x ≤ 255
/-- A part of it. -/
theorem BytesAt.part {w : World} {F : Nat → Prop} {b o n c : Nat} {bs : List Int} (h : BytesAt w F (.slice (some ⟨b, o, none⟩) n c) bs) {i k : Nat} (hk : i + k ≤ n) :
    BytesAt w F (.slice (some ⟨b, o + i, none⟩) k (c - i)) ((bs.drop i).take k) := by
  obtain ⟨p', c', e, hc, h⟩ := h
  injection e with e1 e2 e3
  subst e1 e2 e3
  have hl : ((bs.drop i).take k).length = k := by rw [List.length_take, List.length_drop]; omega
  refine ⟨_, _, by rw [hl], by omega, fun j x hj => ?_⟩
  rw [List.getElem?_take] at hj
  split at hj
  · rw [List.getElem?_drop] at hj
    obtain ⟨b', o', e', h1, h2⟩ := h _ _ hj
    injection e' with e'
    injection e' with e1 e2 _
    subst e1 e2
    exact ⟨_, _, rfl, h1, by rw [Nat.add_assoc]; exact h2⟩
  · cases hj
/-- Noughts, just made. -/
theorem made_bytes (n : Nat) (w : World) (F : Nat → Prop) (hF : ∀ k, F k → k < w.heap.size) : BytesAt (w.alloc (.cells (madeCells #[.int .u8 0] n) 5)) F (.slice (some ⟨w.heap.size, 0, none⟩) n n) (List.replicate n 0) := by
  refine ⟨_, n, by rw [List.length_replicate], by simp, fun j x hj => ⟨_, _, rfl, fun h => Nat.lt_irrefl _ (hF _ h), ?_⟩⟩
  exact made_holds n w j _ (by simp only [byteVals, List.getElem?_map, hj]; rfl)
theorem list_of {P : Nat → Int → Prop} : ∀ (n : Nat) (_ : ∀ j, j < n → ∃ x, P j x), ∃ l : List Int, l.length = n ∧ ∀ (j : Nat) x, l[j]? = some x → P j x
  | 0, _ => ⟨[], rfl, fun j x hj => by simp at hj⟩
  | n + 1, h => by
    obtain ⟨l, hl, hp⟩ := list_of n fun j hj => h j (by omega)
    obtain ⟨x, hx⟩ := h n (by omega)
    refine ⟨l ++ [x], by simp [hl], fun j y hj => ?_⟩
    by_cases hjn : j < n
    · rw [List.getElem?_append_left (by omega)] at hj; exact hp j y hj
    · rw [List.getElem?_append_right (by omega)] at hj
      by_cases h0 : j = n
      · subst h0; rw [hl, Nat.sub_self] at hj; simp at hj; subst hj; exact hx
      · rw [List.getElem?_eq_none (by simp; omega)] at hj; cases hj
/-- An argument's bytes. -/
theorem arg_bytes {w : World} {p : Option Addr} {len cap : Nat} (hc : len ≤ cap) (hx : ∀ j, j < len → ∃ b o x, p = some ⟨b, o, none⟩ ∧ 0 ≤ x ∧ x ≤ 255 ∧ w.cell? ⟨b, o + j, none⟩ = some (.int .u8 x)) :
    ∃ bs, bs.length = len ∧ BytesAt w (fun _ => False) (.slice p len cap) bs := by
  obtain ⟨bs, hl, hp⟩ := list_of (P := fun j x => ∃ b o, p = some ⟨b, o, none⟩ ∧ w.cell? ⟨b, o + j, none⟩ = some (.int .u8 x)) len fun j hj => by
    obtain ⟨b, o, x, h1, _, _, h2⟩ := hx j hj
    exact ⟨x, b, o, h1, h2⟩
  subst hl
  exact ⟨bs, rfl, p, cap, rfl, hc, fun j x hj => let ⟨b, o, h1, h2⟩ := hp j x hj; ⟨b, o, h1, id, h2⟩⟩

/-- A row of its own, with these bytes. -/
def OwnBytes (w : World) (bs : List Int) (e : Ending) (w' : World) : Prop :=
  ∃ g c, e = .returned (.slice (some ⟨g, 0, none⟩) bs.length c) ∧ bs.length ≤ c ∧ w.heap.size ≤ g ∧ g < w'.heap.size ∧ Holds8 w' g 0 bs ∧ Kp (fun _ => False) w w'
theorem Twin_bytes {w : World} {F : Nat → Prop} {v : Value} {bs : List Int} (h : BytesAt w F v bs) (hl : bs.length ≤ 140737488351232) : Calls Tryz.prog 14 #[v] w (OwnBytes w bs) := by
  refine (Twin_any (bytesAt_cells.1 h) (by rw [List.length_map]; exact hl)).mono ?_
  rintro e w' ⟨u, rfl, g, c, rfl, h1, h2, h3, h4, h5⟩
  rw [List.length_map] at h1 ⊢
  exact ⟨g, c, rfl, h1, h2, h3, h4, h5⟩
theorem Same_bytes {w : World} {F G : Nat → Prop} {v1 v2 : Value} {a b : List Int} (h1 : BytesAt w F v1 a) (h2 : BytesAt w G v2 b) (ha : a.length ≤ 140737488351232) :
    Calls Tryz.prog 21 #[v1, v2] w fun e w' => e = .returned (.bool (decide (a = b))) ∧ Kp (fun _ => False) w w' := SameBytes_any (bytesAt_cells.1 h1) (bytesAt_cells.1 h2) ha
/-- What was handed in, copied, is written. -/
theorem Dsk.append_new {w0 w w' : World} {d : Nat} {S : St} {F : Nat → Prop} (h : Dsk w0 w d S F) {bs : List Int} {g c : Nat} (hc : bs.length ≤ c) (hh : Holds8 w' g 0 bs) (hk : Kp (fun _ => False) w w') (name : Nm) (hs : name.size ≤ maxLen) (hl : bs.length ≤ 140737488351232) :
    Calls Tryz.prog 16 #[.pointer (some ⟨d, 0, none⟩), .string name, .slice (some ⟨g, 0, none⟩) bs.length c] w' (Goes w0 w' d (S.appE name bs.length) (S.appT name bs) F) :=
  (h.step hk).append name hs _ _ _ hl hc bs rfl g 0 (fun _ => rfl) hh
theorem Dsk.append_nil {w0 w : World} {d : Nat} {S : St} {F : Nat → Prop} (h : Dsk w0 w d S F) (name : Nm) (hs : name.size ≤ maxLen) :
    Calls Tryz.prog 16 #[.pointer (some ⟨d, 0, none⟩), .string name, .slice none 0 0] w (Goes w0 w d (S.appE name 0) (S.appT name []) F) :=
  h.append name hs none 0 0 (by omega) (by omega) [] rfl 0 0 (fun h => absurd rfl h) fun j v hj => by simp [byteVals] at hj
end Go.Proofs.YtggnohbfdlebiaaGreatDoor

/-
  log.First, log.Next.
-/
namespace Go.Proofs.YtggnohbfdlebiaaGreatDoor
open Go.RowKit Go.Shelf Go.ChangeMaps

theorem First_at {w : World} {p : Nat} {x : Int} (h : w.cell? ⟨p, 2, none⟩ = some (.int .i64 x)) : Calls Tryz.prog 20 #[.pointer (some ⟨p, 0, none⟩)] w fun e w' => e = .returned (.int .i64 x) ∧ w' = w := by
  go_enter Tryz.func20, Tryz.ntmps20
  go_wp2
  go_ret
  exact ⟨rfl, rfl⟩
theorem Next_at {w : World} {p : Nat} {x : Int} (h : w.cell? ⟨p, 3, none⟩ = some (.int .i64 x)) : Calls Tryz.prog 17 #[.pointer (some ⟨p, 0, none⟩)] w fun e w' => e = .returned (.int .i64 x) ∧ w' = w := by
  go_enter Tryz.func17, Tryz.ntmps17
  go_wp2
  go_ret
  exact ⟨rfl, rfl⟩
theorem First_nil (w : World) : Calls Tryz.prog 20 #[.pointer none] w fun e w' => e = .returned (.int .i64 0) ∧ w' = w := by
  go_enter Tryz.func20, Tryz.ntmps20
  go_wp2
  go_ret
  exact ⟨rfl, rfl⟩
theorem Next_nil (w : World) : Calls Tryz.prog 17 #[.pointer none] w fun e w' => e = .returned (.int .i64 0) ∧ w' = w := by
  go_enter Tryz.func17, Tryz.ntmps17
  go_wp2
  go_ret
  exact ⟨rfl, rfl⟩
end Go.Proofs.YtggnohbfdlebiaaGreatDoor

/-
  A row of bytes of the call's own: what append does to it.
-/
namespace Go.Proofs.YtggnohbfdlebiaaGreatDoor
open Go.RowKit Go.Shelf Go.ChangeMaps

/-- A slice of bytes in memory from B on, none other's; it may grow in place. -/
def Own8 (w : World) (B : Nat) (v : Value) (bs : List Int) : Prop := w.ownsRow B 5 1 v bs.length (byteVals bs)
/-- What append does to the world and to where the row lies. -/
structure Grew (w w' : World) (v v' : Value) : Prop where
  grown : w.grownBy w' v.ownBlock
  block : v'.ownBlock = v.ownBlock ∨ v'.ownBlock = some w.heap.size
theorem byteVals_append (a b : List Int) : byteVals (a ++ b) = byteVals a ++ byteVals b := by simp [byteVals]
theorem byteVals_length (a : List Int) : (byteVals a).length = a.length := by simp [byteVals]
theorem byteVals_one (a : List Int) : ∀ u ∈ byteVals a, u.oneCell' = true := by
  intro u hu
  obtain ⟨x, _, rfl⟩ := List.mem_map.1 hu
  rfl
theorem Own8.nil (w : World) (B : Nat) : Own8 w B (.slice none 0 0) [] := ⟨rfl, .inl ⟨rfl, rfl⟩⟩
theorem u8_parts : ∃ i, Tryz.prog.info? 5 = some i ∧ i.zero = some (.int .u8 0) ∧ i.size = 1 ∧ i.bytes = 1 := by
  have h : (Tryz.prog.info? 5).map (fun i => (i.zero, i.size, i.bytes)) = some (some (.int .u8 0), 1, 1) := by kernel_rfl
  obtain ⟨i, hi, he⟩ := Option.map_eq_some_iff.1 h
  simp only [Prod.mk.injEq] at he
  exact ⟨i, hi, he.1, he.2.1, he.2.2⟩
set_option maxRecDepth 100000 in
theorem own_append {w : World} {B : Nat} {v : Value} {bs cs : List Int} {F : Nat → Prop} {a : Addr} {n c : Nat} (h : Own8 w B v bs) (hx : BytesAt w F (.slice (some a) n c) cs) (hB : B ≤ w.heap.size) (hn : bs.length + cs.length ≤ 100000000) (ty : TypeId) :
    ∃ v' w', (Builtin.append_ #[33, 33] ty #[v, .slice (some a) n c]).run Tryz.prog w = .ok v' w' ∧ Own8 w' B v' (bs ++ cs) ∧ Grew w w' v v' := by
  obtain ⟨i, hi, hz, h1, h2⟩ := u8_parts
  obtain ⟨rfl, _⟩ := hx.len
  have hcells : ∀ (j : Nat) u, (byteVals cs)[j]? = some u → w.cell? (a.add j) = some u := by
    intro j u hj
    simp only [byteVals, List.getElem?_map, Option.map_eq_some_iff] at hj
    obtain ⟨x, hx', rfl⟩ := hj
    obtain ⟨b, o, e, hc⟩ := hx.at_ j x hx'
    injection e with e
    subst e
    rw [Addr.add_lit]; exact hc
  obtain ⟨v', w', hr, ho, hg, _, hb⟩ := run_append_own_at (P := Tryz.prog) w B 33 ty 5 i (.int .u8 0) 1 1 (by kernel_rfl) hi hz h1 h2 rfl (by omega) v bs.length (byteVals bs) h a cs.length c (byteVals cs) (by rw [byteVals_length]; omega) hcells (byteVals_one cs)
    (by unfold maxLen; omega) (by omega) hB
  refine ⟨v', w', hr, ?_, hg, hb⟩
  unfold Own8
  rw [List.length_append, byteVals_append]
  exact ho
theorem zero_cells (n : Nat) : (Builtin.zeroCells #[.int .u8 0] n) = (List.replicate n (.int .u8 0)).toArray := by
  apply Array.ext'
  simp [Builtin.zeroCells, Nat.mod_one, List.map_const']
set_option maxRecDepth 100000 in
theorem own_zeros {w : World} {B : Nat} {v : Value} {bs : List Int} (h : Own8 w B v bs) (hB : B ≤ w.heap.size) (k : Nat) (hn : bs.length + k ≤ 100000000) (ty : TypeId) :
    ∃ v' w', (Builtin.append_ #[33, 3] ty #[v, .int .i64 (k : Int)]).run Tryz.prog w = .ok v' w' ∧ Own8 w' B v' (bs ++ List.replicate k 0) ∧ Grew w w' v v' := by
  obtain ⟨i, hi, hz, h1, h2⟩ := u8_parts
  have ht : Tryz.prog.underlying 33 = some (.slice 5) := by kernel_rfl
  have htn : Tryz.prog.underlying 3 = some (.int .i64) := by kernel_rfl
  have hw : IntKind.i64.wrap (k : Int) = k := by rw [IntKind.wrap_i64]; omega
  have hneg : ¬ ((k : Int) < 0) := by omega
  have h48i : ¬ (281474976710656 < (k : Int) * (i.bytes : Int)) := by rw [h2]; omega
  have hl0 : bs.length = (byteVals bs).length := (byteVals_length bs).symm
  have hout : (bs ++ List.replicate k 0).length = bs.length + k := by simp
  have hvals : byteVals (bs ++ List.replicate k 0) = byteVals bs ++ List.replicate k (Value.int .u8 0) := by rw [byteVals_append]; simp [byteVals]
  have h' := h
  obtain ⟨hlen, hrow⟩ := h'
  unfold Own8
  rw [hout, hvals]
  by_cases hk : k = 0
  · subst hk
    have hw0 : IntKind.i64.wrap 0 = 0 := by simpa using hw
    refine ⟨v, w, ?_, by simpa [Own8] using h, ⟨⟨rfl, rfl, rfl, Nat.le_refl _, fun _ _ _ => rfl⟩, .inl rfl⟩⟩
    rcases hrow with ⟨rfl, h0⟩ | ⟨g, cap, cur, rfl, hbg, hg, hnc, hcm, hcs, htake⟩
    · simp [Builtin.append_, run_underlying ht, run_underlying htn, sizeOf, typeInfo, hi, asInt, asIntOf, hw0]
    · simp [Builtin.append_, run_underlying ht, run_underlying htn, sizeOf, typeInfo, hi, asInt, asIntOf, hw0, hnc, storeCells]
  · have grown : ∀ (old : Nat), old < bs.length + k → ∀ (row : Option Nat) (xs : List Value), xs = byteVals bs →
        (w.drew.alloc (.cells (xs ++ List.replicate k (Value.int .u8 0) ++ List.replicate (grownCap w (bs.length + k) old 5 - (bs.length + k)) (Value.int .u8 0)).toArray 5)).ownsRow B 5 1
          (.slice (some ⟨w.heap.size, 0, none⟩) (bs.length + k) (grownCap w (bs.length + k) old 5)) (bs.length + k) (byteVals bs ++ List.replicate k (Value.int .u8 0)) ∧
        w.grownBy (w.drew.alloc (.cells (xs ++ List.replicate k (Value.int .u8 0) ++ List.replicate (grownCap w (bs.length + k) old 5 - (bs.length + k)) (Value.int .u8 0)).toArray 5)) row := by
      intro old ho row xs hxs
      subst hxs
      have hge := grownCap_ge w (bs.length + k) old 5
      have hcm : grownCap w (bs.length + k) old 5 ≤ maxLen := grownCap_le_maxLen w (bs.length + k) old 5 (by unfold maxLen; omega)
      have hll : (byteVals bs ++ List.replicate k (Value.int .u8 0)).length = bs.length + k := by rw [List.length_append, byteVals_length, List.length_replicate]
      refine ⟨⟨by rw [hll]; omega, .inr ⟨w.heap.size, _, _, rfl, hB, heap_alloc_new w.drew _, hge, hcm, ?_, ?_⟩⟩, ⟨rfl, rfl, rfl, by simp, fun j hj _ => alloc_old' w.drew _ j hj⟩⟩
      · rw [List.size_toArray, List.length_append, hll, List.length_replicate]; omega
      · show ((byteVals bs ++ List.replicate k (Value.int .u8 0)) ++ _).take ((bs.length + k) * 1) = _
        rw [Nat.mul_one, ← hll, List.take_left]
    rcases hrow with ⟨rfl, h0⟩ | ⟨g, cap, cur, rfl, hbg, hg, hnc, hcm, hcs, htake⟩
    · have hb0 : bs = [] := List.eq_nil_of_length_eq_zero h0
      subst hb0
      have hr := Lib.run_append_nil_zeros (P := Tryz.prog) w 33 3 ty 5 i (.int .u8 0) .i64 .i64 ht htn hi hz k (by omega) (by omega) (by omega) (by rw [h2]; omega)
      rw [show (Value.int .u8 0).cells = #[.int .u8 0] from rfl, zero_cells, zero_cells, List.append_toArray] at hr
      have hg2 := grown 0 (by simp; omega) none [] rfl
      simp only [List.length_nil, Nat.zero_add, List.nil_append] at hg2 ⊢
      exact ⟨_, _, hr, hg2.1, ⟨hg2.2, .inr rfl⟩⟩
    · by_cases hroom : bs.length + k ≤ cap
      · have hst := storeCells_run (P := Tryz.prog) (off := bs.length) hg (List.replicate k (Value.int .u8 0)) (by rw [List.length_replicate]; omega) (fun v hv => by rw [(List.mem_replicate.1 hv).2]; rfl)
        refine ⟨.slice (some ⟨g, 0, none⟩) (bs.length + k) cap, w.setRow g (splice cur bs.length (List.replicate k (Value.int .u8 0))), ?_, ⟨by rw [List.length_append, byteVals_length, List.length_replicate]; omega, .inr ⟨g, cap, _, rfl, hbg, setRow_heap w g cur _ _ _ hg, hroom, hcm, ?_, ?_⟩⟩, ⟨⟨rfl, rfl, rfl, by simp, fun j _ hj => setRow_other w g j _ (fun e => hj (by simp [Value.ownBlock, e]))⟩, .inl rfl⟩⟩
        · simp [Builtin.append_, run_underlying ht, run_underlying htn, sizeOf, typeInfo, hi, asInt, asIntOf, hw, hneg, h48i, hroom, Value.cells, zero_cells, Addr.add_lit, h1, hst, hk]
        · rw [splice_size]
          · omega
          · rw [List.length_replicate]; omega
        · unfold splice
          rw [Nat.mul_one] at htake ⊢
          rw [htake, show bs.length + k = (byteVals bs ++ List.replicate k (Value.int .u8 0)).length by rw [List.length_append, byteVals_length, List.length_replicate]]
          exact List.take_left
      · have holds : ∀ (j : Nat) u, (byteVals bs)[j]? = some u → w.drew.cell? ((⟨g, 0, none⟩ : Addr).add j) = some u := h.cells (g := g) rfl
        have hfo := run_firstCells_some (P := Tryz.prog) w.drew i.size bs.length ⟨g, 0, none⟩ bs.length cap (byteVals bs) (by rw [h1, byteVals_length]; omega) holds
        rw [h1] at hfo
        have hg2 := grown cap (by omega) (Value.ownBlock (.slice (some ⟨g, 0, none⟩) bs.length cap)) _ rfl
        refine ⟨_, _, ?_, hg2.1, ⟨hg2.2, .inr rfl⟩⟩
        have h63 : ¬ (9223372036854775807 < ((bs.length : Int) + (k : Int))) := by omega
        have h48 : ¬ (281474976710656 < Builtin.nextslicecap (bs.length + k) cap * i.bytes) := Nat.not_lt.2 (growslice_fits (by omega) (by rw [h2]; omega))
        simp [Builtin.append_, run_underlying ht, run_underlying htn, sizeOf, typeInfo, hi, asInt, asIntOf, hw, hneg, h48i, hroom, Value.cells, zero_cells, h1, hk, h63, h48, Question.forced, hfo, newRow, grownCap]
        congr 2
        apply Array.ext'
        simp
theorem Grew.kp {w w' : World} {v v' : Value} (h : Grew w w' v v') {F : Nat → Prop} (hF : ∀ k, v.ownBlock = some k → F k ∨ w.heap.size ≤ k) : Kp F w w' := Kp.of_grown h.grown hF
theorem Own8.base {w : World} {B B' : Nat} {v : Value} {bs : List Int} (h : Own8 w B v bs) (hB : B' ≤ B) : Own8 w B' v bs := by
  obtain ⟨h1, h2⟩ := h
  refine ⟨h1, h2.imp id ?_⟩
  rintro ⟨g, cap, cur, e, hg, r⟩
  exact ⟨g, cap, cur, e, Nat.le_trans hB hg, r⟩
theorem Own8.kept {w w' : World} {B : Nat} {v : Value} {bs : List Int} {F : Nat → Prop} (h : Own8 w B v bs) (hk : Kp F w w') (hF : ∀ k, v.ownBlock = some k → ¬ F k) : Own8 w' B v bs := by
  obtain ⟨h1, h2⟩ := h
  refine ⟨h1, h2.imp id ?_⟩
  rintro ⟨g, cap, cur, rfl, hg, hh, r⟩
  exact ⟨g, cap, cur, rfl, hg, hk.blk hh (hF g rfl), r⟩
theorem Own8.lt {w : World} {B : Nat} {v : Value} {bs : List Int} (h : Own8 w B v bs) : ∀ k, v.ownBlock = some k → B ≤ k ∧ k < w.heap.size := by
  intro k hk
  obtain ⟨_, ⟨rfl, _⟩ | ⟨g, cap, cur, rfl, hg, hh, _⟩⟩ := h
  · cases hk
  · simp only [Value.ownBlock, Option.some.injEq] at hk
    subst hk
    exact ⟨hg, blk_lt hh⟩
theorem Own8.bytes {w : World} {B : Nat} {v : Value} {bs : List Int} (h : Own8 w B v bs) (F : Nat → Prop) (hF : ∀ k, v.ownBlock = some k → ¬ F k) : BytesAt w F v bs := by
  obtain ⟨_, ⟨rfl, h0⟩ | ⟨g, cap, cur, rfl, hg, hh, hnc, _, _, ht⟩⟩ := h
  · have hb0 := List.eq_nil_of_length_eq_zero h0
    subst hb0
    exact ⟨none, 0, rfl, Nat.le_refl _, fun j x hj => by simp at hj⟩
  · refine ⟨_, cap, rfl, hnc, fun j x hj => ⟨g, 0, rfl, hF g rfl, ?_⟩⟩
    rw [Nat.zero_add, blk_cell hh]
    have hlt := (List.getElem?_eq_some_iff.1 hj).1
    have h1 : (byteVals bs)[j]? = some (.int .u8 x) := by simp [byteVals, hj]
    rw [← ht, List.getElem?_take, if_pos (by omega)] at h1
    simpa using h1
theorem own_empty (w : World) (B : Nat) (hB : B ≤ w.heap.size) : Own8 (w.alloc (.cells #[] 5)) B (.slice (some ⟨w.heap.size, 0, none⟩) 0 0) [] :=
  ⟨rfl, .inr ⟨w.heap.size, 0, #[], rfl, hB, heap_alloc_new w _, Nat.le_refl _, Nat.zero_le _, rfl, rfl⟩⟩
theorem Clone_bytes {w : World} {F : Nat → Prop} {a : Addr} {n c : Nat} {bs : List Int} (h : BytesAt w F (.slice (some a) n c) bs) (hl : bs.length ≤ 90000000) :
    Calls Tryz.prog 66 #[.slice (some a) n c] w fun e w' => ∃ v, e = .returned v ∧ Own8 w' w.heap.size v bs ∧ Kp (fun _ => False) w w' := by
  have hq : (binOp .eql 33 (.slice (some a) n c) (.slice none 0 0)).run Tryz.prog w = .ok (.bool false) w := Lib.run_eql_slice_nil w _ 5 _ _ _ _ _ (by kernel_rfl)
  have h2 : BytesAt (w.alloc (.cells #[] 5)) (fun k => F k ∧ k < w.heap.size) (.slice (some a) n c) bs := (h.mono fun _ h => h.1).kept ((Kp.refl _ w).alloc _) fun _ h => .inl h
  obtain ⟨v', w', hap, ho, hg⟩ := own_append (own_empty w w.heap.size (Nat.le_refl _)) h2 (by simp) (by simp; omega) 33
  have HO := Lib.hid ho
  have HG := Lib.hid hg
  clear h h2 ho hg hl
  go_enter Tryz.func66, Tryz.ntmps66
  go_wp2_with (at_builtin; refine wpList_append_run rfl _ _ _ _ rfl rfl rfl hap ?_)
  go_ret
  refine ⟨_, rfl, ?_, ?_⟩
  · have := HO.out; rwa [List.nil_append] at this
  · refine ((Kp.refl (fun _ => False) w).alloc _).trans' (HG.out.kp (F := fun k => w.heap.size ≤ k) fun k hk => ?_) fun k hk => .inr hk
    simp only [Value.ownBlock, Option.some.injEq] at hk
    subst hk
    exact .inl (Nat.le_refl _)

/-- A row just made out of bytes. -/
theorem row_bytes (w : World) (cs : List Int) (F : Nat → Prop) (hF : ∀ k, F k → k < w.heap.size) : BytesAt (w.alloc (.cells (byteVals cs).toArray 5)) F (.slice (some ⟨w.heap.size, 0, none⟩) cs.length cs.length) cs := by
  refine ⟨_, cs.length, rfl, Nat.le_refl _, fun j x hj => ⟨_, _, rfl, fun h => Nat.lt_irrefl _ (hF _ h), ?_⟩⟩
  rw [Nat.zero_add, blk_cell (heap_alloc_new w _), List.getElem?_toArray]
  simp [byteVals, hj]
theorem Own8.alloc {w : World} {B : Nat} {v : Value} {bs : List Int} (h : Own8 w B v bs) (o : Obj) : Own8 (w.alloc o) B v bs := h.kept (F := fun _ => False) ((Kp.refl _ w).alloc o) fun _ _ h => h
theorem Own8.slice {w : World} {B : Nat} {v : Value} {bs : List Int} (h : Own8 w B v bs) : ∃ p n c, v = .slice p n c := by
  obtain ⟨_, ⟨rfl, _⟩ | ⟨g, cap, cur, rfl, _⟩⟩ := h
  · exact ⟨_, _, _, rfl⟩
  · exact ⟨_, _, _, rfl⟩
theorem own_one (w : World) (x : Int) : Own8 (w.alloc (.cells #[.int .u8 x] 5)) w.heap.size (.slice (some ⟨w.heap.size, 0, none⟩) 1 1) [x] :=
  ⟨rfl, .inr ⟨w.heap.size, 1, _, rfl, Nat.le_refl _, heap_alloc_new w _, by simp, by decide, rfl, rfl⟩⟩
theorem Own8.at_ {w : World} {B : Nat} {v : Value} {bs : List Int} {F : Nat → Prop} (h : Own8 w B v bs) (hF : ∀ k, F k → k < B) : BytesAt w F v bs := h.bytes F fun k hk hf => by have := (h.lt k hk).1; have := hF k hf; omega
/-- append of bytes just made onto a row of one's own. -/
theorem own_push {w : World} {B : Nat} {v : Value} {bs : List Int} (h : Own8 w B v bs) (hB : B ≤ w.heap.size) (cs : List Int) (hn : bs.length + cs.length ≤ 1000000) (ty : TypeId) :
    ∃ v' w', (Builtin.append_ #[33, 33] ty #[v, .slice (some ⟨w.heap.size, 0, none⟩) cs.length cs.length]).run Tryz.prog (w.alloc (.cells (byteVals cs).toArray 5)) = .ok v' w' ∧ Own8 w' B v' (bs ++ cs) ∧ Kp (fun k => B ≤ k) w w' := by
  obtain ⟨v', w', hap, ho, hg⟩ := own_append (h.alloc (.cells (byteVals cs).toArray 5)) (row_bytes w cs (fun _ => False) fun _ h => h.elim) (by rw [alloc_size']; omega) (by omega) ty
  exact ⟨v', w', hap, ho, (((Kp.refl _ w).alloc _)).trans' (hg.kp (F := fun k => B ≤ k) fun i hi => .inl (h.lt i hi).1) fun i hi => .inl hi⟩
theorem BytesAt.ptr {w : World} {F : Nat → Prop} {v : Value} {bs : List Int} (h : BytesAt w F v bs) (hn : 0 < bs.length) : ∃ b o n c, v = .slice (some ⟨b, o, none⟩) n c := by
  obtain ⟨p, c, rfl, _, h⟩ := h
  obtain ⟨b, o, rfl, _⟩ := h 0 bs[0] (List.getElem?_eq_getElem hn)
  exact ⟨_, _, _, _, rfl⟩
end Go.Proofs.YtggnohbfdlebiaaGreatDoor

/-
  sum.Crc: what it returns.
-/
namespace Go.Proofs.YtggnohbfdlebiaaGreatDoor
open Go.RowKit Go.Shelf Go.ChangeMaps
set_option maxRecDepth 100000 in
set_option maxHeartbeats 2000000 in
theorem Crc_any {w : World} {F : Nat → Prop} {p : Option Addr} {n cap : Nat} {bs : List Int} (hb : BytesAt w F (.slice p n cap) bs) (hr : Byts bs) (hn : n ≤ 1000000) :
    Calls Tryz.prog 68 #[.slice p n cap] w (fun e w' => e = .returned (.int .u32 (crcF bs)) ∧ w = w') := by
  have HL := Lib.hid hb.len.1.symm
  have HX : Hid (∀ (j : Nat) x, bs[j]? = some x → 0 ≤ x ∧ x ≤ 255 ∧ ∃ b o, p = some ⟨b, o, none⟩ ∧ w.cell? ⟨b, o + j, none⟩ = some (.int .u8 x)) := fun j x hj =>
    let ⟨b, o, e, h⟩ := hb.at_ j x hj
    ⟨(hr x (List.mem_of_getElem? hj)).1, (hr x (List.mem_of_getElem? hj)).2, b, o, e, h⟩
  clear hb hr
  go_enter Tryz.func68, Tryz.ntmps68
  go_wp2
  go_loopw [3, 8] (fun vc vi wr => ∃ (i : Nat) (c : Int), i ≤ n ∧ vi = .int .i64 i ∧ vc = .int .u32 c ∧ c = crcSum (bs.take i) ∧ (0 ≤ c ∧ c ≤ 4294967295) ∧ wr = w) (fun _ i _ => n - (intOf i).toNat)
  case atStart => exact ⟨0, 4294967295, Nat.zero_le _, rfl, rfl, rfl, by omega, rfl⟩
  case round =>
    obtain ⟨i, c, hi, rfl, rfl, hcs, hc, rfl⟩ := hrel
    have HC := Lib.hid hcs
    clear hcs
    by_cases hin : i < n
    · have hg : bs[i]? = some (bs[i]'(by rw [HL.out]; exact hin)) := List.getElem?_eq_getElem _
      obtain ⟨x, hx⟩ : ∃ x, bs[i]'(by rw [HL.out]; exact hin) = x := ⟨_, rfl⟩
      rw [hx] at hg
      obtain ⟨h1, h2, b, o, rfl, h3⟩ := HX.out i x hg
      have HG := Lib.hid hg
      clear hx hg
      go_wp2
      obtain ⟨c1, hc1⟩ : ∃ c1, bits BinOp.xor IntKind.u32 c x = c1 := ⟨_, rfl⟩
      rw [hc1]
      have hc3 := bits_u32 .xor c x
      rw [hc1] at hc3
      obtain ⟨wo, hwo⟩ : ∃ wo, wo = wr := ⟨_, rfl⟩
      subst hwo
      have HC1 := Lib.hid hc1
      clear hc1 hc h1 h2 h3
      go_loopw [3, 16] (fun vc vk wr => ∃ (k : Nat) (c : Int), k ≤ 8 ∧ vk = .int .i64 k ∧ vc = .int .u32 c ∧ c = crcBits k c1 ∧ (0 ≤ c ∧ c ≤ 4294967295) ∧ wr = wo) (fun _ i _ => 8 - (intOf i).toNat)
      case atStart => exact ⟨0, c1, Nat.zero_le _, rfl, rfl, rfl, hc3, rfl⟩
      case round =>
        obtain ⟨k, c2, hk, rfl, rfl, hcb, hc, rfl⟩ := hrel
        have HB := Lib.hid hcb
        clear hcb
        by_cases hk8 : k < 8
        · go_wp2
          go_roundw
          case rel => exact ⟨k + 1, _, by omega, by go_num, rfl, by rw [HB.out]; rfl, bits_u32 _ _ _, trivial⟩
          case measure => simp [intOf]; omega
        · obtain rfl : k = 8 := by omega
          go_wp2
          go_roundw
          case rel => exact ⟨i + 1, c2, by omega, by go_num, rfl, by rw [List.take_add_one, HG.out, Option.toList_some, crcSum_succ, ← HC.out, HB.out, ← HC1.out]; rfl, hc, trivial⟩
          case measure => simp [intOf]; omega
    · obtain rfl : i = n := by omega
      go_wp2
      go_ret
      refine ⟨?_, rfl⟩
      rw [show crcF bs = bits .xor .u32 IntKind.u32.max c by unfold crcF; rw [HC.out, List.take_of_length_le (by rw [HL.out]; exact Nat.le_refl _)]]
      rfl
end Go.Proofs.YtggnohbfdlebiaaGreatDoor

/-
  bytes.Count of noughts among noughts.
-/
namespace Go.Proofs.YtggnohbfdlebiaaGreatDoor
open Go.RowKit Go.Shelf Go.ChangeMaps

theorem count_noughts (k : Nat) : Lib.countByte (Lib.bytesOf (List.replicate k 0)) (0 : Int).toNat.toUInt8 = k := by
  simp [Lib.countByte, Lib.bytesOf]
/-- Of k noughts there are k. -/
theorem Count_noughts {w : World} {F : Nat → Prop} {a : Addr} {n c k b2 o2 d : Nat} (h : BytesAt w F (.slice (some a) n c) (List.replicate k 0)) (h2 : w.cell? ⟨b2, o2, none⟩ = some (.int .u8 0)) :
    Calls Tryz.prog 112 #[.slice (some a) n c, .slice (some ⟨b2, o2, none⟩) 1 d] w fun e w' => e = .returned (.int .i64 (k : Int)) ∧ w' = w := by
  obtain rfl := h.len.1
  have hh := Any.bytes_Count_one_at Tryz.laysCount a _ c b2 o2 d (List.replicate k 0) 0 w rfl (fun i hi => by
    obtain ⟨b', o', e, hc⟩ := h.at_ i _ (List.getElem?_eq_getElem hi)
    injection e with e
    subst e
    have e3 : (⟨b', o', none⟩ : Addr).add i = ⟨b', o' + i, none⟩ := by unfold Addr.add; split <;> simp_all
    rw [e3, hc, List.getD_eq_getElem?_getD, List.getElem?_eq_getElem hi]; rfl) h2
  rw [count_noughts] at hh
  exact hh
end Go.Proofs.YtggnohbfdlebiaaGreatDoor

/-
  bytes.Equal of what is alike.
-/
namespace Go.Proofs.YtggnohbfdlebiaaGreatDoor
open Go.RowKit Go.Shelf Go.ChangeMaps

theorem convert_bytes {w : World} {F : Nat → Prop} {b o n c : Nat} {bs : List Int} (h : BytesAt w F (.slice (some ⟨b, o, none⟩) n c) bs) :
    (convert 33 9 (.slice (some ⟨b, o, none⟩) n c)).run Tryz.prog w = .ok (.string (strOfNums bs)) w := by
  obtain rfl := h.len.1
  refine run_convert_bytes_arg (P := Tryz.prog) w 33 5 (by kernel_rfl) (by kernel_rfl) b o bs.length c bs rfl (fun i hi => ?_) 9 (by kernel_rfl)
  obtain ⟨b', o', e, hc⟩ := h.at_ i bs[i] (List.getElem?_eq_getElem hi)
  injection e with e
  injection e with e1 e2 _
  subst e1 e2
  rw [hc, List.getD_eq_getElem?_getD, List.getElem?_eq_getElem hi]; rfl
theorem Equal_same {w : World} {F G : Nat → Prop} {b1 o1 n1 c1 b2 o2 n2 c2 : Nat} {bs : List Int} (h1 : BytesAt w F (.slice (some ⟨b1, o1, none⟩) n1 c1) bs) (h2 : BytesAt w G (.slice (some ⟨b2, o2, none⟩) n2 c2) bs) :
    Calls Tryz.prog 88 #[.slice (some ⟨b1, o1, none⟩) n1 c1, .slice (some ⟨b2, o2, none⟩) n2 c2] w fun e w' => e = .returned (.bool true) ∧ w = w' := by
  have e1 := convert_bytes h1
  have e2 := convert_bytes h2
  obtain ⟨s, hs⟩ : ∃ s, strOfNums bs = s := ⟨_, rfl⟩
  rw [hs] at e1 e2
  clear h1 h2 hs
  go_enter Tryz.func88, Tryz.ntmps88
  go_wp2
  go_ret

  exact ⟨rfl, rfl⟩
end Go.Proofs.YtggnohbfdlebiaaGreatDoor

/-
  sum.Sha's parts, plainly, and the walks of the small ones.
-/
namespace Go.Proofs.YtggnohbfdlebiaaGreatDoor
open Go.RowKit Go.Shelf Go.ChangeMaps Go.ChangeShapes

/-- Turned to the left by s bits. -/
def rotF (x : Int) (s : Nat) : Int := bits .or .u32 (x * 2 ^ s % 4294967296) (x / 2 ^ (32 - s))
def wordF (a b c d : Int) : Int := bits .or .u32 (bits .or .u32 (bits .or .u32 (a * 16777216) (b * 65536)) (c * 256)) d
theorem bits32 (op : BinOp) (x y : Int) : 0 ≤ bits op .u32 x y ∧ bits op .u32 x y ≤ 4294967295 := bounds_u32 (wf_bits op .u32 x y)
theorem rotF_range (x : Int) (s : Nat) : 0 ≤ rotF x s ∧ rotF x s ≤ 4294967295 := bits32 _ _ _
theorem wordF_range (a b c d : Int) : 0 ≤ wordF a b c d ∧ wordF a b c d ≤ 4294967295 := bits32 _ _ _
set_option maxRecDepth 100000 in
set_option maxHeartbeats 400000 in
theorem rot_7 (w : World) (x : Int) (_hx : 0 ≤ x ∧ x ≤ 4294967295) : Calls Tryz.prog 114 #[.int .u32 x, .int .i64 (-7)] w fun e w' => e = .returned (.int .u32 (rotF x 25)) ∧ w' = w := by
  have hk : bits BinOp.and IntKind.u64 (IntKind.u64.wrap (-7)) 31 = 25 := by kernel_rfl
  go_enter Tryz.func114, Tryz.ntmps114
  go_wp2
  go_ret
  exact ⟨rfl, rfl⟩
set_option maxRecDepth 100000 in
set_option maxHeartbeats 400000 in
theorem rot_18 (w : World) (x : Int) (_hx : 0 ≤ x ∧ x ≤ 4294967295) : Calls Tryz.prog 114 #[.int .u32 x, .int .i64 (-18)] w fun e w' => e = .returned (.int .u32 (rotF x 14)) ∧ w' = w := by
  have hk : bits BinOp.and IntKind.u64 (IntKind.u64.wrap (-18)) 31 = 14 := by kernel_rfl
  go_enter Tryz.func114, Tryz.ntmps114
  go_wp2
  go_ret
  exact ⟨rfl, rfl⟩
set_option maxRecDepth 100000 in
set_option maxHeartbeats 400000 in
theorem rot_17 (w : World) (x : Int) (_hx : 0 ≤ x ∧ x ≤ 4294967295) : Calls Tryz.prog 114 #[.int .u32 x, .int .i64 (-17)] w fun e w' => e = .returned (.int .u32 (rotF x 15)) ∧ w' = w := by
  have hk : bits BinOp.and IntKind.u64 (IntKind.u64.wrap (-17)) 31 = 15 := by kernel_rfl
  go_enter Tryz.func114, Tryz.ntmps114
  go_wp2
  go_ret
  exact ⟨rfl, rfl⟩
set_option maxRecDepth 100000 in
set_option maxHeartbeats 400000 in
theorem rot_19 (w : World) (x : Int) (_hx : 0 ≤ x ∧ x ≤ 4294967295) : Calls Tryz.prog 114 #[.int .u32 x, .int .i64 (-19)] w fun e w' => e = .returned (.int .u32 (rotF x 13)) ∧ w' = w := by
  have hk : bits BinOp.and IntKind.u64 (IntKind.u64.wrap (-19)) 31 = 13 := by kernel_rfl
  go_enter Tryz.func114, Tryz.ntmps114
  go_wp2
  go_ret
  exact ⟨rfl, rfl⟩
set_option maxRecDepth 100000 in
set_option maxHeartbeats 400000 in
theorem rot_6 (w : World) (x : Int) (_hx : 0 ≤ x ∧ x ≤ 4294967295) : Calls Tryz.prog 114 #[.int .u32 x, .int .i64 (-6)] w fun e w' => e = .returned (.int .u32 (rotF x 26)) ∧ w' = w := by
  have hk : bits BinOp.and IntKind.u64 (IntKind.u64.wrap (-6)) 31 = 26 := by kernel_rfl
  go_enter Tryz.func114, Tryz.ntmps114
  go_wp2
  go_ret
  exact ⟨rfl, rfl⟩
set_option maxRecDepth 100000 in
set_option maxHeartbeats 400000 in
theorem rot_11 (w : World) (x : Int) (_hx : 0 ≤ x ∧ x ≤ 4294967295) : Calls Tryz.prog 114 #[.int .u32 x, .int .i64 (-11)] w fun e w' => e = .returned (.int .u32 (rotF x 21)) ∧ w' = w := by
  have hk : bits BinOp.and IntKind.u64 (IntKind.u64.wrap (-11)) 31 = 21 := by kernel_rfl
  go_enter Tryz.func114, Tryz.ntmps114
  go_wp2
  go_ret
  exact ⟨rfl, rfl⟩
set_option maxRecDepth 100000 in
set_option maxHeartbeats 400000 in
theorem rot_25 (w : World) (x : Int) (_hx : 0 ≤ x ∧ x ≤ 4294967295) : Calls Tryz.prog 114 #[.int .u32 x, .int .i64 (-25)] w fun e w' => e = .returned (.int .u32 (rotF x 7)) ∧ w' = w := by
  have hk : bits BinOp.and IntKind.u64 (IntKind.u64.wrap (-25)) 31 = 7 := by kernel_rfl
  go_enter Tryz.func114, Tryz.ntmps114
  go_wp2
  go_ret
  exact ⟨rfl, rfl⟩
set_option maxRecDepth 100000 in
set_option maxHeartbeats 400000 in
theorem rot_2 (w : World) (x : Int) (_hx : 0 ≤ x ∧ x ≤ 4294967295) : Calls Tryz.prog 114 #[.int .u32 x, .int .i64 (-2)] w fun e w' => e = .returned (.int .u32 (rotF x 30)) ∧ w' = w := by
  have hk : bits BinOp.and IntKind.u64 (IntKind.u64.wrap (-2)) 31 = 30 := by kernel_rfl
  go_enter Tryz.func114, Tryz.ntmps114
  go_wp2
  go_ret
  exact ⟨rfl, rfl⟩
set_option maxRecDepth 100000 in
set_option maxHeartbeats 400000 in
theorem rot_13 (w : World) (x : Int) (_hx : 0 ≤ x ∧ x ≤ 4294967295) : Calls Tryz.prog 114 #[.int .u32 x, .int .i64 (-13)] w fun e w' => e = .returned (.int .u32 (rotF x 19)) ∧ w' = w := by
  have hk : bits BinOp.and IntKind.u64 (IntKind.u64.wrap (-13)) 31 = 19 := by kernel_rfl
  go_enter Tryz.func114, Tryz.ntmps114
  go_wp2
  go_ret
  exact ⟨rfl, rfl⟩
set_option maxRecDepth 100000 in
set_option maxHeartbeats 400000 in
theorem rot_22 (w : World) (x : Int) (_hx : 0 ≤ x ∧ x ≤ 4294967295) : Calls Tryz.prog 114 #[.int .u32 x, .int .i64 (-22)] w fun e w' => e = .returned (.int .u32 (rotF x 10)) ∧ w' = w := by
  have hk : bits BinOp.and IntKind.u64 (IntKind.u64.wrap (-22)) 31 = 10 := by kernel_rfl
  go_enter Tryz.func114, Tryz.ntmps114
  go_wp2
  go_ret
  exact ⟨rfl, rfl⟩
set_option maxRecDepth 100000 in
set_option maxHeartbeats 400000 in
theorem word_any {w : World} {b o c n : Nat} {x0 x1 x2 x3 : Int} (_hn : 4 ≤ n) (h0 : 0 ≤ x0 ∧ x0 ≤ 255) (h1 : 0 ≤ x1 ∧ x1 ≤ 255) (h2 : 0 ≤ x2 ∧ x2 ≤ 255) (_h3 : 0 ≤ x3 ∧ x3 ≤ 255)
    (c0 : w.cell? ⟨b, o, none⟩ = some (.int .u8 x0)) (c1 : w.cell? ⟨b, o + 1, none⟩ = some (.int .u8 x1)) (c2 : w.cell? ⟨b, o + 2, none⟩ = some (.int .u8 x2)) (c3 : w.cell? ⟨b, o + 3, none⟩ = some (.int .u8 x3)) :
    Calls Tryz.prog 113 #[.slice (some ⟨b, o, none⟩) n c] w fun e w' => e = .returned (.int .u32 (wordF x0 x1 x2 x3)) ∧ ∃ k, w' = w.drewN k := by
  go_enter Tryz.func113, Tryz.ntmps113
  go_wp2
  go_quiet (fail)
  go_wp2
  go_ret
  exact ⟨rfl, _, rfl⟩
end Go.Proofs.YtggnohbfdlebiaaGreatDoor

/-
  An array of 32 bytes is like itself.
-/
namespace Go.Proofs.YtggnohbfdlebiaaGreatDoor
open Go.RowKit Go.Shelf Go.ChangeMaps

theorem eqItems_same (w : World) (d : Nat) (l : List Int) : ∀ is : List Nat, (∀ i ∈ is, i < l.length) → (Op.eqItems (d + 1) 5 1 (byteVals l).toArray (byteVals l).toArray is).run Tryz.prog w = .ok true w
  | [], _ => by simp [Op.eqItems]
  | i :: is, h => by
    have hi : i < l.length := h i (List.mem_cons_self ..)
    have hp : (part 5 (byteVals l).toArray (i * 1)).run Tryz.prog w = .ok (.int .u8 l[i]) w := by
      have ha : (isAgg 5).run Tryz.prog w = .ok false w := by
        simp [isAgg, run_underlying Tryz.underlying5]
      simp [part, ha, byteVals, hi]
    have he : (Op.equalIn (d + 1) 5 (.int .u8 l[i]) (.int .u8 l[i])).run Tryz.prog w = .ok true w := by
      simp [Op.equalIn, run_underlying Tryz.underlying5]
    simp only [Op.eqItems, Sem.run_bind, hp, Result.andThen_ok, he]
    exact eqItems_same w d l is fun j hj => h j (List.mem_cons_of_mem _ hj)
theorem equal32 (w : World) {l : List Int} (hl : l.length = 32) : (Op.equalIn 10000 74 (.agg (byteVals l).toArray) (.agg (byteVals l).toArray)).run Tryz.prog w = .ok true w := by
  obtain ⟨i, hi, _⟩ := u8_parts
  rw [show (10000 : Nat) = 9999 + 1 from rfl, run_equalIn_array w 9999 _ _ Tryz.underlying74 hi, show Tryz.prog.cellsOf 5 = 1 by kernel_rfl]
  exact eqItems_same w 9998 l (List.range 32) fun j hj => by rw [hl]; exact List.mem_range.1 hj
/-- In a region: two arrays that are alike are not unlike. -/
theorem neq_take {o : Oper} {a : Act} {w : World} {C : Array Value} {l : List Int} (hl : l.length = 32) (hC : (byteVals l).toArray = C) (ty : TypeId) (x y : Operand) (ho : o.op = .binOp .neq 74 x y ty) (hx : a.eval x = .agg C) (hy : a.eval y = .agg C) :
    (execOp a.eval o).run Tryz.prog w = .ok (.value (.bool false)) w := by
  subst hC
  unfold execOp
  simp only [ho, hx, hy, Sem.run_bind, run_eqGuard_agg w _ _ _ _ _ _ (show Tryz.prog.eqGuardType Tryz.prog.depth 74 = false by kernel_rfl), run_neq_struct, equal32 w hl, Result.andThen_ok, Sem.run_pure, Bool.not_true]
/-- In a region: a row of 32 bytes as an array. -/
theorem array_take {o : Oper} {a : Act} {w : World} {p : Option Addr} {n c : Nat} (hn : 32 ≤ n) (x : Operand) (ho : o.op = .sliceToArrayPointer 74 x) (hx : a.eval x = .slice p n c) :
    (execOp a.eval o).run Tryz.prog w = .ok (.value (.pointer p)) w := by
  unfold execOp
  simp only [ho, hx, Instr.arrayAt, Sem.run_bind, run_underlying Tryz.underlying74, Result.andThen_ok, if_neg (show ¬ n < 32 by omega), Sem.run_pure]
end Go.Proofs.YtggnohbfdlebiaaGreatDoor

/-
  log.name: a segment's file's name. log.segment: of such a name, and of a name of another length.
-/
namespace Go.Proofs.YtggnohbfdlebiaaGreatDoor
open Go.RowKit Go.Shelf Go.ChangeMaps

/-- The k lowest figures. -/
def ldigs (n : Nat) : Nat → List Int
  | 0 => []
  | k + 1 => (48 + ((n / 10 ^ k % 10 : Nat) : Int)) :: ldigs n k
theorem ldigs_length (n : Nat) : ∀ k, (ldigs n k).length = k
  | 0 => rfl
  | k + 1 => by rw [ldigs, List.length_cons, ldigs_length n k]
/-- With k figures filled in, from behind. -/
def lnameK (n k : Nat) : List Int := 108 :: (List.replicate (8 - k) 48 ++ ldigs n k)
theorem lnameK_length (n k : Nat) (h : k ≤ 8) : (lnameK n k).length = 9 := by
  simp only [lnameK, List.length_cons, List.length_append, List.length_replicate, ldigs_length]; omega
theorem lnameK_at (n k : Nat) (h : k < 8) : (lnameK n k)[8 - k]? = some 48 := by
  obtain ⟨m, hm⟩ : ∃ m, 8 - k = m + 1 := ⟨7 - k, by omega⟩
  simp only [lnameK, hm, List.getElem?_cons_succ]
  rw [List.getElem?_append_left (by rw [List.length_replicate]; omega), List.getElem?_replicate, if_pos (by omega)]
theorem lnameK_set (n k : Nat) (h : k < 8) : (lnameK n k).set (8 - k) (48 + ((n / 10 ^ k % 10 : Nat) : Int)) = lnameK n (k + 1) := by
  obtain ⟨m, hm⟩ : ∃ m, 8 - k = m + 1 := ⟨7 - k, by omega⟩
  have hm2 : 8 - (k + 1) = m := by omega
  simp only [lnameK, hm, hm2, List.set_cons_succ, ldigs, List.replicate_succ', List.append_assoc]
  rw [List.set_append_right _ _ (by simp)]
  simp
def lnm (n : Nat) : Nm := strOfNums (lnameK n 8)

theorem ldigs_byts (n : Nat) : ∀ k, Byts (ldigs n k)
  | 0 => fun x hx => by cases hx
  | k + 1 => fun x hx => by
    rcases List.mem_cons.1 hx with rfl | hx
    · omega
    · exact ldigs_byts n k x hx
/-- The row of a name under way. -/
def Row9 (w : World) (b n k : Nat) : Prop := w.heap[b]? = some (.cells (byteVals (lnameK n k)).toArray 5 (9, 10))
theorem Row9.cell {w : World} {b n k m : Nat} (h : Row9 w b n k) (hm : m + k = 8) (h0 : 0 < m) : w.cell? ⟨b, m, none⟩ = some (.int .u8 48) := by
  rw [blk_cell h, List.getElem?_toArray]
  have := lnameK_at n k (by omega)
  rw [show 8 - k = m by omega] at this
  simp [byteVals, this]
theorem Row9.free {w : World} {b n k m : Nat} (h : Row9 w b n k) (hm : m < 9) : w.frozen? ⟨b, m, none⟩ = false := by
  have : w.heap[b]? = _ := h
  simp [World.frozen?, this]; omega
theorem Row9.set {w : World} {b n k m : Nat} (h : Row9 w b n k) (hm : m + k = 8) (h0 : 0 < m) : Row9 (w.setCell ⟨b, m, none⟩ (.int .u8 (48 + ((n / 10 ^ k % 10 : Nat) : Int)))) b n (k + 1) := by
  unfold Row9
  rw [blk_set h, ← lnameK_set n k (by omega), show 8 - k = m by omega]
  simp [byteVals, List.map_set]

set_option maxRecDepth 100000 in
set_option maxHeartbeats 2000000 in
theorem lname_any (w : World) (n : Nat) (hn : n ≤ 99999999) :
    Calls Tryz.prog 31 #[.int .i64 n] w fun e w' => e = .returned (.string (lnm n)) ∧ Kp (fun _ => False) w w' := by
  have hcv := fun C : Array Value => Lib.run_convert_bytes_const (P := Tryz.prog) w 33 5 C 9 9 (by kernel_rfl) (by kernel_rfl)
  go_enter Tryz.func31, Tryz.ntmps31
  go_wp2
  have HN := Lib.hid hn
  clear hcv hn
  go_loopw [0, 4] (fun vn vi wr => ∃ m k : Nat, m + k = 8 ∧ vi = .int .i64 m ∧ vn = .int .i64 ((n / 10 ^ k : Nat) : Int) ∧ Row9 wr w.heap.size n k ∧ Kp (fun _ => False) w wr) (fun _ i _ => (intOf i).toNat)
  case atStart => exact ⟨8, 0, rfl, rfl, by simp, heap_alloc_new w _, (Kp.refl _ w).alloc _⟩
  case round =>
    obtain ⟨m, k, hm, rfl, rfl, hrow, hkp⟩ := hrel
    have HR := Lib.hid hrow
    have HK := Lib.hid hkp
    obtain ⟨q, hq⟩ : ∃ q, n / 10 ^ k = q := ⟨_, rfl⟩
    have hq2 : q ≤ 99999999 := by rw [← hq]; exact Nat.le_trans (Nat.div_le_self _ _) HN.out
    have hqs : n / 10 ^ (k + 1) = q / 10 := by rw [← hq, Nat.pow_succ, Nat.div_div_eq_div_mul]
    by_cases h0 : 0 < m
    · have hc := hrow.cell hm h0
      have hf := hrow.free (m := m) (by omega)
      have hset := hrow.set hm h0
      rw [hq] at hset ⊢
      obtain ⟨r, hr⟩ : ∃ r, q % 10 = r := ⟨_, rfl⟩
      obtain ⟨q2, hr2⟩ : ∃ q2, q / 10 = q2 := ⟨_, rfl⟩
      have hd : (q : Int) % 10 = (r : Int) := by omega
      have hd2 : (q : Int) / 10 = (q2 : Int) := by omega
      have hr9 : r ≤ 9 := by omega
      rw [hr] at hset
      rw [hr2] at hqs
      clear hr hr2
      have HSET := Lib.hid hset
      have HQ := Lib.hid hqs
      have HQQ := Lib.hid hq
      clear hset hrow hkp hqs hq
      have hm9 : m < 9 := by omega
      go_wp2
      go_roundw
      case rel => 
        refine ⟨m - 1, k + 1, by omega, by go_num, ?_, HSET.out, HK.out.setCell (.inr (Nat.le_refl _)) _⟩
        rw [HQ.out]
      case measure => simp [intOf]; omega
    · obtain rfl : m = 0 := by omega
      obtain rfl : k = 8 := by omega
      clear hrow hkp hqs
      have hby : BytesAt wr (fun _ => False) (.slice (some ⟨w.heap.size, 0, none⟩) 9 9) (lnameK n 8) := by
        refine ⟨_, 9, by rw [lnameK_length n 8 (Nat.le_refl _)], Nat.le_refl _, fun j x hj => ⟨_, _, rfl, id, ?_⟩⟩
        rw [Nat.zero_add, blk_cell HR.out, List.getElem?_toArray]
        simp [byteVals, hj]
      have hcv := convert_bytes hby
      rw [show strOfNums (lnameK n 8) = lnm n from rfl] at hcv
      clear hby hq
      go_wp2
      go_ret
      exact ⟨rfl, HK.out⟩
theorem ldigs_get (n : Nat) : ∀ k j, j < k → (ldigs n k)[j]? = some (48 + ((n / 10 ^ (k - 1 - j) % 10 : Nat) : Int))
  | 0, _, h => by omega
  | k + 1, 0, _ => by simp [ldigs]
  | k + 1, j + 1, h => by
    rw [ldigs, List.getElem?_cons_succ, ldigs_get n k j (by omega)]
    rw [show k + 1 - 1 - (j + 1) = k - 1 - j by omega]
theorem lnm_get (n m : Nat) (h1 : 1 ≤ m) (h2 : m < 9) : (lnameK n 8)[m]? = some (48 + ((n / 10 ^ (8 - m) % 10 : Nat) : Int)) := by
  obtain ⟨j, rfl⟩ : ∃ j, m = j + 1 := ⟨m - 1, by omega⟩
  simp only [lnameK, Nat.sub_self, List.replicate_zero, List.nil_append, List.getElem?_cons_succ]
  rw [ldigs_get n 8 j (by omega)]
  rw [show 8 - 1 - j = 8 - (j + 1) by omega]
theorem lnm_size (n : Nat) : (lnm n).size = 9 := by
  unfold lnm; simp [strOfNums, ByteArray.size, lnameK_length n 8 (Nat.le_refl _)]

theorem lnm_byte (n m : Nat) (x : Int) (hx : (lnameK n 8)[m]? = some x) (h0 : 0 ≤ x) (h1 : x ≤ 255) (h : m < (lnm n).size) : (((lnm n)[m]'h).toNat : Int) = x := by
  have hlt := (List.getElem?_eq_some_iff.1 hx).1
  have e : (lnm n)[m]'h = UInt8.ofNat x.toNat := by
    show (strOfNums (lnameK n 8)).data[m]'_ = _
    simp only [strOfNums, List.getElem_toArray, List.getElem_map]
    rw [(List.getElem?_eq_some_iff.1 hx).2]
  rw [e, UInt8.toNat_ofNat']
  omega

set_option maxRecDepth 100000 in
set_option maxHeartbeats 2000000 in
theorem segment_nm (w : World) (n : Nat) (hn : n ≤ 99999999) :
    Calls Tryz.prog 59 #[.string (lnm n)] w fun e w' => e = .returned (.tuple #[.int .i64 n, .bool true]) ∧ w = w' := by
  have hsz := lnm_size n
  go_enter Tryz.func59, Tryz.ntmps59
  have h0 : ∀ h : 0 < (lnm n).size, (((lnm n)[0]'h).toNat : Int) = 108 := fun h => lnm_byte n 0 108 rfl (by decide) (by decide) h
  go_wp2
  have HN := Lib.hid hn
  clear h0 hn
  go_loopw [4, 5] (fun vn vi wr => ∃ m k : Nat, m + k = 9 ∧ 1 ≤ m ∧ vi = .int .i64 m ∧ vn = .int .i64 ((n / 10 ^ k : Nat) : Int) ∧ wr = w) (fun _ i _ => 9 - (intOf i).toNat)
  case atStart =>
    refine ⟨1, 8, rfl, Nat.le_refl _, rfl, ?_, rfl⟩
    have := HN.out
    rw [Nat.div_eq_of_lt (by omega)]; rfl
  case round =>
    obtain ⟨m, k, hm, h1, rfl, rfl, rfl⟩ := hrel
    obtain ⟨q, hq⟩ : ∃ q, n / 10 ^ k = q := ⟨_, rfl⟩
    by_cases h9 : m < 9
    · obtain ⟨j, rfl⟩ : ∃ j, k = j + 1 := ⟨k - 1, by omega⟩
      obtain ⟨p, hp⟩ : ∃ p, n / 10 ^ j = p := ⟨_, rfl⟩
      have hpq : p / 10 = q := by rw [← hq, ← hp, Nat.pow_succ, Nat.div_div_eq_div_mul]
      have hp2 : p ≤ 99999999 := by rw [← hp]; exact Nat.le_trans (Nat.div_le_self _ _) HN.out
      obtain ⟨r, hr⟩ : ∃ r, p % 10 = r := ⟨_, rfl⟩
      have hr9 : r ≤ 9 := by omega
      have hq2 : q ≤ 9999999 := by omega
      have hch : ∀ h : m < (lnm n).size, (((lnm n)[m]'h).toNat : Int) = 48 + (r : Int) := fun h => lnm_byte n m _ (by
        have := lnm_get n m h1 h9
        rw [show 8 - m = j by omega, hp, hr] at this
        exact this) (by omega) (by omega) h
      have hst : 10 * (q : Int) + (r : Int) = (p : Int) := by omega
      have HP := Lib.hid hp
      rw [hq]
      clear hp hq hpq hr
      go_wp2
      go_roundw
      case rel => exact ⟨m + 1, j, by omega, by omega, by go_num, by rw [HP.out]; go_num, trivial⟩
      case measure => simp [intOf]; omega
    · obtain rfl : m = 9 := by omega
      obtain rfl : k = 0 := by omega
      have hqn : q = n := by rw [← hq]; simp
      subst hqn
      clear hq
      go_wp2
      go_ret2
      exact ⟨rfl, rfl⟩
set_option maxRecDepth 100000 in
set_option maxHeartbeats 2000000 in
theorem segment_other (w : World) (s : Nm) (hs : s.size ≠ 9) :
    Calls Tryz.prog 59 #[.string s] w fun e w' => e = .returned (.tuple #[.int .i64 0, .bool false]) ∧ w = w' := by
  obtain ⟨z, hz⟩ : ∃ z, s.size = z := ⟨_, rfl⟩
  have hz2 : ¬ (z : Int) = 9 := by omega
  clear hs
  go_enter Tryz.func59, Tryz.ntmps59
  go_wp2
  go_ret2
  exact ⟨rfl, rfl⟩
end Go.Proofs.YtggnohbfdlebiaaGreatDoor

/-
  A row of whole numbers of one's own; slices.Sort of one.
-/
namespace Go.Proofs.YtggnohbfdlebiaaGreatDoor
open Go.RowKit Go.Shelf Go.ChangeMaps

def intVals (l : List Nat) : List Value := l.map fun n : Nat => Value.int .i64 (n : Int)
def OwnI (w : World) (B : Nat) (v : Value) (ns : List Nat) : Prop := w.ownsRow B 2 1 v ns.length (intVals ns)
theorem intVals_length (a : List Nat) : (intVals a).length = a.length := by simp [intVals]
theorem intVals_append (a b : List Nat) : intVals (a ++ b) = intVals a ++ intVals b := by simp [intVals]
theorem OwnI.nil (w : World) (B : Nat) : OwnI w B (.slice none 0 0) [] := ⟨rfl, .inl ⟨rfl, rfl⟩⟩
theorem i64_parts : ∃ i, Tryz.prog.info? 2 = some i ∧ i.zero = some (.int .i64 0) ∧ i.size = 1 ∧ i.bytes = 8 := by
  have h : (Tryz.prog.info? 2).map (fun i => (i.zero, i.size, i.bytes)) = some (some (.int .i64 0), 1, 8) := by kernel_rfl
  obtain ⟨i, hi, he⟩ := Option.map_eq_some_iff.1 h
  simp only [Prod.mk.injEq] at he
  exact ⟨i, hi, he.1, he.2.1, he.2.2⟩
theorem OwnI.kept {w w' : World} {B : Nat} {v : Value} {bs : List Nat} {F : Nat → Prop} (h : OwnI w B v bs) (hk : Kp F w w') (hF : ∀ k, v.ownBlock = some k → ¬ F k) : OwnI w' B v bs := by
  obtain ⟨h1, h2⟩ := h
  refine ⟨h1, h2.imp id ?_⟩
  rintro ⟨g, cap, cur, rfl, hg, hh, r⟩
  exact ⟨g, cap, cur, rfl, hg, hk.blk hh (hF g rfl), r⟩
theorem OwnI.base {w : World} {B B' : Nat} {v : Value} {bs : List Nat} (h : OwnI w B v bs) (hB : B' ≤ B) : OwnI w B' v bs := by
  obtain ⟨h1, h2⟩ := h
  refine ⟨h1, h2.imp id ?_⟩
  rintro ⟨g, cap, cur, e, hg, r⟩
  exact ⟨g, cap, cur, e, Nat.le_trans hB hg, r⟩
theorem OwnI.lt {w : World} {B : Nat} {v : Value} {bs : List Nat} (h : OwnI w B v bs) : ∀ k, v.ownBlock = some k → B ≤ k ∧ k < w.heap.size := by
  intro k hk
  obtain ⟨_, ⟨rfl, _⟩ | ⟨g, cap, cur, rfl, hg, hh, _⟩⟩ := h
  · cases hk
  · simp only [Value.ownBlock, Option.some.injEq] at hk
    subst hk
    exact ⟨hg, blk_lt hh⟩
theorem OwnI.slice {w : World} {B : Nat} {v : Value} {bs : List Nat} (h : OwnI w B v bs) : ∃ p c, v = .slice p bs.length c := by
  obtain ⟨_, ⟨rfl, h0⟩ | ⟨g, cap, cur, rfl, _⟩⟩ := h
  · exact ⟨none, 0, by rw [h0]⟩
  · exact ⟨_, _, rfl⟩
set_option maxRecDepth 100000 in
/-- append of one number, its row just made. -/
theorem own_int {w : World} {B : Nat} {v : Value} {ns : List Nat} (h : OwnI w B v ns) (n : Nat) (hB : B ≤ w.heap.size) (hn : ns.length ≤ 1000000) (ty : TypeId) :
    ∃ v' w', (Builtin.append_ #[56, 56] ty #[v, .slice (some ⟨w.heap.size, 0, none⟩) 1 1]).run Tryz.prog (w.alloc (.cells #[.int .i64 (n : Int)] 2)) = .ok v' w' ∧ OwnI w' B v' (ns ++ [n]) ∧ Grew (w.alloc (.cells #[.int .i64 (n : Int)] 2)) w' v v' := by
  obtain ⟨i, hi, hz, h1, h2⟩ := i64_parts
  have h' : OwnI (w.alloc (.cells #[.int .i64 (n : Int)] 2)) B v ns := h.kept (F := fun _ => False) ((Kp.refl _ w).alloc _) fun _ _ h => h
  obtain ⟨v', w', hr, ho, hg, _, hb⟩ := run_append_own_at (P := Tryz.prog) (w.alloc (.cells #[.int .i64 (n : Int)] 2)) B 56 ty 2 i (.int .i64 0) 1 8 (by kernel_rfl) hi hz h1 h2 rfl (by omega) v ns.length (intVals ns) h' ⟨w.heap.size, 0, none⟩ 1 1 (intVals [n]) (by rw [intVals_length]; rfl) (fun j u hj => by
      obtain rfl : j = 0 := by
        have := (List.getElem?_eq_some_iff.1 hj).1
        rw [intVals_length] at this
        simpa using this
      rw [Addr.add_lit, blk_cell (heap_alloc_new w _)]
      simpa [intVals] using hj)
    (fun u hu => by
      obtain ⟨x, _, rfl⟩ := List.mem_map.1 hu
      rfl) (by unfold maxLen; omega) (by omega) (by rw [alloc_size']; omega)
  refine ⟨v', w', hr, ?_, hg, hb⟩
  unfold OwnI
  rw [List.length_append, intVals_append]
  exact ho
/-- A slice of whole numbers, read. -/
def RowI (w : World) (v : Value) (ns : List Nat) : Prop := ∃ p c, v = .slice p ns.length c ∧ ∀ (j n : Nat), ns[j]? = some n → ∃ b, p = some ⟨b, 0, none⟩ ∧ w.cell? ⟨b, j, none⟩ = some (.int .i64 (n : Int))
theorem OwnI.row {w : World} {B : Nat} {v : Value} {ns : List Nat} (h : OwnI w B v ns) : RowI w v ns := by
  obtain ⟨_, ⟨rfl, h0⟩ | ⟨g, cap, cur, rfl, hb, hg, hn, hm, _, ht⟩⟩ := h
  · refine ⟨none, 0, by rw [h0], ?_⟩
    intro j n hj
    rw [List.eq_nil_of_length_eq_zero h0] at hj; simp at hj
  · refine ⟨_, cap, rfl, ?_⟩
    intro j n hj
    refine ⟨g, rfl, ?_⟩
    rw [blk_cell hg]
    have hlt : j < ns.length := (List.getElem?_eq_some_iff.1 hj).1
    have h1 : (intVals ns)[j]? = some (.int .i64 (n : Int)) := by simp [intVals, hj]
    rw [← ht, List.getElem?_take, if_pos (by omega)] at h1
    simpa using h1
theorem kp_putRow {α : Type} [Inhabited α] (enc : α → Value) (w : World) (n blk off : Nat) (d : Array α) : Kp (fun k => k = blk) w (Sort.putRow enc (Sort.ahead w n) blk off d) := by
  refine ⟨rfl, rfl, rfl, by simp, fun k hk hF => ?_⟩
  simp only [Sort.putRow, Sort.mapBlock, Array.getElem?_modify]
  rw [if_neg (fun h => hF h.symm)]
  rfl
theorem kp_grow (w : World) (os : Array Obj) {F : Nat → Prop} {a : World} (h : Kp F a w) : Kp F a (Sort.grow w os) :=
  ⟨h.os, h.tape, h.output, by have := h.size; simp [Sort.grow]; omega, fun k hk hF => by
    have := h.block k hk hF
    have hs := h.size
    simp only [Sort.grow]
    rw [Array.getElem?_append_left (by omega)]
    exact this⟩
/-- Sorted. -/
def sortI (ns : List Nat) : List Nat := ((ns.map fun n : Nat => (n : Int)).mergeSort fun x y => decide (x ≤ y)).map Int.toNat
theorem sortI_length (ns : List Nat) : (sortI ns).length = ns.length := by simp [sortI]
theorem Sort_ints {w : World} {B : Nat} {v : Value} {ns : List Nat} (h : OwnI w B v ns) (hl : ns.length ≤ 1000000) :
    Calls Tryz.prog 60 #[v] w fun e w' => e = .returned (.tuple #[]) ∧ RowI w' v (sortI ns) ∧ Kp (fun k => v.ownBlock = some k) w w' := by
  have hrow := h.row
  obtain ⟨_, ⟨rfl, h0⟩ | ⟨g, cap, cur, rfl, hb, hg, hn, hm, _, ht⟩⟩ := h
  · have := List.eq_nil_of_length_eq_zero h0
    subst this
    refine (AnyM.slices_Sort_int_none Tryz.laysSort none 0 w).mono ?_
    rintro e w' ⟨rfl, rfl⟩
    exact ⟨rfl, ⟨none, 0, by rw [sortI_length]; rfl, fun j n hj => by simp [sortI] at hj⟩, Kp.refl _ _⟩
  · obtain ⟨p, c, e0, hc⟩ := hrow
    injection e0 with e1 e2 e3
    subst e1
    obtain ⟨zs, hzs⟩ : ∃ zs : List Int, ns.map (fun n : Nat => (n : Int)) = zs := ⟨_, rfl⟩
    have hzl : zs.length = ns.length := by rw [← hzs, List.length_map]
    have hH : Sort.Holds (Value.int .i64) w g 0 zs.toArray := fun j hj => by
      have hj' : j < ns.length := by simpa [hzl] using hj
      obtain ⟨b, e, hx⟩ := hc j ns[j] (List.getElem?_eq_getElem hj')
      injection e with e
      injection e with e _ _
      subst e
      rw [Nat.zero_add]
      refine ⟨by rw [hx, getElem!_pos zs.toArray j (by simpa using hj)]; simp [← hzs], blk_free hg j⟩
    have hso := AnyM.slices_Sort_int Tryz.laysSort g 0 cap zs w hH (blk_lt hg) (by omega)
    rw [hzl] at hso
    refine hso.mono ?_
    rintro e w' ⟨rfl, q, os, rfl⟩
    obtain ⟨ys, hys⟩ : ∃ ys, (zs.mergeSort fun x y => decide (x ≤ y)) = ys := ⟨_, rfl⟩
    have hyl : ys.length = ns.length := by rw [← hys, List.length_mergeSort, hzl]
    have hsI : sortI ns = ys.map Int.toNat := by unfold sortI; rw [hzs, hys]
    have hy0 : ∀ y ∈ ys, 0 ≤ y := fun y hy => by
      rw [← hys, List.mem_mergeSort, ← hzs] at hy
      obtain ⟨x, _, rfl⟩ := List.mem_map.1 hy
      omega
    rw [hys]
    have hR : Sort.Holds (Value.int .i64) (Sort.putRow (Value.int .i64) (Sort.ahead w q) g 0 ys.toArray) g 0 ys.toArray :=
      Sort.holds_putRow _ _ g 0 zs.toArray _ (Sort.holds_ahead _ w q g 0 _ hH) (by simp [hyl, hzl])
    have hkg := kp_grow (Sort.putRow (Value.int .i64) (Sort.ahead w q) g 0 ys.toArray) os (Kp.refl (fun _ => False) _)
    refine ⟨rfl, ⟨_, cap, by rw [sortI_length], fun j n hj => ⟨g, rfl, ?_⟩⟩, ((kp_putRow _ w q g 0 _).mono fun k hk => by rw [hk]; rfl).trans (hkg.mono fun _ h => h.elim)⟩
    rw [hsI, List.getElem?_map, Option.map_eq_some_iff] at hj
    obtain ⟨y, hy, rfl⟩ := hj
    have hlt := (List.getElem?_eq_some_iff.1 hy).1
    have := (hR j (by simpa using hlt)).1
    rw [Nat.zero_add, getElem!_pos _ j (by simpa using hlt)] at this
    simp only [List.getElem_toArray] at this
    rw [(List.getElem?_eq_some_iff.1 hy).2] at this
    rw [Int.toNat_of_nonneg (hy0 y (List.mem_of_getElem? hy))]
    exact hkg.cell this id
end Go.Proofs.YtggnohbfdlebiaaGreatDoor

/-
  log.segments: the numbers of all segments, of a disk that is on.
-/
namespace Go.Proofs.YtggnohbfdlebiaaGreatDoor
open Go.RowKit Go.Shelf Go.ChangeMaps

/-- The number of a file's name. -/
def valB (a : Nat) (l : List UInt8) : Nat := l.foldl (fun a b => 10 * a + (b.toNat - 48)) a
def numB (s : Nm) : Option Nat := if s.size = 9 then some (valB 0 s.data.toList.tail) else none
theorem valB_ldigs (n : Nat) : ∀ k a, valB a ((ldigs n k).map fun x => UInt8.ofNat x.toNat) = a * 10 ^ k + n % 10 ^ k
  | 0, a => by simp [ldigs, valB, Nat.mod_one]
  | k + 1, a => by
    have h10 : n / 10 ^ k % 10 < 10 := Nat.mod_lt _ (by decide)
    show valB (10 * a + ((UInt8.ofNat (48 + ((n / 10 ^ k % 10 : Nat) : Int)).toNat).toNat - 48)) _ = _
    rw [valB_ldigs n k, UInt8.toNat_ofNat']
    have : (48 + ((n / 10 ^ k % 10 : Nat) : Int)).toNat % 2 ^ 8 - 48 = n / 10 ^ k % 10 := by omega
    rw [this, Nat.mod_pow_succ, Nat.pow_succ, Nat.add_mul, Nat.mul_comm (10 ^ k) 10, ← Nat.mul_assoc, Nat.mul_comm a 10, Nat.mul_comm (n / 10 ^ k % 10)]
    omega
theorem numB_lnm (n : Nat) (hn : n ≤ 99999999) : numB (lnm n) = some n := by
  unfold numB
  rw [if_pos (lnm_size n)]
  have : (lnm n).data.toList.tail = (ldigs n 8).map fun x => UInt8.ofNat x.toNat := by
    unfold lnm; rw [strOfNums_data]; simp [lnameK]
  rw [this, valB_ldigs]
  simp; omega
theorem lnm_inj {a b : Nat} (ha : a ≤ 99999999) (hb : b ≤ 99999999) (h : lnm a = lnm b) : a = b := by
  have := numB_lnm a ha
  rw [h, numB_lnm b hb] at this
  injection this with this; exact this.symm
/-- A name that a log's disk has. -/
def Tidy (s : Nm) : Prop := s.size ≠ 9 ∨ ∃ n ≤ 99999999, s = lnm n
theorem segment_tidy (w : World) (s : Nm) (h : Tidy s) :
    Calls Tryz.prog 59 #[.string s] w fun e w' => w = w' ∧ ((∃ n, numB s = some n ∧ e = .returned (.tuple #[.int .i64 (n : Nat), .bool true])) ∨ (numB s = none ∧ e = .returned (.tuple #[.int .i64 0, .bool false]))) := by
  rcases h with h | ⟨n, hn, rfl⟩
  · refine (segment_other w s h).mono ?_
    rintro e w' ⟨rfl, rfl⟩
    exact ⟨rfl, .inr ⟨by unfold numB; rw [if_neg h], rfl⟩⟩
  · refine (segment_nm w n hn).mono ?_
    rintro e w' ⟨rfl, rfl⟩
    exact ⟨rfl, .inl ⟨n, numB_lnm n hn, rfl⟩⟩
theorem Dsk.names {w0 w : World} {d : Nat} {S : St} {F : Nat → Prop} (h : Dsk w0 w d S F) (hoff : S.off = false) :
    Calls Tryz.prog 57 #[.pointer (some ⟨d, 0, none⟩)] w fun e w' => ∃ v, e = .returned v ∧ w'.ownsRow w.heap.size 9 1 v (namesB S.files).length ((namesB S.files).map Value.string) ∧ Kp (fun _ => False) w w' := by
  obtain ⟨m, es, clock, hv, hd⟩ := h.at_
  refine (Names_on hd hoff).mono ?_
  rintro e w' ⟨v, rfl, hrow, _, hb⟩
  refine ⟨v, rfl, ?_, Kp.of_below _ hb⟩
  have e1 : (namesB S.files).length = (namesOf S.files).length := by simp [namesB]
  have e2 : (namesB S.files).map Value.string = (namesOf S.files).map Go.Proofs.encStr := by rw [namesB, List.map_map]; rfl
  rw [e1, e2]; exact hrow
theorem filterMap_one (s : Nm) : [s].filterMap numB = (numB s).toList := by
  cases h : numB s <;> simp [h]
def segsOf (fs : Files) : List Nat := (namesB fs).filterMap numB

set_option maxRecDepth 100000 in
set_option maxHeartbeats 2000000 in
theorem segments_any {w0 w : World} {d : Nat} {S : St} {F : Nat → Prop} (h : Dsk w0 w d S F) (hoff : S.off = false) (ht : ∀ s ∈ S.files.map (·.1), Tidy s) :
    Calls Tryz.prog 29 #[.pointer (some ⟨d, 0, none⟩)] w fun e w' => ∃ v, e = .returned v ∧ RowI w' v (sortI (segsOf S.files)) ∧ Kp (fun _ => False) w w' ∧ ∀ k, v.ownBlock = some k → w.heap.size ≤ k := by
  have hc := h.names hoff
  have hl : (namesB S.files).length ≤ 64 := by rw [namesB_length]; exact h.ok.count
  have ht' : ∀ s ∈ namesB S.files, Tidy s := fun s hs => ht s (namesB_mem s hs)
  obtain ⟨ns, hns⟩ : ∃ ns, namesB S.files = ns := ⟨_, rfl⟩
  unfold segsOf
  rw [hns] at hc hl ht' ⊢
  have HT := Lib.hid ht'
  clear ht ht' hns h hoff
  go_enter Tryz.func29, Tryz.ntmps29
  go_wp2_with (go_at_call 57; refine hc.mono ?_; rintro e w1 ⟨v1, rfl, hrow, hk1⟩; obtain ⟨np, nc, rfl, hcells⟩ := names_row hrow; have HR := Lib.hid hrow; have HK := Lib.hid hk1; have HCE := Lib.hid hcells; clear hrow hk1 hcells)
  go_loopw [3, 11] (fun vl vi wr => ∃ k : Nat, k ≤ ns.length ∧ vi = .int .i64 k ∧ OwnI wr w1.heap.size vl ((ns.take k).filterMap numB) ∧ Kp (fun _ => False) w1 wr) (fun _ i _ => ns.length - (intOf i).toNat)
  case atStart => exact ⟨0, Nat.zero_le _, rfl, OwnI.nil _ _, Kp.refl _ _⟩
  case round =>
    obtain ⟨k, hk, rfl, hown, hkp⟩ := hrel
    by_cases hkn : k < ns.length
    · obtain ⟨s, hs⟩ : ∃ s, ns[k] = s := ⟨_, rfl⟩
      have hsk : ns[k]? = some s := by rw [← hs]; exact List.getElem?_eq_getElem hkn
      obtain ⟨nb, rfl, hnb, hcs⟩ := HCE.out k s hsk
      have hcs2 := hkp.cell hcs id
      have hnum := segment_tidy wr s (HT.out s (List.mem_of_getElem? hsk))
      have htk : (ns.take (k + 1)).filterMap numB = (ns.take k).filterMap numB ++ (numB s).toList := by
        rw [List.take_add_one, hsk, List.filterMap_append]
        exact congrArg _ (filterMap_one s)
      have HK2 := Lib.hid hkp
      have hB1 := HK.out.size
      have hB2 := hkp.size
      have hnbw := block_lt_of_cell hcs
      cases hq : numB s with
      | none =>
        have hnum' : Calls Tryz.prog 59 #[.string s] wr fun e w' => e = .returned (.tuple #[.int .i64 0, .bool false]) ∧ wr = w' := hnum.mono fun e w' h => by
          obtain ⟨rfl, ⟨n, h, _⟩ | ⟨_, rfl⟩⟩ := h
          · rw [hq] at h; cases h
          · exact ⟨rfl, rfl⟩
        rw [hq, Option.toList_none, List.append_nil] at htk
        rw [← htk] at hown
        have HO := Lib.hid hown
        clear hown hkp hcs hnum hsk hs htk hq
        go_wp2_with (go_at_call 59; refine hnum'.mono ?_; rintro e w' ⟨rfl, rfl⟩)
        go_roundw
        case rel => exact ⟨k + 1, by omega, by go_num, HO.out, HK2.out⟩
        case measure => simp [intOf]; omega
      | some n =>
        have hnum' : Calls Tryz.prog 59 #[.string s] wr fun e w' => e = .returned (.tuple #[.int .i64 (n : Nat), .bool true]) ∧ wr = w' := hnum.mono fun e w' h => by
          obtain ⟨rfl, ⟨n', h, rfl⟩ | ⟨h, _⟩⟩ := h
          · rw [hq] at h; injection h with h; subst h; exact ⟨rfl, rfl⟩
          · rw [hq] at h; cases h
        rw [hq, Option.toList_some] at htk
        obtain ⟨v', w', hap, ho, hg⟩ := own_int hown n (by omega) (Nat.le_trans (List.length_filterMap_le _ _) (by rw [List.length_take]; omega)) 56
        rw [← htk] at ho
        have hkp2 : Kp (fun _ => False) w1 w' := (hkp.alloc _).trans' (hg.kp (F := fun k => w1.heap.size ≤ k) fun i hi => .inl (hown.lt i hi).1) fun i hi => .inr hi
        have HO := Lib.hid ho
        have HK3 := Lib.hid hkp2
        clear hown hkp hcs hnum hsk hs htk hq ho hg hkp2
        go_wp2_with (first
          | (go_at_call 59; refine hnum'.mono ?_; rintro e w' ⟨rfl, rfl⟩)
          | (at_builtin; refine wpList_append_run rfl _ _ _ _ rfl rfl rfl hap ?_))
        go_roundw
        case rel => exact ⟨k + 1, by omega, by go_num, HO.out, HK3.out⟩
        case measure => simp [intOf]; omega
    · obtain rfl : k = ns.length := by omega
      have HO := Lib.hid hown
      have HK2 := Lib.hid hkp
      clear hown hkp
      skip
      have hos : OwnI wr w1.heap.size u3 (ns.filterMap numB) := by have := HO.out; rwa [List.take_length] at this
      have hso := Sort_ints hos (Nat.le_trans (List.length_filterMap_le _ _) (by omega))
      go_wp2_with (go_at_call 60; refine hso.mono ?_; rintro e w3 ⟨rfl, hr3, hk3⟩; have H3 := Lib.hid (And.intro hr3 hk3); clear hr3 hk3)
      go_ret
      exact ⟨_, rfl, H3.out.1, (HK.out.trans HK2.out).trans' H3.out.2 fun i h => .inr (by have := (hos.lt i h).1; have := HK.out.size; omega), fun i h => by have := (hos.lt i h).1; have := HK.out.size; omega⟩
end Go.Proofs.YtggnohbfdlebiaaGreatDoor

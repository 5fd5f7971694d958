/-
  The disk as plain data (St), what its operations do to it, and when a block of memory is such a disk (DiskAt).
-/
import Derived.Test.YtmcmapaapffadaaDoorMaps
import Derived.Test.YtmcmapaapffadaaDoorProg
namespace Go.Proofs.YtmcmapaapffadaaDoor
open Go.RowKit Go.ChangeMaps

structure Sec where
  bytes : List Int
  synced : Bool
abbrev Nm := ByteArray
abbrev Files := List (Nm × List Sec)
inductive Hg where
  | noop
  | sync (n : Nm)
  | trunc (n : Nm) (k : Int)
  | rename (a b : Nm)
  | remove (n : Nm)
structure St where
  files : Files
  room : Int
  off : Bool
  armed : Int
  ops : Int
  hangs : Option Hg

def getF (fs : Files) (n : Nm) : List Sec := (get fs n).getD []
def syncAll (l : List Sec) : List Sec := l.map fun s => { s with synced := true }
def used (fs : Files) : Nat := (fs.map fun p => p.2.length).sum
/-- Is it a file's name? -/
def nameB (s : Nm) : Bool := s.data.toList.all (fun c => (decide (97 ≤ c.toNat) && decide (c.toNat ≤ 122)) || (decide (48 ≤ c.toNat) && decide (c.toNat ≤ 57))) && (decide (1 ≤ s.size) && decide (s.size ≤ 16))
def Hg.run : Hg → Files → Files
  | .noop, fs => fs
  | .sync n, fs => put fs n (syncAll (getF fs n))
  | .trunc n k, fs => put fs n (syncAll ((getF fs n).take k.toNat))
  | .rename a b, fs => put (del fs a) b (getF fs a)
  | .remove n, fs => del fs n
/-- May it be done to these files? -/
def Hg.okOn : Hg → Files → Prop
  | .noop, _ => True
  | .sync n, fs => nameB n = true ∧ (get fs n).isSome = true
  | .trunc n _, fs => nameB n = true ∧ (get fs n).isSome = true
  | .rename a b, fs => nameB b = true ∧ (get fs a).isSome = true
  | .remove _, _ => True
namespace St
def doE (S : St) : Int := if S.armed = 1 then 18 else 0
def doS (S : St) (h : Hg) : St :=
  if S.armed = 1 then { S with ops := wrap64 (S.ops + 1), armed := 0, off := true, hangs := some h }
  else { S with ops := wrap64 (S.ops + 1), armed := if S.armed = 0 then 0 else S.armed - 1, files := h.run S.files }
def check (S : St) (name : Nm) (there : Bool) : Int :=
  if nameB name = false then 1 else if there = true ∧ get S.files name = none then 7 else if S.off = true then 18 else 0
/-- What holds of every disk. -/
structure Ok (S : St) : Prop where
  room : 1 ≤ S.room ∧ S.room ≤ 65536
  used : (YtmcmapaapffadaaDoor.used S.files : Int) ≤ S.room
  armed : 0 ≤ S.armed ∧ S.armed ≤ 9223372036854775807
  hung : S.off = true → ∃ h, S.hangs = some h ∧ h.okOn S.files
  names : ∀ p ∈ S.files, nameB p.1 = true
  count : S.files.length ≤ 64
  secs : ∀ p ∈ S.files, ∀ s ∈ p.2, s.bytes.length = 32
end St

/-- A sector's cells. -/
def secCells (s : Sec) : List Value := s.bytes.map (Value.int .u8) ++ [.bool s.synced]
def fileCells (l : List Sec) : List Value := l.flatMap secCells

/-- v is a slice of these sectors. -/
def FileRep (w : World) (F : Nat → Prop) (v : Value) (l : List Sec) : Prop :=
  (∀ s ∈ l, s.bytes.length = 32) ∧ ∃ a c, v = .slice a l.length c ∧ l.length ≤ c ∧ c ≤ maxLen ∧
    (l ≠ [] → ∃ b cs, a = some ⟨b, 0, none⟩ ∧ F b ∧ w.heap[b]? = some (.cells cs 79 (0, 0)) ∧ cs.toList.take (33 * l.length) = fileCells l)
/-- A block of one cell. -/
def Box (w : World) (F : Nat → Prop) (b : Nat) (v : Value) (t : TypeId) : Prop := w.heap[b]? = some (.cells #[v] t (0, 0)) ∧ F b
/-- The operation at which the power went, as a function value. -/
def HangRep (w : World) (F : Nat → Prop) (d : Nat) (hv : Value) : Option Hg → Prop
  | none => hv = .nilFunc
  | some .noop => hv = .func (.func 54) #[] #[]
  | some (.sync n) => ∃ b1 b2, hv = .func (.func 58) #[] #[.pointer (some ⟨b1, 0, none⟩), .pointer (some ⟨b2, 0, none⟩)] ∧ Box w F b1 (.pointer (some ⟨d, 0, none⟩)) 36 ∧ Box w F b2 (.string n) 9
  | some (.trunc _ _) => False
  | some (.rename x y) => ∃ b1 b2 b3, hv = .func (.func 61) #[] #[.pointer (some ⟨b1, 0, none⟩), .pointer (some ⟨b2, 0, none⟩), .pointer (some ⟨b3, 0, none⟩)] ∧ Box w F b1 (.pointer (some ⟨d, 0, none⟩)) 36 ∧ Box w F b2 (.string x) 9 ∧ Box w F b3 (.string y) 9
  | some (.remove n) => ∃ b1 b2, hv = .func (.func 52) #[] #[.pointer (some ⟨b1, 0, none⟩), .pointer (some ⟨b2, 0, none⟩)] ∧ Box w F b1 (.pointer (some ⟨d, 0, none⟩)) 36 ∧ Box w F b2 (.string n) 9

/-- Block d is a disk: its map is block m. -/
structure DiskIs (w : World) (d m : Nat) (es : Array MapEntry) (clock : Nat) (hv : Value) (S : St) (F : Nat → Prop) : Prop where
  hd : w.heap[d]? = some (.cells #[.map (some m), .int .i64 S.room, .bool S.off, .int .i64 S.armed, .int .i64 S.ops, hv] 74 (0, 0))
  hm : w.heap[m]? = some (.map es clock)
  ents : EntsOk Value.string (FileRep w F) es clock S.files
  hang : HangRep w F d hv S.hangs
  fd : F d
  fm : F m
  ok : S.Ok
  flt : ∀ k, F k → k < w.heap.size
def DiskAt (w : World) (d : Nat) (S : St) (F : Nat → Prop) : Prop := ∃ m es clock hv, DiskIs w d m es clock hv S F

/-! ### what abides -/
theorem FileRep.move {w w' : World} {F F' : Nat → Prop} {v : Value} {l : List Sec} (h : FileRep w F v l) (hF : ∀ k, F k → F' k)
    (hk : ∀ k cs, F k → w.heap[k]? = some (.cells cs 79 (0, 0)) → w'.heap[k]? = some (.cells cs 79 (0, 0))) : FileRep w' F' v l := by
  obtain ⟨h1, a, c, h2, h3, h4, h5⟩ := h
  exact ⟨h1, a, c, h2, h3, h4, fun hl => let ⟨b, cs, k1, k2, k3, k4⟩ := h5 hl; ⟨b, cs, k1, hF _ k2, hk _ _ k2 k3, k4⟩⟩
theorem HangRep.move {w w' : World} {F F' : Nat → Prop} {d : Nat} {hv : Value} {o : Option Hg} (h : HangRep w F d hv o) (hF : ∀ k, F k → F' k)
    (hk : ∀ k v t, F k → w.heap[k]? = some (.cells #[v] t (0, 0)) → w'.heap[k]? = some (.cells #[v] t (0, 0))) : HangRep w' F' d hv o := by
  have hb : ∀ {b v t}, Box w F b v t → Box w' F' b v t := fun hb => ⟨hk _ _ _ hb.2 hb.1, hF _ hb.2⟩
  match o, h with
  | none, h => exact h
  | some .noop, h => exact h
  | some (.sync _), ⟨b1, b2, h1, h2, h3⟩ => exact ⟨b1, b2, h1, hb h2, hb h3⟩
  | some (.trunc _ _), h => exact h.elim
  | some (.rename _ _), ⟨b1, b2, b3, h1, h2, h3, h4⟩ => exact ⟨b1, b2, b3, h1, hb h2, hb h3, hb h4⟩
  | some (.remove _), ⟨b1, b2, h1, h2, h3⟩ => exact ⟨b1, b2, h1, hb h2, hb h3⟩
/-- Whatever turns none of the disk's blocks leaves it as it is. -/
theorem DiskIs.move {w w' : World} {d m : Nat} {es : Array MapEntry} {clock : Nat} {hv : Value} {S : St} {F F' : Nat → Prop} (h : DiskIs w d m es clock hv S F) (hF : ∀ k, F k → F' k)
    (hk : ∀ k o, F k → w.heap[k]? = some o → w'.heap[k]? = some o) (hl : ∀ k, F' k → k < w'.heap.size) : DiskIs w' d m es clock hv S F' :=
  ⟨hk _ _ h.fd h.hd, hk _ _ h.fm h.hm, h.ents.imp fun _ _ r => r.move hF fun k _ hf hb => hk k _ hf hb, h.hang.move hF fun k _ _ hf hb => hk k _ hf hb, hF _ h.fd, hF _ h.fm, h.ok, hl⟩
theorem DiskIs.kept {w w' : World} {d m : Nat} {es : Array MapEntry} {clock : Nat} {hv : Value} {S : St} {F G : Nat → Prop} (h : DiskIs w d m es clock hv S F) (hk : Kp G w w') (hG : ∀ k, F k → ¬ G k) : DiskIs w' d m es clock hv S F :=
  h.move (fun _ h => h) (fun k _ hf hb => hk.blk hb (hG k hf)) fun k hf => Nat.lt_of_lt_of_le (h.flt k hf) hk.size
theorem DiskAt.kept {w w' : World} {d : Nat} {S : St} {F G : Nat → Prop} (h : DiskAt w d S F) (hk : Kp G w w') (hG : ∀ k, F k → ¬ G k) : DiskAt w' d S F :=
  let ⟨m, es, clock, hv, h⟩ := h; ⟨m, es, clock, hv, h.kept hk hG⟩
/-- The disk's own block and its map have turned, and nothing else of it. -/
theorem DiskIs.turn {w w' : World} {d m : Nat} {es es' : Array MapEntry} {clock clock' : Nat} {hv hv' : Value} {S S' : St} {F F' : Nat → Prop} (h : DiskIs w d m es clock hv S F) (hF : ∀ k, F k → F' k)
    (hk : ∀ k o, k ≠ d → k ≠ m → w.heap[k]? = some o → w'.heap[k]? = some o)
    (hd : w'.heap[d]? = some (.cells #[.map (some m), .int .i64 S'.room, .bool S'.off, .int .i64 S'.armed, .int .i64 S'.ops, hv'] 74 (0, 0)))
    (hm : w'.heap[m]? = some (.map es' clock')) (he : EntsOk Value.string (FileRep w F') es' clock' S'.files) (hh : HangRep w F' d hv' S'.hangs) (ok : S'.Ok) (hl : ∀ k, F' k → k < w'.heap.size) : DiskIs w' d m es' clock' hv' S' F' := by
  have h1 : ∀ (k : Nat) (cs : Array Value), w.heap[k]? = some (.cells cs 79 (0, 0)) → w'.heap[k]? = some (.cells cs 79 (0, 0)) := by
    intro k cs hb
    refine hk k _ ?_ ?_ hb
    · rintro rfl; rw [h.hd] at hb; injection hb with hb; injection hb with _ hb _; cases hb
    · rintro rfl; rw [h.hm] at hb; cases hb
  have h2 : ∀ (k : Nat) (v : Value) (t : TypeId), w.heap[k]? = some (.cells #[v] t (0, 0)) → w'.heap[k]? = some (.cells #[v] t (0, 0)) := by
    intro k v t hb
    refine hk k _ ?_ ?_ hb
    · rintro rfl; rw [h.hd] at hb; injection hb with hb; injection hb with hb _ _; cases hb
    · rintro rfl; rw [h.hm] at hb; cases hb
  exact ⟨hd, hm, he.imp fun _ _ r => r.move (fun _ h => h) fun k cs _ hb => h1 k cs hb, hh.move (fun _ h => h) fun k v t _ hb => h2 k v t hb, hF _ h.fd, hF _ h.fm, ok, hl⟩
theorem DiskIs.ne {w : World} {d m : Nat} {es : Array MapEntry} {clock : Nat} {hv : Value} {S : St} {F : Nat → Prop} (h : DiskIs w d m es clock hv S F) : d ≠ m := by
  rintro rfl; have := h.hd; rw [h.hm] at this; cases this
theorem DiskIs.cells {w : World} {d m : Nat} {es : Array MapEntry} {clock : Nat} {hv : Value} {S : St} {F : Nat → Prop} (h : DiskIs w d m es clock hv S F) :
    w.cell? ⟨d, 0, none⟩ = some (.map (some m)) ∧ w.cell? ⟨d, 1, none⟩ = some (.int .i64 S.room) ∧ w.cell? ⟨d, 2, none⟩ = some (.bool S.off) ∧ w.cell? ⟨d, 3, none⟩ = some (.int .i64 S.armed) ∧
      w.cell? ⟨d, 4, none⟩ = some (.int .i64 S.ops) ∧ w.cell? ⟨d, 5, none⟩ = some hv ∧ ∀ i, w.frozen? ⟨d, i, none⟩ = false := by
  have := h.hd
  exact ⟨blk_cell this 0, blk_cell this 1, blk_cell this 2, blk_cell this 3, blk_cell this 4, blk_cell this 5, blk_free this⟩
end Go.Proofs.YtmcmapaapffadaaDoor

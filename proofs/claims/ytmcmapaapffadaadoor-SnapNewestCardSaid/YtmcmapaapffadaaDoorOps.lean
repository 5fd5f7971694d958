/-
  The calls of a disk in hand (Dsk): what each answers and leaves, in every case; new rows of bytes.
-/
import Derived.Test.YtmcmapaapffadaaDoorRest
import Derived.Test.YtmcmapaapffadaaDoorAppB
import Derived.Test.YtmcmapaapffadaaDoorAppC
import Derived.Deep.OwnRows
namespace Go.Proofs.YtmcmapaapffadaaDoor
open Go.RowKit Go.Shelf Go.ChangeMaps

/-- A disk in hand: all its blocks are newer than the world w0, and of what lay there nothing has turned. -/
structure Dsk (w0 w : World) (d : Nat) (S : St) (F : Nat → Prop) : Prop where
  at_ : DiskAt w d S F
  new : ∀ k, F k → w0.heap.size ≤ k
  kp : Kp (fun _ => False) w0 w
theorem Dsk.alloc {w0 w : World} {d : Nat} {S : St} {F : Nat → Prop} (h : Dsk w0 w d S F) (o : Obj) : Dsk w0 (w.alloc o) d S F := ⟨h.at_.kept ((Kp.refl (fun _ => False) w).alloc o) fun _ _ h => h, h.new, h.kp.alloc o⟩
theorem Dsk.drew {w0 w : World} {d : Nat} {S : St} {F : Nat → Prop} (h : Dsk w0 w d S F) : Dsk w0 w.drew d S F := ⟨h.at_.kept (Kp.refl (fun _ => False) w).drew fun _ _ h => h, h.new, h.kp.drew⟩
theorem Dsk.step {w0 w w' : World} {d : Nat} {S : St} {F : Nat → Prop} (h : Dsk w0 w d S F) (hk : Kp (fun _ => False) w w') : Dsk w0 w' d S F := ⟨h.at_.kept hk fun _ _ h => h, h.new, h.kp.trans hk⟩
theorem Dsk.flt {w0 w : World} {d : Nat} {S : St} {F : Nat → Prop} (h : Dsk w0 w d S F) : ∀ k, F k → k < w.heap.size := let ⟨_, _, _, _, h⟩ := h.at_; h.flt
theorem Dsk.ok {w0 w : World} {d : Nat} {S : St} {F : Nat → Prop} (h : Dsk w0 w d S F) : S.Ok := let ⟨_, _, _, _, h⟩ := h.at_; h.ok
/-- Answered: n; the disk is as S' has it. -/
def Goes (w0 w : World) (d : Nat) (n : Int) (S' : St) (F : Nat → Prop) (e : Ending) (w' : World) : Prop :=
  e = .returned (.int .i64 n) ∧ ∃ F', Dsk w0 w' d S' F' ∧ (∀ k, F' k → F k ∨ w.heap.size ≤ k) ∧ Kp F w w'
theorem Does.goes {w0 w : World} {d : Nat} {n : Int} {S S' : St} {F : Nat → Prop} (h : Dsk w0 w d S F) {e : Ending} {w' : World} (hd : Does w d n S' F e w') : Goes w0 w d n S' F e w' := by
  obtain ⟨he, F', h1, h2, h3⟩ := hd
  refine ⟨he, F', ⟨h1, fun k hk => ?_, h.kp.trans' h3 fun i hi => .inr (h.new i hi)⟩, h2, h3⟩
  rcases h2 k hk with h' | h'
  · exact h.new k h'
  · exact Nat.le_trans h.kp.size h'
theorem Refused.goes {w0 w : World} {d : Nat} {n : Int} {S : St} {F : Nat → Prop} (h : Dsk w0 w d S F) {e : Ending} {w' : World} (hd : Refused w n e w') : Goes w0 w d n S F e w' :=
  ⟨hd.1, F, h.step hd.2, fun _ h => .inl h, hd.2.mono fun _ h => h.elim⟩
/-- What Append answers; what it leaves. -/
def St.appE (S : St) (name : Nm) (n : Nat) : Int :=
  if nameB name = false then 1 else if S.room < (used S.files : Int) + nsec n then 17 else if get S.files name = none ∧ S.files.length = 64 then 17 else if S.off = true then 18 else S.doE
def St.appT (S : St) (name : Nm) (bs : List Int) : St :=
  if nameB name = false then S else if S.room < (used S.files : Int) + nsec bs.length then S else if get S.files name = none ∧ S.files.length = 64 then S else if S.off = true then S else S.appS name bs
theorem Dsk.append {w0 w : World} {d : Nat} {S : St} {F : Nat → Prop} (h : Dsk w0 w d S F) (name : Nm) (hs : name.size ≤ maxLen) (p : Option Addr) (len cap : Nat) (hlen : len ≤ 140737488351232)
    (hcap : len ≤ cap) (bs : List Int) (hbl : bs.length = len) (b off : Nat) (hp : len ≠ 0 → p = some ⟨b, off, none⟩) (hsrc : Holds8 w b off bs) :
    Calls Tryd.prog 28 #[.pointer (some ⟨d, 0, none⟩), .string name, .slice p len cap] w (Goes w0 w d (S.appE name len) (S.appT name bs) F) := by
  obtain ⟨m, es, clock, hv, hd⟩ := h.at_
  unfold St.appE St.appT
  rw [hbl]
  by_cases h1 : nameB name = false
  · rw [if_pos h1, if_pos h1]; exact (Append_arg hd name hs h1 _).mono fun _ _ hr => hr.goes h
  rw [if_neg h1, if_neg h1]
  have h1' : nameB name = true := by simpa using h1
  by_cases h2 : S.room < (used S.files : Int) + nsec len
  · rw [if_pos h2, if_pos h2]; exact (Append_fullA hd name hs h1' p len cap hlen h2).mono fun _ _ hr => hr.goes h
  rw [if_neg h2, if_neg h2]
  by_cases h3 : get S.files name = none ∧ S.files.length = 64
  · rw [if_pos h3, if_pos h3]; exact (Append_fullB hd name hs h1' p len cap hlen h2 h3).mono fun _ _ hr => hr.goes h
  rw [if_neg h3, if_neg h3]
  by_cases h4 : S.off = true
  · rw [if_pos h4, if_pos h4]; exact (Append_off hd name hs h1' p len cap hlen h2 h3 h4).mono fun _ _ hr => hr.goes h
  rw [if_neg h4, if_neg h4]
  exact (Append_ok hd name hs h1' p len cap hlen h2 h3 (by simpa using h4) hcap bs hbl b off hp hsrc).mono fun _ _ hr => hr.goes h
theorem Dsk.sync {w0 w : World} {d : Nat} {S : St} {F : Nat → Prop} (h : Dsk w0 w d S F) (n : Nm) (hs : n.size ≤ maxLen) :
    Calls Tryd.prog 31 #[.pointer (some ⟨d, 0, none⟩), .string n] w (Goes w0 w d (S.opE (S.check n true)) (S.opS (S.check n true) (Hg.sync n)) F) := by
  obtain ⟨m, es, clock, hv, hd⟩ := h.at_
  exact (Sync_any hd n hs).mono fun _ _ hr => hr.goes h
theorem Dsk.remove {w0 w : World} {d : Nat} {S : St} {F : Nat → Prop} (h : Dsk w0 w d S F) (n : Nm) (hs : n.size ≤ maxLen) :
    Calls Tryd.prog 26 #[.pointer (some ⟨d, 0, none⟩), .string n] w (Goes w0 w d (S.opE (S.check n true)) (S.opS (S.check n true) (Hg.remove n)) F) := by
  obtain ⟨m, es, clock, hv, hd⟩ := h.at_
  exact (Remove_any hd n hs).mono fun _ _ hr => hr.goes h
def St.truncE (S : St) (n : Nm) (k : Int) : Int := if k < 0 then 1 else S.opE (S.check n true)
def St.truncS (S : St) (n : Nm) (k : Int) : St := if k < 0 then S else S.opS (S.check n true) (Hg.trunc n k)
def St.renE (S : St) (x y : Nm) : Int := if nameB y = false then 1 else S.opE (S.check x true)
def St.renS (S : St) (x y : Nm) : St := if nameB y = false then S else S.opS (S.check x true) (Hg.rename x y)
theorem Dsk.rename {w0 w : World} {d : Nat} {S : St} {F : Nat → Prop} (h : Dsk w0 w d S F) (x y : Nm) (hs : x.size ≤ maxLen) (hs2 : y.size ≤ maxLen) :
    Calls Tryd.prog 33 #[.pointer (some ⟨d, 0, none⟩), .string x, .string y] w (Goes w0 w d (S.renE x y) (S.renS x y) F) := by
  obtain ⟨m, es, clock, hv, hd⟩ := h.at_
  unfold St.renE St.renS
  by_cases h0 : nameB y = false
  · rw [if_pos h0, if_pos h0]; exact (Rename_unnamed hd x y hs2 h0).mono fun _ _ hr => hr.goes h
  · rw [if_neg h0, if_neg h0]
    exact (Rename_any hd x y hs hs2 (by simpa using h0)).mono fun _ _ hr => hr.goes h
theorem Dsk.arm {w0 w : World} {d : Nat} {S : St} {F : Nat → Prop} (h : Dsk w0 w d S F) (hoff : S.off = false) (n : Int) (hn : 0 ≤ n ∧ n ≤ 9223372036854775807) :
    Calls Tryd.prog 16 #[.pointer (some ⟨d, 0, none⟩), .int .i64 n] w (Goes w0 w d 0 { S with armed := n } F) := by
  obtain ⟨m, es, clock, hv, hd⟩ := h.at_
  exact (Arm_on hd hoff n hn).mono fun _ _ hr => hr.goes h
theorem Dsk.arm_off {w0 w : World} {d : Nat} {S : St} {F : Nat → Prop} (h : Dsk w0 w d S F) (hoff : S.off = true) (n : Int) (hn : 0 ≤ n) :
    Calls Tryd.prog 16 #[.pointer (some ⟨d, 0, none⟩), .int .i64 n] w fun e w' => e = .returned (.int .i64 18) ∧ w = w' := by
  obtain ⟨m, es, clock, hv, hd⟩ := h.at_
  exact Arm_off hd hoff n hn
theorem Dsk.restart {w0 w : World} {d : Nat} {S : St} {F : Nat → Prop} (h : Dsk w0 w d S F) (hoff : S.off = true) (dn : Bool) (K : List Bool) (kp : Option Addr) (kc : Nat)
    (hkl : K.length ≤ kc) (hkb : K.length ≤ 140737488351232) (hK : HoldsK w kp K) (hKo : OutK F kp) (hKw : OutK (fun k => w.heap.size ≤ k) kp) :
    Calls Tryd.prog 17 #[.pointer (some ⟨d, 0, none⟩), .agg #[.bool dn, .slice kp K.length kc]] w (Goes w0 w d 0 (S.restart dn K) F) := by
  obtain ⟨m, es, clock, hv, hd⟩ := h.at_
  cases dn with
  | false => exact (Restart_kept hd hoff K kp kc hkl hkb hK hKo hKw).mono fun _ _ hr => hr.goes h
  | true => exact (Restart_done hd hoff K kp kc hkl hkb hK hKo hKw).mono fun _ _ hr => hr.goes h
theorem Dsk.on {w0 w : World} {d : Nat} {S : St} {F : Nat → Prop} (h : Dsk w0 w d S F) : Calls Tryd.prog 19 #[.pointer (some ⟨d, 0, none⟩)] w fun e w' => e = .returned (.bool !S.off) ∧ w = w' := by
  obtain ⟨m, es, clock, hv, hd⟩ := h.at_
  exact On_any d S.off w hd.cells.2.2.1
theorem Dsk.read_err {w0 w : World} {d : Nat} {S : St} {F : Nat → Prop} (h : Dsk w0 w d S F) (n : Nm) (hs : n.size ≤ maxLen) (h0 : S.check n true ≠ 0) :
    Calls Tryd.prog 21 #[.pointer (some ⟨d, 0, none⟩), .string n] w fun e w' => e = .returned (.tuple #[.slice none 0 0, .int .i64 (S.check n true)]) ∧ w = w' := by
  obtain ⟨m, es, clock, hv, hd⟩ := h.at_
  exact Read_err hd n hs h0
/-- A slice of bytes that lie there, none of them in F. -/
def BytesAt (w : World) (F : Nat → Prop) (v : Value) (bs : List Int) : Prop :=
  ∃ p c, v = .slice p bs.length c ∧ bs.length ≤ c ∧ ∀ j x, bs[j]? = some x → ∃ b o, p = some ⟨b, o, none⟩ ∧ ¬ F b ∧ w.cell? ⟨b, o + j, none⟩ = some (.int .u8 x)
theorem BytesAt.kept {w w' : World} {F F' : Nat → Prop} {v : Value} {bs : List Int} (h : BytesAt w F v bs) (hk : Kp F w w') (hF : ∀ k, F' k → F k ∨ w.heap.size ≤ k) : BytesAt w' F' v bs := by
  obtain ⟨p, c, rfl, hc, h⟩ := h
  refine ⟨p, c, rfl, hc, fun j x hj => ?_⟩
  obtain ⟨b, o, e, hb, hx⟩ := h j x hj
  refine ⟨b, o, e, fun h' => ?_, hk.cell hx hb⟩
  rcases hF b h' with h1 | h1
  · exact hb h1
  · have : b < w.heap.size := block_lt_of_cell hx
    omega
theorem Dsk.read_ok {w0 w : World} {d : Nat} {S : St} {F : Nat → Prop} (h : Dsk w0 w d S F) (n : Nm) (hs : n.size ≤ maxLen) (h0 : S.check n true = 0) :
    Calls Tryd.prog 21 #[.pointer (some ⟨d, 0, none⟩), .string n] w fun e w' => ∃ v, e = .returned (.tuple #[v, .int .i64 0]) ∧ Dsk w0 w' d S F ∧ Kp (fun _ => False) w w' ∧ BytesAt w' F v (bytesOf (getF S.files n)) := by
  obtain ⟨m, es, clock, hv, hd⟩ := h.at_
  refine (Read_ok hd n hs h0).mono ?_
  rintro e w' ⟨v, rfl, hrow, hk⟩
  refine ⟨v, rfl, h.step hk, hk, ?_⟩
  obtain ⟨hl, ⟨rfl, hn⟩ | ⟨g, cap, cur, rfl, hb, hg, hn, _, _, ht⟩⟩ := hrow
  · have h0 := List.eq_nil_of_length_eq_zero hn
    rw [h0]
    exact ⟨none, 0, rfl, Nat.le_refl _, by simp⟩
  · refine ⟨_, cap, rfl, hn, fun j x hj => ⟨g, 0, rfl, fun hf => ?_, ?_⟩⟩
    · have := h.flt g hf; omega
    · rw [Nat.zero_add, blk_cell hg]
      have hlt : j < (bytesOf (getF S.files n)).length := (List.getElem?_eq_some_iff.1 hj).1
      have h1 : (byteVals (bytesOf (getF S.files n)))[j]? = some (.int .u8 x) := by simp [byteVals, hj]
      rw [← ht, List.getElem?_take, if_pos (by omega)] at h1
      simpa using h1
theorem New_dsk (n : Int) (h1 : 1 ≤ n) (h2 : n ≤ 65536) (w0 w : World) (hk0 : Kp (fun _ => False) w0 w) :
    Calls Tryd.prog 13 #[.int .i64 n] w fun e w' => ∃ d F, e = .returned (.tuple #[.pointer (some ⟨d, 0, none⟩), .int .i64 0]) ∧ Dsk w0 w' d (St.new n) F ∧ (∀ k, F k → w.heap.size ≤ k) ∧ Kp (fun _ => False) w w' := by
  refine (New_any n h1 h2 w).mono ?_
  rintro e w' ⟨d, F, rfl, _, hD, hF, hk⟩
  exact ⟨d, F, rfl, ⟨hD, fun k hk' => Nat.le_trans hk0.size (hF k hk'), hk0.trans hk⟩, hF, hk⟩
/-- make([]byte, n). -/
theorem make_bytes (n : Nat) (hn : n ≤ 140737488351232) (w : World) :
    (Instr.makeSlice 22 (.int .i64 (n : Int)) (.int .i64 (n : Int))).run Tryd.prog w = .ok (.slice (some ⟨w.heap.size, 0, none⟩) n n) (w.alloc (.cells (madeCells #[.int .u8 0] n) 5)) :=
  run_make_row' 22 5 (.int .u8 0) 1 (by kernel_rfl) (by kernel_rfl) rfl .i64 .i64 n (by omega) (by omega) w
theorem made_get (n j : Nat) (hj : j < n) : (madeCells #[.int .u8 0] n)[j]? = some (.int .u8 0) := by
  simp [madeCells, hj, Nat.mod_one]
/-- Noughts, just made. -/
theorem made_holds (n : Nat) (w : World) : Holds8 (w.alloc (.cells (madeCells #[.int .u8 0] n) 5)) w.heap.size 0 (List.replicate n 0) := by
  intro j v hj
  rw [Nat.zero_add, blk_cell (heap_alloc_new w _)]
  simp only [byteVals, List.map_replicate, List.getElem?_replicate] at hj
  split at hj
  · rename_i h; injection hj with hj; rw [made_get n j h, hj]
  · cases hj
end Go.Proofs.YtmcmapaapffadaaDoor

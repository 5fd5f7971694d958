/-
  Merged of my texts, in order: LApp.
-/
import Derived.Test.YtggnohbfdlebiaaGreatDoorM11
import Derived.Test.YtggnohbfdlebiaaGreatDoorM14
import Derived.Test.YtggnohbfdlebiaaGreatDoorM17
import Derived.Test.YtggnohbfdlebiaaGreatDoorM18
/-
  log.Append: what it answers and leaves, in every case.
-/
namespace Go.Proofs.YtggnohbfdlebiaaGreatDoor
open Go.RowKit Go.Shelf Go.ChangeMaps Go.ChangeShapes

/-- Something that is not the disk's is written. -/
theorem Dsk.beside {w0 w w' : World} {d : Nat} {S : St} {F G : Nat → Prop} (h : Dsk w0 w d S F) (hk : Kp G w w') (hG : ∀ k, G k → ¬ F k) (hn : ∀ k, G k → w0.heap.size ≤ k) : Dsk w0 w' d S F :=
  ⟨h.at_.kept hk fun k hF hg => hG k hg hF, h.new, h.kp.trans' hk fun k hg => .inr (hn k hg)⟩
/-- A log in hand, over its disk. -/
structure Lg (w0 w : World) (p d : Nat) (per first next : Int) (link : List Int) (ended : Bool) (S : St) (F : Nat → Prop) : Prop where
  dsk : Dsk w0 w d S F
  log : LogAt w p d per first next link ended
  out : ¬ F p
  new : w0.heap.size ≤ p
theorem LogAt.lt {w : World} {p d : Nat} {per first next : Int} {link : List Int} {ended : Bool} (h : LogAt w p d per first next link ended) : p < w.heap.size := blk_lt h.1
theorem Lg.step {w0 w w' : World} {p d : Nat} {per first next : Int} {link : List Int} {ended : Bool} {S : St} {F : Nat → Prop} (h : Lg w0 w p d per first next link ended S F) (hk : Kp (fun _ => False) w w') : Lg w0 w' p d per first next link ended S F :=
  ⟨h.dsk.step hk, h.log.kept hk id, h.out, h.new⟩
/-- A call of the disk. -/
theorem Lg.goes {w0 w w' : World} {p d : Nat} {per first next : Int} {link : List Int} {ended : Bool} {S S' : St} {F F' : Nat → Prop} (h : Lg w0 w p d per first next link ended S F) (hd : Dsk w0 w' d S' F') (hF : ∀ k, F' k → F k ∨ w.heap.size ≤ k) (hk : Kp F w w') : Lg w0 w' p d per first next link ended S' F' :=
  ⟨hd, h.log.kept hk h.out, fun hp => by
    rcases hF p hp with h1 | h1
    · exact h.out h1
    · have := h.log.lt; omega, h.new⟩
/-- log.done, over a disk. -/
theorem Lg.done {w0 w : World} {p d : Nat} {per first next : Int} {link : List Int} {ended : Bool} {S : St} {F : Nat → Prop} (h : Lg w0 w p d per first next link ended S F) (e : Int) :
    Calls Tryz.prog 35 #[.pointer (some ⟨p, 0, none⟩), .int .i64 e] w fun x w' => x = .returned (.int .i64 e) ∧ Lg w0 w' p d per first next link (ended || e == 18) S F ∧ Kp (fun k => k = p) w w' := by
  refine (done_any h.log e).mono ?_
  rintro x w' ⟨rfl, hl, hk⟩
  exact ⟨rfl, ⟨h.dsk.beside hk (fun k hk hF => h.out (hk ▸ hF)) (fun k hk => hk ▸ h.new), hl, h.out, h.new⟩, hk⟩
theorem LogAt.link {w : World} {p d : Nat} {per first next : Int} {link : List Int} {ended : Bool} (h : LogAt w p d per first next link ended) : ∀ j v, (byteVals link).toArray.toList[j]? = some v → w.cell? ⟨p, 4 + j, none⟩ = some v := fun j v hj => by
  rw [blk_cell h.1 (4 + j), List.getElem?_toArray]
  have hj' : (byteVals link)[j]? = some v := by simpa using hj
  have hlt := (List.getElem?_eq_some_iff.1 hj').1
  unfold logCells
  rw [List.append_assoc, List.getElem?_append_right (by simp), List.getElem?_append_left (by simpa using hlt)]
  simpa using hj'
theorem BytesAt.holds {w : World} {F : Nat → Prop} {b o n c : Nat} {bs : List Int} (h : BytesAt w F (.slice (some ⟨b, o, none⟩) n c) bs) : Holds8 w b o bs := by
  intro j v hj
  simp only [byteVals, List.getElem?_map, Option.map_eq_some_iff] at hj
  obtain ⟨x, hx, rfl⟩ := hj
  obtain ⟨b', o', e, hc⟩ := h.at_ j x hx
  injection e with e
  injection e with e1 e2 _
  subst e1 e2
  exact hc
/-- disk.Append, of a log in hand. -/
theorem Lg.append {w0 w : World} {p d : Nat} {per first next : Int} {link : List Int} {ended : Bool} {S : St} {F : Nat → Prop} (h : Lg w0 w p d per first next link ended S F) {v : Value} {bs : List Int} (hb : BytesAt w F v bs) (h1 : 1 ≤ bs.length) (hl : bs.length ≤ 140737488351232) (nm : Nm) (hs : nm.size ≤ maxLen) :
    Calls Tryz.prog 16 #[.pointer (some ⟨d, 0, none⟩), .string nm, v] w fun e w' => e = .returned (.int .i64 (S.appE nm bs.length)) ∧ ∃ F', Lg w0 w' p d per first next link ended (S.appT nm bs) F' ∧ (∀ k, F' k → F k ∨ w.heap.size ≤ k) ∧ Kp F w w' := by
  obtain ⟨b, o, n, c, rfl⟩ := hb.ptr (by omega)
  obtain ⟨rfl, hc⟩ := hb.len
  refine (h.dsk.append nm hs _ _ _ hl hc bs rfl b o (fun _ => rfl) hb.holds).mono ?_
  rintro e w' ⟨rfl, F', hd, hF, hk⟩
  exact ⟨rfl, F', h.goes hd hF hk, hF, hk⟩
theorem Lg.sync {w0 w : World} {p d : Nat} {per first next : Int} {link : List Int} {ended : Bool} {S : St} {F : Nat → Prop} (h : Lg w0 w p d per first next link ended S F) (nm : Nm) (hs : nm.size ≤ maxLen) :
    Calls Tryz.prog 37 #[.pointer (some ⟨d, 0, none⟩), .string nm] w fun e w' => e = .returned (.int .i64 (S.opE (S.check nm true))) ∧ ∃ F', Lg w0 w' p d per first next link ended (S.opS (S.check nm true) (Hg.sync nm)) F' ∧ (∀ k, F' k → F k ∨ w.heap.size ≤ k) ∧ Kp F w w' := by
  refine (h.dsk.sync nm hs).mono ?_
  rintro e w' ⟨rfl, F', hd, hF, hk⟩
  exact ⟨rfl, F', h.goes hd hF hk, hF, hk⟩
/-- What Append answers, and leaves. -/
def LApped (w0 w w' : World) (e : Ending) (p d : Nat) (per first : Int) (r : Nat) (link lk : List Int) (E : Int) (S : St) (F : Nat → Prop) : Prop :=
  ∃ F', (∀ k, F' k → F k ∨ w.heap.size ≤ k) ∧ Kp (fun k => F k ∨ k = p) w w' ∧
    ((E ≠ 0 ∧ e = .returned (.tuple #[.int .i64 0, .int .i64 E]) ∧ Lg w0 w' p d per first (r : Int) link (E == 18) S F') ∨ (E = 0 ∧ e = .returned (.tuple #[.int .i64 (r : Int), .int .i64 0]) ∧ Lg w0 w' p d per first ((r + 1 : Nat) : Int) lk false S F'))

set_option maxRecDepth 100000 in
set_option maxHeartbeats 4000000 in
theorem LAppend_any {w0 w : World} {p d per r : Nat} {first : Int} {link bs : List Int} {S : St} {F : Nat → Prop} {b o n c : Nat} (h : Lg w0 w p d (per : Int) first (r : Int) link false S F) (hlb : Byts link)
    (hb : BytesAt w (fun k => F k ∨ k = p) (.slice (some ⟨b, o, none⟩) n c) bs) (hby : Byts bs) (h1 : 1 ≤ n) (hn : n ≤ 4096) (hp1 : 1 ≤ per) (hp2 : per ≤ 1000) (hr1 : 1 ≤ r) (hr2 : r ≤ 10000000) :
    Calls Tryz.prog 12 #[.pointer (some ⟨p, 0, none⟩), .slice (some ⟨b, o, none⟩) n c] w fun e w' =>
      LApped w0 w w' e p d per first r link (chainF link bs) (S.lapE (segFile r per) (lsecF r bs (chainF link bs))) (S.lapS (segFile r per) (lsecF r bs (chainF link bs))) F := by
  have hll := h.log.2
  obtain ⟨LK, hLK⟩ : ∃ L, (byteVals link).toArray = L := ⟨_, rfl⟩
  obtain ⟨lk, hlk⟩ : ∃ lk, chainF link bs = lk := ⟨_, rfl⟩
  rw [hlk]
  obtain ⟨sec, hsec⟩ : ∃ sec, lsecF r bs lk = sec := ⟨_, rfl⟩
  obtain ⟨q, hq⟩ : ∃ q, (r - 1) / per = q := ⟨_, rfl⟩
  have hseg : segFile r per = lnm q := by unfold segFile; rw [hq]
  rw [hsec, hseg]
  obtain ⟨EE, hEE⟩ : ∃ EE, S.lapE (lnm q) sec = EE := ⟨_, rfl⟩
  obtain ⟨SS, hSS⟩ : ∃ SS, S.lapS (lnm q) sec = SS := ⟨_, rfl⟩
  rw [hEE, hSS]
  have HEE := Lib.hid (And.intro hEE (And.intro hSS (And.intro hsec hq)))
  clear hEE hSS hsec hq hseg
  obtain ⟨DK, hDK⟩ : ∃ D, (byteVals lk).toArray = D := ⟨_, rfl⟩
  have hkl : lk.length = 32 := by rw [← hlk]; exact chainF_length _ _
  have hkb : Byts lk := by rw [← hlk]; exact chainF_byts _ _
  have hDs : DK.size = 32 := by rw [← hDK, List.size_toArray, byteVals_length, hkl]
  have hD1 : ∀ x ∈ DK.toList, x.oneCell' = true := by rw [← hDK]; exact bytes_one _
  have hDi : (Tryz.prog.info? 74).map (·.size) = some DK.size := by rw [hDs]; kernel_rfl
  have hLs : LK.size = 32 := by rw [← hLK, List.size_toArray, byteVals_length, hll]
  have hLi : (Tryz.prog.info? 74).map (·.size) = some LK.size := by rw [hLs]; kernel_rfl
  have ha : ∀ w, (isAgg 74).run Tryz.prog w = .ok true w := fun w => isAgg_run (Tryz.underlying74) rfl w
  have hli := h.log.link
  rw [hLK] at hli
  have cch := Chain_any hll hlb hb hby h1 hn
  rw [hlk, hLK, hDK] at cch
  have c36 := h.log.ended
  have hn0 : ¬ n = 0 := by omega
  have hn2 : decide ((n : Int) > 4096) = false := decide_eq_false (by omega)
  have HS := Lib.hid (And.intro h (And.intro hb (And.intro hlb (And.intro hby (And.intro hLK (And.intro hlk (And.intro hDK (And.intro hkl hkb))))))))
  clear h hb hlb hby hLK hlk hDK hkl hkb
  go_enter Tryz.func12, Tryz.ntmps12
  go_upto_region 9 with fail
  go_wp2_with (first
    | (refine wpList_load_agg rfl 74 _ rfl rfl LK hli ha hLi ?_)
    | (go_at_call 34; refine cch.mono ?_; rintro e w1 ⟨rfl, hk1⟩; refine Hid.out ?_))
  refine Lib.hid ?_
  obtain ⟨B, hB⟩ : ∃ B, w1.heap.size = B := ⟨_, rfl⟩
  obtain ⟨w2, hw2⟩ : ∃ w2, (w1.alloc (Obj.cells (byteVals (List.replicate 32 0)).toArray 74)).setRow B DK = w2 := ⟨_, rfl⟩
  have hn3 : (w1.alloc (Obj.cells (byteVals (List.replicate 32 0)).toArray 74)).heap[B]? = some (.cells (byteVals (List.replicate 32 0)).toArray 74 (0, 0)) := by rw [← hB]; exact heap_alloc_new w1 _
  have hk12 : Kp (fun _ => False) w1 w2 := by rw [← hw2]; exact ((Kp.refl _ w1).alloc _).setRow (.inr (by omega)) DK
  have hD2 : w2.heap[B]? = some (.cells DK 74 (0, 0)) := by rw [← hw2]; exact setRow_blk hn3
  have h2 := HS.out.1.step (hk1.trans hk12)
  have hb2 := HS.out.2.1.kept ((hk1.trans hk12).mono fun _ h => h.elim) (F' := fun k => F k ∨ k = p) fun _ h => .inl h
  have HW1 := Lib.hid hk1
  have H2 := Lib.hid (And.intro h2 (And.intro hb2 (And.intro hD2 (And.intro (hk1.trans hk12) (And.intro hw2 (And.intro hn3 hB))))))
  clear hk1 hk12 hD2 h2 hb2 hw2 hn3 hli cch c36
  go_wp2_with (refine wpList_store_agg (cells := DK) rfl 74 _ _ rfl rfl rfl (by exact H2.out.2.2.2.2.2.1) hDi (by rw [hDs]; exact Nat.le_refl 32) hD1 ?_; rw [splice_all _ _ (by rw [hDs]; rfl)]; refine Hid.out ?_)
  refine Lib.hid ?_
  change wpList _ _ _ _ _ ((w1.alloc (Obj.cells (byteVals (List.replicate 32 0)).toArray 74)).setRow B DK)
  rw [H2.out.2.2.2.2.1]
  have c0 := H2.out.1.log.d
  have c1 := H2.out.1.log.per
  have c3 := H2.out.1.log.next
  have hr0 : IntKind.i64.wrap ((r : Int) - 1) = ((r - 1 : Nat) : Int) := by rw [IntKind.wrap_i64]; omega
  have hqr : q ≤ r - 1 := by rw [← HEE.out.2.2.2]; exact Nat.div_le_self _ _
  have hq0 : Int.tdiv ((r - 1 : Nat) : Int) (per : Int) = (q : Int) := by rw [Int.tdiv_eq_ediv_of_nonneg (by omega), ← Int.natCast_ediv, HEE.out.2.2.2]
  have hpn : ¬ per = 0 := by omega
  have hwq : IntKind.i64.wrap (q : Int) = (q : Int) := IntWalk.i64_in _ (by omega)
  clear hB
  go_upto_region 10 with fail
  refine wp_region_held_drew (S := fun w' => w'.cell? ⟨p, 3, none⟩ = some (.int .i64 (r : Int)) ∧ w'.cell? ⟨p, 1, none⟩ = some (.int .i64 (per : Int))) (by kernel_rfl) ⟨c3, c1⟩ (fun hHeld => ?_)
  refine take_yes (i := 0) (v := ?_) (some 32) rfl rfl (by kernel_rfl) (by kernel_rfl) (by kernel_rfl) (fun _ _ _ h => h) (Or.inl ⟨by rfl, ?_⟩) (by assumption) ?_
  rotate_left
  · (intro w hSw; (try dsimp only at hSw); go_simp <;> (try with_reducible rfl))
  ((try simp only [Act.put]); (try simp only [List.setIfInBounds_toArray]); (try simp only [List.set_cons_succ]); (try simp only [List.set_cons_zero]))
  refine take_yes (i := 1) (v := ?_) (some 33) rfl rfl (by kernel_rfl) (by kernel_rfl) (by kernel_rfl) (fun _ _ _ h => h) (Or.inl ⟨by rfl, ?_⟩) (by assumption) ?_
  rotate_left
  · (intro w hSw; (try dsimp only at hSw); go_simp <;> (try with_reducible rfl))
  ((try simp only [Act.put]); (try simp only [List.setIfInBounds_toArray]); (try simp only [List.set_cons_succ]); (try simp only [List.set_cons_zero]))
  refine take_yes (i := 2) (v := ?_) (some 34) rfl rfl (by kernel_rfl) (by kernel_rfl) (by kernel_rfl) (fun _ _ _ h => h) (Or.inl ⟨by rfl, ?_⟩) (by assumption) ?_
  rotate_left
  · (intro w hSw; (try dsimp only at hSw); go_simp <;> (try with_reducible rfl))
  ((try simp only [Act.put]); (try simp only [List.setIfInBounds_toArray]); (try simp only [List.set_cons_succ]); (try simp only [List.set_cons_zero]))
  refine take_yes (i := 3) (v := ?_) (some 35) rfl rfl (by kernel_rfl) (by kernel_rfl) (by kernel_rfl) (fun _ _ _ h => h) (Or.inl ⟨by rfl, ?_⟩) (by assumption) ?_
  rotate_left
  · (intro w hSw; (try dsimp only at hSw); go_simp <;> (try with_reducible rfl))
  ((try simp only [Act.put]); (try simp only [List.setIfInBounds_toArray]); (try simp only [List.set_cons_succ]); (try simp only [List.set_cons_zero]))
  refine take_yes (i := 4) (v := .int .i64 ((r - 1 : Nat) : Int)) (some 36) rfl rfl (by kernel_rfl) (by kernel_rfl) (by kernel_rfl) (fun _ _ _ h => h) (Or.inl ⟨by rfl, ?_⟩) (by assumption) ?_
  · (intro w hSw; (try dsimp only at hSw); go_simp <;> (first | (with_reducible rfl) | (rw [hr0])))
  ((try simp only [Act.put]); (try simp only [List.setIfInBounds_toArray]); (try simp only [List.set_cons_succ]); (try simp only [List.set_cons_zero]))
  refine take_yes (i := 5) (v := ?_) (some 37) rfl rfl (by kernel_rfl) (by kernel_rfl) (by kernel_rfl) (fun _ _ _ h => h) (Or.inl ⟨by rfl, ?_⟩) (by assumption) ?_
  rotate_left
  · (intro w hSw; (try dsimp only at hSw); go_simp <;> (try with_reducible rfl))
  ((try simp only [Act.put]); (try simp only [List.setIfInBounds_toArray]); (try simp only [List.set_cons_succ]); (try simp only [List.set_cons_zero]))
  refine take_yes (i := 6) (v := ?_) (some 38) rfl rfl (by kernel_rfl) (by kernel_rfl) (by kernel_rfl) (fun _ _ _ h => h) (Or.inl ⟨by rfl, ?_⟩) (by assumption) ?_
  rotate_left
  · (intro w hSw; (try dsimp only at hSw); go_simp <;> (try with_reducible rfl))
  ((try simp only [Act.put]); (try simp only [List.setIfInBounds_toArray]); (try simp only [List.set_cons_succ]); (try simp only [List.set_cons_zero]))
  refine take_yes (i := 7) (v := ?_) (some 39) rfl rfl (by kernel_rfl) (by kernel_rfl) (by kernel_rfl) (fun _ _ _ h => h) (Or.inl ⟨by rfl, ?_⟩) (by assumption) ?_
  rotate_left
  · (intro w hSw; (try dsimp only at hSw); go_simp <;> (try with_reducible rfl))
  ((try simp only [Act.put]); (try simp only [List.setIfInBounds_toArray]); (try simp only [List.set_cons_succ]); (try simp only [List.set_cons_zero]))
  refine take_yes (i := 8) (v := ?_) (some 40) rfl rfl (by kernel_rfl) (by kernel_rfl) (by kernel_rfl) (fun _ _ _ h => h) (Or.inl ⟨by rfl, ?_⟩) (by assumption) ?_
  rotate_left
  · (intro w hSw; (try dsimp only at hSw); go_simp <;> (try with_reducible rfl))
  ((try simp only [Act.put]); (try simp only [List.setIfInBounds_toArray]); (try simp only [List.set_cons_succ]); (try simp only [List.set_cons_zero]))
  refine take_yes (i := 9) (v := .int .i64 (q : Int)) (some 41) rfl rfl (by kernel_rfl) (by kernel_rfl) (by kernel_rfl) (fun _ _ _ h => h) (Or.inl ⟨by rfl, ?_⟩) (by assumption) ?_
  · (intro w hSw; (try dsimp only at hSw); go_simp <;> (first | (with_reducible rfl) | (rw [hwq])))
  ((try simp only [Act.put]); (try simp only [List.setIfInBounds_toArray]); (try simp only [List.set_cons_succ]); (try simp only [List.set_cons_zero]))
  refine wpAnyH_ready (rs := [10]) (by kernel_rfl) (by simp) ?_
  refine AllReadyH.cons (o := _) rfl (fun K hK => ?_) AllReadyH.nil
  go_simp
  (go_at_call 31; refine (lname_any _ q (by omega)).mono ?_; rintro e w3 ⟨rfl, hk3⟩; have HK3 := Lib.hid hk3; clear hk3)
  refine hK.out _ _ ⟨HK3.out.cell c3 id, HK3.out.cell c1 id⟩ (fun hHeld => ?_)
  clear hK K
  ((try simp only [Act.put]); (try simp only [List.setIfInBounds_toArray]); (try simp only [List.set_cons_succ]); (try simp only [List.set_cons_zero]))
  refine take_yes (i := 11) (v := ?_) (some 7) rfl rfl (by kernel_rfl) (by kernel_rfl) (by kernel_rfl) (fun _ _ _ h => h) (Or.inl ⟨by rfl, ?_⟩) (by assumption) ?_
  rotate_left
  · (intro w hSw; (try dsimp only at hSw); go_simp <;> (try with_reducible rfl))
  ((try simp only [Act.put]); (try simp only [List.setIfInBounds_toArray]); (try simp only [List.set_cons_succ]); (try simp only [List.set_cons_zero]))
  refine wpAnyH_done (by kernel_rfl) ?_ _
  have hsec := HEE.out.2.2.1
  have hsl : sec.length = 32 * partsN (n + 36) := by
    have := HS.out.2.1.len.1
    rw [← hsec, lsecF_length _ _ HS.out.2.2.2.2.2.2.2.1, this]
  have hsl2 : 64 ≤ sec.length ∧ sec.length ≤ 6000 := by rw [hsl]; unfold partsN; omega
  have hkw : Kp (fun _ => False) w2 w3 := (Kp.refl _ w2).drew.trans HK3.out
  have hg3 := H2.out.1.step hkw
  have hb3 := H2.out.2.1.kept (hkw.mono fun _ h => h.elim) (F' := fun k => F k ∨ k = p) fun _ h => .inl h
  have hD3 := hkw.blk H2.out.2.2.1 id
  have hBF : ¬ F B := fun hf => by
    have h1 := HS.out.1.dsk.flt B hf
    have h2 := H2.out.2.2.2.2.2.2
    have h3 := HW1.out.size
    omega
  have hBp : ¬ B = p := fun hf => by
    have h1 := HS.out.1.log.lt
    have h2 := H2.out.2.2.2.2.2.2
    have h3 := HW1.out.size
    omega
  have csec := lsectors_any (hb3.kept (Kp.refl (fun k => F k ∨ k = p) w3).drew (F' := fun k => F k ∨ k = p) fun _ h => .inl h) HS.out.2.2.2.1 h1 hn HS.out.2.2.2.2.2.2.2.1 HS.out.2.2.2.2.2.2.2.2 (r := r) (by omega)
  rw [hsec, HS.out.2.2.2.2.2.2.1] at csec
  have hld : ∀ j v, DK.toList[j]? = some v → w3.cell? ⟨B, 0 + j, none⟩ = some v := fun j v hj => by
    rw [Nat.zero_add, blk_cell hD3]; simpa using hj
  have d0 := hg3.log.d
  have d3 := hg3.log.next
  have H3 := Lib.hid (And.intro hg3 (And.intro (H2.out.2.2.2.1.trans hkw) (And.intro hBF (And.intro hBp (And.intro hsec (And.intro hsl hld))))))
  clear hkw hg3 hb3 hD3 hBF hBp hsec hsl c0 c1 c3 hr0 hq0 hpn hwq hld
  obtain ⟨E1, hE1⟩ : ∃ E1, S.appE (lnm q) sec.length = E1 := ⟨_, rfl⟩
  obtain ⟨S1, hS1⟩ : ∃ S1, S.appT (lnm q) sec = S1 := ⟨_, rfl⟩
  have HE := Lib.hid (And.intro hE1 hS1)
  have hnz : (lnm q).size ≤ maxLen := by rw [lnm_size]; decide
  clear hE1 hS1
  go_upto_region 11 with fail
  refine wp_region_held_drew (S := fun w' => w'.cell? ⟨p, 0, none⟩ = some (.pointer (some ⟨d, 0, none⟩)) ∧ w'.cell? ⟨p, 3, none⟩ = some (.int .i64 (r : Int)) ∧ ∀ j v, DK.toList[j]? = some v → w'.cell? ⟨B, 0 + j, none⟩ = some v) (by kernel_rfl) ⟨d0, d3, H3.out.2.2.2.2.2.2⟩ (fun hHeld => ?_)
  refine take_yes (i := 0) (v := ?_) (some 43) rfl rfl (by kernel_rfl) (by kernel_rfl) (by kernel_rfl) (fun _ _ _ h => h) (Or.inl ⟨by rfl, ?_⟩) (by assumption) ?_
  rotate_left
  · (intro w hSw; (try dsimp only at hSw); go_simp <;> (try with_reducible rfl))
  ((try simp only [Act.put]); (try simp only [List.setIfInBounds_toArray]); (try simp only [List.set_cons_succ]); (try simp only [List.set_cons_zero]))
  refine take_yes (i := 1) (v := ?_) (some 44) rfl rfl (by kernel_rfl) (by kernel_rfl) (by kernel_rfl) (fun _ _ _ h => h) (Or.inl ⟨by rfl, ?_⟩) (by assumption) ?_
  rotate_left
  · (intro w hSw; (try dsimp only at hSw); go_simp <;> (try with_reducible rfl))
  ((try simp only [Act.put]); (try simp only [List.setIfInBounds_toArray]); (try simp only [List.set_cons_succ]); (try simp only [List.set_cons_zero]))
  refine take_yes (i := 2) (v := ?_) (some 45) rfl rfl (by kernel_rfl) (by kernel_rfl) (by kernel_rfl) (fun _ _ _ h => h) (Or.inl ⟨by rfl, ?_⟩) (by assumption) ?_
  rotate_left
  · (intro w hSw; (try dsimp only at hSw); go_simp <;> (try with_reducible rfl))
  ((try simp only [Act.put]); (try simp only [List.setIfInBounds_toArray]); (try simp only [List.set_cons_succ]); (try simp only [List.set_cons_zero]))
  refine take_yes (i := 3) (v := ?_) (some 46) rfl rfl (by kernel_rfl) (by kernel_rfl) (by kernel_rfl) (fun _ _ _ h => h) (Or.inl ⟨by rfl, ?_⟩) (by assumption) ?_
  rotate_left
  · (intro w hSw; (try dsimp only at hSw); go_simp <;> (try with_reducible rfl))
  ((try simp only [Act.put]); (try simp only [List.setIfInBounds_toArray]); (try simp only [List.set_cons_succ]); (try simp only [List.set_cons_zero]))
  refine take_yes (i := 4) (v := ?_) (some 47) rfl rfl (by kernel_rfl) (by kernel_rfl) (by kernel_rfl) (fun _ _ _ h => h) (Or.inl ⟨by rfl, ?_⟩) (by assumption) ?_
  rotate_left
  · (intro w hSw; (try dsimp only at hSw); go_simp <;> (try with_reducible rfl))
  ((try simp only [Act.put]); (try simp only [List.setIfInBounds_toArray]); (try simp only [List.set_cons_succ]); (try simp only [List.set_cons_zero]))
  refine take_yes (i := 5) (v := ?_) (some 48) rfl rfl (by kernel_rfl) (by kernel_rfl) (by kernel_rfl) (fun _ _ _ h => h) (Or.inl ⟨by rfl, ?_⟩) (by assumption) ?_
  rotate_left
  · (intro w hSw; (try dsimp only at hSw); go_simp <;> (try with_reducible rfl))
  ((try simp only [Act.put]); (try simp only [List.setIfInBounds_toArray]); (try simp only [List.set_cons_succ]); (try simp only [List.set_cons_zero]))
  refine take_yes (i := 6) (v := ?_) (some 49) rfl rfl (by kernel_rfl) (by kernel_rfl) (by kernel_rfl) (fun _ _ _ h => h) (Or.inl ⟨by rfl, ?_⟩) (by assumption) ?_
  rotate_left
  · (intro w hSw; (try dsimp only at hSw); go_simp <;> (try with_reducible rfl))
  ((try simp only [Act.put]); (try simp only [List.setIfInBounds_toArray]); (try simp only [List.set_cons_succ]); (try simp only [List.set_cons_zero]))
  refine take_yes (i := 7) (v := ?_) (some 50) rfl rfl (by kernel_rfl) (by kernel_rfl) (by kernel_rfl) (fun _ _ _ h => h) (Or.inl ⟨by rfl, ?_⟩) (by assumption) ?_
  rotate_left
  · (intro w hSw; (try dsimp only at hSw); go_simp <;> (try with_reducible rfl))
  ((try simp only [Act.put]); (try simp only [List.setIfInBounds_toArray]); (try simp only [List.set_cons_succ]); (try simp only [List.set_cons_zero]))
  refine take_yes (i := 8) (v := ?_) (some 51) rfl rfl (by kernel_rfl) (by kernel_rfl) (by kernel_rfl) (fun _ _ _ h => h) (Or.inl ⟨by rfl, ?_⟩) (by assumption) ?_
  rotate_left
  · (intro w hSw; (try dsimp only at hSw); go_simp <;> (try with_reducible rfl))
  ((try simp only [Act.put]); (try simp only [List.setIfInBounds_toArray]); (try simp only [List.set_cons_succ]); (try simp only [List.set_cons_zero]))
  refine take_yes (i := 9) (v := ?_) (some 52) rfl rfl (by kernel_rfl) (by kernel_rfl) (by kernel_rfl) (fun _ _ _ h => h) (Or.inl ⟨by rfl, ?_⟩) (by assumption) ?_
  rotate_left
  · (intro w hSw; (try dsimp only at hSw); go_simp <;> (try with_reducible rfl))
  ((try simp only [Act.put]); (try simp only [List.setIfInBounds_toArray]); (try simp only [List.set_cons_succ]); (try simp only [List.set_cons_zero]))
  refine take_yes (i := 10) (v := ?_) (some 53) rfl rfl (by kernel_rfl) (by kernel_rfl) (by kernel_rfl) (fun _ _ _ h => h) (Or.inl ⟨by rfl, ?_⟩) (by assumption) ?_
  rotate_left
  · (intro w hSw; (try dsimp only at hSw); go_simp <;> (try with_reducible rfl))
  ((try simp only [Act.put]); (try simp only [List.setIfInBounds_toArray]); (try simp only [List.set_cons_succ]); (try simp only [List.set_cons_zero]))
  refine take_yes (i := 11) (v := .agg DK) (some 54) rfl rfl (by kernel_rfl) (by kernel_rfl) (by kernel_rfl) (fun _ _ _ h => h) (Or.inl ⟨by rfl, ?_⟩) (by assumption) ?_
  · exact fun w hSw => load_take _ _ rfl (by rfl) hSw.2.2 ha hDi
  ((try simp only [Act.put]); (try simp only [List.setIfInBounds_toArray]); (try simp only [List.set_cons_succ]); (try simp only [List.set_cons_zero]))
  refine wpAnyH_ready (rs := [12]) (by kernel_rfl) (by simp) ?_
  refine AllReadyH.cons (o := _) rfl (fun K hK => ?_) AllReadyH.nil
  go_simp
  (go_at_call 36; refine csec.mono ?_; rintro e w4 ⟨v4, rfl, ho4, hk4⟩; have H4 := Lib.hid (And.intro ho4 hk4); clear ho4 hk4 csec)
  refine hK.out _ _ ⟨H4.out.2.cell d0 id, H4.out.2.cell d3 id, fun j v hj => H4.out.2.cell (H3.out.2.2.2.2.2.2 j v hj) id⟩ (fun hHeld => ?_)
  clear hK K
  ((try simp only [Act.put]); (try simp only [List.setIfInBounds_toArray]); (try simp only [List.set_cons_succ]); (try simp only [List.set_cons_zero]))
  have hk34 : Kp (fun _ => False) w3 w4 := (Kp.refl _ w3).drew.trans H4.out.2
  have capp := (H3.out.1.step hk34).append (H4.out.1.at_ fun k hk => H3.out.1.dsk.flt k hk) (by omega) (by omega) (lnm q) hnz
  rw [HE.out.1, HE.out.2] at capp
  refine wpAnyH_ready (rs := [13]) (by kernel_rfl) (by simp) ?_
  refine AllReadyH.cons (o := _) rfl (fun K hK => ?_) AllReadyH.nil
  go_simp
  (go_at_call 16; refine capp.mono ?_; rintro e w5 ⟨rfl, F5, h5, hF5, hk5⟩; have H5 := Lib.hid (And.intro h5 (And.intro hF5 (And.intro hk5 hk34))); clear h5 hF5 hk5 hk34 capp)
  refine hK.out _ _ ⟨H5.out.1.log.d, H5.out.1.log.next, fun j v hj => H5.out.2.2.1.cell (H5.out.2.2.2.cell (H3.out.2.2.2.2.2.2 j v hj) id) H3.out.2.2.1⟩ (fun hHeld => ?_)
  clear hK K
  ((try simp only [Act.put]); (try simp only [List.setIfInBounds_toArray]); (try simp only [List.set_cons_succ]); (try simp only [List.set_cons_zero]))
  refine wpAnyH_ready (rs := [14]) (by kernel_rfl) (by simp) ?_
  refine AllReadyH.cons (o := _) rfl (fun K hK => ?_) AllReadyH.nil
  go_simp
  (go_at_call 35; refine (H5.out.1.done E1).mono ?_; rintro e w6 ⟨rfl, h6, hk6⟩; have H6 := Lib.hid (And.intro h6 hk6); clear h6 hk6)
  refine hK.out _ _ ⟨H6.out.1.log.d, H6.out.1.log.next, fun j v hj => H6.out.2.cell (H5.out.2.2.1.cell (H5.out.2.2.2.cell (H3.out.2.2.2.2.2.2 j v hj) id) H3.out.2.2.1) H3.out.2.2.2.1⟩ (fun hHeld => ?_)
  clear hK K
  ((try simp only [Act.put]); (try simp only [List.setIfInBounds_toArray]); (try simp only [List.set_cons_succ]); (try simp only [List.set_cons_zero]))
  refine take_yes (i := 15) (v := ?_) (some 8) rfl rfl (by kernel_rfl) (by kernel_rfl) (by kernel_rfl) (fun _ _ _ h => h) (Or.inl ⟨by rfl, ?_⟩) (by assumption) ?_
  rotate_left
  · (intro w hSw; (try dsimp only at hSw); go_simp <;> (try with_reducible rfl))
  ((try simp only [Act.put]); (try simp only [List.setIfInBounds_toArray]); (try simp only [List.set_cons_succ]); (try simp only [List.set_cons_zero]))
  refine wpAnyH_done (by kernel_rfl) ?_ _
  have hld6 : ∀ j v, DK.toList[j]? = some v → w6.cell? ⟨B, 0 + j, none⟩ = some v := fun j v hj => H6.out.2.cell (H5.out.2.2.1.cell (H5.out.2.2.2.cell (H3.out.2.2.2.2.2.2 j v hj) id) H3.out.2.2.1) H3.out.2.2.2.1
  have hkp6 : Kp (fun k => F k ∨ k = p) w w6 := (((H3.out.2.1.trans H5.out.2.2.2).mono fun _ h => h.elim).trans (H5.out.2.2.1.mono fun k hk => .inl hk)).trans (H6.out.2.mono fun k hk => .inr hk)
  have hsz : w.heap.size ≤ w4.heap.size := Nat.le_trans H3.out.2.1.size H5.out.2.2.2.size
  have hF6 : ∀ k, F5 k → F k ∨ w.heap.size ≤ k := fun k hk => (H5.out.2.1 k hk).imp id fun h => Nat.le_trans hsz h
  have hB5 : ¬ F5 B := fun hf => by
    rcases H5.out.2.1 B hf with h | h
    · exact H3.out.2.2.1 h
    · have := H3.out.2.2.2.2.2.2
      have h0 : 0 < DK.toList.length := by simp [hDs]
      have h1 : B < w3.heap.size := block_lt_of_cell (this 0 _ (List.getElem?_eq_getElem h0))
      have h2 := H5.out.2.2.2.size
      omega
  have HK6 := Lib.hid (And.intro hkp6 (And.intro hF6 (And.intro hld6 (And.intro hB5 hsz))))
  clear hkp6 hF6 hld6 hB5 hsz d0 d3
  by_cases hE0 : E1 = 0
  · subst hE0
    obtain ⟨E2, hE2⟩ : ∃ E2, S1.opE (S1.check (lnm q) true) = E2 := ⟨_, rfl⟩
    obtain ⟨S2, hS2⟩ : ∃ S2, S1.opS (S1.check (lnm q) true) (Hg.sync (lnm q)) = S2 := ⟨_, rfl⟩
    obtain rfl : EE = E2 := by rw [← HEE.out.1]; unfold St.lapE; rw [HE.out.1, HE.out.2, hE2]; simp
    obtain rfl : SS = S2 := by rw [← HEE.out.2.1]; unfold St.lapS; rw [HE.out.1, HE.out.2, hS2]; simp
    have HE2 := Lib.hid (And.intro hE2 hS2)
    clear hE2 hS2
    have d0 := H6.out.1.log.d
    have csy := H6.out.1.sync (lnm q) hnz
    rw [HE2.out.1, HE2.out.2] at csy
    go_wp2_with (first
      | (go_at_call 37; refine csy.mono ?_; rintro e w7 ⟨rfl, F7, h7, hF7, hk7⟩; have H7 := Lib.hid (And.intro h7 (And.intro hF7 hk7)); clear h7 hF7 hk7 csy)
      | (go_at_call 35; refine (H7.out.1.done EE).mono ?_; rintro e w8 ⟨rfl, h8, hk8⟩; have H8 := Lib.hid (And.intro h8 hk8); clear h8 hk8; refine Hid.out ?_))
    refine Lib.hid ?_
    have hF8 : ∀ k, F7 k → F k ∨ w.heap.size ≤ k := fun k hk => by
      rcases H7.out.2.1 k hk with h | h
      · exact HK6.out.2.1 k h
      · exact .inr (Nat.le_trans HK6.out.1.size h)
    have hkp8 : Kp (fun k => F k ∨ k = p) w w8 := ((HK6.out.1.trans' H7.out.2.2 fun k hk => (HK6.out.2.1 k hk).imp .inl id)).trans (H8.out.2.mono fun k hk => .inr hk)
    by_cases hE20 : EE = 0
    · subst hE20
      have hld8 : ∀ j v, DK.toList[j]? = some v → w8.cell? ⟨B, 0 + j, none⟩ = some v := fun j v hj => H8.out.2.cell (H7.out.2.2.cell (HK6.out.2.2.1 j v hj) HK6.out.2.2.2.1) H3.out.2.2.2.1
      have h8 : LogAt w8 p d (per : Int) first (r : Int) link false := H8.out.1.log
      have hblk := h8.1
      have h9 := h8.setLink HS.out.2.2.2.2.2.2.2.1
      have hkp9 := hkp8.setRow (g := p) (.inl (.inr rfl)) (splice (logCells d (per : Int) first (r : Int) link false).toArray 4 DK.toList)
      have hsz37 := h8.size
      rw [HS.out.2.2.2.2.2.2.1] at h9
      obtain ⟨w9, hw9⟩ : ∃ w9, w8.setRow p (splice (logCells d (per : Int) first (r : Int) link false).toArray 4 DK.toList) = w9 := ⟨_, rfl⟩
      have h9' : LogAt w9 p d (per : Int) first (r : Int) lk false := by rw [← hw9]; exact h9
      have e3 := h9'.next
      have e3f := h9'.free 3
      have h10 := h9'.setNext ((r + 1 : Nat) : Int)
      have e3' := h10.next
      rw [Int.natCast_add, Int.natCast_one] at e3'
      have hkp9' : Kp (fun k => F k ∨ k = p) w8 w9 := by rw [← hw9]; exact (Kp.refl _ w8).setRow (.inl (.inr rfl)) _
      have H9 := Lib.hid (And.intro h10 (And.intro hkp9' (And.intro hw9 (And.intro hF8 (And.intro hkp8 (And.intro hblk hsz37))))))
      clear h8 h9 h9' h10 hkp9 hkp9' hw9 hF8 hkp8 hsz37 hblk
      have hr1 : IntKind.i64.wrap ((r : Int) + 1) = (r : Int) + 1 := by rw [IntKind.wrap_i64]; omega
      go_wp2_with (first
        | (refine wpList_load_agg rfl 74 _ rfl rfl DK hld8 ha hDi ?_)
        | (refine wpList_store_agg (cells := DK) rfl 74 _ _ rfl rfl rfl (by exact H9.out.2.2.2.2.2.1) hDi (by rw [hDs, H9.out.2.2.2.2.2.2]; decide) hD1 ?_; rw [H9.out.2.2.1]))
      go_ret2
      refine ⟨F7, H9.out.2.2.2.1, (H9.out.2.2.2.2.1.trans H9.out.2.1).trans ((Kp.refl _ w9).setCell (p := ⟨p, 3, none⟩) (.inl (.inr rfl)) _), .inr ⟨rfl, ?_, ?_⟩⟩
      · rfl
      · have hk9 : Kp (fun k => k = p) w8 (w9.setCell ⟨p, 3, none⟩ (.int .i64 ((r : Int) + 1))) := by
          have h := (Kp.refl (fun k => k = p) w8).setRow (g := p) (.inl rfl) (splice (logCells d (per : Int) first (r : Int) link false).toArray 4 DK.toList)
          rw [H9.out.2.2.1] at h
          exact h.setCell (p := ⟨p, 3, none⟩) (.inl rfl) _
        refine ⟨H8.out.1.dsk.beside hk9 (fun k hk hF => H8.out.1.out (hk ▸ hF)) (fun k hk => hk ▸ H8.out.1.new), ?_, H8.out.1.out, H8.out.1.new⟩
        have := H9.out.1
        rw [Int.natCast_add, Int.natCast_one] at this ⊢
        exact this
    · go_wp2
      go_ret2
      exact ⟨F7, hF8, hkp8, .inl ⟨hE20, rfl, by have := H8.out.1; simpa using this⟩⟩
  · obtain rfl : EE = E1 := by rw [← HEE.out.1]; unfold St.lapE; rw [HE.out.1, if_pos hE0]
    obtain rfl : SS = S1 := by rw [← HEE.out.2.1]; unfold St.lapS; rw [HE.out.1, HE.out.2, if_pos hE0]
    go_wp2
    go_ret2
    exact ⟨F5, HK6.out.2.1, HK6.out.1, .inl ⟨hE0, rfl, by have := H6.out.1; simpa using this⟩⟩
end Go.Proofs.YtggnohbfdlebiaaGreatDoor

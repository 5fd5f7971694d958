/-
  The disk's small methods: named, check, On, Ops, Size, New, Arm.
-/
import Derived.Test.YtmcmapaapffadaaDoorDk
import Derived.Lib.Hide
import Derived.BigQuiet
import Derived.Outline
namespace Go.Proofs.YtmcmapaapffadaaDoor
open Go.RowKit Go.ChangeMaps

theorem ret_int {k : IntKind} {a b : Int} (h : a = b) : Ending.returned (.int k a) = .returned (.int k b) := by rw [h]
theorem ret_bool {a b : Bool} (h : a = b) : Ending.returned (.bool a) = .returned (.bool b) := by rw [h]
/-- A letter or a figure. -/
def okc (c : Nat) : Bool := (decide (97 ≤ c) && decide (c ≤ 122)) || (decide (48 ≤ c) && decide (c ≤ 57))

theorem On_any (d : Nat) (off : Bool) (w : World) (h : w.cell? ⟨d, 2, none⟩ = some (.bool off)) :
    Calls Tryd.prog 19 #[.pointer (some ⟨d, 0, none⟩)] w fun e w' => e = .returned (.bool (!off)) ∧ w = w' := by
  go_enter Tryd.func19, Tryd.ntmps19
  go_wp2
  go_ret
  exact ⟨rfl, rfl⟩
theorem On_nil (w : World) : Calls Tryd.prog 19 #[.pointer none] w fun e w' => e = .returned (.bool false) ∧ w = w' := by
  go_enter Tryd.func19, Tryd.ntmps19
  go_wp2
  go_ret
  exact ⟨rfl, rfl⟩
theorem nameB_of (s : ByteArray) (h : ∀ i (hi : i < s.size), okc s[i].toNat = true) (h1 : 1 ≤ s.size) (h2 : s.size ≤ 16) : nameB s = true := by
  unfold nameB
  simp only [Bool.and_eq_true, decide_eq_true_eq]
  refine ⟨?_, h1, h2⟩
  rw [List.all_eq_true]
  intro c hc
  obtain ⟨i, hi, rfl⟩ := List.getElem_of_mem hc
  exact h i (by simpa using hi)
theorem nameB_at {s : ByteArray} (h : nameB s = true) (i : Nat) (hi : i < s.size) : okc s[i].toNat = true := by
  unfold nameB at h
  simp only [Bool.and_eq_true] at h
  have := List.all_eq_true.1 h.1 s[i] (by
    have : s[i] = s.data.toList[i]'(by simpa using hi) := by simp; rfl
    rw [this]; exact List.getElem_mem _)
  exact this
theorem nameB_size {s : ByteArray} (h : nameB s = true) : 1 ≤ s.size ∧ s.size ≤ 16 := by
  unfold nameB at h
  simp only [Bool.and_eq_true, decide_eq_true_eq] at h
  exact h.2

set_option maxHeartbeats 800000 in
theorem named_any (s : ByteArray) (w : World) (hs : s.size ≤ maxLen) : Calls Tryd.prog 60 #[.string s] w fun e w' => e = .returned (.bool (nameB s)) ∧ w = w' := by
  unfold maxLen at hs
  go_enter Tryd.func60, Tryd.ntmps60
  go_wp2
  go_loop [6] (fun i => ∃ k : Nat, k ≤ s.size ∧ i = .int .i64 k ∧ ∀ j (hj : j < s.size), j < k → okc s[j].toNat = true) (fun i => s.size - (intOf i).toNat)
  case atStart => exact ⟨0, Nat.zero_le _, rfl, by intro j _ h; omega⟩
  case round =>
    obtain ⟨k, hk, rfl, hall⟩ := hrel
    have HA := Lib.hid hall
    clear hall
    by_cases hlt : k < s.size
    · by_cases h1 : (s[k].toNat : Int) < 97
      · by_cases h2 : (s[k].toNat : Int) < 48
        · have hno : nameB s = false := by
            cases hb : nameB s with
            | false => rfl
            | true => have := nameB_at hb k hlt; simp [okc] at this; omega
          have HN := Lib.hid hno
          clear hno
          go_wp2
          go_ret
          exact ⟨ret_bool HN.out.symm, rfl⟩
        · by_cases h3 : (57 : Int) < s[k].toNat
          · have hno : nameB s = false := by
              cases hb : nameB s with
              | false => rfl
              | true => have := nameB_at hb k hlt; simp [okc] at this; omega
            have HN := Lib.hid hno
            clear hno
            go_wp2
            go_ret
            exact ⟨ret_bool HN.out.symm, rfl⟩
          · go_wp2
            go_round
            case rel => exact ⟨k + 1, by omega, by go_num, by
              intro j hj hjk
              by_cases e : j = k
              · subst e; simp [okc]; omega
              · exact HA.out j hj (by omega)⟩
            case measure => simp [intOf]; omega
      · by_cases h2 : (122 : Int) < s[k].toNat
        · have hno : nameB s = false := by
            cases hb : nameB s with
            | false => rfl
            | true => have := nameB_at hb k hlt; simp [okc] at this; omega
          have HN := Lib.hid hno
          clear hno
          have h3 : ¬ (s[k].toNat : Int) < 48 := by omega
          have h4 : (57 : Int) < s[k].toNat := by omega
          go_wp2
          go_ret
          exact ⟨ret_bool HN.out.symm, rfl⟩
        · go_wp2
          go_round
          case rel => exact ⟨k + 1, by omega, by go_num, by
            intro j hj hjk
            by_cases e : j = k
            · subst e; simp [okc]; omega
            · exact HA.out j hj (by omega)⟩
          case measure => simp [intOf]; omega
    · by_cases h1 : 1 ≤ s.size
      · by_cases h2 : s.size ≤ 16
        · have hn := nameB_of s (fun i hi => HA.out i hi (by omega)) h1 h2
          have HN := Lib.hid hn
          clear hn
          go_wp2
          go_ret
          exact ⟨ret_bool (by rw [HN.out]; simp; omega), rfl⟩
        · have hn : nameB s = false := by unfold nameB; simp [h2]
          have HN := Lib.hid hn
          clear hn
          go_wp2
          go_ret
          exact ⟨ret_bool (by rw [HN.out]; simp; omega), rfl⟩
      · have hn : nameB s = false := by unfold nameB; simp; omega
        have HN := Lib.hid hn
        clear hn
        go_wp2
        go_ret
        exact ⟨ret_bool HN.out.symm, rfl⟩

theorem zero_file (w : World) : (zeroValue 75).run Tryd.prog w = .ok (.slice none 0 0) w := by kernel_rfl
theorem map_type : Tryd.prog.underlying 72 = some (.map 9 75) := by kernel_rfl
theorem key_type : Tryd.prog.underlying 9 = some .string := by kernel_rfl

theorem look_none {w : World} {d m : Nat} {es : Array MapEntry} {clock : Nat} {hv : Value} {S : St} {F : Nat → Prop} (h : DiskIs w d m es clock hv S F) {x : Nm} (hx : get S.files x = none) (c : Bool) :
    (Instr.lookup 72 (.map (some m)) (.string x) c).run Tryd.prog w = .ok (if c then .tuple #[.slice none 0 0, .bool false] else .slice none 0 0) w :=
  lookup_none map_type key_type keyNow_string h.hm h.ents (zero_file w) hx c
theorem look_some {w : World} {d m : Nat} {es : Array MapEntry} {clock : Nat} {hv : Value} {S : St} {F : Nat → Prop} (h : DiskIs w d m es clock hv S F) {x : Nm} {l : List Sec} (hx : get S.files x = some l) (c : Bool) :
    ∃ u, (Instr.lookup 72 (.map (some m)) (.string x) c).run Tryd.prog w = .ok (if c then .tuple #[u, .bool true] else u) w ∧ FileRep w F u l :=
  lookup_some map_type key_type keyNow_string h.hm h.ents hx c

set_option maxHeartbeats 800000 in
/-- check, of a disk that there is. -/
theorem check_any {w : World} {d m : Nat} {es : Array MapEntry} {clock : Nat} {hv : Value} {S : St} {F : Nat → Prop} (h : DiskIs w d m es clock hv S F) (name : Nm) (hs : name.size ≤ maxLen) (there : Bool) :
    Calls Tryd.prog 43 #[.pointer (some ⟨d, 0, none⟩), .string name, .bool there] w fun e w' => e = .returned (.int .i64 (S.check name there)) ∧ w = w' := by
  obtain ⟨c0, _, c2, _⟩ := h.cells
  have hn := named_any name w hs
  cases hb : nameB name with
  | false =>
    have HC : Hid (S.check name there = 1) := by unfold St.check Hid; simp [hb]
    rw [hb] at hn
    clear hb h
    go_enter Tryd.func43, Tryd.ntmps43
    go_wp2_with (go_at_call 60; refine hn.mono ?_; rintro e w' ⟨rfl, rfl⟩)
    go_ret
    exact ⟨ret_int HC.out.symm, rfl⟩
  | true =>
    rw [hb] at hn
    cases hg : get S.files name with
    | none =>
      have hl := look_none h hg true
      simp only [if_true] at hl
      cases there with
      | true =>
        have HC : Hid (S.check name true = 7) := by unfold St.check Hid; simp [hb, hg]
        clear hb h hg
        go_enter Tryd.func43, Tryd.ntmps43
        go_wp2_with (go_at_call 60; refine hn.mono ?_; rintro e w' ⟨rfl, rfl⟩)
        go_ret
        exact ⟨ret_int HC.out.symm, rfl⟩
      | false =>
        cases ho : S.off with
        | true =>
          rw [ho] at c2
          have HC : Hid (S.check name false = 18) := by unfold St.check Hid; simp [hb, ho]
          clear hb h hg ho
          go_enter Tryd.func43, Tryd.ntmps43
          go_wp2_with (go_at_call 60; refine hn.mono ?_; rintro e w' ⟨rfl, rfl⟩)
          go_ret
          exact ⟨ret_int HC.out.symm, rfl⟩
        | false =>
          rw [ho] at c2
          have HC : Hid (S.check name false = 0) := by unfold St.check Hid; simp [hb, ho]
          clear hb h hg ho
          go_enter Tryd.func43, Tryd.ntmps43
          go_wp2_with (go_at_call 60; refine hn.mono ?_; rintro e w' ⟨rfl, rfl⟩)
          go_ret
          exact ⟨ret_int HC.out.symm, rfl⟩
    | some l =>
      obtain ⟨u, hl, _⟩ := look_some h hg true
      simp only [if_true] at hl
      cases ho : S.off with
      | true =>
        rw [ho] at c2
        have HC : Hid (S.check name there = 18) := by unfold St.check Hid; simp [hb, ho, hg]
        clear hb h hg ho
        cases there <;>
        · go_enter Tryd.func43, Tryd.ntmps43
          go_wp2_with (go_at_call 60; refine hn.mono ?_; rintro e w' ⟨rfl, rfl⟩)
          go_ret
          exact ⟨ret_int HC.out.symm, rfl⟩
      | false =>
        rw [ho] at c2
        have HC : Hid (S.check name there = 0) := by unfold St.check Hid; simp [hb, ho, hg]
        clear hb h hg ho
        cases there <;>
        · go_enter Tryd.func43, Tryd.ntmps43
          go_wp2_with (go_at_call 60; refine hn.mono ?_; rintro e w' ⟨rfl, rfl⟩)
          go_ret
          exact ⟨ret_int HC.out.symm, rfl⟩
/-- check, of no disk. -/
theorem check_nil (name : Nm) (hs : name.size ≤ maxLen) (there : Bool) (w : World) :
    Calls Tryd.prog 43 #[.pointer none, .string name, .bool there] w fun e w' => e = .returned (.int .i64 (if nameB name = true then 7 else 1)) ∧ w = w' := by
  have hn := named_any name w hs
  cases hb : nameB name <;>
  · rw [hb] at hn
    clear hb
    go_enter Tryd.func43, Tryd.ntmps43
    go_wp2_with (go_at_call 60; refine hn.mono ?_; rintro e w' ⟨rfl, rfl⟩)
    go_ret
    exact ⟨rfl, rfl⟩
end Go.Proofs.YtmcmapaapffadaaDoor

/-
  DERIVED: THE SHELF's CONTRACTS AT THIS DUMP, IN PLAIN WORDS (tools/lay-plain.mjs out of 'YtdncdnnlmddjhaaDoorLay.lean', which tools/lay-shelf.mjs wrote): THE SAME DECLARATIONS UNDER THE SAME NAMES: 'import', 'namespace', 'open', 'def', 'theorem' AND NOTHING ELSE: no command of the shelf's: FOR A HAND-IN. Each laying: the table of numbers ('.._ren') and one theorem, a field a fact of the dump's own or the kernel's comparison; each contract: ONE APPLICATION.
-/
import Derived.Shelf.Small.Bits
import Derived.Shelf.Strconv.Itoa0
import Derived.Shelf.LaysM
import Derived.Shelf.Bytes.Len
import Derived.Shelf.Bytes.TryGrow
import Derived.Shelf.Bytes.GrowSliceCatch
import Derived.Shelf.Bytes.GrowSlice
import Derived.Shelf.Bytes.GrowRow0
import Derived.Shelf.Bytes.GrowRow
import Derived.Shelf.Bytes.GrowNil
import Derived.Shelf.Bytes.Grow
import Derived.Shelf.Bytes.Write
import Derived.Shelf.Bytes.Bytes
import Derived.Shelf.Sort.Plain
import Derived.Shelf.Bytes.GrowRow0Own
import Derived.Shelf.Bytes.GrowRowOwn
import Derived.Shelf.Bytes.GrowNilOwn
import Derived.Shelf.Bytes.GrowOwn
import Derived.Shelf.Bytes.WriteAny
import Derived.Ground.SlgmProg
import Derived.Shelf.SortM.SortNone
import Derived.Test.YtdncdnnlmddjhaaDoorProg
import Derived.Shelf.SlIter.Nil
import Derived.Shelf.SortM.Plain
import Derived.Ground.GgzProg
namespace Go.Proofs
open Go.Shelf
def Tryd.laysM183_ren : Go.Shelf.Ren := ⟨fun | 183 => 35 | n => n, fun | 130 => 85 | 37 => 22 | 0 => 0 | 93 => 73 | 3 => 3 | 5 => 5 | 91 => 71 | n => n, fun | n => n⟩
theorem Tryd.laysM183 : Go.Proofs.LaysM.n183 Tryd.prog Tryd.laysM183_ren := {
  mixed := by kernel_rfl
  f183 := Tryd.func35.trans (congrArg some (by kernel_rfl))
  t0 := Tryd.underlying0
  a0 := Tryd.isAgg0
  z0 := Tryd.sizeOf0
  v0 := Tryd.zeroValue0
  t3 := Tryd.underlying3
  a3 := Tryd.isAgg3
  z3 := Tryd.sizeOf3
  v3 := Tryd.zeroValue3
  t37 := Tryd.underlying22
  a37 := Tryd.isAgg22
  z37 := Tryd.sizeOf22
  v37 := Tryd.zeroValue22
  t93 := Tryd.underlying73
  a93 := Tryd.isAgg73
  z93 := Tryd.sizeOf73
  v93 := Tryd.zeroValue73
  t130 := Tryd.underlying85
  a130 := Tryd.isAgg85
  z130 := Tryd.sizeOf85
  v130 := Tryd.zeroValue85
  t5 := Tryd.underlying5
  a5 := Tryd.isAgg5
  z5 := Tryd.sizeOf5
  v5 := Tryd.zeroValue5
  t91 := Tryd.underlying71
  a91 := Tryd.isAgg71
  z91 := Tryd.sizeOf71
  v91 := Tryd.zeroValue71
  i0 := by kernel_rfl
  i3 := by kernel_rfl
  i5 := by kernel_rfl
  i37 := by kernel_rfl
  i91 := by kernel_rfl
  i93 := by kernel_rfl
  i130 := by kernel_rfl }
open Go.RowKit in
/-- (*bytes.Buffer).Bytes: "Bytes returns a slice of length b.Len() holding the unread portion of the buffer. .. The slice aliases the buffer content at least until the next buffer modification": A SLICE THAT OWNS THE CELLS bs ('World.ownsRow': nil where nothing was ever written). The world is as it was but for the count of draws. (LAID: no walk: one application.) -/
theorem Tryd.Buffer_Bytes (B b : Nat) (bs : List Value) (w : World) (h : Lib.IsBuffer 73 5 B b bs w) :
    Calls Tryd.prog 35 #[.pointer (some ⟨b, 0, none⟩)] w fun e w' => ∃ v, e = .returned v ∧ w'.ownsRow B 5 1 v bs.length bs ∧ ∃ n, w' = w.drewN n := Any.Buffer_Bytes Tryd.laysM183 B b bs w h
def Tryd.laysM180_ren : Go.Shelf.Ren := ⟨fun | 180 => 34 | 251 => 44 | 252 => 45 | 181 => 49 | 184 => 50 | 290 => 51 | 324 => 55 | n => n, fun | 130 => 85 | 37 => 22 | 3 => 3 | 75 => 75 | 0 => 0 | 93 => 73 | 91 => 71 | 131 => 86 | 4 => 4 | 20 => 20 | 5 => 5 | 80 => 117 | 9 => 9 | n => n, fun | 14 => 0 | n => n⟩
theorem Tryd.laysM180 : Go.Proofs.LaysM.n180 Tryd.prog Tryd.laysM180_ren := {
  mixed := by kernel_rfl
  f180 := Tryd.func34.trans (congrArg some (by kernel_rfl))
  f181 := Tryd.func49.trans (congrArg some (by kernel_rfl))
  f184 := Tryd.func50.trans (congrArg some (by kernel_rfl))
  f251 := Tryd.func44.trans (congrArg some (by kernel_rfl))
  f252 := Tryd.func45.trans (congrArg some (by kernel_rfl))
  f290 := Tryd.func51.trans (congrArg some (by kernel_rfl))
  f324 := Tryd.func55.trans (congrArg some (by kernel_rfl))
  t0 := Tryd.underlying0
  a0 := Tryd.isAgg0
  z0 := Tryd.sizeOf0
  v0 := Tryd.zeroValue0
  t3 := Tryd.underlying3
  a3 := Tryd.isAgg3
  z3 := Tryd.sizeOf3
  v3 := Tryd.zeroValue3
  t4 := Tryd.underlying4
  a4 := Tryd.isAgg4
  z4 := Tryd.sizeOf4
  v4 := Tryd.zeroValue4
  t20 := Tryd.underlying20
  a20 := Tryd.isAgg20
  z20 := Tryd.sizeOf20
  v20 := Tryd.zeroValue20
  t37 := Tryd.underlying22
  a37 := Tryd.isAgg22
  z37 := Tryd.sizeOf22
  v37 := Tryd.zeroValue22
  t75 := Tryd.underlying75
  a75 := Tryd.isAgg75
  z75 := Tryd.sizeOf75
  v75 := Tryd.zeroValue75
  t91 := Tryd.underlying71
  a91 := Tryd.isAgg71
  z91 := Tryd.sizeOf71
  v91 := Tryd.zeroValue71
  t93 := Tryd.underlying73
  a93 := Tryd.isAgg73
  z93 := Tryd.sizeOf73
  v93 := Tryd.zeroValue73
  t130 := Tryd.underlying85
  a130 := Tryd.isAgg85
  z130 := Tryd.sizeOf85
  v130 := Tryd.zeroValue85
  t131 := Tryd.underlying86
  a131 := Tryd.isAgg86
  z131 := Tryd.sizeOf86
  v131 := Tryd.zeroValue86
  g14 := by kernel_rfl
  t5 := Tryd.underlying5
  a5 := Tryd.isAgg5
  z5 := Tryd.sizeOf5
  v5 := Tryd.zeroValue5
  t9 := Tryd.underlying9
  a9 := Tryd.isAgg9
  z9 := Tryd.sizeOf9
  v9 := Tryd.zeroValue9
  t80 := Tryd.underlying117
  a80 := Tryd.isAgg117
  z80 := Tryd.sizeOf117
  v80 := Tryd.zeroValue117
  i0 := by kernel_rfl
  i3 := by kernel_rfl
  i4 := by kernel_rfl
  i5 := by kernel_rfl
  i9 := by kernel_rfl
  i20 := by kernel_rfl
  i37 := by kernel_rfl
  i75 := by kernel_rfl
  i80 := by kernel_rfl
  i91 := by kernel_rfl
  i93 := by kernel_rfl
  i130 := by kernel_rfl
  i131 := by kernel_rfl
  m14 := by kernel_rfl }
open Go.RowKit in
/-- (*bytes.Buffer).Write: "Write appends the contents of p to the buffer, growing the buffer as needed. The return value n is the length of p; err is always nil." (LAID: no walk: one application.) -/
theorem Tryd.Buffer_Write_any (B b : Nat) (bs cs : List Value) (a : Addr) (n c : Nat) (w : World) (h : Lib.IsBuffer 73 5 B b bs w) (hBw : B ≤ w.heap.size) (h1 : ∀ v ∈ bs, v.oneCell' = true) (hn : cs.length = n) (hab : a.block ≠ b) (hsrc : ∀ j v, cs[j]? = some v → w.cell? (a.add j) = some v) (h1c : ∀ v ∈ cs, v.oneCell' = true) (hlim : bs.length + n ≤ 140737488355328) :
    Calls Tryd.prog 34 #[.pointer (some ⟨b, 0, none⟩), .slice (some a) n c] w fun e w' => e = .returned (.tuple #[.int .i64 n, .nilIface]) ∧ Lib.IsBuffer 73 5 B b (bs ++ cs) w' ∧ Below B w w' ∧ Lib.OthersKept 5 (some b) w w' := Any.Buffer_Write_any Tryd.laysM180 B b bs cs a n c w h hBw h1 hn hab hsrc h1c hlim
def Tryd.keys39_ren : Go.Shelf.Ren := ⟨fun | 7 => 39 | 10 => 48 | n => n, fun | 23 => 56 | 26 => 9 | 3 => 60 | 28 => 81 | 0 => 0 | 27 => 80 | 33 => 83 | 4 => 4 | n => n, fun | n => n⟩
theorem Tryd.keys39 : Go.Proofs.SlLaysZ.n7 Tryd.prog Tryd.keys39_ren := {
  mixed := by kernel_rfl
  f7 := ⟨Tryd.f39.name, by decide, Tryd.func39.trans (congrArg some (by kernel_rfl))⟩
  f10 := ⟨Tryd.f48.name, by decide, Tryd.func48.trans (congrArg some (by kernel_rfl))⟩
  t0 := Tryd.underlying0
  a0 := Tryd.isAgg0
  z0 := Tryd.sizeOf0
  v0 := Tryd.zeroValue0
  t4 := Tryd.underlying4
  a4 := Tryd.isAgg4
  z4 := Tryd.sizeOf4
  v4 := Tryd.zeroValue4
  t23 := Tryd.underlying56
  a23 := Tryd.isAgg56
  z23 := Tryd.sizeOf56
  v23 := Tryd.zeroValue56
  t26 := Tryd.underlying9
  a26 := Tryd.isAgg9
  z26 := Tryd.sizeOf9
  v26 := Tryd.zeroValue9
  t27 := Tryd.underlying80
  a27 := Tryd.isAgg80
  z27 := Tryd.sizeOf80
  v27 := Tryd.zeroValue80
  t28 := Tryd.underlying81
  a28 := Tryd.isAgg81
  z28 := Tryd.sizeOf81
  v28 := Tryd.zeroValue81
  t33 := Tryd.underlying83
  a33 := Tryd.isAgg83
  z33 := Tryd.sizeOf83
  v33 := Tryd.zeroValue83 }
def Tryd.sorted38_ren : Go.Shelf.Ren := ⟨fun | 6 => 38 | 8 => 46 | 9 => 47 | 11 => 52 | 13 => 54 | 12 => 53 | 23 => 65 | 24 => 66 | 14 => 56 | 15 => 57 | 16 => 58 | 17 => 59 | 18 => 60 | 19 => 61 | 20 => 62 | 21 => 63 | 22 => 64 | 25 => 67 | 26 => 68 | 27 => 69 | 28 => 70 | 29 => 71 | 30 => 72 | 31 => 73 | n => n, fun | 26 => 9 | 28 => 81 | 24 => 50 | 0 => 0 | 3 => 3 | 37 => 94 | 48 => 104 | 50 => 106 | 4 => 4 | 40 => 97 | 39 => 96 | 45 => 86 | 5 => 5 | 9 => 9 | 51 => 107 | 55 => 111 | 57 => 113 | 58 => 114 | 33 => 83 | n => n, fun | n => n⟩
theorem Tryd.sorted38 : Go.Proofs.SlLaysZ.n6 Tryd.prog Tryd.sorted38_ren := {
  mixed := by kernel_rfl
  f6 := ⟨Tryd.f38.name, by decide, Tryd.func38.trans (congrArg some (by kernel_rfl))⟩
  f8 := ⟨Tryd.f46.name, by decide, Tryd.func46.trans (congrArg some (by kernel_rfl))⟩
  f11 := ⟨Tryd.f52.name, by decide, Tryd.func52.trans (congrArg some (by kernel_rfl))⟩
  t0 := Tryd.underlying0
  a0 := Tryd.isAgg0
  z0 := Tryd.sizeOf0
  v0 := Tryd.zeroValue0
  t24 := Tryd.underlying50
  a24 := Tryd.isAgg50
  z24 := Tryd.sizeOf50
  v24 := Tryd.zeroValue50
  t26 := Tryd.underlying9
  a26 := Tryd.isAgg9
  z26 := Tryd.sizeOf9
  v26 := Tryd.zeroValue9
  t28 := Tryd.underlying81
  a28 := Tryd.isAgg81
  z28 := Tryd.sizeOf81
  v28 := Tryd.zeroValue81
  i26 := by kernel_rfl }
def Tryd.sort47_ren : Go.Shelf.Ren := ⟨fun | 6 => 47 | 8 => 54 | 9 => 53 | 19 => 65 | 20 => 66 | 21 => 56 | 22 => 57 | 23 => 58 | 24 => 59 | 25 => 60 | 26 => 61 | 27 => 62 | 28 => 63 | 29 => 64 | 36 => 67 | 31 => 68 | 32 => 69 | 37 => 70 | 38 => 71 | 39 => 72 | 41 => 73 | n => n, fun | 27 => 50 | 29 => 9 | 3 => 3 | 32 => 94 | 26 => 50 | 0 => 0 | 44 => 104 | 46 => 106 | 4 => 4 | 36 => 97 | 35 => 96 | 41 => 86 | 5 => 5 | 9 => 9 | 53 => 107 | 57 => 111 | 63 => 113 | 64 => 114 | n => n, fun | n => n⟩
theorem Tryd.sort47 : Go.Proofs.SlLaysM.n6 Tryd.prog Tryd.sort47_ren := {
  mixed := by kernel_rfl
  f6 := ⟨Tryd.f47.name, by decide, Tryd.func47.trans (congrArg some (by kernel_rfl))⟩
  f8 := Tryd.func54.trans (congrArg some (by kernel_rfl))
  f9 := ⟨Tryd.f53.name, by decide, Tryd.func53.trans (congrArg some (by kernel_rfl))⟩
  f19 := Tryd.func65.trans (congrArg some (by kernel_rfl))
  f20 := Tryd.func66.trans (congrArg some (by kernel_rfl))
  f21 := ⟨Tryd.f56.name, by decide, Tryd.func56.trans (congrArg some (by kernel_rfl))⟩
  f22 := ⟨Tryd.f57.name, by decide, Tryd.func57.trans (congrArg some (by kernel_rfl))⟩
  f23 := ⟨Tryd.f58.name, by decide, Tryd.func58.trans (congrArg some (by kernel_rfl))⟩
  f24 := ⟨Tryd.f59.name, by decide, Tryd.func59.trans (congrArg some (by kernel_rfl))⟩
  f25 := ⟨Tryd.f60.name, by decide, Tryd.func60.trans (congrArg some (by kernel_rfl))⟩
  f26 := ⟨Tryd.f61.name, by decide, Tryd.func61.trans (congrArg some (by kernel_rfl))⟩
  f27 := ⟨Tryd.f62.name, by decide, Tryd.func62.trans (congrArg some (by kernel_rfl))⟩
  f28 := ⟨Tryd.f63.name, by decide, Tryd.func63.trans (congrArg some (by kernel_rfl))⟩
  f29 := ⟨Tryd.f64.name, by decide, Tryd.func64.trans (congrArg some (by kernel_rfl))⟩
  f31 := Tryd.func68.trans (congrArg some (by kernel_rfl))
  f32 := Tryd.func69.trans (congrArg some (by kernel_rfl))
  f36 := ⟨Tryd.f67.name, by decide, Tryd.func67.trans (congrArg some (by kernel_rfl))⟩
  f37 := ⟨Tryd.f70.name, by decide, Tryd.func70.trans (congrArg some (by kernel_rfl))⟩
  f38 := ⟨Tryd.f71.name, by decide, Tryd.func71.trans (congrArg some (by kernel_rfl))⟩
  f39 := ⟨Tryd.f72.name, by decide, Tryd.func72.trans (congrArg some (by kernel_rfl))⟩
  f41 := ⟨Tryd.f73.name, by decide, Tryd.func73.trans (congrArg some (by kernel_rfl))⟩
  t0 := Tryd.underlying0
  a0 := Tryd.isAgg0
  z0 := Tryd.sizeOf0
  v0 := Tryd.zeroValue0
  t3 := Tryd.underlying3
  a3 := Tryd.isAgg3
  z3 := Tryd.sizeOf3
  v3 := Tryd.zeroValue3
  t4 := Tryd.underlying4
  a4 := Tryd.isAgg4
  z4 := Tryd.sizeOf4
  v4 := Tryd.zeroValue4
  t5 := Tryd.underlying5
  a5 := Tryd.isAgg5
  z5 := Tryd.sizeOf5
  v5 := Tryd.zeroValue5
  t9 := Tryd.underlying9
  a9 := Tryd.isAgg9
  z9 := Tryd.sizeOf9
  v9 := Tryd.zeroValue9
  t26 := Tryd.underlying50
  a26 := Tryd.isAgg50
  z26 := Tryd.sizeOf50
  v26 := Tryd.zeroValue50
  t27 := Tryd.underlying50
  a27 := Tryd.isAgg50
  z27 := Tryd.sizeOf50
  v27 := Tryd.zeroValue50
  t29 := Tryd.underlying9
  a29 := Tryd.isAgg9
  z29 := Tryd.sizeOf9
  v29 := Tryd.zeroValue9
  t32 := Tryd.underlying94
  a32 := Tryd.isAgg94
  z32 := Tryd.sizeOf94
  v32 := Tryd.zeroValue94
  t35 := Tryd.underlying96
  a35 := Tryd.isAgg96
  z35 := Tryd.sizeOf96
  v35 := Tryd.zeroValue96
  t36 := Tryd.underlying97
  a36 := Tryd.isAgg97
  z36 := Tryd.sizeOf97
  v36 := Tryd.zeroValue97
  t41 := Tryd.underlying86
  a41 := Tryd.isAgg86
  z41 := Tryd.sizeOf86
  v41 := Tryd.zeroValue86
  t44 := Tryd.underlying104
  a44 := Tryd.isAgg104
  z44 := Tryd.sizeOf104
  v44 := Tryd.zeroValue104
  t46 := Tryd.underlying106
  a46 := Tryd.isAgg106
  z46 := Tryd.sizeOf106
  v46 := Tryd.zeroValue106
  t53 := Tryd.underlying107
  a53 := Tryd.isAgg107
  z53 := Tryd.sizeOf107
  v53 := Tryd.zeroValue107
  t57 := Tryd.underlying111
  a57 := Tryd.isAgg111
  z57 := Tryd.sizeOf111
  v57 := Tryd.zeroValue111
  t63 := Tryd.underlying113
  a63 := Tryd.isAgg113
  z63 := Tryd.sizeOf113
  v63 := Tryd.zeroValue113
  t64 := Tryd.underlying114
  a64 := Tryd.isAgg114
  z64 := Tryd.sizeOf114
  v64 := Tryd.zeroValue114 }
end Go.Proofs

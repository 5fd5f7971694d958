/-
  DERIVED: THE SHELF's CONTRACTS AT THIS DUMP, IN PLAIN WORDS (tools/lay-plain.mjs out of 'YtggnohbfdlebiaaGreatDoorLay.lean', which tools/lay-shelf.mjs wrote): THE SAME DECLARATIONS UNDER THE SAME NAMES: 'import', 'namespace', 'open', 'def', 'theorem' AND NOTHING ELSE: no command of the shelf's: FOR A HAND-IN. Each laying: the table of numbers ('.._ren') and one theorem, a field a fact of the dump's own or the kernel's comparison; each contract: ONE APPLICATION.
-/
import Derived.Shelf.Small.Bits
import Derived.Shelf.Strconv.Itoa0
import Derived.Shelf.LaysM
import Derived.Shelf.Bytes.Len
import Derived.Shelf.Bytes.TryGrow
import Derived.Shelf.Bytes.GrowSliceCatch
import Derived.Shelf.Bytes.GrowSlice
import Derived.Shelf.Bytes.GrowRow0
import Derived.Shelf.Bytes.GrowRow
import Derived.Shelf.Bytes.GrowNil
import Derived.Shelf.Bytes.Grow
import Derived.Shelf.Bytes.Write
import Derived.Shelf.Bytes.Bytes
import Derived.Shelf.Strings.Search1
import Derived.Shelf.Sort.Plain
import Derived.Shelf.Bytes.GrowRow0Own
import Derived.Shelf.Bytes.GrowRowOwn
import Derived.Shelf.Bytes.GrowNilOwn
import Derived.Shelf.Bytes.GrowOwn
import Derived.Shelf.Bytes.WriteAny
import Derived.Shelf.Slices.In.SortNone
import Derived.Ground.SlbNamesProg
import Derived.Shelf.Bytes.SlCountOne
import Derived.Ground.SlgmProg
import Derived.Shelf.SortM.Plain
import Derived.Shelf.SortM.SortNone
import Derived.Test.YtggnohbfdlebiaaGreatDoorProg
import Derived.Shelf.SlIter.Nil
import Derived.Ground.GgzProg
namespace Go.Proofs
open Go.Shelf
def Tryz.laysM183_ren : Go.Shelf.Ren := ⟨fun | 183 => 45 | n => n, fun | 130 => 132 | 37 => 33 | 0 => 0 | 93 => 99 | 3 => 3 | 5 => 5 | 91 => 97 | n => n, fun | n => n⟩
theorem Tryz.laysM183 : Go.Proofs.LaysM.n183 Tryz.prog Tryz.laysM183_ren := {
  mixed := by kernel_rfl
  f183 := Tryz.func45.trans (congrArg some (by kernel_rfl))
  t0 := Tryz.underlying0
  a0 := Tryz.isAgg0
  z0 := Tryz.sizeOf0
  v0 := Tryz.zeroValue0
  t3 := Tryz.underlying3
  a3 := Tryz.isAgg3
  z3 := Tryz.sizeOf3
  v3 := Tryz.zeroValue3
  t37 := Tryz.underlying33
  a37 := Tryz.isAgg33
  z37 := Tryz.sizeOf33
  v37 := Tryz.zeroValue33
  t93 := Tryz.underlying99
  a93 := Tryz.isAgg99
  z93 := Tryz.sizeOf99
  v93 := Tryz.zeroValue99
  t130 := Tryz.underlying132
  a130 := Tryz.isAgg132
  z130 := Tryz.sizeOf132
  v130 := Tryz.zeroValue132
  t5 := Tryz.underlying5
  a5 := Tryz.isAgg5
  z5 := Tryz.sizeOf5
  v5 := Tryz.zeroValue5
  t91 := Tryz.underlying97
  a91 := Tryz.isAgg97
  z91 := Tryz.sizeOf97
  v91 := Tryz.zeroValue97
  i0 := by kernel_rfl
  i3 := by kernel_rfl
  i5 := by kernel_rfl
  i37 := by kernel_rfl
  i91 := by kernel_rfl
  i93 := by kernel_rfl
  i130 := by kernel_rfl }
open Go.RowKit in
/-- (*bytes.Buffer).Bytes: "Bytes returns a slice of length b.Len() holding the unread portion of the buffer. .. The slice aliases the buffer content at least until the next buffer modification": A SLICE THAT OWNS THE CELLS bs ('World.ownsRow': nil where nothing was ever written). The world is as it was but for the count of draws. (LAID: no walk: one application.) -/
theorem Tryz.Buffer_Bytes (B b : Nat) (bs : List Value) (w : World) (h : Lib.IsBuffer 99 5 B b bs w) :
    Calls Tryz.prog 45 #[.pointer (some ⟨b, 0, none⟩)] w fun e w' => ∃ v, e = .returned v ∧ w'.ownsRow B 5 1 v bs.length bs ∧ ∃ n, w' = w.drewN n := Any.Buffer_Bytes Tryz.laysM183 B b bs w h
def Tryz.laysM180_ren : Go.Shelf.Ren := ⟨fun | 180 => 44 | 251 => 72 | 252 => 73 | 181 => 92 | 184 => 93 | 290 => 94 | 324 => 115 | n => n, fun | 130 => 132 | 37 => 33 | 3 => 3 | 75 => 101 | 0 => 0 | 93 => 99 | 91 => 97 | 131 => 133 | 4 => 4 | 20 => 20 | 5 => 5 | 80 => 203 | 9 => 9 | n => n, fun | 14 => 0 | n => n⟩
theorem Tryz.laysM180 : Go.Proofs.LaysM.n180 Tryz.prog Tryz.laysM180_ren := {
  mixed := by kernel_rfl
  f180 := Tryz.func44.trans (congrArg some (by kernel_rfl))
  f181 := Tryz.func92.trans (congrArg some (by kernel_rfl))
  f184 := Tryz.func93.trans (congrArg some (by kernel_rfl))
  f251 := Tryz.func72.trans (congrArg some (by kernel_rfl))
  f252 := Tryz.func73.trans (congrArg some (by kernel_rfl))
  f290 := Tryz.func94.trans (congrArg some (by kernel_rfl))
  f324 := Tryz.func115.trans (congrArg some (by kernel_rfl))
  t0 := Tryz.underlying0
  a0 := Tryz.isAgg0
  z0 := Tryz.sizeOf0
  v0 := Tryz.zeroValue0
  t3 := Tryz.underlying3
  a3 := Tryz.isAgg3
  z3 := Tryz.sizeOf3
  v3 := Tryz.zeroValue3
  t4 := Tryz.underlying4
  a4 := Tryz.isAgg4
  z4 := Tryz.sizeOf4
  v4 := Tryz.zeroValue4
  t20 := Tryz.underlying20
  a20 := Tryz.isAgg20
  z20 := Tryz.sizeOf20
  v20 := Tryz.zeroValue20
  t37 := Tryz.underlying33
  a37 := Tryz.isAgg33
  z37 := Tryz.sizeOf33
  v37 := Tryz.zeroValue33
  t75 := Tryz.underlying101
  a75 := Tryz.isAgg101
  z75 := Tryz.sizeOf101
  v75 := Tryz.zeroValue101
  t91 := Tryz.underlying97
  a91 := Tryz.isAgg97
  z91 := Tryz.sizeOf97
  v91 := Tryz.zeroValue97
  t93 := Tryz.underlying99
  a93 := Tryz.isAgg99
  z93 := Tryz.sizeOf99
  v93 := Tryz.zeroValue99
  t130 := Tryz.underlying132
  a130 := Tryz.isAgg132
  z130 := Tryz.sizeOf132
  v130 := Tryz.zeroValue132
  t131 := Tryz.underlying133
  a131 := Tryz.isAgg133
  z131 := Tryz.sizeOf133
  v131 := Tryz.zeroValue133
  g14 := by kernel_rfl
  t5 := Tryz.underlying5
  a5 := Tryz.isAgg5
  z5 := Tryz.sizeOf5
  v5 := Tryz.zeroValue5
  t9 := Tryz.underlying9
  a9 := Tryz.isAgg9
  z9 := Tryz.sizeOf9
  v9 := Tryz.zeroValue9
  t80 := Tryz.underlying203
  a80 := Tryz.isAgg203
  z80 := Tryz.sizeOf203
  v80 := Tryz.zeroValue203
  i0 := by kernel_rfl
  i3 := by kernel_rfl
  i4 := by kernel_rfl
  i5 := by kernel_rfl
  i9 := by kernel_rfl
  i20 := by kernel_rfl
  i37 := by kernel_rfl
  i75 := by kernel_rfl
  i80 := by kernel_rfl
  i91 := by kernel_rfl
  i93 := by kernel_rfl
  i130 := by kernel_rfl
  i131 := by kernel_rfl
  m14 := by kernel_rfl }
open Go.RowKit in
/-- (*bytes.Buffer).Write: "Write appends the contents of p to the buffer, growing the buffer as needed. The return value n is the length of p; err is always nil." (LAID: no walk: one application.) -/
theorem Tryz.Buffer_Write_any (B b : Nat) (bs cs : List Value) (a : Addr) (n c : Nat) (w : World) (h : Lib.IsBuffer 99 5 B b bs w) (hBw : B ≤ w.heap.size) (h1 : ∀ v ∈ bs, v.oneCell' = true) (hn : cs.length = n) (hab : a.block ≠ b) (hsrc : ∀ j v, cs[j]? = some v → w.cell? (a.add j) = some v) (h1c : ∀ v ∈ cs, v.oneCell' = true) (hlim : bs.length + n ≤ 140737488355328) :
    Calls Tryz.prog 44 #[.pointer (some ⟨b, 0, none⟩), .slice (some a) n c] w fun e w' => e = .returned (.tuple #[.int .i64 n, .nilIface]) ∧ Lib.IsBuffer 99 5 B b (bs ++ cs) w' ∧ Below B w w' ∧ Lib.OthersKept 5 (some b) w w' := Any.Buffer_Write_any Tryz.laysM180 B b bs cs a n c w h hBw h1 hn hab hsrc h1c hlim
def Tryz.keys84_ren : Go.Shelf.Ren := ⟨fun | 7 => 84 | 10 => 100 | n => n, fun | 23 => 71 | 26 => 9 | 3 => 87 | 28 => 145 | 0 => 0 | 27 => 144 | 33 => 130 | 4 => 4 | n => n, fun | n => n⟩
theorem Tryz.keys84 : Go.Proofs.SlLaysZ.n7 Tryz.prog Tryz.keys84_ren := {
  mixed := by kernel_rfl
  f7 := ⟨Tryz.f84.name, by decide, Tryz.func84.trans (congrArg some (by kernel_rfl))⟩
  f10 := ⟨Tryz.f100.name, by decide, Tryz.func100.trans (congrArg some (by kernel_rfl))⟩
  t0 := Tryz.underlying0
  a0 := Tryz.isAgg0
  z0 := Tryz.sizeOf0
  v0 := Tryz.zeroValue0
  t4 := Tryz.underlying4
  a4 := Tryz.isAgg4
  z4 := Tryz.sizeOf4
  v4 := Tryz.zeroValue4
  t23 := Tryz.underlying71
  a23 := Tryz.isAgg71
  z23 := Tryz.sizeOf71
  v23 := Tryz.zeroValue71
  t26 := Tryz.underlying9
  a26 := Tryz.isAgg9
  z26 := Tryz.sizeOf9
  v26 := Tryz.zeroValue9
  t27 := Tryz.underlying144
  a27 := Tryz.isAgg144
  z27 := Tryz.sizeOf144
  v27 := Tryz.zeroValue144
  t28 := Tryz.underlying145
  a28 := Tryz.isAgg145
  z28 := Tryz.sizeOf145
  v28 := Tryz.zeroValue145
  t33 := Tryz.underlying130
  a33 := Tryz.isAgg130
  z33 := Tryz.sizeOf130
  v33 := Tryz.zeroValue130 }
def Tryz.sorted83_ren : Go.Shelf.Ren := ⟨fun | 6 => 83 | 8 => 98 | 9 => 99 | 11 => 117 | 13 => 86 | 12 => 118 | 23 => 110 | 24 => 111 | 14 => 128 | 15 => 129 | 16 => 130 | 17 => 131 | 18 => 132 | 19 => 133 | 20 => 134 | 21 => 135 | 22 => 136 | 25 => 143 | 26 => 120 | 27 => 121 | 28 => 144 | 29 => 145 | 30 => 146 | 31 => 149 | n => n, fun | 26 => 9 | 28 => 145 | 24 => 70 | 0 => 0 | 3 => 3 | 37 => 149 | 48 => 128 | 50 => 65 | 4 => 4 | 40 => 164 | 39 => 163 | 45 => 133 | 5 => 5 | 9 => 9 | 51 => 178 | 55 => 182 | 57 => 193 | 58 => 194 | 33 => 130 | n => n, fun | n => n⟩
theorem Tryz.sorted83 : Go.Proofs.SlLaysZ.n6 Tryz.prog Tryz.sorted83_ren := {
  mixed := by kernel_rfl
  f6 := ⟨Tryz.f83.name, by decide, Tryz.func83.trans (congrArg some (by kernel_rfl))⟩
  f8 := ⟨Tryz.f98.name, by decide, Tryz.func98.trans (congrArg some (by kernel_rfl))⟩
  f11 := ⟨Tryz.f117.name, by decide, Tryz.func117.trans (congrArg some (by kernel_rfl))⟩
  t0 := Tryz.underlying0
  a0 := Tryz.isAgg0
  z0 := Tryz.sizeOf0
  v0 := Tryz.zeroValue0
  t24 := Tryz.underlying70
  a24 := Tryz.isAgg70
  z24 := Tryz.sizeOf70
  v24 := Tryz.zeroValue70
  t26 := Tryz.underlying9
  a26 := Tryz.isAgg9
  z26 := Tryz.sizeOf9
  v26 := Tryz.zeroValue9
  t28 := Tryz.underlying145
  a28 := Tryz.isAgg145
  z28 := Tryz.sizeOf145
  v28 := Tryz.zeroValue145
  i26 := by kernel_rfl }
def Tryz.sort99_ren : Go.Shelf.Ren := ⟨fun | 6 => 99 | 8 => 86 | 9 => 118 | 19 => 110 | 20 => 111 | 21 => 128 | 22 => 129 | 23 => 130 | 24 => 131 | 25 => 132 | 26 => 133 | 27 => 134 | 28 => 135 | 29 => 136 | 36 => 143 | 31 => 120 | 32 => 121 | 37 => 144 | 38 => 145 | 39 => 146 | 41 => 149 | n => n, fun | 27 => 70 | 29 => 9 | 3 => 3 | 32 => 149 | 26 => 70 | 0 => 0 | 44 => 128 | 46 => 65 | 4 => 4 | 36 => 164 | 35 => 163 | 41 => 133 | 5 => 5 | 9 => 9 | 53 => 178 | 57 => 182 | 63 => 193 | 64 => 194 | n => n, fun | n => n⟩
theorem Tryz.sort99 : Go.Proofs.SlLaysM.n6 Tryz.prog Tryz.sort99_ren := {
  mixed := by kernel_rfl
  f6 := ⟨Tryz.f99.name, by decide, Tryz.func99.trans (congrArg some (by kernel_rfl))⟩
  f8 := Tryz.func86.trans (congrArg some (by kernel_rfl))
  f9 := ⟨Tryz.f118.name, by decide, Tryz.func118.trans (congrArg some (by kernel_rfl))⟩
  f19 := Tryz.func110.trans (congrArg some (by kernel_rfl))
  f20 := Tryz.func111.trans (congrArg some (by kernel_rfl))
  f21 := ⟨Tryz.f128.name, by decide, Tryz.func128.trans (congrArg some (by kernel_rfl))⟩
  f22 := ⟨Tryz.f129.name, by decide, Tryz.func129.trans (congrArg some (by kernel_rfl))⟩
  f23 := ⟨Tryz.f130.name, by decide, Tryz.func130.trans (congrArg some (by kernel_rfl))⟩
  f24 := ⟨Tryz.f131.name, by decide, Tryz.func131.trans (congrArg some (by kernel_rfl))⟩
  f25 := ⟨Tryz.f132.name, by decide, Tryz.func132.trans (congrArg some (by kernel_rfl))⟩
  f26 := ⟨Tryz.f133.name, by decide, Tryz.func133.trans (congrArg some (by kernel_rfl))⟩
  f27 := ⟨Tryz.f134.name, by decide, Tryz.func134.trans (congrArg some (by kernel_rfl))⟩
  f28 := ⟨Tryz.f135.name, by decide, Tryz.func135.trans (congrArg some (by kernel_rfl))⟩
  f29 := ⟨Tryz.f136.name, by decide, Tryz.func136.trans (congrArg some (by kernel_rfl))⟩
  f31 := Tryz.func120.trans (congrArg some (by kernel_rfl))
  f32 := Tryz.func121.trans (congrArg some (by kernel_rfl))
  f36 := ⟨Tryz.f143.name, by decide, Tryz.func143.trans (congrArg some (by kernel_rfl))⟩
  f37 := ⟨Tryz.f144.name, by decide, Tryz.func144.trans (congrArg some (by kernel_rfl))⟩
  f38 := ⟨Tryz.f145.name, by decide, Tryz.func145.trans (congrArg some (by kernel_rfl))⟩
  f39 := ⟨Tryz.f146.name, by decide, Tryz.func146.trans (congrArg some (by kernel_rfl))⟩
  f41 := ⟨Tryz.f149.name, by decide, Tryz.func149.trans (congrArg some (by kernel_rfl))⟩
  t0 := Tryz.underlying0
  a0 := Tryz.isAgg0
  z0 := Tryz.sizeOf0
  v0 := Tryz.zeroValue0
  t3 := Tryz.underlying3
  a3 := Tryz.isAgg3
  z3 := Tryz.sizeOf3
  v3 := Tryz.zeroValue3
  t4 := Tryz.underlying4
  a4 := Tryz.isAgg4
  z4 := Tryz.sizeOf4
  v4 := Tryz.zeroValue4
  t5 := Tryz.underlying5
  a5 := Tryz.isAgg5
  z5 := Tryz.sizeOf5
  v5 := Tryz.zeroValue5
  t9 := Tryz.underlying9
  a9 := Tryz.isAgg9
  z9 := Tryz.sizeOf9
  v9 := Tryz.zeroValue9
  t26 := Tryz.underlying70
  a26 := Tryz.isAgg70
  z26 := Tryz.sizeOf70
  v26 := Tryz.zeroValue70
  t27 := Tryz.underlying70
  a27 := Tryz.isAgg70
  z27 := Tryz.sizeOf70
  v27 := Tryz.zeroValue70
  t29 := Tryz.underlying9
  a29 := Tryz.isAgg9
  z29 := Tryz.sizeOf9
  v29 := Tryz.zeroValue9
  t32 := Tryz.underlying149
  a32 := Tryz.isAgg149
  z32 := Tryz.sizeOf149
  v32 := Tryz.zeroValue149
  t35 := Tryz.underlying163
  a35 := Tryz.isAgg163
  z35 := Tryz.sizeOf163
  v35 := Tryz.zeroValue163
  t36 := Tryz.underlying164
  a36 := Tryz.isAgg164
  z36 := Tryz.sizeOf164
  v36 := Tryz.zeroValue164
  t41 := Tryz.underlying133
  a41 := Tryz.isAgg133
  z41 := Tryz.sizeOf133
  v41 := Tryz.zeroValue133
  t44 := Tryz.underlying128
  a44 := Tryz.isAgg128
  z44 := Tryz.sizeOf128
  v44 := Tryz.zeroValue128
  t46 := Tryz.underlying65
  a46 := Tryz.isAgg65
  z46 := Tryz.sizeOf65
  v46 := Tryz.zeroValue65
  t53 := Tryz.underlying178
  a53 := Tryz.isAgg178
  z53 := Tryz.sizeOf178
  v53 := Tryz.zeroValue178
  t57 := Tryz.underlying182
  a57 := Tryz.isAgg182
  z57 := Tryz.sizeOf182
  v57 := Tryz.zeroValue182
  t63 := Tryz.underlying193
  a63 := Tryz.isAgg193
  z63 := Tryz.sizeOf193
  v63 := Tryz.zeroValue193
  t64 := Tryz.underlying194
  a64 := Tryz.isAgg194
  z64 := Tryz.sizeOf194
  v64 := Tryz.zeroValue194 }
end Go.Proofs

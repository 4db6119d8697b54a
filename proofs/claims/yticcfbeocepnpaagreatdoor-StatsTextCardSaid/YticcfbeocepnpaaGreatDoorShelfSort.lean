/-
  DERIVED: THE SHELF's CONTRACTS AT THIS DUMP, IN PLAIN WORDS (tools/lay-plain.mjs out of 'TryzSortShelf.lean', which tools/lay-shelf.mjs wrote): THE SAME DECLARATIONS UNDER THE SAME NAMES: 'import', 'namespace', 'open', 'def', 'theorem' AND NOTHING ELSE: no command of the shelf's: FOR A HAND-IN. Each laying: the table of numbers ('.._ren') and one theorem, a field a fact of the dump's own or the kernel's comparison; each contract: ONE APPLICATION.
-/
import Derived.Shelf.SlSortCmp.WholeK
import Derived.Shelf.SlSortCmp.NoneTotal
import Derived.Ground.SlsfProg
import Derived.Shelf.SlMaps.Clone
import Derived.Ground.SlmcProg
import Derived.Test.YticcfbeocepnpaaGreatDoorProg
namespace Go.Proofs
open Go.Shelf
def Tryz.sortKeys_ren : Go.Shelf.Ren := ⟨fun | 6 => 83 | 15 => 51 | 14 => 103 | 28 => 69 | 29 => 70 | 20 => 121 | 21 => 122 | 22 => 123 | 23 => 124 | 24 => 125 | 25 => 126 | 26 => 127 | 27 => 128 | 46 => 152 | 47 => 153 | 48 => 154 | 49 => 155 | 50 => 156 | 57 => 172 | n => n, fun | 22 => 68 | 24 => 64 | 25 => 116 | 3 => 3 | 39 => 95 | 0 => 0 | 53 => 123 | 55 => 125 | 4 => 4 | 46 => 167 | 45 => 166 | 50 => 148 | 5 => 5 | 9 => 9 | 66 => 189 | 70 => 193 | 76 => 203 | 77 => 106 | n => n, fun | n => n⟩
theorem Tryz.sortKeys : Go.Proofs.SlLaysF0.n6 Tryz.prog Tryz.sortKeys_ren := {
  mixed := by kernel_rfl
  f6 := ⟨Tryz.f83.name, by decide, Tryz.func83.trans (congrArg some (by kernel_rfl))⟩
  f14 := ⟨Tryz.f103.name, by decide, Tryz.func103.trans (congrArg some (by kernel_rfl))⟩
  f15 := Tryz.func51.trans (congrArg some (by kernel_rfl))
  f20 := ⟨Tryz.f121.name, by decide, Tryz.func121.trans (congrArg some (by kernel_rfl))⟩
  f21 := ⟨Tryz.f122.name, by decide, Tryz.func122.trans (congrArg some (by kernel_rfl))⟩
  f22 := ⟨Tryz.f123.name, by decide, Tryz.func123.trans (congrArg some (by kernel_rfl))⟩
  f23 := ⟨Tryz.f124.name, by decide, Tryz.func124.trans (congrArg some (by kernel_rfl))⟩
  f24 := ⟨Tryz.f125.name, by decide, Tryz.func125.trans (congrArg some (by kernel_rfl))⟩
  f25 := ⟨Tryz.f126.name, by decide, Tryz.func126.trans (congrArg some (by kernel_rfl))⟩
  f26 := ⟨Tryz.f127.name, by decide, Tryz.func127.trans (congrArg some (by kernel_rfl))⟩
  f27 := ⟨Tryz.f128.name, by decide, Tryz.func128.trans (congrArg some (by kernel_rfl))⟩
  f28 := Tryz.func69.trans (congrArg some (by kernel_rfl))
  f29 := Tryz.func70.trans (congrArg some (by kernel_rfl))
  f46 := ⟨Tryz.f152.name, by decide, Tryz.func152.trans (congrArg some (by kernel_rfl))⟩
  f47 := Tryz.func153.trans (congrArg some (by kernel_rfl))
  f48 := Tryz.func154.trans (congrArg some (by kernel_rfl))
  f49 := ⟨Tryz.f155.name, by decide, Tryz.func155.trans (congrArg some (by kernel_rfl))⟩
  f50 := ⟨Tryz.f156.name, by decide, Tryz.func156.trans (congrArg some (by kernel_rfl))⟩
  f57 := ⟨Tryz.f172.name, by decide, Tryz.func172.trans (congrArg some (by kernel_rfl))⟩
  t0 := Tryz.underlying0
  a0 := Tryz.isAgg0
  z0 := Tryz.sizeOf0
  v0 := Tryz.zeroValue0
  t3 := Tryz.underlying3
  a3 := Tryz.isAgg3
  z3 := Tryz.sizeOf3
  v3 := Tryz.zeroValue3
  t4 := Tryz.underlying4
  a4 := Tryz.isAgg4
  z4 := Tryz.sizeOf4
  v4 := Tryz.zeroValue4
  t5 := Tryz.underlying5
  a5 := Tryz.isAgg5
  z5 := Tryz.sizeOf5
  v5 := Tryz.zeroValue5
  t9 := Tryz.underlying9
  a9 := Tryz.isAgg9
  z9 := Tryz.sizeOf9
  v9 := Tryz.zeroValue9
  t22 := Tryz.underlying68
  a22 := Tryz.isAgg68
  z22 := Tryz.sizeOf68
  v22 := Tryz.zeroValue68
  t25 := Tryz.underlying116
  a25 := Tryz.isAgg116
  z25 := Tryz.sizeOf116
  v25 := Tryz.zeroValue116
  t39 := Tryz.underlying95
  a39 := Tryz.isAgg95
  z39 := Tryz.sizeOf95
  v39 := Tryz.zeroValue95
  t45 := Tryz.underlying166
  a45 := Tryz.isAgg166
  z45 := Tryz.sizeOf166
  v45 := Tryz.zeroValue166
  t46 := Tryz.underlying167
  a46 := Tryz.isAgg167
  z46 := Tryz.sizeOf167
  v46 := Tryz.zeroValue167
  t50 := Tryz.underlying148
  a50 := Tryz.isAgg148
  z50 := Tryz.sizeOf148
  v50 := Tryz.zeroValue148
  t53 := Tryz.underlying123
  a53 := Tryz.isAgg123
  z53 := Tryz.sizeOf123
  v53 := Tryz.zeroValue123
  t55 := Tryz.underlying125
  a55 := Tryz.isAgg125
  z55 := Tryz.sizeOf125
  v55 := Tryz.zeroValue125
  t66 := Tryz.underlying189
  a66 := Tryz.isAgg189
  z66 := Tryz.sizeOf189
  v66 := Tryz.zeroValue189
  t70 := Tryz.underlying193
  a70 := Tryz.isAgg193
  z70 := Tryz.sizeOf193
  v70 := Tryz.zeroValue193
  t76 := Tryz.underlying203
  a76 := Tryz.isAgg203
  z76 := Tryz.sizeOf203
  v76 := Tryz.zeroValue203
  t77 := Tryz.underlying106
  a77 := Tryz.isAgg106
  z77 := Tryz.sizeOf106
  v77 := Tryz.zeroValue106 }
def Tryz.clone_ren : Go.Shelf.Ren := ⟨fun | 5 => 46 | 7 => 67 | n => n, fun | 23 => 70 | 25 => 64 | 3 => 34 | 4 => 4 | 20 => 20 | n => n, fun | n => n⟩
theorem Tryz.clone : Go.Proofs.SlLaysW.n5 Tryz.prog Tryz.clone_ren := {
  mixed := by kernel_rfl
  f5 := ⟨Tryz.f46.name, by decide, Tryz.func46.trans (congrArg some (by kernel_rfl))⟩
  f7 := Tryz.func67.trans (congrArg some (by kernel_rfl))
  t4 := Tryz.underlying4
  a4 := Tryz.isAgg4
  z4 := Tryz.sizeOf4
  v4 := Tryz.zeroValue4
  t20 := Tryz.underlying20
  a20 := Tryz.isAgg20
  z20 := Tryz.sizeOf20
  v20 := Tryz.zeroValue20
  t23 := Tryz.underlying70
  a23 := Tryz.isAgg70
  z23 := Tryz.sizeOf70
  v23 := Tryz.zeroValue70 }
end Go.Proofs

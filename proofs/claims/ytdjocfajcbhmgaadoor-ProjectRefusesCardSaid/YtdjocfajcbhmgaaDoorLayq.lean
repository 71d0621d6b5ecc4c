/-
  DERIVED: THE SHELF's CONTRACTS AT THIS DUMP, IN PLAIN WORDS (tools/lay-plain.mjs out of 'YtdjocfajcbhmgaaDoorLayq.lean', which tools/lay-shelf.mjs wrote): THE SAME DECLARATIONS UNDER THE SAME NAMES: 'import', 'namespace', 'open', 'def', 'theorem' AND NOTHING ELSE: no command of the shelf's: FOR A HAND-IN. Each laying: the table of numbers ('.._ren') and one theorem, a field a fact of the dump's own or the kernel's comparison; each contract: ONE APPLICATION.
-/
import Derived.Shelf.SlSortCmp.NoneTotal
import Derived.Test.YtdjocfajcbhmgaaDoorProg
namespace Go.Proofs
open Go.Shelf
def Tryd.laysSortF_ren : Go.Shelf.Ren := ⟨fun | 6 => 61 | 15 => 66 | 14 => 69 | 28 => 81 | 29 => 82 | 20 => 93 | 21 => 94 | 22 => 95 | 23 => 96 | 24 => 97 | 25 => 98 | 26 => 99 | 27 => 100 | 46 => 115 | 47 => 106 | 48 => 107 | 49 => 116 | 50 => 117 | 57 => 125 | n => n, fun | 22 => 28 | 24 => 27 | 25 => 115 | 3 => 3 | 39 => 32 | 0 => 0 | 53 => 132 | 55 => 134 | 4 => 4 | 46 => 125 | 45 => 124 | 50 => 91 | 5 => 5 | 9 => 9 | 66 => 153 | 70 => 157 | 76 => 166 | 77 => 167 | n => n, fun | n => n⟩
theorem Tryd.laysSortF : Go.Proofs.SlLaysF0.n6 Tryd.prog Tryd.laysSortF_ren := {
  mixed := by kernel_rfl
  f6 := ⟨Tryd.f61.name, by decide, Tryd.func61.trans (congrArg some (by kernel_rfl))⟩
  f14 := ⟨Tryd.f69.name, by decide, Tryd.func69.trans (congrArg some (by kernel_rfl))⟩
  f15 := Tryd.func66.trans (congrArg some (by kernel_rfl))
  f20 := ⟨Tryd.f93.name, by decide, Tryd.func93.trans (congrArg some (by kernel_rfl))⟩
  f21 := ⟨Tryd.f94.name, by decide, Tryd.func94.trans (congrArg some (by kernel_rfl))⟩
  f22 := ⟨Tryd.f95.name, by decide, Tryd.func95.trans (congrArg some (by kernel_rfl))⟩
  f23 := ⟨Tryd.f96.name, by decide, Tryd.func96.trans (congrArg some (by kernel_rfl))⟩
  f24 := ⟨Tryd.f97.name, by decide, Tryd.func97.trans (congrArg some (by kernel_rfl))⟩
  f25 := ⟨Tryd.f98.name, by decide, Tryd.func98.trans (congrArg some (by kernel_rfl))⟩
  f26 := ⟨Tryd.f99.name, by decide, Tryd.func99.trans (congrArg some (by kernel_rfl))⟩
  f27 := ⟨Tryd.f100.name, by decide, Tryd.func100.trans (congrArg some (by kernel_rfl))⟩
  f28 := Tryd.func81.trans (congrArg some (by kernel_rfl))
  f29 := Tryd.func82.trans (congrArg some (by kernel_rfl))
  f46 := ⟨Tryd.f115.name, by decide, Tryd.func115.trans (congrArg some (by kernel_rfl))⟩
  f47 := Tryd.func106.trans (congrArg some (by kernel_rfl))
  f48 := Tryd.func107.trans (congrArg some (by kernel_rfl))
  f49 := ⟨Tryd.f116.name, by decide, Tryd.func116.trans (congrArg some (by kernel_rfl))⟩
  f50 := ⟨Tryd.f117.name, by decide, Tryd.func117.trans (congrArg some (by kernel_rfl))⟩
  f57 := ⟨Tryd.f125.name, by decide, Tryd.func125.trans (congrArg some (by kernel_rfl))⟩
  t0 := Tryd.underlying0
  a0 := Tryd.isAgg0
  z0 := Tryd.sizeOf0
  v0 := Tryd.zeroValue0
  t3 := Tryd.underlying3
  a3 := Tryd.isAgg3
  z3 := Tryd.sizeOf3
  v3 := Tryd.zeroValue3
  t4 := Tryd.underlying4
  a4 := Tryd.isAgg4
  z4 := Tryd.sizeOf4
  v4 := Tryd.zeroValue4
  t5 := Tryd.underlying5
  a5 := Tryd.isAgg5
  z5 := Tryd.sizeOf5
  v5 := Tryd.zeroValue5
  t9 := Tryd.underlying9
  a9 := Tryd.isAgg9
  z9 := Tryd.sizeOf9
  v9 := Tryd.zeroValue9
  t22 := Tryd.underlying28
  a22 := Tryd.isAgg28
  z22 := Tryd.sizeOf28
  v22 := Tryd.zeroValue28
  t25 := Tryd.underlying115
  a25 := Tryd.isAgg115
  z25 := Tryd.sizeOf115
  v25 := Tryd.zeroValue115
  t39 := Tryd.underlying32
  a39 := Tryd.isAgg32
  z39 := Tryd.sizeOf32
  v39 := Tryd.zeroValue32
  t45 := Tryd.underlying124
  a45 := Tryd.isAgg124
  z45 := Tryd.sizeOf124
  v45 := Tryd.zeroValue124
  t46 := Tryd.underlying125
  a46 := Tryd.isAgg125
  z46 := Tryd.sizeOf125
  v46 := Tryd.zeroValue125
  t50 := Tryd.underlying91
  a50 := Tryd.isAgg91
  z50 := Tryd.sizeOf91
  v50 := Tryd.zeroValue91
  t53 := Tryd.underlying132
  a53 := Tryd.isAgg132
  z53 := Tryd.sizeOf132
  v53 := Tryd.zeroValue132
  t55 := Tryd.underlying134
  a55 := Tryd.isAgg134
  z55 := Tryd.sizeOf134
  v55 := Tryd.zeroValue134
  t66 := Tryd.underlying153
  a66 := Tryd.isAgg153
  z66 := Tryd.sizeOf153
  v66 := Tryd.zeroValue153
  t70 := Tryd.underlying157
  a70 := Tryd.isAgg157
  z70 := Tryd.sizeOf157
  v70 := Tryd.zeroValue157
  t76 := Tryd.underlying166
  a76 := Tryd.isAgg166
  z76 := Tryd.sizeOf166
  v76 := Tryd.zeroValue166
  t77 := Tryd.underlying167
  a77 := Tryd.isAgg167
  z77 := Tryd.sizeOf167
  v77 := Tryd.zeroValue167 }
end Go.Proofs

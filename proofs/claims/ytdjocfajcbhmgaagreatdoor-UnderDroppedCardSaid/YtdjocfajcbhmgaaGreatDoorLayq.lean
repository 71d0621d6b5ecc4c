/-
  DERIVED: THE SHELF's CONTRACTS AT THIS DUMP, IN PLAIN WORDS (tools/lay-plain.mjs out of 'YtdjocfajcbhmgaaGreatDoorLayq.lean', which tools/lay-shelf.mjs wrote): THE SAME DECLARATIONS UNDER THE SAME NAMES: 'import', 'namespace', 'open', 'def', 'theorem' AND NOTHING ELSE: no command of the shelf's: FOR A HAND-IN. Each laying: the table of numbers ('.._ren') and one theorem, a field a fact of the dump's own or the kernel's comparison; each contract: ONE APPLICATION.
-/
import Derived.Shelf.SlSortCmp.NoneTotal
import Derived.Test.YtdjocfajcbhmgaaGreatDoorProg
namespace Go.Proofs
open Go.Shelf
def Tryz.laysSortF_ren : Go.Shelf.Ren := ⟨fun | 6 => 145 | 15 => 161 | 14 => 167 | 28 => 180 | 29 => 181 | 20 => 193 | 21 => 194 | 22 => 195 | 23 => 196 | 24 => 197 | 25 => 198 | 26 => 199 | 27 => 200 | 46 => 216 | 47 => 203 | 48 => 204 | 49 => 217 | 50 => 218 | 57 => 229 | n => n, fun | 22 => 35 | 24 => 34 | 25 => 207 | 3 => 3 | 39 => 48 | 0 => 0 | 53 => 229 | 55 => 231 | 4 => 4 | 46 => 223 | 45 => 222 | 50 => 58 | 5 => 5 | 9 => 9 | 66 => 243 | 70 => 247 | 76 => 258 | 77 => 259 | n => n, fun | n => n⟩
theorem Tryz.laysSortF : Go.Proofs.SlLaysF0.n6 Tryz.prog Tryz.laysSortF_ren := {
  mixed := by kernel_rfl
  f6 := ⟨Tryz.f145.name, by decide, Tryz.func145.trans (congrArg some (by kernel_rfl))⟩
  f14 := ⟨Tryz.f167.name, by decide, Tryz.func167.trans (congrArg some (by kernel_rfl))⟩
  f15 := Tryz.func161.trans (congrArg some (by kernel_rfl))
  f20 := ⟨Tryz.f193.name, by decide, Tryz.func193.trans (congrArg some (by kernel_rfl))⟩
  f21 := ⟨Tryz.f194.name, by decide, Tryz.func194.trans (congrArg some (by kernel_rfl))⟩
  f22 := ⟨Tryz.f195.name, by decide, Tryz.func195.trans (congrArg some (by kernel_rfl))⟩
  f23 := ⟨Tryz.f196.name, by decide, Tryz.func196.trans (congrArg some (by kernel_rfl))⟩
  f24 := ⟨Tryz.f197.name, by decide, Tryz.func197.trans (congrArg some (by kernel_rfl))⟩
  f25 := ⟨Tryz.f198.name, by decide, Tryz.func198.trans (congrArg some (by kernel_rfl))⟩
  f26 := ⟨Tryz.f199.name, by decide, Tryz.func199.trans (congrArg some (by kernel_rfl))⟩
  f27 := ⟨Tryz.f200.name, by decide, Tryz.func200.trans (congrArg some (by kernel_rfl))⟩
  f28 := Tryz.func180.trans (congrArg some (by kernel_rfl))
  f29 := Tryz.func181.trans (congrArg some (by kernel_rfl))
  f46 := ⟨Tryz.f216.name, by decide, Tryz.func216.trans (congrArg some (by kernel_rfl))⟩
  f47 := Tryz.func203.trans (congrArg some (by kernel_rfl))
  f48 := Tryz.func204.trans (congrArg some (by kernel_rfl))
  f49 := ⟨Tryz.f217.name, by decide, Tryz.func217.trans (congrArg some (by kernel_rfl))⟩
  f50 := ⟨Tryz.f218.name, by decide, Tryz.func218.trans (congrArg some (by kernel_rfl))⟩
  f57 := ⟨Tryz.f229.name, by decide, Tryz.func229.trans (congrArg some (by kernel_rfl))⟩
  t0 := Tryz.underlying0
  a0 := Tryz.isAgg0
  z0 := Tryz.sizeOf0
  v0 := Tryz.zeroValue0
  t3 := Tryz.underlying3
  a3 := Tryz.isAgg3
  z3 := Tryz.sizeOf3
  v3 := Tryz.zeroValue3
  t4 := Tryz.underlying4
  a4 := Tryz.isAgg4
  z4 := Tryz.sizeOf4
  v4 := Tryz.zeroValue4
  t5 := Tryz.underlying5
  a5 := Tryz.isAgg5
  z5 := Tryz.sizeOf5
  v5 := Tryz.zeroValue5
  t9 := Tryz.underlying9
  a9 := Tryz.isAgg9
  z9 := Tryz.sizeOf9
  v9 := Tryz.zeroValue9
  t22 := Tryz.underlying35
  a22 := Tryz.isAgg35
  z22 := Tryz.sizeOf35
  v22 := Tryz.zeroValue35
  t25 := Tryz.underlying207
  a25 := Tryz.isAgg207
  z25 := Tryz.sizeOf207
  v25 := Tryz.zeroValue207
  t39 := Tryz.underlying48
  a39 := Tryz.isAgg48
  z39 := Tryz.sizeOf48
  v39 := Tryz.zeroValue48
  t45 := Tryz.underlying222
  a45 := Tryz.isAgg222
  z45 := Tryz.sizeOf222
  v45 := Tryz.zeroValue222
  t46 := Tryz.underlying223
  a46 := Tryz.isAgg223
  z46 := Tryz.sizeOf223
  v46 := Tryz.zeroValue223
  t50 := Tryz.underlying58
  a50 := Tryz.isAgg58
  z50 := Tryz.sizeOf58
  v50 := Tryz.zeroValue58
  t53 := Tryz.underlying229
  a53 := Tryz.isAgg229
  z53 := Tryz.sizeOf229
  v53 := Tryz.zeroValue229
  t55 := Tryz.underlying231
  a55 := Tryz.isAgg231
  z55 := Tryz.sizeOf231
  v55 := Tryz.zeroValue231
  t66 := Tryz.underlying243
  a66 := Tryz.isAgg243
  z66 := Tryz.sizeOf243
  v66 := Tryz.zeroValue243
  t70 := Tryz.underlying247
  a70 := Tryz.isAgg247
  z70 := Tryz.sizeOf247
  v70 := Tryz.zeroValue247
  t76 := Tryz.underlying258
  a76 := Tryz.isAgg258
  z76 := Tryz.sizeOf258
  v76 := Tryz.zeroValue258
  t77 := Tryz.underlying259
  a77 := Tryz.isAgg259
  z77 := Tryz.sizeOf259
  v77 := Tryz.zeroValue259 }
end Go.Proofs

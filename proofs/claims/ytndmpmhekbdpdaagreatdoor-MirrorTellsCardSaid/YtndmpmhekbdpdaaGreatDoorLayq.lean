/-
  DERIVED: THE SHELF's CONTRACTS AT THIS DUMP, IN PLAIN WORDS (tools/lay-plain.mjs out of 'YtndmpmhekbdpdaaGreatDoorLayq.lean', which tools/lay-shelf.mjs wrote): THE SAME DECLARATIONS UNDER THE SAME NAMES: 'import', 'namespace', 'open', 'def', 'theorem' AND NOTHING ELSE: no command of the shelf's: FOR A HAND-IN. Each laying: the table of numbers ('.._ren') and one theorem, a field a fact of the dump's own or the kernel's comparison; each contract: ONE APPLICATION.
-/
import Derived.Shelf.SlSortCmp.NoneTotal
import Derived.Test.YtndmpmhekbdpdaaGreatDoorProg
namespace Go.Proofs
open Go.Shelf
def Tryz.laysSortF_ren : Go.Shelf.Ren := ⟨fun | 6 => 174 | 15 => 225 | 14 => 224 | 28 => 252 | 29 => 253 | 20 => 244 | 21 => 245 | 22 => 246 | 23 => 247 | 24 => 248 | 25 => 249 | 26 => 250 | 27 => 251 | 46 => 276 | 47 => 277 | 48 => 278 | 49 => 279 | 50 => 280 | 57 => 301 | n => n, fun | 22 => 64 | 24 => 63 | 25 => 210 | 3 => 3 | 39 => 69 | 0 => 0 | 53 => 280 | 55 => 251 | 4 => 4 | 46 => 274 | 45 => 273 | 50 => 55 | 5 => 5 | 9 => 9 | 66 => 300 | 70 => 304 | 76 => 318 | 77 => 319 | n => n, fun | n => n⟩
theorem Tryz.laysSortF : Go.Proofs.SlLaysF0.n6 Tryz.prog Tryz.laysSortF_ren := {
  mixed := by kernel_rfl
  f6 := ⟨Tryz.f174.name, by decide, Tryz.func174.trans (congrArg some (by kernel_rfl))⟩
  f14 := ⟨Tryz.f224.name, by decide, Tryz.func224.trans (congrArg some (by kernel_rfl))⟩
  f15 := Tryz.func225.trans (congrArg some (by kernel_rfl))
  f20 := ⟨Tryz.f244.name, by decide, Tryz.func244.trans (congrArg some (by kernel_rfl))⟩
  f21 := ⟨Tryz.f245.name, by decide, Tryz.func245.trans (congrArg some (by kernel_rfl))⟩
  f22 := ⟨Tryz.f246.name, by decide, Tryz.func246.trans (congrArg some (by kernel_rfl))⟩
  f23 := ⟨Tryz.f247.name, by decide, Tryz.func247.trans (congrArg some (by kernel_rfl))⟩
  f24 := ⟨Tryz.f248.name, by decide, Tryz.func248.trans (congrArg some (by kernel_rfl))⟩
  f25 := ⟨Tryz.f249.name, by decide, Tryz.func249.trans (congrArg some (by kernel_rfl))⟩
  f26 := ⟨Tryz.f250.name, by decide, Tryz.func250.trans (congrArg some (by kernel_rfl))⟩
  f27 := ⟨Tryz.f251.name, by decide, Tryz.func251.trans (congrArg some (by kernel_rfl))⟩
  f28 := Tryz.func252.trans (congrArg some (by kernel_rfl))
  f29 := Tryz.func253.trans (congrArg some (by kernel_rfl))
  f46 := ⟨Tryz.f276.name, by decide, Tryz.func276.trans (congrArg some (by kernel_rfl))⟩
  f47 := Tryz.func277.trans (congrArg some (by kernel_rfl))
  f48 := Tryz.func278.trans (congrArg some (by kernel_rfl))
  f49 := ⟨Tryz.f279.name, by decide, Tryz.func279.trans (congrArg some (by kernel_rfl))⟩
  f50 := ⟨Tryz.f280.name, by decide, Tryz.func280.trans (congrArg some (by kernel_rfl))⟩
  f57 := ⟨Tryz.f301.name, by decide, Tryz.func301.trans (congrArg some (by kernel_rfl))⟩
  t0 := Tryz.underlying0
  a0 := Tryz.isAgg0
  z0 := Tryz.sizeOf0
  v0 := Tryz.zeroValue0
  t3 := Tryz.underlying3
  a3 := Tryz.isAgg3
  z3 := Tryz.sizeOf3
  v3 := Tryz.zeroValue3
  t4 := Tryz.underlying4
  a4 := Tryz.isAgg4
  z4 := Tryz.sizeOf4
  v4 := Tryz.zeroValue4
  t5 := Tryz.underlying5
  a5 := Tryz.isAgg5
  z5 := Tryz.sizeOf5
  v5 := Tryz.zeroValue5
  t9 := Tryz.underlying9
  a9 := Tryz.isAgg9
  z9 := Tryz.sizeOf9
  v9 := Tryz.zeroValue9
  t22 := Tryz.underlying64
  a22 := Tryz.isAgg64
  z22 := Tryz.sizeOf64
  v22 := Tryz.zeroValue64
  t25 := Tryz.underlying210
  a25 := Tryz.isAgg210
  z25 := Tryz.sizeOf210
  v25 := Tryz.zeroValue210
  t39 := Tryz.underlying69
  a39 := Tryz.isAgg69
  z39 := Tryz.sizeOf69
  v39 := Tryz.zeroValue69
  t45 := Tryz.underlying273
  a45 := Tryz.isAgg273
  z45 := Tryz.sizeOf273
  v45 := Tryz.zeroValue273
  t46 := Tryz.underlying274
  a46 := Tryz.isAgg274
  z46 := Tryz.sizeOf274
  v46 := Tryz.zeroValue274
  t50 := Tryz.underlying55
  a50 := Tryz.isAgg55
  z50 := Tryz.sizeOf55
  v50 := Tryz.zeroValue55
  t53 := Tryz.underlying280
  a53 := Tryz.isAgg280
  z53 := Tryz.sizeOf280
  v53 := Tryz.zeroValue280
  t55 := Tryz.underlying251
  a55 := Tryz.isAgg251
  z55 := Tryz.sizeOf251
  v55 := Tryz.zeroValue251
  t66 := Tryz.underlying300
  a66 := Tryz.isAgg300
  z66 := Tryz.sizeOf300
  v66 := Tryz.zeroValue300
  t70 := Tryz.underlying304
  a70 := Tryz.isAgg304
  z70 := Tryz.sizeOf304
  v70 := Tryz.zeroValue304
  t76 := Tryz.underlying318
  a76 := Tryz.isAgg318
  z76 := Tryz.sizeOf318
  v76 := Tryz.zeroValue318
  t77 := Tryz.underlying319
  a77 := Tryz.isAgg319
  z77 := Tryz.sizeOf319
  v77 := Tryz.zeroValue319 }
end Go.Proofs

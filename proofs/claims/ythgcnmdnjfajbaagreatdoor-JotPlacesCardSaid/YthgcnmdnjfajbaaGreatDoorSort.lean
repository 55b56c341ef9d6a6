/-
  DERIVED: THE SHELF's CONTRACTS AT THIS DUMP, IN PLAIN WORDS (tools/lay-plain.mjs out of 'TryzSort.lean', which tools/lay-shelf.mjs wrote): THE SAME DECLARATIONS UNDER THE SAME NAMES: 'import', 'namespace', 'open', 'def', 'theorem' AND NOTHING ELSE: no command of the shelf's: FOR A HAND-IN. Each laying: the table of numbers ('.._ren') and one theorem, a field a fact of the dump's own or the kernel's comparison; each contract: ONE APPLICATION.
-/
import Derived.Shelf.SlSortCmp.WholeK
import Derived.Shelf.SlSortCmp.NoneTotal
import Derived.Ground.SlsfProg
import Derived.Test.YthgcnmdnjfajbaaGreatDoorProg
namespace Go.Proofs
open Go.Shelf
def Tryz.sortMem_ren : Go.Shelf.Ren := ⟨fun | 14 => 64 | 20 => 78 | 21 => 79 | 22 => 80 | 23 => 81 | 24 => 82 | 25 => 83 | 26 => 84 | 27 => 85 | 46 => 95 | 47 => 96 | 48 => 97 | 49 => 98 | 50 => 99 | 15 => 65 | 57 => 106 | 28 => 86 | 29 => 87 | n => n, fun | 24 => 81 | 22 => 78 | 3 => 3 | 25 => 98 | 4 => 4 | 0 => 0 | 46 => 126 | 45 => 125 | 50 => 93 | 66 => 139 | 39 => 108 | 55 => 118 | 70 => 143 | 76 => 151 | 77 => 152 | 53 => 122 | 5 => 5 | 9 => 9 | n => n, fun | n => n⟩
theorem Tryz.sortMem : Go.Proofs.SlLaysF0.n14 Tryz.prog Tryz.sortMem_ren := {
  mixed := by kernel_rfl
  f14 := ⟨Tryz.f64.name, by decide, Tryz.func64.trans (congrArg some (by kernel_rfl))⟩
  f15 := Tryz.func65.trans (congrArg some (by kernel_rfl))
  f20 := ⟨Tryz.f78.name, by decide, Tryz.func78.trans (congrArg some (by kernel_rfl))⟩
  f21 := ⟨Tryz.f79.name, by decide, Tryz.func79.trans (congrArg some (by kernel_rfl))⟩
  f22 := ⟨Tryz.f80.name, by decide, Tryz.func80.trans (congrArg some (by kernel_rfl))⟩
  f23 := ⟨Tryz.f81.name, by decide, Tryz.func81.trans (congrArg some (by kernel_rfl))⟩
  f24 := ⟨Tryz.f82.name, by decide, Tryz.func82.trans (congrArg some (by kernel_rfl))⟩
  f25 := ⟨Tryz.f83.name, by decide, Tryz.func83.trans (congrArg some (by kernel_rfl))⟩
  f26 := ⟨Tryz.f84.name, by decide, Tryz.func84.trans (congrArg some (by kernel_rfl))⟩
  f27 := ⟨Tryz.f85.name, by decide, Tryz.func85.trans (congrArg some (by kernel_rfl))⟩
  f28 := Tryz.func86.trans (congrArg some (by kernel_rfl))
  f29 := Tryz.func87.trans (congrArg some (by kernel_rfl))
  f46 := ⟨Tryz.f95.name, by decide, Tryz.func95.trans (congrArg some (by kernel_rfl))⟩
  f47 := Tryz.func96.trans (congrArg some (by kernel_rfl))
  f48 := Tryz.func97.trans (congrArg some (by kernel_rfl))
  f49 := ⟨Tryz.f98.name, by decide, Tryz.func98.trans (congrArg some (by kernel_rfl))⟩
  f50 := ⟨Tryz.f99.name, by decide, Tryz.func99.trans (congrArg some (by kernel_rfl))⟩
  f57 := ⟨Tryz.f106.name, by decide, Tryz.func106.trans (congrArg some (by kernel_rfl))⟩
  t0 := Tryz.underlying0
  a0 := Tryz.isAgg0
  z0 := Tryz.sizeOf0
  v0 := Tryz.zeroValue0
  t3 := Tryz.underlying3
  a3 := Tryz.isAgg3
  z3 := Tryz.sizeOf3
  v3 := Tryz.zeroValue3
  t4 := Tryz.underlying4
  a4 := Tryz.isAgg4
  z4 := Tryz.sizeOf4
  v4 := Tryz.zeroValue4
  t5 := Tryz.underlying5
  a5 := Tryz.isAgg5
  z5 := Tryz.sizeOf5
  v5 := Tryz.zeroValue5
  t9 := Tryz.underlying9
  a9 := Tryz.isAgg9
  z9 := Tryz.sizeOf9
  v9 := Tryz.zeroValue9
  t22 := Tryz.underlying78
  a22 := Tryz.isAgg78
  z22 := Tryz.sizeOf78
  v22 := Tryz.zeroValue78
  t25 := Tryz.underlying98
  a25 := Tryz.isAgg98
  z25 := Tryz.sizeOf98
  v25 := Tryz.zeroValue98
  t39 := Tryz.underlying108
  a39 := Tryz.isAgg108
  z39 := Tryz.sizeOf108
  v39 := Tryz.zeroValue108
  t45 := Tryz.underlying125
  a45 := Tryz.isAgg125
  z45 := Tryz.sizeOf125
  v45 := Tryz.zeroValue125
  t46 := Tryz.underlying126
  a46 := Tryz.isAgg126
  z46 := Tryz.sizeOf126
  v46 := Tryz.zeroValue126
  t50 := Tryz.underlying93
  a50 := Tryz.isAgg93
  z50 := Tryz.sizeOf93
  v50 := Tryz.zeroValue93
  t53 := Tryz.underlying122
  a53 := Tryz.isAgg122
  z53 := Tryz.sizeOf122
  v53 := Tryz.zeroValue122
  t55 := Tryz.underlying118
  a55 := Tryz.isAgg118
  z55 := Tryz.sizeOf118
  v55 := Tryz.zeroValue118
  t66 := Tryz.underlying139
  a66 := Tryz.isAgg139
  z66 := Tryz.sizeOf139
  v66 := Tryz.zeroValue139
  t70 := Tryz.underlying143
  a70 := Tryz.isAgg143
  z70 := Tryz.sizeOf143
  v70 := Tryz.zeroValue143
  t76 := Tryz.underlying151
  a76 := Tryz.isAgg151
  z76 := Tryz.sizeOf151
  v76 := Tryz.zeroValue151
  t77 := Tryz.underlying152
  a77 := Tryz.isAgg152
  z77 := Tryz.sizeOf152
  v77 := Tryz.zeroValue152 }
end Go.Proofs

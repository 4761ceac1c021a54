/-
  DERIVED: THE SHELF's CONTRACTS AT THIS DUMP, IN PLAIN WORDS (tools/lay-plain.mjs out of 'TryFlowShelf.lean', which tools/lay-shelf.mjs wrote): THE SAME DECLARATIONS UNDER THE SAME NAMES: 'import', 'namespace', 'open', 'def', 'theorem' AND NOTHING ELSE: no command of the shelf's: FOR A HAND-IN. Each laying: the table of numbers ('.._ren') and one theorem, a field a fact of the dump's own or the kernel's comparison; each contract: ONE APPLICATION.
-/
import Derived.Shelf.SlSortCmp.NoneTotal
import Derived.Ground.SlsfProg
import Derived.KernelRfl
import Derived.Test.YtgaflglknjjalaaProg
set_option linter.all false
namespace Go.Proofs
open Go.Shelf
def Try.lays40_ren : Go.Shelf.Ren := ⟨fun | 6 => 40 | 15 => 60 | 14 => 59 | 28 => 75 | 29 => 76 | 20 => 67 | 21 => 68 | 22 => 69 | 23 => 70 | 24 => 71 | 25 => 72 | 26 => 73 | 27 => 74 | 46 => 79 | 47 => 80 | 48 => 81 | 49 => 82 | 50 => 83 | 57 => 84 | n => n, fun | 22 => 47 | 24 => 51 | 25 => 88 | 3 => 3 | 39 => 71 | 0 => 0 | 53 => 121 | 55 => 28 | 4 => 4 | 46 => 115 | 45 => 114 | 50 => 79 | 5 => 5 | 9 => 9 | 66 => 125 | 70 => 129 | 76 => 131 | 77 => 132 | n => n, fun | n => n⟩
theorem Try.lays40 : Go.Proofs.SlLaysF0.n6 Try.prog Try.lays40_ren := {
  mixed := by kernel_rfl
  f6 := ⟨Try.f40.name, by decide, Try.func40.trans (congrArg some (by kernel_rfl))⟩
  f14 := ⟨Try.f59.name, by decide, Try.func59.trans (congrArg some (by kernel_rfl))⟩
  f15 := Try.func60.trans (congrArg some (by kernel_rfl))
  f20 := ⟨Try.f67.name, by decide, Try.func67.trans (congrArg some (by kernel_rfl))⟩
  f21 := ⟨Try.f68.name, by decide, Try.func68.trans (congrArg some (by kernel_rfl))⟩
  f22 := ⟨Try.f69.name, by decide, Try.func69.trans (congrArg some (by kernel_rfl))⟩
  f23 := ⟨Try.f70.name, by decide, Try.func70.trans (congrArg some (by kernel_rfl))⟩
  f24 := ⟨Try.f71.name, by decide, Try.func71.trans (congrArg some (by kernel_rfl))⟩
  f25 := ⟨Try.f72.name, by decide, Try.func72.trans (congrArg some (by kernel_rfl))⟩
  f26 := ⟨Try.f73.name, by decide, Try.func73.trans (congrArg some (by kernel_rfl))⟩
  f27 := ⟨Try.f74.name, by decide, Try.func74.trans (congrArg some (by kernel_rfl))⟩
  f28 := Try.func75.trans (congrArg some (by kernel_rfl))
  f29 := Try.func76.trans (congrArg some (by kernel_rfl))
  f46 := ⟨Try.f79.name, by decide, Try.func79.trans (congrArg some (by kernel_rfl))⟩
  f47 := Try.func80.trans (congrArg some (by kernel_rfl))
  f48 := Try.func81.trans (congrArg some (by kernel_rfl))
  f49 := ⟨Try.f82.name, by decide, Try.func82.trans (congrArg some (by kernel_rfl))⟩
  f50 := ⟨Try.f83.name, by decide, Try.func83.trans (congrArg some (by kernel_rfl))⟩
  f57 := ⟨Try.f84.name, by decide, Try.func84.trans (congrArg some (by kernel_rfl))⟩
  t0 := Try.underlying0
  a0 := Try.isAgg0
  z0 := Try.sizeOf0
  v0 := Try.zeroValue0
  t3 := Try.underlying3
  a3 := Try.isAgg3
  z3 := Try.sizeOf3
  v3 := Try.zeroValue3
  t4 := Try.underlying4
  a4 := Try.isAgg4
  z4 := Try.sizeOf4
  v4 := Try.zeroValue4
  t5 := Try.underlying5
  a5 := Try.isAgg5
  z5 := Try.sizeOf5
  v5 := Try.zeroValue5
  t9 := Try.underlying9
  a9 := Try.isAgg9
  z9 := Try.sizeOf9
  v9 := Try.zeroValue9
  t22 := Try.underlying47
  a22 := Try.isAgg47
  z22 := Try.sizeOf47
  v22 := Try.zeroValue47
  t25 := Try.underlying88
  a25 := Try.isAgg88
  z25 := Try.sizeOf88
  v25 := Try.zeroValue88
  t39 := Try.underlying71
  a39 := Try.isAgg71
  z39 := Try.sizeOf71
  v39 := Try.zeroValue71
  t45 := Try.underlying114
  a45 := Try.isAgg114
  z45 := Try.sizeOf114
  v45 := Try.zeroValue114
  t46 := Try.underlying115
  a46 := Try.isAgg115
  z46 := Try.sizeOf115
  v46 := Try.zeroValue115
  t50 := Try.underlying79
  a50 := Try.isAgg79
  z50 := Try.sizeOf79
  v50 := Try.zeroValue79
  t53 := Try.underlying121
  a53 := Try.isAgg121
  z53 := Try.sizeOf121
  v53 := Try.zeroValue121
  t55 := Try.underlying28
  a55 := Try.isAgg28
  z55 := Try.sizeOf28
  v55 := Try.zeroValue28
  t66 := Try.underlying125
  a66 := Try.isAgg125
  z66 := Try.sizeOf125
  v66 := Try.zeroValue125
  t70 := Try.underlying129
  a70 := Try.isAgg129
  z70 := Try.sizeOf129
  v70 := Try.zeroValue129
  t76 := Try.underlying131
  a76 := Try.isAgg131
  z76 := Try.sizeOf131
  v76 := Try.zeroValue131
  t77 := Try.underlying132
  a77 := Try.isAgg132
  z77 := Try.sizeOf132
  v77 := Try.zeroValue132 }
end Go.Proofs

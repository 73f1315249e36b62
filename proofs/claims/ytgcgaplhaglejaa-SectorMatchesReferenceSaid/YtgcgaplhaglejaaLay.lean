/-
  DERIVED: THE SHELF's CONTRACTS AT THIS DUMP, IN PLAIN WORDS (tools/lay-plain.mjs out of 'YtgcgaplhaglejaaShelf.lean', which tools/lay-shelf.mjs wrote): THE SAME DECLARATIONS UNDER THE SAME NAMES: 'import', 'namespace', 'open', 'def', 'theorem' AND NOTHING ELSE: no command of the shelf's: FOR A HAND-IN. Each laying: the table of numbers ('.._ren') and one theorem, a field a fact of the dump's own or the kernel's comparison; each contract: ONE APPLICATION.
-/
import Derived.Shelf.SlSortCmp.WholeK
import Derived.Ground.SlsfProg
import Derived.Test.YtgcgaplhaglejaaProg
namespace Go.Proofs
open Go.Shelf
def Try.sortWay_ren : Go.Shelf.Ren := ⟨fun | 6 => 42 | 15 => 55 | 14 => 54 | 28 => 69 | 29 => 70 | 20 => 61 | 21 => 62 | 22 => 63 | 23 => 64 | 24 => 65 | 25 => 66 | 26 => 67 | 27 => 68 | 46 => 72 | 47 => 73 | 48 => 74 | 49 => 75 | 50 => 76 | 57 => 77 | n => n, fun | 22 => 66 | 24 => 55 | 25 => 69 | 3 => 3 | 39 => 81 | 0 => 0 | 53 => 93 | 55 => 95 | 4 => 4 | 46 => 86 | 45 => 85 | 50 => 90 | 5 => 5 | 9 => 9 | 66 => 97 | 70 => 101 | 76 => 103 | 77 => 104 | n => n, fun | n => n⟩
theorem Try.sortWay : Go.Proofs.SlLaysF0.n6 Try.prog Try.sortWay_ren := {
  mixed := by kernel_rfl
  f6 := ⟨Try.f42.name, by decide, Try.func42.trans (congrArg some (by kernel_rfl))⟩
  f14 := ⟨Try.f54.name, by decide, Try.func54.trans (congrArg some (by kernel_rfl))⟩
  f15 := Try.func55.trans (congrArg some (by kernel_rfl))
  f20 := ⟨Try.f61.name, by decide, Try.func61.trans (congrArg some (by kernel_rfl))⟩
  f21 := ⟨Try.f62.name, by decide, Try.func62.trans (congrArg some (by kernel_rfl))⟩
  f22 := ⟨Try.f63.name, by decide, Try.func63.trans (congrArg some (by kernel_rfl))⟩
  f23 := ⟨Try.f64.name, by decide, Try.func64.trans (congrArg some (by kernel_rfl))⟩
  f24 := ⟨Try.f65.name, by decide, Try.func65.trans (congrArg some (by kernel_rfl))⟩
  f25 := ⟨Try.f66.name, by decide, Try.func66.trans (congrArg some (by kernel_rfl))⟩
  f26 := ⟨Try.f67.name, by decide, Try.func67.trans (congrArg some (by kernel_rfl))⟩
  f27 := ⟨Try.f68.name, by decide, Try.func68.trans (congrArg some (by kernel_rfl))⟩
  f28 := Try.func69.trans (congrArg some (by kernel_rfl))
  f29 := Try.func70.trans (congrArg some (by kernel_rfl))
  f46 := ⟨Try.f72.name, by decide, Try.func72.trans (congrArg some (by kernel_rfl))⟩
  f47 := Try.func73.trans (congrArg some (by kernel_rfl))
  f48 := Try.func74.trans (congrArg some (by kernel_rfl))
  f49 := ⟨Try.f75.name, by decide, Try.func75.trans (congrArg some (by kernel_rfl))⟩
  f50 := ⟨Try.f76.name, by decide, Try.func76.trans (congrArg some (by kernel_rfl))⟩
  f57 := ⟨Try.f77.name, by decide, Try.func77.trans (congrArg some (by kernel_rfl))⟩
  t0 := Try.underlying0
  a0 := Try.isAgg0
  z0 := Try.sizeOf0
  v0 := Try.zeroValue0
  t3 := Try.underlying3
  a3 := Try.isAgg3
  z3 := Try.sizeOf3
  v3 := Try.zeroValue3
  t4 := Try.underlying4
  a4 := Try.isAgg4
  z4 := Try.sizeOf4
  v4 := Try.zeroValue4
  t5 := Try.underlying5
  a5 := Try.isAgg5
  z5 := Try.sizeOf5
  v5 := Try.zeroValue5
  t9 := Try.underlying9
  a9 := Try.isAgg9
  z9 := Try.sizeOf9
  v9 := Try.zeroValue9
  t22 := Try.underlying66
  a22 := Try.isAgg66
  z22 := Try.sizeOf66
  v22 := Try.zeroValue66
  t25 := Try.underlying69
  a25 := Try.isAgg69
  z25 := Try.sizeOf69
  v25 := Try.zeroValue69
  t39 := Try.underlying81
  a39 := Try.isAgg81
  z39 := Try.sizeOf81
  v39 := Try.zeroValue81
  t45 := Try.underlying85
  a45 := Try.isAgg85
  z45 := Try.sizeOf85
  v45 := Try.zeroValue85
  t46 := Try.underlying86
  a46 := Try.isAgg86
  z46 := Try.sizeOf86
  v46 := Try.zeroValue86
  t50 := Try.underlying90
  a50 := Try.isAgg90
  z50 := Try.sizeOf90
  v50 := Try.zeroValue90
  t53 := Try.underlying93
  a53 := Try.isAgg93
  z53 := Try.sizeOf93
  v53 := Try.zeroValue93
  t55 := Try.underlying95
  a55 := Try.isAgg95
  z55 := Try.sizeOf95
  v55 := Try.zeroValue95
  t66 := Try.underlying97
  a66 := Try.isAgg97
  z66 := Try.sizeOf97
  v66 := Try.zeroValue97
  t70 := Try.underlying101
  a70 := Try.isAgg101
  z70 := Try.sizeOf101
  v70 := Try.zeroValue101
  t76 := Try.underlying103
  a76 := Try.isAgg103
  z76 := Try.sizeOf103
  v76 := Try.zeroValue103
  t77 := Try.underlying104
  a77 := Try.isAgg104
  z77 := Try.sizeOf104
  v77 := Try.zeroValue104 }
end Go.Proofs

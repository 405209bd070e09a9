/-
  DERIVED: THE SHELF's CONTRACTS AT THIS DUMP, IN PLAIN WORDS (tools/lay-plain.mjs out of 'YtigogjlbemkhdaaGreatSortTmp.lean', which tools/lay-shelf.mjs wrote): THE SAME DECLARATIONS UNDER THE SAME NAMES: 'import', 'namespace', 'open', 'def', 'theorem' AND NOTHING ELSE: no command of the shelf's: FOR A HAND-IN. Each laying: the table of numbers ('.._ren') and one theorem, a field a fact of the dump's own or the kernel's comparison; each contract: ONE APPLICATION.
-/
import Derived.Shelf.SlSortCmp.NoneTotal
import Derived.Test.YtigogjlbemkhdaaGreatProg
namespace Go.Proofs
open Go.Shelf
def Tryz.sortRow_ren : Go.Shelf.Ren := ⟨fun | 6 => 57 | 15 => 77 | 14 => 76 | 28 => 96 | 29 => 97 | 20 => 88 | 21 => 89 | 22 => 90 | 23 => 91 | 24 => 92 | 25 => 93 | 26 => 94 | 27 => 95 | 46 => 102 | 47 => 103 | 48 => 104 | 49 => 105 | 50 => 106 | 57 => 108 | n => n, fun | 22 => 23 | 24 => 32 | 25 => 70 | 3 => 3 | 39 => 79 | 0 => 0 | 53 => 103 | 55 => 105 | 4 => 4 | 46 => 97 | 45 => 96 | 50 => 49 | 5 => 5 | 9 => 9 | 66 => 108 | 70 => 112 | 76 => 114 | 77 => 115 | n => n, fun | n => n⟩
theorem Tryz.sortRow : Go.Proofs.SlLaysF0.n6 Tryz.prog Tryz.sortRow_ren := {
  mixed := by kernel_rfl
  f6 := ⟨Tryz.f57.name, by decide, Tryz.func57.trans (congrArg some (by kernel_rfl))⟩
  f14 := ⟨Tryz.f76.name, by decide, Tryz.func76.trans (congrArg some (by kernel_rfl))⟩
  f15 := Tryz.func77.trans (congrArg some (by kernel_rfl))
  f20 := ⟨Tryz.f88.name, by decide, Tryz.func88.trans (congrArg some (by kernel_rfl))⟩
  f21 := ⟨Tryz.f89.name, by decide, Tryz.func89.trans (congrArg some (by kernel_rfl))⟩
  f22 := ⟨Tryz.f90.name, by decide, Tryz.func90.trans (congrArg some (by kernel_rfl))⟩
  f23 := ⟨Tryz.f91.name, by decide, Tryz.func91.trans (congrArg some (by kernel_rfl))⟩
  f24 := ⟨Tryz.f92.name, by decide, Tryz.func92.trans (congrArg some (by kernel_rfl))⟩
  f25 := ⟨Tryz.f93.name, by decide, Tryz.func93.trans (congrArg some (by kernel_rfl))⟩
  f26 := ⟨Tryz.f94.name, by decide, Tryz.func94.trans (congrArg some (by kernel_rfl))⟩
  f27 := ⟨Tryz.f95.name, by decide, Tryz.func95.trans (congrArg some (by kernel_rfl))⟩
  f28 := Tryz.func96.trans (congrArg some (by kernel_rfl))
  f29 := Tryz.func97.trans (congrArg some (by kernel_rfl))
  f46 := ⟨Tryz.f102.name, by decide, Tryz.func102.trans (congrArg some (by kernel_rfl))⟩
  f47 := Tryz.func103.trans (congrArg some (by kernel_rfl))
  f48 := Tryz.func104.trans (congrArg some (by kernel_rfl))
  f49 := ⟨Tryz.f105.name, by decide, Tryz.func105.trans (congrArg some (by kernel_rfl))⟩
  f50 := ⟨Tryz.f106.name, by decide, Tryz.func106.trans (congrArg some (by kernel_rfl))⟩
  f57 := ⟨Tryz.f108.name, by decide, Tryz.func108.trans (congrArg some (by kernel_rfl))⟩
  t0 := Tryz.underlying0
  a0 := Tryz.isAgg0
  z0 := Tryz.sizeOf0
  v0 := Tryz.zeroValue0
  t3 := Tryz.underlying3
  a3 := Tryz.isAgg3
  z3 := Tryz.sizeOf3
  v3 := Tryz.zeroValue3
  t4 := Tryz.underlying4
  a4 := Tryz.isAgg4
  z4 := Tryz.sizeOf4
  v4 := Tryz.zeroValue4
  t5 := Tryz.underlying5
  a5 := Tryz.isAgg5
  z5 := Tryz.sizeOf5
  v5 := Tryz.zeroValue5
  t9 := Tryz.underlying9
  a9 := Tryz.isAgg9
  z9 := Tryz.sizeOf9
  v9 := Tryz.zeroValue9
  t22 := Tryz.underlying23
  a22 := Tryz.isAgg23
  z22 := Tryz.sizeOf23
  v22 := Tryz.zeroValue23
  t25 := Tryz.underlying70
  a25 := Tryz.isAgg70
  z25 := Tryz.sizeOf70
  v25 := Tryz.zeroValue70
  t39 := Tryz.underlying79
  a39 := Tryz.isAgg79
  z39 := Tryz.sizeOf79
  v39 := Tryz.zeroValue79
  t45 := Tryz.underlying96
  a45 := Tryz.isAgg96
  z45 := Tryz.sizeOf96
  v45 := Tryz.zeroValue96
  t46 := Tryz.underlying97
  a46 := Tryz.isAgg97
  z46 := Tryz.sizeOf97
  v46 := Tryz.zeroValue97
  t50 := Tryz.underlying49
  a50 := Tryz.isAgg49
  z50 := Tryz.sizeOf49
  v50 := Tryz.zeroValue49
  t53 := Tryz.underlying103
  a53 := Tryz.isAgg103
  z53 := Tryz.sizeOf103
  v53 := Tryz.zeroValue103
  t55 := Tryz.underlying105
  a55 := Tryz.isAgg105
  z55 := Tryz.sizeOf105
  v55 := Tryz.zeroValue105
  t66 := Tryz.underlying108
  a66 := Tryz.isAgg108
  z66 := Tryz.sizeOf108
  v66 := Tryz.zeroValue108
  t70 := Tryz.underlying112
  a70 := Tryz.isAgg112
  z70 := Tryz.sizeOf112
  v70 := Tryz.zeroValue112
  t76 := Tryz.underlying114
  a76 := Tryz.isAgg114
  z76 := Tryz.sizeOf114
  v76 := Tryz.zeroValue114
  t77 := Tryz.underlying115
  a77 := Tryz.isAgg115
  z77 := Tryz.sizeOf115
  v77 := Tryz.zeroValue115 }
end Go.Proofs

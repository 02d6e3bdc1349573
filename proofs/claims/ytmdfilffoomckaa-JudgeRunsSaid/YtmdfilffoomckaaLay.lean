/- The kit's contract of slices.SortFunc laid at this program's numbers: plain text. Conditions: none. -/
import Derived.Test.YtmdfilffoomckaaRows
import Derived.Shelf.SlSortCmp.WholeK
import Derived.Shelf.SlSortCmp.NoneTotal
namespace Go.Proofs.Ytmdfilffoomckaa
open Go.Shelf
def sortL_ren : Go.Shelf.Ren := ⟨fun | 6 => 40 | 15 => 47 | 14 => 46 | 28 => 57 | 29 => 58 | 20 => 49 | 21 => 50 | 22 => 51 | 23 => 52 | 24 => 53 | 25 => 54 | 26 => 55 | 27 => 56 | 46 => 60 | 47 => 61 | 48 => 62 | 49 => 63 | 50 => 64 | 57 => 65 | n => n, fun | 22 => 22 | 24 => 50 | 25 => 101 | 3 => 3 | 39 => 106 | 0 => 0 | 53 => 117 | 55 => 27 | 4 => 4 | 46 => 110 | 45 => 109 | 50 => 114 | 5 => 5 | 9 => 9 | 66 => 120 | 70 => 124 | 76 => 126 | 77 => 127 | n => n, fun | n => n⟩
theorem sortL : Go.Proofs.SlLaysF0.n6 Try.prog sortL_ren := {
  mixed := by kernel_rfl
  f6 := ⟨Try.f40.name, by decide, Try.func40.trans (congrArg some (by kernel_rfl))⟩
  f14 := ⟨Try.f46.name, by decide, Try.func46.trans (congrArg some (by kernel_rfl))⟩
  f15 := Try.func47.trans (congrArg some (by kernel_rfl))
  f20 := ⟨Try.f49.name, by decide, Try.func49.trans (congrArg some (by kernel_rfl))⟩
  f21 := ⟨Try.f50.name, by decide, Try.func50.trans (congrArg some (by kernel_rfl))⟩
  f22 := ⟨Try.f51.name, by decide, Try.func51.trans (congrArg some (by kernel_rfl))⟩
  f23 := ⟨Try.f52.name, by decide, Try.func52.trans (congrArg some (by kernel_rfl))⟩
  f24 := ⟨Try.f53.name, by decide, Try.func53.trans (congrArg some (by kernel_rfl))⟩
  f25 := ⟨Try.f54.name, by decide, Try.func54.trans (congrArg some (by kernel_rfl))⟩
  f26 := ⟨Try.f55.name, by decide, Try.func55.trans (congrArg some (by kernel_rfl))⟩
  f27 := ⟨Try.f56.name, by decide, Try.func56.trans (congrArg some (by kernel_rfl))⟩
  f28 := Try.func57.trans (congrArg some (by kernel_rfl))
  f29 := Try.func58.trans (congrArg some (by kernel_rfl))
  f46 := ⟨Try.f60.name, by decide, Try.func60.trans (congrArg some (by kernel_rfl))⟩
  f47 := Try.func61.trans (congrArg some (by kernel_rfl))
  f48 := Try.func62.trans (congrArg some (by kernel_rfl))
  f49 := ⟨Try.f63.name, by decide, Try.func63.trans (congrArg some (by kernel_rfl))⟩
  f50 := ⟨Try.f64.name, by decide, Try.func64.trans (congrArg some (by kernel_rfl))⟩
  f57 := ⟨Try.f65.name, by decide, Try.func65.trans (congrArg some (by kernel_rfl))⟩
  t0 := Try.underlying0
  a0 := Try.isAgg0
  z0 := Try.sizeOf0
  v0 := Try.zeroValue0
  t3 := Try.underlying3
  a3 := Try.isAgg3
  z3 := Try.sizeOf3
  v3 := Try.zeroValue3
  t4 := Try.underlying4
  a4 := Try.isAgg4
  z4 := Try.sizeOf4
  v4 := Try.zeroValue4
  t5 := Try.underlying5
  a5 := Try.isAgg5
  z5 := Try.sizeOf5
  v5 := Try.zeroValue5
  t9 := Try.underlying9
  a9 := Try.isAgg9
  z9 := Try.sizeOf9
  v9 := Try.zeroValue9
  t22 := Try.underlying22
  a22 := Try.isAgg22
  z22 := Try.sizeOf22
  v22 := Try.zeroValue22
  t25 := Try.underlying101
  a25 := Try.isAgg101
  z25 := Try.sizeOf101
  v25 := Try.zeroValue101
  t39 := Try.underlying106
  a39 := Try.isAgg106
  z39 := Try.sizeOf106
  v39 := Try.zeroValue106
  t45 := Try.underlying109
  a45 := Try.isAgg109
  z45 := Try.sizeOf109
  v45 := Try.zeroValue109
  t46 := Try.underlying110
  a46 := Try.isAgg110
  z46 := Try.sizeOf110
  v46 := Try.zeroValue110
  t50 := Try.underlying114
  a50 := Try.isAgg114
  z50 := Try.sizeOf114
  v50 := Try.zeroValue114
  t53 := Try.underlying117
  a53 := Try.isAgg117
  z53 := Try.sizeOf117
  v53 := Try.zeroValue117
  t55 := Try.underlying27
  a55 := Try.isAgg27
  z55 := Try.sizeOf27
  v55 := Try.zeroValue27
  t66 := Try.underlying120
  a66 := Try.isAgg120
  z66 := Try.sizeOf120
  v66 := Try.zeroValue120
  t70 := Try.underlying124
  a70 := Try.isAgg124
  z70 := Try.sizeOf124
  v70 := Try.zeroValue124
  t76 := Try.underlying126
  a76 := Try.isAgg126
  z76 := Try.sizeOf126
  v76 := Try.zeroValue126
  t77 := Try.underlying127
  a77 := Try.isAgg127
  z77 := Try.sizeOf127
  v77 := Try.zeroValue127 }

end Go.Proofs.Ytmdfilffoomckaa

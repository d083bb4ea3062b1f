/- slices.SortFunc of []api.Visit: the shelf's structure, laid here (written by the kit's lay-plain, turned into a template by unfill.py). -/
import Derived.Shelf.SlSortCmp.WholeK
import Derived.Shelf.SlGeneric
import Derived.Test.YtggcmnjllkncaaaProg
namespace Go.Proofs.Ytggcmnjllkncaaa
set_option linter.unusedSimpArgs false
set_option linter.unusedVariables false
set_option maxRecDepth 100000
open Go.Shelf
def sortVis_ren : Go.Shelf.Ren := ⟨fun | 6 => 23 | 15 => 31 | 14 => 30 | 28 => 43 | 29 => 44 | 20 => 35 | 21 => 36 | 22 => 37 | 23 => 38 | 24 => 39 | 25 => 40 | 26 => 41 | 27 => 42 | 46 => 54 | 47 => 55 | 48 => 56 | 49 => 57 | 50 => 58 | 57 => 62 | n => n, fun | 22 => 22 | 24 => 31 | 25 => 45 | 3 => 3 | 39 => 61 | 0 => 0 | 53 => 23 | 55 => 29 | 4 => 4 | 46 => 70 | 45 => 69 | 50 => 74 | 5 => 5 | 9 => 9 | 66 => 84 | 70 => 88 | 76 => 92 | 77 => 93 | n => n, fun | n => n⟩
theorem sortVis : Go.Proofs.SlLaysF0.n6 Try.prog sortVis_ren := {
  mixed := by kernel_rfl
  f6 := ⟨Try.f23.name, by decide, Try.func23.trans (congrArg some (by kernel_rfl))⟩
  f14 := ⟨Try.f30.name, by decide, Try.func30.trans (congrArg some (by kernel_rfl))⟩
  f15 := Try.func31.trans (congrArg some (by kernel_rfl))
  f20 := ⟨Try.f35.name, by decide, Try.func35.trans (congrArg some (by kernel_rfl))⟩
  f21 := ⟨Try.f36.name, by decide, Try.func36.trans (congrArg some (by kernel_rfl))⟩
  f22 := ⟨Try.f37.name, by decide, Try.func37.trans (congrArg some (by kernel_rfl))⟩
  f23 := ⟨Try.f38.name, by decide, Try.func38.trans (congrArg some (by kernel_rfl))⟩
  f24 := ⟨Try.f39.name, by decide, Try.func39.trans (congrArg some (by kernel_rfl))⟩
  f25 := ⟨Try.f40.name, by decide, Try.func40.trans (congrArg some (by kernel_rfl))⟩
  f26 := ⟨Try.f41.name, by decide, Try.func41.trans (congrArg some (by kernel_rfl))⟩
  f27 := ⟨Try.f42.name, by decide, Try.func42.trans (congrArg some (by kernel_rfl))⟩
  f28 := Try.func43.trans (congrArg some (by kernel_rfl))
  f29 := Try.func44.trans (congrArg some (by kernel_rfl))
  f46 := ⟨Try.f54.name, by decide, Try.func54.trans (congrArg some (by kernel_rfl))⟩
  f47 := Try.func55.trans (congrArg some (by kernel_rfl))
  f48 := Try.func56.trans (congrArg some (by kernel_rfl))
  f49 := ⟨Try.f57.name, by decide, Try.func57.trans (congrArg some (by kernel_rfl))⟩
  f50 := ⟨Try.f58.name, by decide, Try.func58.trans (congrArg some (by kernel_rfl))⟩
  f57 := ⟨Try.f62.name, by decide, Try.func62.trans (congrArg some (by kernel_rfl))⟩
  t0 := Try.underlying0
  a0 := Try.isAgg0
  z0 := Try.sizeOf0
  v0 := Try.zeroValue0
  t3 := Try.underlying3
  a3 := Try.isAgg3
  z3 := Try.sizeOf3
  v3 := Try.zeroValue3
  t4 := Try.underlying4
  a4 := Try.isAgg4
  z4 := Try.sizeOf4
  v4 := Try.zeroValue4
  t5 := Try.underlying5
  a5 := Try.isAgg5
  z5 := Try.sizeOf5
  v5 := Try.zeroValue5
  t9 := Try.underlying9
  a9 := Try.isAgg9
  z9 := Try.sizeOf9
  v9 := Try.zeroValue9
  t22 := Try.underlying22
  a22 := Try.isAgg22
  z22 := Try.sizeOf22
  v22 := Try.zeroValue22
  t25 := Try.underlying45
  a25 := Try.isAgg45
  z25 := Try.sizeOf45
  v25 := Try.zeroValue45
  t39 := Try.underlying61
  a39 := Try.isAgg61
  z39 := Try.sizeOf61
  v39 := Try.zeroValue61
  t45 := Try.underlying69
  a45 := Try.isAgg69
  z45 := Try.sizeOf69
  v45 := Try.zeroValue69
  t46 := Try.underlying70
  a46 := Try.isAgg70
  z46 := Try.sizeOf70
  v46 := Try.zeroValue70
  t50 := Try.underlying74
  a50 := Try.isAgg74
  z50 := Try.sizeOf74
  v50 := Try.zeroValue74
  t53 := Try.underlying23
  a53 := Try.isAgg23
  z53 := Try.sizeOf23
  v53 := Try.zeroValue23
  t55 := Try.underlying29
  a55 := Try.isAgg29
  z55 := Try.sizeOf29
  v55 := Try.zeroValue29
  t66 := Try.underlying84
  a66 := Try.isAgg84
  z66 := Try.sizeOf84
  v66 := Try.zeroValue84
  t70 := Try.underlying88
  a70 := Try.isAgg88
  z70 := Try.sizeOf88
  v70 := Try.zeroValue88
  t76 := Try.underlying92
  a76 := Try.isAgg92
  z76 := Try.sizeOf92
  v76 := Try.zeroValue92
  t77 := Try.underlying93
  a77 := Try.isAgg93
  z77 := Try.sizeOf93
  v77 := Try.zeroValue93 }
end Go.Proofs.Ytggcmnjllkncaaa

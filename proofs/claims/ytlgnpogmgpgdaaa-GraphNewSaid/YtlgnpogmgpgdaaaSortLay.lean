/- slices.SortFunc of [][]byte: the shelf's structure, laid here (written by the kit's lay-plain, turned into a template by unfill.py). -/
import Derived.Shelf.SlSortCmp.Whole1
import Derived.Test.YtlgnpogmgpgdaaaProg
namespace Go.Proofs.Ytlgnpogmgpgdaaa
set_option linter.unusedSimpArgs false
set_option linter.unusedVariables false
set_option maxRecDepth 100000
open Go.Shelf
def sortKeys_ren : Go.Shelf.Ren := ⟨fun | 6 => 65 | 15 => 93 | 14 => 92 | 28 => 119 | 29 => 120 | 20 => 111 | 21 => 112 | 22 => 113 | 23 => 114 | 24 => 115 | 25 => 116 | 26 => 117 | 27 => 118 | 46 => 136 | 47 => 137 | 48 => 138 | 49 => 139 | 50 => 140 | 57 => 145 | n => n, fun | 22 => 108 | 24 => 112 | 25 => 115 | 3 => 3 | 39 => 148 | 0 => 0 | 53 => 23 | 55 => 22 | 4 => 4 | 46 => 177 | 45 => 176 | 50 => 89 | 5 => 5 | 9 => 9 | 66 => 198 | 70 => 202 | 76 => 207 | 77 => 208 | n => n, fun | n => n⟩
theorem sortKeys : Go.Proofs.SlLaysF.n6 Try.prog sortKeys_ren := {
  mixed := by kernel_rfl
  f6 := ⟨Try.f65.name, by decide, Try.func65.trans (congrArg some (by kernel_rfl))⟩
  f14 := ⟨Try.f92.name, by decide, Try.func92.trans (congrArg some (by kernel_rfl))⟩
  f15 := Try.func93.trans (congrArg some (by kernel_rfl))
  f20 := ⟨Try.f111.name, by decide, Try.func111.trans (congrArg some (by kernel_rfl))⟩
  f21 := ⟨Try.f112.name, by decide, Try.func112.trans (congrArg some (by kernel_rfl))⟩
  f22 := ⟨Try.f113.name, by decide, Try.func113.trans (congrArg some (by kernel_rfl))⟩
  f23 := ⟨Try.f114.name, by decide, Try.func114.trans (congrArg some (by kernel_rfl))⟩
  f24 := ⟨Try.f115.name, by decide, Try.func115.trans (congrArg some (by kernel_rfl))⟩
  f25 := ⟨Try.f116.name, by decide, Try.func116.trans (congrArg some (by kernel_rfl))⟩
  f26 := ⟨Try.f117.name, by decide, Try.func117.trans (congrArg some (by kernel_rfl))⟩
  f27 := ⟨Try.f118.name, by decide, Try.func118.trans (congrArg some (by kernel_rfl))⟩
  f28 := Try.func119.trans (congrArg some (by kernel_rfl))
  f29 := Try.func120.trans (congrArg some (by kernel_rfl))
  f46 := ⟨Try.f136.name, by decide, Try.func136.trans (congrArg some (by kernel_rfl))⟩
  f47 := Try.func137.trans (congrArg some (by kernel_rfl))
  f48 := Try.func138.trans (congrArg some (by kernel_rfl))
  f49 := ⟨Try.f139.name, by decide, Try.func139.trans (congrArg some (by kernel_rfl))⟩
  f50 := ⟨Try.f140.name, by decide, Try.func140.trans (congrArg some (by kernel_rfl))⟩
  f57 := ⟨Try.f145.name, by decide, Try.func145.trans (congrArg some (by kernel_rfl))⟩
  t0 := Try.underlying0
  a0 := Try.isAgg0
  z0 := Try.sizeOf0
  v0 := Try.zeroValue0
  t3 := Try.underlying3
  a3 := Try.isAgg3
  z3 := Try.sizeOf3
  v3 := Try.zeroValue3
  t4 := Try.underlying4
  a4 := Try.isAgg4
  z4 := Try.sizeOf4
  v4 := Try.zeroValue4
  t5 := Try.underlying5
  a5 := Try.isAgg5
  z5 := Try.sizeOf5
  v5 := Try.zeroValue5
  t9 := Try.underlying9
  a9 := Try.isAgg9
  z9 := Try.sizeOf9
  v9 := Try.zeroValue9
  t22 := Try.underlying108
  a22 := Try.isAgg108
  z22 := Try.sizeOf108
  v22 := Try.zeroValue108
  a24 := Try.isAgg112
  z24 := Try.sizeOf112
  t25 := Try.underlying115
  a25 := Try.isAgg115
  z25 := Try.sizeOf115
  v25 := Try.zeroValue115
  t39 := Try.underlying148
  a39 := Try.isAgg148
  z39 := Try.sizeOf148
  v39 := Try.zeroValue148
  t45 := Try.underlying176
  a45 := Try.isAgg176
  z45 := Try.sizeOf176
  v45 := Try.zeroValue176
  t46 := Try.underlying177
  a46 := Try.isAgg177
  z46 := Try.sizeOf177
  v46 := Try.zeroValue177
  t50 := Try.underlying89
  a50 := Try.isAgg89
  z50 := Try.sizeOf89
  v50 := Try.zeroValue89
  t53 := Try.underlying23
  a53 := Try.isAgg23
  z53 := Try.sizeOf23
  v53 := Try.zeroValue23
  t55 := Try.underlying22
  a55 := Try.isAgg22
  z55 := Try.sizeOf22
  v55 := Try.zeroValue22
  t66 := Try.underlying198
  a66 := Try.isAgg198
  z66 := Try.sizeOf198
  v66 := Try.zeroValue198
  t70 := Try.underlying202
  a70 := Try.isAgg202
  z70 := Try.sizeOf202
  v70 := Try.zeroValue202
  t76 := Try.underlying207
  a76 := Try.isAgg207
  z76 := Try.sizeOf207
  v76 := Try.zeroValue207
  t77 := Try.underlying208
  a77 := Try.isAgg208
  z77 := Try.sizeOf208
  v77 := Try.zeroValue208 }
end Go.Proofs.Ytlgnpogmgpgdaaa

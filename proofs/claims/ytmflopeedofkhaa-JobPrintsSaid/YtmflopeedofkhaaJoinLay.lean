/- strings.Join: the shelf's structures, laid here (written by the kit's lay-plain, turned into a template by unfill.py). -/
import Derived.Shelf.Strings.OnBuilder
import Derived.Test.YtmflopeedofkhaaProg
namespace Go.Proofs.Ytmflopeedofkhaa
set_option linter.unusedSimpArgs false
set_option linter.unusedVariables false
set_option maxRecDepth 100000
open Go.Shelf
def joinS_ren : Go.Shelf.Ren := ⟨fun | 156 => 37 | 165 => 53 | 166 => 54 | 169 => 55 | 240 => 72 | 241 => 73 | 276 => 85 | 277 => 86 | n => n, fun | 31 => 39 | 9 => 9 | 3 => 3 | 4 => 4 | 0 => 0 | 20 => 20 | 72 => 102 | 76 => 106 | 70 => 100 | 37 => 22 | 75 => 105 | 127 => 128 | 164 => 141 | 5 => 5 | 80 => 108 | n => n, fun | n => n⟩
theorem joinS : Go.Proofs.Lays.n156 Try.prog joinS_ren := {
  mixed := by kernel_rfl
  f156 := Try.func37.trans (congrArg some (by kernel_rfl))
  f165 := Try.func53.trans (congrArg some (by kernel_rfl))
  f166 := Try.func54.trans (congrArg some (by kernel_rfl))
  f169 := Try.func55.trans (congrArg some (by kernel_rfl))
  f240 := Try.func72.trans (congrArg some (by kernel_rfl))
  f241 := Try.func73.trans (congrArg some (by kernel_rfl))
  f276 := Try.func85.trans (congrArg some (by kernel_rfl))
  f277 := Try.func86.trans (congrArg some (by kernel_rfl))
  t0 := Try.underlying0
  a0 := Try.isAgg0
  z0 := Try.sizeOf0
  v0 := Try.zeroValue0
  t3 := Try.underlying3
  a3 := Try.isAgg3
  z3 := Try.sizeOf3
  v3 := Try.zeroValue3
  t4 := Try.underlying4
  a4 := Try.isAgg4
  z4 := Try.sizeOf4
  v4 := Try.zeroValue4
  t9 := Try.underlying9
  a9 := Try.isAgg9
  z9 := Try.sizeOf9
  v9 := Try.zeroValue9
  t20 := Try.underlying20
  a20 := Try.isAgg20
  z20 := Try.sizeOf20
  v20 := Try.zeroValue20
  t31 := Try.underlying39
  a31 := Try.isAgg39
  z31 := Try.sizeOf39
  v31 := Try.zeroValue39
  t37 := Try.underlying22
  a37 := Try.isAgg22
  z37 := Try.sizeOf22
  v37 := Try.zeroValue22
  t70 := Try.underlying100
  a70 := Try.isAgg100
  z70 := Try.sizeOf100
  v70 := Try.zeroValue100
  t72 := Try.underlying102
  a72 := Try.isAgg102
  z72 := Try.sizeOf102
  v72 := Try.zeroValue102
  t75 := Try.underlying105
  a75 := Try.isAgg105
  z75 := Try.sizeOf105
  v75 := Try.zeroValue105
  t76 := Try.underlying106
  a76 := Try.isAgg106
  z76 := Try.sizeOf106
  v76 := Try.zeroValue106
  t127 := Try.underlying128
  a127 := Try.isAgg128
  z127 := Try.sizeOf128
  v127 := Try.zeroValue128
  t164 := Try.underlying141
  a164 := Try.isAgg141
  z164 := Try.sizeOf141
  v164 := Try.zeroValue141 }
theorem joinX : Builder.Extra Try.prog joinS_ren := {
  sizeBuilder := by kernel_rfl
  liesBuilder := by kernel_rfl
  t5 := Try.underlying5
  a5 := Try.isAgg5
  z5 := Try.sizeOf5
  v5 := Try.zeroValue5
  infoByte := by kernel_rfl
  cellsByte := by kernel_rfl
  sizeByte := by kernel_rfl
  neB5 := by decide }
end Go.Proofs.Ytmflopeedofkhaa

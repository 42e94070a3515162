import Derived.Shelf.Sort.Plain
import Derived.Shelf.Slices.In.SortNone
import Derived.Shelf.Slices.CompactI
import Derived.Test.YtgddfhnochcolaaProg
set_option linter.all false
set_option linter.all false
namespace Go.Proofs.Ytgddfhnochcolaa
open Go Go.Shelf
def laysSort_ren : Go.Shelf.Ren := ⟨fun | 189 => 84 | 125 => 106 | 257 => 105 | 128 => 123 | 129 => 124 | 294 => 114 | 295 => 115 | 296 => 116 | 297 => 117 | 298 => 118 | 299 => 119 | 216 => 120 | 300 => 121 | 301 => 122 | 328 => 127 | 329 => 128 | 330 => 129 | 331 => 130 | 332 => 131 | 215 => 132 | 343 => 133 | n => n, fun | 28 => 28 | 3 => 3 | 46 => 119 | 0 => 0 | 51 => 155 | 53 => 27 | 4 => 4 | 183 => 148 | 182 => 147 | 131 => 152 | 5 => 5 | 9 => 9 | 218 => 159 | 222 => 163 | 228 => 165 | 229 => 166 | n => n, fun | n => n⟩
theorem laysSort : Go.Proofs.Lays.n189 Try.prog laysSort_ren := {
  mixed := by kernel_rfl
  f125 := Try.func106.trans (congrArg some (by kernel_rfl))
  f128 := Try.func123.trans (congrArg some (by kernel_rfl))
  f129 := Try.func124.trans (congrArg some (by kernel_rfl))
  f189 := Try.func84.trans (congrArg some (by kernel_rfl))
  f215 := Try.func132.trans (congrArg some (by kernel_rfl))
  f216 := Try.func120.trans (congrArg some (by kernel_rfl))
  f257 := Try.func105.trans (congrArg some (by kernel_rfl))
  f294 := Try.func114.trans (congrArg some (by kernel_rfl))
  f295 := Try.func115.trans (congrArg some (by kernel_rfl))
  f296 := Try.func116.trans (congrArg some (by kernel_rfl))
  f297 := Try.func117.trans (congrArg some (by kernel_rfl))
  f298 := Try.func118.trans (congrArg some (by kernel_rfl))
  f299 := Try.func119.trans (congrArg some (by kernel_rfl))
  f300 := Try.func121.trans (congrArg some (by kernel_rfl))
  f301 := Try.func122.trans (congrArg some (by kernel_rfl))
  f328 := Try.func127.trans (congrArg some (by kernel_rfl))
  f329 := Try.func128.trans (congrArg some (by kernel_rfl))
  f330 := Try.func129.trans (congrArg some (by kernel_rfl))
  f331 := Try.func130.trans (congrArg some (by kernel_rfl))
  f332 := Try.func131.trans (congrArg some (by kernel_rfl))
  f343 := Try.func133.trans (congrArg some (by kernel_rfl))
  t0 := Try.underlying0
  a0 := Try.isAgg0
  z0 := Try.sizeOf0
  v0 := Try.zeroValue0
  t3 := Try.underlying3
  a3 := Try.isAgg3
  z3 := Try.sizeOf3
  v3 := Try.zeroValue3
  t4 := Try.underlying4
  a4 := Try.isAgg4
  z4 := Try.sizeOf4
  v4 := Try.zeroValue4
  t5 := Try.underlying5
  a5 := Try.isAgg5
  z5 := Try.sizeOf5
  v5 := Try.zeroValue5
  t9 := Try.underlying9
  a9 := Try.isAgg9
  z9 := Try.sizeOf9
  v9 := Try.zeroValue9
  t28 := Try.underlying28
  a28 := Try.isAgg28
  z28 := Try.sizeOf28
  v28 := Try.zeroValue28
  t46 := Try.underlying119
  a46 := Try.isAgg119
  z46 := Try.sizeOf119
  v46 := Try.zeroValue119
  t51 := Try.underlying155
  a51 := Try.isAgg155
  z51 := Try.sizeOf155
  v51 := Try.zeroValue155
  t53 := Try.underlying27
  a53 := Try.isAgg27
  z53 := Try.sizeOf27
  v53 := Try.zeroValue27
  t131 := Try.underlying152
  a131 := Try.isAgg152
  z131 := Try.sizeOf152
  v131 := Try.zeroValue152
  t182 := Try.underlying147
  a182 := Try.isAgg147
  z182 := Try.sizeOf147
  v182 := Try.zeroValue147
  t183 := Try.underlying148
  a183 := Try.isAgg148
  z183 := Try.sizeOf148
  v183 := Try.zeroValue148
  t218 := Try.underlying159
  a218 := Try.isAgg159
  z218 := Try.sizeOf159
  v218 := Try.zeroValue159
  t222 := Try.underlying163
  a222 := Try.isAgg163
  z222 := Try.sizeOf163
  v222 := Try.zeroValue163
  t228 := Try.underlying165
  a228 := Try.isAgg165
  z228 := Try.sizeOf165
  v228 := Try.zeroValue165
  t229 := Try.underlying166
  a229 := Try.isAgg166
  z229 := Try.sizeOf166
  v229 := Try.zeroValue166 }
def laysCompact_ren : Go.Shelf.Ren := ⟨fun | 20 => 85 | n => n, fun | 22 => 28 | 3 => 3 | 4 => 4 | 0 => 0 | n => n, fun | n => n⟩
theorem laysCompact : Go.Proofs.Lays2.n20 Try.prog laysCompact_ren := {
  mixed := by kernel_rfl
  f20 := Try.func85.trans (congrArg some (by kernel_rfl))
  t0 := Try.underlying0
  a0 := Try.isAgg0
  z0 := Try.sizeOf0
  v0 := Try.zeroValue0
  t3 := Try.underlying3
  a3 := Try.isAgg3
  z3 := Try.sizeOf3
  v3 := Try.zeroValue3
  t4 := Try.underlying4
  a4 := Try.isAgg4
  z4 := Try.sizeOf4
  v4 := Try.zeroValue4
  t22 := Try.underlying28
  a22 := Try.isAgg28
  z22 := Try.sizeOf28
  v22 := Try.zeroValue28
  i3 := by kernel_rfl }
end Go.Proofs.Ytgddfhnochcolaa

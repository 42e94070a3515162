/- Lemmas for the law: an abstract machine, and what the functions do on it. No condition. -/
import Derived.Test.YtdcbkjgoaknmkaaGreatFT10
import Derived.Shelf.Sort.Plain
import Derived.Shelf.Slices.In.SortNone
import Derived.Shelf.Slices.CompactI
import Derived.Test.YtdcbkjgoaknmkaaGreatProg
set_option linter.all false
set_option linter.all false
namespace Go.Proofs.YtdcbkjgoaknmkaaGreat
open Go Go.Shelf
def qhL : Go.Shelf.Ren := ⟨fun | 189 => 176 | 125 => 191 | 257 => 190 | 128 => 206 | 129 => 207 | 294 => 197 | 295 => 198 | 296 => 199 | 297 => 200 | 298 => 201 | 299 => 202 | 216 => 203 | 300 => 204 | 301 => 205 | 328 => 209 | 329 => 210 | 330 => 211 | 331 => 212 | 332 => 213 | 215 => 214 | 343 => 215 | n => n,fun | 28 => 24 | 3 => 3 | 46 => 165 | 0 => 0 | 51 => 234 | 53 => 26 | 4 => 4 | 183 => 228 | 182 => 227 | 131 => 187 | 5 => 5 | 9 => 9 | 218 => 237 | 222 => 241 | 228 => 243 | 229 => 174 | n => n,fun | n => n⟩
theorem laysSort : Go.Proofs.Lays.n189 Tryz.prog qhL := {
 mixed := by kernel_rfl
 f125 := Tryz.func191.trans (congrArg some (by kernel_rfl))
 f128 := Tryz.func206.trans (congrArg some (by kernel_rfl))
 f129 := Tryz.func207.trans (congrArg some (by kernel_rfl))
 f189 := Tryz.func176.trans (congrArg some (by kernel_rfl))
 f215 := Tryz.func214.trans (congrArg some (by kernel_rfl))
 f216 := Tryz.func203.trans (congrArg some (by kernel_rfl))
 f257 := Tryz.func190.trans (congrArg some (by kernel_rfl))
 f294 := Tryz.func197.trans (congrArg some (by kernel_rfl))
 f295 := Tryz.func198.trans (congrArg some (by kernel_rfl))
 f296 := Tryz.func199.trans (congrArg some (by kernel_rfl))
 f297 := Tryz.func200.trans (congrArg some (by kernel_rfl))
 f298 := Tryz.func201.trans (congrArg some (by kernel_rfl))
 f299 := Tryz.func202.trans (congrArg some (by kernel_rfl))
 f300 := Tryz.func204.trans (congrArg some (by kernel_rfl))
 f301 := Tryz.func205.trans (congrArg some (by kernel_rfl))
 f328 := Tryz.func209.trans (congrArg some (by kernel_rfl))
 f329 := Tryz.func210.trans (congrArg some (by kernel_rfl))
 f330 := Tryz.func211.trans (congrArg some (by kernel_rfl))
 f331 := Tryz.func212.trans (congrArg some (by kernel_rfl))
 f332 := Tryz.func213.trans (congrArg some (by kernel_rfl))
 f343 := Tryz.func215.trans (congrArg some (by kernel_rfl))
 t0 := Tryz.underlying0
 a0 := Tryz.isAgg0
 z0 := Tryz.sizeOf0
 v0 := Tryz.zeroValue0
 t3 := Tryz.underlying3
 a3 := Tryz.isAgg3
 z3 := Tryz.sizeOf3
 v3 := Tryz.zeroValue3
 t4 := Tryz.underlying4
 a4 := Tryz.isAgg4
 z4 := Tryz.sizeOf4
 v4 := Tryz.zeroValue4
 t5 := Tryz.underlying5
 a5 := Tryz.isAgg5
 z5 := Tryz.sizeOf5
 v5 := Tryz.zeroValue5
 t9 := Tryz.underlying9
 a9 := Tryz.isAgg9
 z9 := Tryz.sizeOf9
 v9 := Tryz.zeroValue9
 t28 := Tryz.underlying24
 a28 := Tryz.isAgg24
 z28 := Tryz.sizeOf24
 v28 := Tryz.zeroValue24
 t46 := Tryz.underlying165
 a46 := Tryz.isAgg165
 z46 := Tryz.sizeOf165
 v46 := Tryz.zeroValue165
 t51 := Tryz.underlying234
 a51 := Tryz.isAgg234
 z51 := Tryz.sizeOf234
 v51 := Tryz.zeroValue234
 t53 := Tryz.underlying26
 a53 := Tryz.isAgg26
 z53 := Tryz.sizeOf26
 v53 := Tryz.zeroValue26
 t131 := Tryz.underlying187
 a131 := Tryz.isAgg187
 z131 := Tryz.sizeOf187
 v131 := Tryz.zeroValue187
 t182 := Tryz.underlying227
 a182 := Tryz.isAgg227
 z182 := Tryz.sizeOf227
 v182 := Tryz.zeroValue227
 t183 := Tryz.underlying228
 a183 := Tryz.isAgg228
 z183 := Tryz.sizeOf228
 v183 := Tryz.zeroValue228
 t218 := Tryz.underlying237
 a218 := Tryz.isAgg237
 z218 := Tryz.sizeOf237
 v218 := Tryz.zeroValue237
 t222 := Tryz.underlying241
 a222 := Tryz.isAgg241
 z222 := Tryz.sizeOf241
 v222 := Tryz.zeroValue241
 t228 := Tryz.underlying243
 a228 := Tryz.isAgg243
 z228 := Tryz.sizeOf243
 v228 := Tryz.zeroValue243
 t229 := Tryz.underlying174
 a229 := Tryz.isAgg174
 z229 := Tryz.sizeOf174
 v229 := Tryz.zeroValue174 }
def qgA : Go.Shelf.Ren := ⟨fun | 20 => 177 | n => n,fun | 22 => 24 | 3 => 3 | 4 => 4 | 0 => 0 | n => n,fun | n => n⟩
theorem laysCompact : Go.Proofs.Lays2.n20 Tryz.prog qgA := {
 mixed := by kernel_rfl
 f20 := Tryz.func177.trans (congrArg some (by kernel_rfl))
 t0 := Tryz.underlying0
 a0 := Tryz.isAgg0
 z0 := Tryz.sizeOf0
 v0 := Tryz.zeroValue0
 t3 := Tryz.underlying3
 a3 := Tryz.isAgg3
 z3 := Tryz.sizeOf3
 v3 := Tryz.zeroValue3
 t4 := Tryz.underlying4
 a4 := Tryz.isAgg4
 z4 := Tryz.sizeOf4
 v4 := Tryz.zeroValue4
 t22 := Tryz.underlying24
 a22 := Tryz.isAgg24
 z22 := Tryz.sizeOf24
 v22 := Tryz.zeroValue24
 i3 := by kernel_rfl }
end Go.Proofs.YtdcbkjgoaknmkaaGreat

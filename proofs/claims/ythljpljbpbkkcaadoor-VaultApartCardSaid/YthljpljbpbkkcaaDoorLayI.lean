/-
  The library's contract on slices.Sort of numbers at this program: the tables of numbers, a field a fact of the program's own.
-/
import Derived.Shelf.Sort.Plain
import Derived.Test.YthljpljbpbkkcaaDoorProg
set_option maxRecDepth 100000
namespace Go.Proofs.YthljpljbpbkkcaaDoor
open Go.Shelf
def ly_sorti_ren : Go.Shelf.Ren := ⟨fun | 189 => 30 | 125 => 46 | 257 => 45 | 128 => 67 | 129 => 68 | 294 => 58 | 295 => 59 | 296 => 60 | 297 => 61 | 298 => 62 | 299 => 63 | 216 => 64 | 300 => 65 | 301 => 66 | 328 => 82 | 329 => 83 | 330 => 84 | 331 => 85 | 332 => 86 | 215 => 87 | 343 => 92 | n => n, fun | 28 => 41 | 3 => 3 | 46 => 87 | 0 => 0 | 51 => 97 | 53 => 86 | 4 => 4 | 183 => 107 | 182 => 106 | 131 => 112 | 5 => 5 | 9 => 9 | 218 => 125 | 222 => 129 | 228 => 135 | 229 => 136 | n => n, fun | n => n⟩
theorem ly_sorti : Go.Proofs.Lays.n189 Tryd.prog ly_sorti_ren := {
  mixed := by kernel_rfl
  f125 := Tryd.func46.trans (congrArg some (by kernel_rfl))
  f128 := Tryd.func67.trans (congrArg some (by kernel_rfl))
  f129 := Tryd.func68.trans (congrArg some (by kernel_rfl))
  f189 := Tryd.func30.trans (congrArg some (by kernel_rfl))
  f215 := Tryd.func87.trans (congrArg some (by kernel_rfl))
  f216 := Tryd.func64.trans (congrArg some (by kernel_rfl))
  f257 := Tryd.func45.trans (congrArg some (by kernel_rfl))
  f294 := Tryd.func58.trans (congrArg some (by kernel_rfl))
  f295 := Tryd.func59.trans (congrArg some (by kernel_rfl))
  f296 := Tryd.func60.trans (congrArg some (by kernel_rfl))
  f297 := Tryd.func61.trans (congrArg some (by kernel_rfl))
  f298 := Tryd.func62.trans (congrArg some (by kernel_rfl))
  f299 := Tryd.func63.trans (congrArg some (by kernel_rfl))
  f300 := Tryd.func65.trans (congrArg some (by kernel_rfl))
  f301 := Tryd.func66.trans (congrArg some (by kernel_rfl))
  f328 := Tryd.func82.trans (congrArg some (by kernel_rfl))
  f329 := Tryd.func83.trans (congrArg some (by kernel_rfl))
  f330 := Tryd.func84.trans (congrArg some (by kernel_rfl))
  f331 := Tryd.func85.trans (congrArg some (by kernel_rfl))
  f332 := Tryd.func86.trans (congrArg some (by kernel_rfl))
  f343 := Tryd.func92.trans (congrArg some (by kernel_rfl))
  t0 := Tryd.underlying0
  a0 := Tryd.isAgg0
  z0 := Tryd.sizeOf0
  v0 := Tryd.zeroValue0
  t3 := Tryd.underlying3
  a3 := Tryd.isAgg3
  z3 := Tryd.sizeOf3
  v3 := Tryd.zeroValue3
  t4 := Tryd.underlying4
  a4 := Tryd.isAgg4
  z4 := Tryd.sizeOf4
  v4 := Tryd.zeroValue4
  t5 := Tryd.underlying5
  a5 := Tryd.isAgg5
  z5 := Tryd.sizeOf5
  v5 := Tryd.zeroValue5
  t9 := Tryd.underlying9
  a9 := Tryd.isAgg9
  z9 := Tryd.sizeOf9
  v9 := Tryd.zeroValue9
  t28 := Tryd.underlying41
  a28 := Tryd.isAgg41
  z28 := Tryd.sizeOf41
  v28 := Tryd.zeroValue41
  t46 := Tryd.underlying87
  a46 := Tryd.isAgg87
  z46 := Tryd.sizeOf87
  v46 := Tryd.zeroValue87
  t51 := Tryd.underlying97
  a51 := Tryd.isAgg97
  z51 := Tryd.sizeOf97
  v51 := Tryd.zeroValue97
  t53 := Tryd.underlying86
  a53 := Tryd.isAgg86
  z53 := Tryd.sizeOf86
  v53 := Tryd.zeroValue86
  t131 := Tryd.underlying112
  a131 := Tryd.isAgg112
  z131 := Tryd.sizeOf112
  v131 := Tryd.zeroValue112
  t182 := Tryd.underlying106
  a182 := Tryd.isAgg106
  z182 := Tryd.sizeOf106
  v182 := Tryd.zeroValue106
  t183 := Tryd.underlying107
  a183 := Tryd.isAgg107
  z183 := Tryd.sizeOf107
  v183 := Tryd.zeroValue107
  t218 := Tryd.underlying125
  a218 := Tryd.isAgg125
  z218 := Tryd.sizeOf125
  v218 := Tryd.zeroValue125
  t222 := Tryd.underlying129
  a222 := Tryd.isAgg129
  z222 := Tryd.sizeOf129
  v222 := Tryd.zeroValue129
  t228 := Tryd.underlying135
  a228 := Tryd.isAgg135
  z228 := Tryd.sizeOf135
  v228 := Tryd.zeroValue135
  t229 := Tryd.underlying136
  a229 := Tryd.isAgg136
  z229 := Tryd.sizeOf136
  v229 := Tryd.zeroValue136 }
end Go.Proofs.YthljpljbpbkkcaaDoor

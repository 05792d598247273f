/- slices.Sort at []int, laid at this program (by the kit's tool); it asks nothing. -/
import Derived.Shelf.Lays
import Derived.Ground.NamesProg
import Derived.Test.YtipdohldogbmnaaDoorProg
set_option linter.unusedVariables false
set_option linter.unusedSimpArgs false
namespace Go.Proofs.YtipdohldogbmnaaDoor
open Go Go.Shelf Go.Proofs
def sortL_ren : Go.Shelf.Ren := ⟨fun | 189 => 27 | 125 => 44 | 257 => 43 | 128 => 60 | 129 => 61 | 294 => 51 | 295 => 52 | 296 => 53 | 297 => 54 | 298 => 55 | 299 => 56 | 216 => 57 | 300 => 58 | 301 => 59 | 328 => 64 | 329 => 65 | 330 => 66 | 331 => 67 | 332 => 68 | 215 => 69 | 343 => 70 | n => n, fun | 28 => 23 | 3 => 3 | 46 => 68 | 0 => 0 | 51 => 73 | 53 => 66 | 4 => 4 | 183 => 83 | 182 => 82 | 131 => 88 | 5 => 5 | 9 => 9 | 218 => 93 | 222 => 97 | 228 => 99 | 229 => 100 | n => n, fun | n => n⟩
theorem sortL : Go.Proofs.Lays.n189 Tryd.prog sortL_ren := {
  mixed := by kernel_rfl
  f125 := Tryd.func44.trans (congrArg some (by kernel_rfl))
  f128 := Tryd.func60.trans (congrArg some (by kernel_rfl))
  f129 := Tryd.func61.trans (congrArg some (by kernel_rfl))
  f189 := Tryd.func27.trans (congrArg some (by kernel_rfl))
  f215 := Tryd.func69.trans (congrArg some (by kernel_rfl))
  f216 := Tryd.func57.trans (congrArg some (by kernel_rfl))
  f257 := Tryd.func43.trans (congrArg some (by kernel_rfl))
  f294 := Tryd.func51.trans (congrArg some (by kernel_rfl))
  f295 := Tryd.func52.trans (congrArg some (by kernel_rfl))
  f296 := Tryd.func53.trans (congrArg some (by kernel_rfl))
  f297 := Tryd.func54.trans (congrArg some (by kernel_rfl))
  f298 := Tryd.func55.trans (congrArg some (by kernel_rfl))
  f299 := Tryd.func56.trans (congrArg some (by kernel_rfl))
  f300 := Tryd.func58.trans (congrArg some (by kernel_rfl))
  f301 := Tryd.func59.trans (congrArg some (by kernel_rfl))
  f328 := Tryd.func64.trans (congrArg some (by kernel_rfl))
  f329 := Tryd.func65.trans (congrArg some (by kernel_rfl))
  f330 := Tryd.func66.trans (congrArg some (by kernel_rfl))
  f331 := Tryd.func67.trans (congrArg some (by kernel_rfl))
  f332 := Tryd.func68.trans (congrArg some (by kernel_rfl))
  f343 := Tryd.func70.trans (congrArg some (by kernel_rfl))
  t0 := Tryd.underlying0
  a0 := Tryd.isAgg0
  z0 := Tryd.sizeOf0
  v0 := Tryd.zeroValue0
  t3 := Tryd.underlying3
  a3 := Tryd.isAgg3
  z3 := Tryd.sizeOf3
  v3 := Tryd.zeroValue3
  t4 := Tryd.underlying4
  a4 := Tryd.isAgg4
  z4 := Tryd.sizeOf4
  v4 := Tryd.zeroValue4
  t5 := Tryd.underlying5
  a5 := Tryd.isAgg5
  z5 := Tryd.sizeOf5
  v5 := Tryd.zeroValue5
  t9 := Tryd.underlying9
  a9 := Tryd.isAgg9
  z9 := Tryd.sizeOf9
  v9 := Tryd.zeroValue9
  t28 := Tryd.underlying23
  a28 := Tryd.isAgg23
  z28 := Tryd.sizeOf23
  v28 := Tryd.zeroValue23
  t46 := Tryd.underlying68
  a46 := Tryd.isAgg68
  z46 := Tryd.sizeOf68
  v46 := Tryd.zeroValue68
  t51 := Tryd.underlying73
  a51 := Tryd.isAgg73
  z51 := Tryd.sizeOf73
  v51 := Tryd.zeroValue73
  t53 := Tryd.underlying66
  a53 := Tryd.isAgg66
  z53 := Tryd.sizeOf66
  v53 := Tryd.zeroValue66
  t131 := Tryd.underlying88
  a131 := Tryd.isAgg88
  z131 := Tryd.sizeOf88
  v131 := Tryd.zeroValue88
  t182 := Tryd.underlying82
  a182 := Tryd.isAgg82
  z182 := Tryd.sizeOf82
  v182 := Tryd.zeroValue82
  t183 := Tryd.underlying83
  a183 := Tryd.isAgg83
  z183 := Tryd.sizeOf83
  v183 := Tryd.zeroValue83
  t218 := Tryd.underlying93
  a218 := Tryd.isAgg93
  z218 := Tryd.sizeOf93
  v218 := Tryd.zeroValue93
  t222 := Tryd.underlying97
  a222 := Tryd.isAgg97
  z222 := Tryd.sizeOf97
  v222 := Tryd.zeroValue97
  t228 := Tryd.underlying99
  a228 := Tryd.isAgg99
  z228 := Tryd.sizeOf99
  v228 := Tryd.zeroValue99
  t229 := Tryd.underlying100
  a229 := Tryd.isAgg100
  z229 := Tryd.sizeOf100
  v229 := Tryd.zeroValue100 }
end Go.Proofs.YtipdohldogbmnaaDoor

/- The library contracts of slices.Sorted and slices.Sort at this program, in plain words (written by the kit's lay-plain). -/
import Derived.Shelf.SlIterI.Sorted
import Derived.Shelf.SortM.Plain
import Derived.Shelf.SortM.SortNone
import Derived.Ground.GgzProg
import Derived.Ground.SlgmProg
import Derived.Test.YtecjccggbbbaaaaGreatProg
set_option linter.unusedVariables false
set_option linter.unusedSimpArgs false
namespace Go.Proofs
open Go.Shelf
def Tryz.sorted_ren : Go.Shelf.Ren := ⟨fun | 6 => 167 | 8 => 191 | 9 => 192 | 11 => 213 | 13 => 215 | 12 => 214 | 23 => 246 | 24 => 247 | 14 => 237 | 15 => 238 | 16 => 239 | 17 => 240 | 18 => 241 | 19 => 242 | 20 => 243 | 21 => 244 | 22 => 245 | 25 => 248 | 26 => 249 | 27 => 250 | 28 => 251 | 29 => 252 | 30 => 253 | 31 => 254 | n => n, fun | 26 => 3 | 28 => 216 | 24 => 24 | 0 => 0 | 3 => 3 | 37 => 155 | 48 => 248 | 50 => 22 | 4 => 4 | 40 => 258 | 39 => 257 | 45 => 190 | 5 => 5 | 9 => 9 | 51 => 264 | 55 => 268 | 57 => 270 | 58 => 160 | 33 => 98 | n => n, fun | n => n⟩
theorem Tryz.sorted : Go.Proofs.SlLaysZI.n6 Tryz.prog Tryz.sorted_ren := {
  mixed := by kernel_rfl
  f6 := ⟨Tryz.f167.name, by decide, Tryz.func167.trans (congrArg some (by kernel_rfl))⟩
  f8 := ⟨Tryz.f191.name, by decide, Tryz.func191.trans (congrArg some (by kernel_rfl))⟩
  f11 := ⟨Tryz.f213.name, by decide, Tryz.func213.trans (congrArg some (by kernel_rfl))⟩
  t0 := Tryz.underlying0
  a0 := Tryz.isAgg0
  z0 := Tryz.sizeOf0
  v0 := Tryz.zeroValue0
  t24 := Tryz.underlying24
  a24 := Tryz.isAgg24
  z24 := Tryz.sizeOf24
  v24 := Tryz.zeroValue24
  t26 := Tryz.underlying3
  a26 := Tryz.isAgg3
  z26 := Tryz.sizeOf3
  v26 := Tryz.zeroValue3
  t28 := Tryz.underlying216
  a28 := Tryz.isAgg216
  z28 := Tryz.sizeOf216
  v28 := Tryz.zeroValue216
  i26 := by kernel_rfl }
def Tryz.sort_ren : Go.Shelf.Ren := ⟨fun | 5 => 192 | 8 => 215 | 7 => 214 | 19 => 246 | 20 => 247 | 10 => 237 | 11 => 238 | 12 => 239 | 13 => 240 | 14 => 241 | 15 => 242 | 16 => 243 | 17 => 244 | 18 => 245 | 30 => 248 | 31 => 249 | 32 => 250 | 33 => 251 | 34 => 252 | 35 => 253 | 40 => 254 | n => n, fun | 23 => 24 | 25 => 3 | 3 => 3 | 32 => 155 | 22 => 24 | 0 => 0 | 44 => 248 | 46 => 22 | 4 => 4 | 36 => 258 | 35 => 257 | 41 => 190 | 5 => 5 | 9 => 9 | 53 => 264 | 57 => 268 | 63 => 270 | 64 => 160 | n => n, fun | n => n⟩
theorem Tryz.sort : Go.Proofs.SlLaysM.n5 Tryz.prog Tryz.sort_ren := {
  mixed := by kernel_rfl
  f5 := ⟨Tryz.f192.name, by decide, Tryz.func192.trans (congrArg some (by kernel_rfl))⟩
  f7 := ⟨Tryz.f214.name, by decide, Tryz.func214.trans (congrArg some (by kernel_rfl))⟩
  f8 := Tryz.func215.trans (congrArg some (by kernel_rfl))
  f10 := ⟨Tryz.f237.name, by decide, Tryz.func237.trans (congrArg some (by kernel_rfl))⟩
  f11 := ⟨Tryz.f238.name, by decide, Tryz.func238.trans (congrArg some (by kernel_rfl))⟩
  f12 := ⟨Tryz.f239.name, by decide, Tryz.func239.trans (congrArg some (by kernel_rfl))⟩
  f13 := ⟨Tryz.f240.name, by decide, Tryz.func240.trans (congrArg some (by kernel_rfl))⟩
  f14 := ⟨Tryz.f241.name, by decide, Tryz.func241.trans (congrArg some (by kernel_rfl))⟩
  f15 := ⟨Tryz.f242.name, by decide, Tryz.func242.trans (congrArg some (by kernel_rfl))⟩
  f16 := ⟨Tryz.f243.name, by decide, Tryz.func243.trans (congrArg some (by kernel_rfl))⟩
  f17 := ⟨Tryz.f244.name, by decide, Tryz.func244.trans (congrArg some (by kernel_rfl))⟩
  f18 := ⟨Tryz.f245.name, by decide, Tryz.func245.trans (congrArg some (by kernel_rfl))⟩
  f19 := Tryz.func246.trans (congrArg some (by kernel_rfl))
  f20 := Tryz.func247.trans (congrArg some (by kernel_rfl))
  f30 := ⟨Tryz.f248.name, by decide, Tryz.func248.trans (congrArg some (by kernel_rfl))⟩
  f31 := Tryz.func249.trans (congrArg some (by kernel_rfl))
  f32 := Tryz.func250.trans (congrArg some (by kernel_rfl))
  f33 := ⟨Tryz.f251.name, by decide, Tryz.func251.trans (congrArg some (by kernel_rfl))⟩
  f34 := ⟨Tryz.f252.name, by decide, Tryz.func252.trans (congrArg some (by kernel_rfl))⟩
  f35 := ⟨Tryz.f253.name, by decide, Tryz.func253.trans (congrArg some (by kernel_rfl))⟩
  f40 := ⟨Tryz.f254.name, by decide, Tryz.func254.trans (congrArg some (by kernel_rfl))⟩
  t0 := Tryz.underlying0
  a0 := Tryz.isAgg0
  z0 := Tryz.sizeOf0
  v0 := Tryz.zeroValue0
  t3 := Tryz.underlying3
  a3 := Tryz.isAgg3
  z3 := Tryz.sizeOf3
  v3 := Tryz.zeroValue3
  t4 := Tryz.underlying4
  a4 := Tryz.isAgg4
  z4 := Tryz.sizeOf4
  v4 := Tryz.zeroValue4
  t5 := Tryz.underlying5
  a5 := Tryz.isAgg5
  z5 := Tryz.sizeOf5
  v5 := Tryz.zeroValue5
  t9 := Tryz.underlying9
  a9 := Tryz.isAgg9
  z9 := Tryz.sizeOf9
  v9 := Tryz.zeroValue9
  t22 := Tryz.underlying24
  a22 := Tryz.isAgg24
  z22 := Tryz.sizeOf24
  v22 := Tryz.zeroValue24
  t23 := Tryz.underlying24
  a23 := Tryz.isAgg24
  z23 := Tryz.sizeOf24
  v23 := Tryz.zeroValue24
  t25 := Tryz.underlying3
  a25 := Tryz.isAgg3
  z25 := Tryz.sizeOf3
  v25 := Tryz.zeroValue3
  t32 := Tryz.underlying155
  a32 := Tryz.isAgg155
  z32 := Tryz.sizeOf155
  v32 := Tryz.zeroValue155
  t35 := Tryz.underlying257
  a35 := Tryz.isAgg257
  z35 := Tryz.sizeOf257
  v35 := Tryz.zeroValue257
  t36 := Tryz.underlying258
  a36 := Tryz.isAgg258
  z36 := Tryz.sizeOf258
  v36 := Tryz.zeroValue258
  t41 := Tryz.underlying190
  a41 := Tryz.isAgg190
  z41 := Tryz.sizeOf190
  v41 := Tryz.zeroValue190
  t44 := Tryz.underlying248
  a44 := Tryz.isAgg248
  z44 := Tryz.sizeOf248
  v44 := Tryz.zeroValue248
  t46 := Tryz.underlying22
  a46 := Tryz.isAgg22
  z46 := Tryz.sizeOf22
  v46 := Tryz.zeroValue22
  t53 := Tryz.underlying264
  a53 := Tryz.isAgg264
  z53 := Tryz.sizeOf264
  v53 := Tryz.zeroValue264
  t57 := Tryz.underlying268
  a57 := Tryz.isAgg268
  z57 := Tryz.sizeOf268
  v57 := Tryz.zeroValue268
  t63 := Tryz.underlying270
  a63 := Tryz.isAgg270
  z63 := Tryz.sizeOf270
  v63 := Tryz.zeroValue270
  t64 := Tryz.underlying160
  a64 := Tryz.isAgg160
  z64 := Tryz.sizeOf160
  v64 := Tryz.zeroValue160 }
end Go.Proofs

/- The library contracts of slices.Sorted and slices.Sort at this program, in plain words (written by the kit's lay-plain). -/
import Derived.Shelf.SlIterI.Sorted
import Derived.Shelf.SortM.Plain
import Derived.Shelf.SortM.SortNone
import Derived.Ground.GgzProg
import Derived.Ground.SlgmProg
import Derived.Test.YtafckkajjloleaaGreatProg
set_option linter.unusedVariables false
set_option linter.unusedSimpArgs false
namespace Go.Proofs
open Go.Shelf
def Tryz.sorted_ren : Go.Shelf.Ren := ⟨fun | 6 => 154 | 8 => 168 | 9 => 73 | 11 => 185 | 13 => 95 | 12 => 94 | 23 => 117 | 24 => 118 | 14 => 108 | 15 => 109 | 16 => 110 | 17 => 111 | 18 => 112 | 19 => 113 | 20 => 114 | 21 => 115 | 22 => 116 | 25 => 143 | 26 => 144 | 27 => 145 | 28 => 146 | 29 => 147 | 30 => 148 | 31 => 167 | n => n, fun | 26 => 3 | 28 => 196 | 24 => 22 | 0 => 0 | 3 => 3 | 37 => 70 | 48 => 171 | 50 => 49 | 4 => 4 | 40 => 165 | 39 => 164 | 45 => 119 | 5 => 5 | 9 => 9 | 51 => 185 | 55 => 189 | 57 => 202 | 58 => 127 | 33 => 48 | n => n, fun | n => n⟩
theorem Tryz.sorted : Go.Proofs.SlLaysZI.n6 Tryz.prog Tryz.sorted_ren := {
  mixed := by kernel_rfl
  f6 := ⟨Tryz.f154.name, by decide, Tryz.func154.trans (congrArg some (by kernel_rfl))⟩
  f8 := ⟨Tryz.f168.name, by decide, Tryz.func168.trans (congrArg some (by kernel_rfl))⟩
  f11 := ⟨Tryz.f185.name, by decide, Tryz.func185.trans (congrArg some (by kernel_rfl))⟩
  t0 := Tryz.underlying0
  a0 := Tryz.isAgg0
  z0 := Tryz.sizeOf0
  v0 := Tryz.zeroValue0
  t24 := Tryz.underlying22
  a24 := Tryz.isAgg22
  z24 := Tryz.sizeOf22
  v24 := Tryz.zeroValue22
  t26 := Tryz.underlying3
  a26 := Tryz.isAgg3
  z26 := Tryz.sizeOf3
  v26 := Tryz.zeroValue3
  t28 := Tryz.underlying196
  a28 := Tryz.isAgg196
  z28 := Tryz.sizeOf196
  v28 := Tryz.zeroValue196
  i26 := by kernel_rfl }
def Tryz.sort_ren : Go.Shelf.Ren := ⟨fun | 5 => 73 | 8 => 95 | 7 => 94 | 19 => 117 | 20 => 118 | 10 => 108 | 11 => 109 | 12 => 110 | 13 => 111 | 14 => 112 | 15 => 113 | 16 => 114 | 17 => 115 | 18 => 116 | 30 => 143 | 31 => 144 | 32 => 145 | 33 => 146 | 34 => 147 | 35 => 148 | 40 => 167 | n => n, fun | 23 => 22 | 25 => 3 | 3 => 3 | 32 => 70 | 22 => 22 | 0 => 0 | 44 => 171 | 46 => 49 | 4 => 4 | 36 => 165 | 35 => 164 | 41 => 119 | 5 => 5 | 9 => 9 | 53 => 185 | 57 => 189 | 63 => 202 | 64 => 127 | n => n, fun | n => n⟩
theorem Tryz.sort : Go.Proofs.SlLaysM.n5 Tryz.prog Tryz.sort_ren := {
  mixed := by kernel_rfl
  f5 := ⟨Tryz.f73.name, by decide, Tryz.func73.trans (congrArg some (by kernel_rfl))⟩
  f7 := ⟨Tryz.f94.name, by decide, Tryz.func94.trans (congrArg some (by kernel_rfl))⟩
  f8 := Tryz.func95.trans (congrArg some (by kernel_rfl))
  f10 := ⟨Tryz.f108.name, by decide, Tryz.func108.trans (congrArg some (by kernel_rfl))⟩
  f11 := ⟨Tryz.f109.name, by decide, Tryz.func109.trans (congrArg some (by kernel_rfl))⟩
  f12 := ⟨Tryz.f110.name, by decide, Tryz.func110.trans (congrArg some (by kernel_rfl))⟩
  f13 := ⟨Tryz.f111.name, by decide, Tryz.func111.trans (congrArg some (by kernel_rfl))⟩
  f14 := ⟨Tryz.f112.name, by decide, Tryz.func112.trans (congrArg some (by kernel_rfl))⟩
  f15 := ⟨Tryz.f113.name, by decide, Tryz.func113.trans (congrArg some (by kernel_rfl))⟩
  f16 := ⟨Tryz.f114.name, by decide, Tryz.func114.trans (congrArg some (by kernel_rfl))⟩
  f17 := ⟨Tryz.f115.name, by decide, Tryz.func115.trans (congrArg some (by kernel_rfl))⟩
  f18 := ⟨Tryz.f116.name, by decide, Tryz.func116.trans (congrArg some (by kernel_rfl))⟩
  f19 := Tryz.func117.trans (congrArg some (by kernel_rfl))
  f20 := Tryz.func118.trans (congrArg some (by kernel_rfl))
  f30 := ⟨Tryz.f143.name, by decide, Tryz.func143.trans (congrArg some (by kernel_rfl))⟩
  f31 := Tryz.func144.trans (congrArg some (by kernel_rfl))
  f32 := Tryz.func145.trans (congrArg some (by kernel_rfl))
  f33 := ⟨Tryz.f146.name, by decide, Tryz.func146.trans (congrArg some (by kernel_rfl))⟩
  f34 := ⟨Tryz.f147.name, by decide, Tryz.func147.trans (congrArg some (by kernel_rfl))⟩
  f35 := ⟨Tryz.f148.name, by decide, Tryz.func148.trans (congrArg some (by kernel_rfl))⟩
  f40 := ⟨Tryz.f167.name, by decide, Tryz.func167.trans (congrArg some (by kernel_rfl))⟩
  t0 := Tryz.underlying0
  a0 := Tryz.isAgg0
  z0 := Tryz.sizeOf0
  v0 := Tryz.zeroValue0
  t3 := Tryz.underlying3
  a3 := Tryz.isAgg3
  z3 := Tryz.sizeOf3
  v3 := Tryz.zeroValue3
  t4 := Tryz.underlying4
  a4 := Tryz.isAgg4
  z4 := Tryz.sizeOf4
  v4 := Tryz.zeroValue4
  t5 := Tryz.underlying5
  a5 := Tryz.isAgg5
  z5 := Tryz.sizeOf5
  v5 := Tryz.zeroValue5
  t9 := Tryz.underlying9
  a9 := Tryz.isAgg9
  z9 := Tryz.sizeOf9
  v9 := Tryz.zeroValue9
  t22 := Tryz.underlying22
  a22 := Tryz.isAgg22
  z22 := Tryz.sizeOf22
  v22 := Tryz.zeroValue22
  t23 := Tryz.underlying22
  a23 := Tryz.isAgg22
  z23 := Tryz.sizeOf22
  v23 := Tryz.zeroValue22
  t25 := Tryz.underlying3
  a25 := Tryz.isAgg3
  z25 := Tryz.sizeOf3
  v25 := Tryz.zeroValue3
  t32 := Tryz.underlying70
  a32 := Tryz.isAgg70
  z32 := Tryz.sizeOf70
  v32 := Tryz.zeroValue70
  t35 := Tryz.underlying164
  a35 := Tryz.isAgg164
  z35 := Tryz.sizeOf164
  v35 := Tryz.zeroValue164
  t36 := Tryz.underlying165
  a36 := Tryz.isAgg165
  z36 := Tryz.sizeOf165
  v36 := Tryz.zeroValue165
  t41 := Tryz.underlying119
  a41 := Tryz.isAgg119
  z41 := Tryz.sizeOf119
  v41 := Tryz.zeroValue119
  t44 := Tryz.underlying171
  a44 := Tryz.isAgg171
  z44 := Tryz.sizeOf171
  v44 := Tryz.zeroValue171
  t46 := Tryz.underlying49
  a46 := Tryz.isAgg49
  z46 := Tryz.sizeOf49
  v46 := Tryz.zeroValue49
  t53 := Tryz.underlying185
  a53 := Tryz.isAgg185
  z53 := Tryz.sizeOf185
  v53 := Tryz.zeroValue185
  t57 := Tryz.underlying189
  a57 := Tryz.isAgg189
  z57 := Tryz.sizeOf189
  v57 := Tryz.zeroValue189
  t63 := Tryz.underlying202
  a63 := Tryz.isAgg202
  z63 := Tryz.sizeOf202
  v63 := Tryz.zeroValue202
  t64 := Tryz.underlying127
  a64 := Tryz.isAgg127
  z64 := Tryz.sizeOf127
  v64 := Tryz.zeroValue127 }
end Go.Proofs

/- The library contract of slices.Compact at this program, in plain words (the facts as the kit's shelf_lay_g finds them). -/
import Derived.Shelf.SlicesG.CompactI
import Derived.Test.YtecjccggbbbaaaaGreatProg
set_option linter.unusedVariables false
set_option linter.unusedSimpArgs false
namespace Go.Proofs
open Go.Shelf
def Tryz.compact_ren : Go.Shelf.Ren := ⟨fun | 43 => 166 | n => n, fun | 22 => 24 | 23 => 3 | 3 => 3 | 4 => 4 | 0 => 0 | n => n, fun n => n⟩
theorem Tryz.compact : Go.Proofs.SlLaysN.n43 Tryz.prog Tryz.compact_ren := {
  mixed := by kernel_rfl
  f43 := ⟨Tryz.f166.name, by decide, Tryz.func166.trans (congrArg some (by kernel_rfl))⟩
  t0 := Tryz.underlying0
  a0 := Tryz.isAgg0
  z0 := Tryz.sizeOf0
  v0 := Tryz.zeroValue0
  t3 := Tryz.underlying3
  a3 := Tryz.isAgg3
  z3 := Tryz.sizeOf3
  v3 := Tryz.zeroValue3
  t4 := Tryz.underlying4
  a4 := Tryz.isAgg4
  z4 := Tryz.sizeOf4
  v4 := Tryz.zeroValue4
  t22 := Tryz.underlying24
  a22 := Tryz.isAgg24
  z22 := Tryz.sizeOf24
  v22 := Tryz.zeroValue24
  t23 := Tryz.underlying3
  a23 := Tryz.isAgg3
  z23 := Tryz.sizeOf3
  v23 := Tryz.zeroValue3
  i23 := by kernel_rfl }
end Go.Proofs

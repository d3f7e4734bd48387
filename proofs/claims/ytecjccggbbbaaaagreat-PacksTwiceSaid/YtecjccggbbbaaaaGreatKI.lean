import Derived.Test.YtecjccggbbbaaaaGreatKA
set_option linter.unusedVariables false
set_option linter.unusedSimpArgs false
set_option linter.unusedSectionVars false
namespace AC
open Go Go.A
set_option maxRecDepth 1000000
theorem rt_0 : callW T' (execN T' 20000) F.packs_right (rtA 0) [] = some (vbool true, []) := by kernel_rfl
theorem sh_0 : callW T' (execN T' 20000) F.check_Shapes (shA 0) [] = some (shR 0) := by kernel_rfl
theorem rt_1 : callW T' (execN T' 20000) F.packs_right (rtA 1) [] = some (vbool true, []) := by kernel_rfl
theorem sh_1 : callW T' (execN T' 20000) F.check_Shapes (shA 1) [] = some (shR 1) := by kernel_rfl
theorem rt_2 : callW T' (execN T' 20000) F.packs_right (rtA 2) [] = some (vbool true, []) := by kernel_rfl
theorem sh_2 : callW T' (execN T' 20000) F.check_Shapes (shA 2) [] = some (shR 2) := by kernel_rfl
theorem rt_3 : callW T' (execN T' 20000) F.packs_right (rtA 3) [] = some (vbool true, []) := by kernel_rfl
theorem sh_3 : callW T' (execN T' 20000) F.check_Shapes (shA 3) [] = some (shR 3) := by kernel_rfl
theorem rt_4 : callW T' (execN T' 20000) F.packs_right (rtA 4) [] = some (vbool true, []) := by kernel_rfl
theorem sh_4 : callW T' (execN T' 20000) F.check_Shapes (shA 4) [] = some (shR 4) := by kernel_rfl
theorem rt_5 : callW T' (execN T' 20000) F.packs_right (rtA 5) [] = some (vbool true, []) := by kernel_rfl
theorem sh_5 : callW T' (execN T' 20000) F.check_Shapes (shA 5) [] = some (shR 5) := by kernel_rfl
end AC

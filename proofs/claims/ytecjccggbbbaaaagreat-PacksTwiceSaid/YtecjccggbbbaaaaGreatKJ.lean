import Derived.Test.YtecjccggbbbaaaaGreatKA
set_option linter.unusedVariables false
set_option linter.unusedSimpArgs false
set_option linter.unusedSectionVars false
namespace AC
open Go Go.A
set_option maxRecDepth 1000000
theorem rt_6 : callW T' (execN T' 20000) F.packs_right (rtA 6) [] = some (vbool true, []) := by kernel_rfl
theorem sh_6 : callW T' (execN T' 20000) F.check_Shapes (shA 6) [] = some (shR 6) := by kernel_rfl
theorem rt_7 : callW T' (execN T' 20000) F.packs_right (rtA 7) [] = some (vbool true, []) := by kernel_rfl
theorem sh_7 : callW T' (execN T' 20000) F.check_Shapes (shA 7) [] = some (shR 7) := by kernel_rfl
theorem rt_8 : callW T' (execN T' 20000) F.packs_right (rtA 8) [] = some (vbool true, []) := by kernel_rfl
theorem sh_8 : callW T' (execN T' 20000) F.check_Shapes (shA 8) [] = some (shR 8) := by kernel_rfl
end AC

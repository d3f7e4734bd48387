import Derived.Test.YtecjccggbbbaaaaGreatKA
set_option linter.unusedVariables false
set_option linter.unusedSimpArgs false
set_option linter.unusedSectionVars false
namespace AC
open Go Go.A
set_option maxRecDepth 1000000
theorem rt_9 : callW T' (execN T' 20000) F.packs_right (rtA 9) [] = some (vbool true, []) := by kernel_rfl
theorem sh_9 : callW T' (execN T' 20000) F.check_Shapes (shA 9) [] = some (shR 9) := by kernel_rfl
theorem rt_10 : callW T' (execN T' 20000) F.packs_right (rtA 10) [] = some (vbool true, []) := by kernel_rfl
theorem sh_10 : callW T' (execN T' 20000) F.check_Shapes (shA 10) [] = some (shR 10) := by kernel_rfl
end AC

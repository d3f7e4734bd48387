import Derived.Test.YtecjccggbbbaaaaGreatKA
set_option linter.unusedVariables false
set_option linter.unusedSimpArgs false
set_option linter.unusedSectionVars false
namespace AC
open Go Go.A
set_option maxRecDepth 1000000
theorem rt_11 : callW T' (execN T' 20000) F.packs_right (rtA 11) [] = some (vbool true, []) := by kernel_rfl
theorem sh_11 : callW T' (execN T' 20000) F.check_Shapes (shA 11) [] = some (shR 11) := by kernel_rfl
end AC

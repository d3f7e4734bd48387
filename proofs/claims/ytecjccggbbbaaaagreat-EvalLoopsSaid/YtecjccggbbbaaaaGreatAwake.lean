/- The first question of the eval laws, answered by the kernel. -/
import Derived.Test.YtecjccggbbbaaaaGreatTable
import Derived.KernelRfl
set_option linter.unusedVariables false
set_option linter.unusedSimpArgs false
namespace AC
open Go Go.A
set_option maxRecDepth 100000
theorem awake13_run : callW T (execN T 20000) F.locksteplaw13_awake [] [] = some (vbool true, []) := by kernel_rfl
theorem awake13 : call T F.locksteplaw13_awake [] [] = some (vbool true, []) := callN_call T 20000 _ _ _ _ awake13_run
end AC

/- The first question, answered by the kernel. -/
import Derived.Test.YtafckkajjloleaaGreatTable
import Derived.KernelRfl
set_option linter.unusedVariables false
set_option linter.unusedSimpArgs false
namespace AC
open Go Go.A
set_option maxRecDepth 100000
theorem awake17_run : callW T (execN T 20000) F.locksteplaw17_awake [] [] = some (vbool true, []) := by kernel_rfl
theorem awake17 : call T F.locksteplaw17_awake [] [] = some (vbool true, []) := callN_call T 20000 _ _ _ _ awake17_run
end AC

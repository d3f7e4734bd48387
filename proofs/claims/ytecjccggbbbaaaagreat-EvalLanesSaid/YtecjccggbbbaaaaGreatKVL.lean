import Derived.Test.YtecjccggbbbaaaaGreatKC
set_option linter.unusedVariables false
set_option linter.unusedSimpArgs false
namespace AC
open Go Go.A
set_option maxRecDepth 1000000
theorem ln_8_32_0 (n s0 s1 : Int) (v : Vals) : lanesR n s0 s1 v 8 32 0 = some (lval (lanesR n s0 s1 v 8 32 0), lval (lanesR n s0 s1 v 8 32 0)) := by kernel_rfl
theorem ln_8_32_1 (n s0 s1 : Int) (v : Vals) : lanesR n s0 s1 v 8 32 1 = some (lval (lanesR n s0 s1 v 8 32 1), lval (lanesR n s0 s1 v 8 32 1)) := by kernel_rfl
theorem ln_8_32_2 (n s0 s1 : Int) (v : Vals) : lanesR n s0 s1 v 8 32 2 = some (lval (lanesR n s0 s1 v 8 32 2), lval (lanesR n s0 s1 v 8 32 2)) := by kernel_rfl
theorem ln_8_32_3 (n s0 s1 : Int) (v : Vals) : lanesR n s0 s1 v 8 32 3 = some (lval (lanesR n s0 s1 v 8 32 3), lval (lanesR n s0 s1 v 8 32 3)) := by kernel_rfl
theorem ln_9_32_0 (n s0 s1 : Int) (v : Vals) : lanesR n s0 s1 v 9 32 0 = some (lval (lanesR n s0 s1 v 9 32 0), lval (lanesR n s0 s1 v 9 32 0)) := by kernel_rfl
theorem ln_9_32_1 (n s0 s1 : Int) (v : Vals) : lanesR n s0 s1 v 9 32 1 = some (lval (lanesR n s0 s1 v 9 32 1), lval (lanesR n s0 s1 v 9 32 1)) := by kernel_rfl
theorem ln_9_32_2 (n s0 s1 : Int) (v : Vals) : lanesR n s0 s1 v 9 32 2 = some (lval (lanesR n s0 s1 v 9 32 2), lval (lanesR n s0 s1 v 9 32 2)) := by kernel_rfl
theorem ln_9_32_3 (n s0 s1 : Int) (v : Vals) : lanesR n s0 s1 v 9 32 3 = some (lval (lanesR n s0 s1 v 9 32 3), lval (lanesR n s0 s1 v 9 32 3)) := by kernel_rfl
end AC

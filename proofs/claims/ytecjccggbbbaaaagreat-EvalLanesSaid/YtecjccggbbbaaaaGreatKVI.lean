import Derived.Test.YtecjccggbbbaaaaGreatKC
set_option linter.unusedVariables false
set_option linter.unusedSimpArgs false
namespace AC
open Go Go.A
set_option maxRecDepth 1000000
theorem ln_1_32_0 (n s0 s1 : Int) (v : Vals) : lanesR n s0 s1 v 1 32 0 = some (lval (lanesR n s0 s1 v 1 32 0), lval (lanesR n s0 s1 v 1 32 0)) := by kernel_rfl
theorem ln_1_32_1 (n s0 s1 : Int) (v : Vals) : lanesR n s0 s1 v 1 32 1 = some (lval (lanesR n s0 s1 v 1 32 1), lval (lanesR n s0 s1 v 1 32 1)) := by kernel_rfl
theorem ln_1_32_2 (n s0 s1 : Int) (v : Vals) : lanesR n s0 s1 v 1 32 2 = some (lval (lanesR n s0 s1 v 1 32 2), lval (lanesR n s0 s1 v 1 32 2)) := by kernel_rfl
theorem ln_1_32_3 (n s0 s1 : Int) (v : Vals) : lanesR n s0 s1 v 1 32 3 = some (lval (lanesR n s0 s1 v 1 32 3), lval (lanesR n s0 s1 v 1 32 3)) := by kernel_rfl
theorem ln_2_32_0 (n s0 s1 : Int) (v : Vals) : lanesR n s0 s1 v 2 32 0 = some (lval (lanesR n s0 s1 v 2 32 0), lval (lanesR n s0 s1 v 2 32 0)) := by kernel_rfl
theorem ln_2_32_1 (n s0 s1 : Int) (v : Vals) : lanesR n s0 s1 v 2 32 1 = some (lval (lanesR n s0 s1 v 2 32 1), lval (lanesR n s0 s1 v 2 32 1)) := by kernel_rfl
theorem ln_2_32_2 (n s0 s1 : Int) (v : Vals) : lanesR n s0 s1 v 2 32 2 = some (lval (lanesR n s0 s1 v 2 32 2), lval (lanesR n s0 s1 v 2 32 2)) := by kernel_rfl
theorem ln_2_32_3 (n s0 s1 : Int) (v : Vals) : lanesR n s0 s1 v 2 32 3 = some (lval (lanesR n s0 s1 v 2 32 3), lval (lanesR n s0 s1 v 2 32 3)) := by kernel_rfl
end AC

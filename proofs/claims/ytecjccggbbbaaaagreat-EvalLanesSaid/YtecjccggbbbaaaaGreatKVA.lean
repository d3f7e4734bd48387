import Derived.Test.YtecjccggbbbaaaaGreatKC
set_option linter.unusedVariables false
set_option linter.unusedSimpArgs false
namespace AC
open Go Go.A
set_option maxRecDepth 1000000
theorem ln_1_8_0 (n s0 s1 : Int) (v : Vals) : lanesR n s0 s1 v 1 8 0 = some (lval (lanesR n s0 s1 v 1 8 0), lval (lanesR n s0 s1 v 1 8 0)) := by kernel_rfl
theorem ln_1_8_1 (n s0 s1 : Int) (v : Vals) : lanesR n s0 s1 v 1 8 1 = some (lval (lanesR n s0 s1 v 1 8 1), lval (lanesR n s0 s1 v 1 8 1)) := by kernel_rfl
theorem ln_1_8_2 (n s0 s1 : Int) (v : Vals) : lanesR n s0 s1 v 1 8 2 = some (lval (lanesR n s0 s1 v 1 8 2), lval (lanesR n s0 s1 v 1 8 2)) := by kernel_rfl
theorem ln_1_8_3 (n s0 s1 : Int) (v : Vals) : lanesR n s0 s1 v 1 8 3 = some (lval (lanesR n s0 s1 v 1 8 3), lval (lanesR n s0 s1 v 1 8 3)) := by kernel_rfl
theorem ln_2_8_0 (n s0 s1 : Int) (v : Vals) : lanesR n s0 s1 v 2 8 0 = some (lval (lanesR n s0 s1 v 2 8 0), lval (lanesR n s0 s1 v 2 8 0)) := by kernel_rfl
theorem ln_2_8_1 (n s0 s1 : Int) (v : Vals) : lanesR n s0 s1 v 2 8 1 = some (lval (lanesR n s0 s1 v 2 8 1), lval (lanesR n s0 s1 v 2 8 1)) := by kernel_rfl
theorem ln_2_8_2 (n s0 s1 : Int) (v : Vals) : lanesR n s0 s1 v 2 8 2 = some (lval (lanesR n s0 s1 v 2 8 2), lval (lanesR n s0 s1 v 2 8 2)) := by kernel_rfl
theorem ln_2_8_3 (n s0 s1 : Int) (v : Vals) : lanesR n s0 s1 v 2 8 3 = some (lval (lanesR n s0 s1 v 2 8 3), lval (lanesR n s0 s1 v 2 8 3)) := by kernel_rfl
end AC

import Derived.Test.YtecjccggbbbaaaaGreatKC
set_option linter.unusedVariables false
set_option linter.unusedSimpArgs false
namespace AC
open Go Go.A
set_option maxRecDepth 1000000
theorem ln_8_8_0 (n s0 s1 : Int) (v : Vals) : lanesR n s0 s1 v 8 8 0 = some (lval (lanesR n s0 s1 v 8 8 0), lval (lanesR n s0 s1 v 8 8 0)) := by kernel_rfl
theorem ln_8_8_1 (n s0 s1 : Int) (v : Vals) : lanesR n s0 s1 v 8 8 1 = some (lval (lanesR n s0 s1 v 8 8 1), lval (lanesR n s0 s1 v 8 8 1)) := by kernel_rfl
theorem ln_8_8_2 (n s0 s1 : Int) (v : Vals) : lanesR n s0 s1 v 8 8 2 = some (lval (lanesR n s0 s1 v 8 8 2), lval (lanesR n s0 s1 v 8 8 2)) := by kernel_rfl
theorem ln_8_8_3 (n s0 s1 : Int) (v : Vals) : lanesR n s0 s1 v 8 8 3 = some (lval (lanesR n s0 s1 v 8 8 3), lval (lanesR n s0 s1 v 8 8 3)) := by kernel_rfl
theorem ln_9_8_0 (n s0 s1 : Int) (v : Vals) : lanesR n s0 s1 v 9 8 0 = some (lval (lanesR n s0 s1 v 9 8 0), lval (lanesR n s0 s1 v 9 8 0)) := by kernel_rfl
theorem ln_9_8_1 (n s0 s1 : Int) (v : Vals) : lanesR n s0 s1 v 9 8 1 = some (lval (lanesR n s0 s1 v 9 8 1), lval (lanesR n s0 s1 v 9 8 1)) := by kernel_rfl
theorem ln_9_8_2 (n s0 s1 : Int) (v : Vals) : lanesR n s0 s1 v 9 8 2 = some (lval (lanesR n s0 s1 v 9 8 2), lval (lanesR n s0 s1 v 9 8 2)) := by kernel_rfl
theorem ln_9_8_3 (n s0 s1 : Int) (v : Vals) : lanesR n s0 s1 v 9 8 3 = some (lval (lanesR n s0 s1 v 9 8 3), lval (lanesR n s0 s1 v 9 8 3)) := by kernel_rfl
end AC

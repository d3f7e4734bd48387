import Derived.Test.YtecjccggbbbaaaaGreatKC
set_option linter.unusedVariables false
set_option linter.unusedSimpArgs false
namespace AC
open Go Go.A
set_option maxRecDepth 1000000
theorem ln_8_16_0 (n s0 s1 : Int) (v : Vals) : lanesR n s0 s1 v 8 16 0 = some (lval (lanesR n s0 s1 v 8 16 0), lval (lanesR n s0 s1 v 8 16 0)) := by kernel_rfl
theorem ln_8_16_1 (n s0 s1 : Int) (v : Vals) : lanesR n s0 s1 v 8 16 1 = some (lval (lanesR n s0 s1 v 8 16 1), lval (lanesR n s0 s1 v 8 16 1)) := by kernel_rfl
theorem ln_8_16_2 (n s0 s1 : Int) (v : Vals) : lanesR n s0 s1 v 8 16 2 = some (lval (lanesR n s0 s1 v 8 16 2), lval (lanesR n s0 s1 v 8 16 2)) := by kernel_rfl
theorem ln_8_16_3 (n s0 s1 : Int) (v : Vals) : lanesR n s0 s1 v 8 16 3 = some (lval (lanesR n s0 s1 v 8 16 3), lval (lanesR n s0 s1 v 8 16 3)) := by kernel_rfl
theorem ln_9_16_0 (n s0 s1 : Int) (v : Vals) : lanesR n s0 s1 v 9 16 0 = some (lval (lanesR n s0 s1 v 9 16 0), lval (lanesR n s0 s1 v 9 16 0)) := by kernel_rfl
theorem ln_9_16_1 (n s0 s1 : Int) (v : Vals) : lanesR n s0 s1 v 9 16 1 = some (lval (lanesR n s0 s1 v 9 16 1), lval (lanesR n s0 s1 v 9 16 1)) := by kernel_rfl
theorem ln_9_16_2 (n s0 s1 : Int) (v : Vals) : lanesR n s0 s1 v 9 16 2 = some (lval (lanesR n s0 s1 v 9 16 2), lval (lanesR n s0 s1 v 9 16 2)) := by kernel_rfl
theorem ln_9_16_3 (n s0 s1 : Int) (v : Vals) : lanesR n s0 s1 v 9 16 3 = some (lval (lanesR n s0 s1 v 9 16 3), lval (lanesR n s0 s1 v 9 16 3)) := by kernel_rfl
end AC

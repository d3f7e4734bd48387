import Derived.Test.YtecjccggbbbaaaaGreatKC
set_option linter.unusedVariables false
set_option linter.unusedSimpArgs false
namespace AC
open Go Go.A
set_option maxRecDepth 1000000
theorem ln_6_16_0 (n s0 s1 : Int) (v : Vals) : lanesR n s0 s1 v 6 16 0 = some (lval (lanesR n s0 s1 v 6 16 0), lval (lanesR n s0 s1 v 6 16 0)) := by kernel_rfl
theorem ln_6_16_1 (n s0 s1 : Int) (v : Vals) : lanesR n s0 s1 v 6 16 1 = some (lval (lanesR n s0 s1 v 6 16 1), lval (lanesR n s0 s1 v 6 16 1)) := by kernel_rfl
theorem ln_6_16_2 (n s0 s1 : Int) (v : Vals) : lanesR n s0 s1 v 6 16 2 = some (lval (lanesR n s0 s1 v 6 16 2), lval (lanesR n s0 s1 v 6 16 2)) := by kernel_rfl
theorem ln_6_16_3 (n s0 s1 : Int) (v : Vals) : lanesR n s0 s1 v 6 16 3 = some (lval (lanesR n s0 s1 v 6 16 3), lval (lanesR n s0 s1 v 6 16 3)) := by kernel_rfl
theorem ln_7_16_0 (n s0 s1 : Int) (v : Vals) : lanesR n s0 s1 v 7 16 0 = some (lval (lanesR n s0 s1 v 7 16 0), lval (lanesR n s0 s1 v 7 16 0)) := by kernel_rfl
theorem ln_7_16_1 (n s0 s1 : Int) (v : Vals) : lanesR n s0 s1 v 7 16 1 = some (lval (lanesR n s0 s1 v 7 16 1), lval (lanesR n s0 s1 v 7 16 1)) := by kernel_rfl
theorem ln_7_16_2 (n s0 s1 : Int) (v : Vals) : lanesR n s0 s1 v 7 16 2 = some (lval (lanesR n s0 s1 v 7 16 2), lval (lanesR n s0 s1 v 7 16 2)) := by kernel_rfl
theorem ln_7_16_3 (n s0 s1 : Int) (v : Vals) : lanesR n s0 s1 v 7 16 3 = some (lval (lanesR n s0 s1 v 7 16 3), lval (lanesR n s0 s1 v 7 16 3)) := by kernel_rfl
end AC

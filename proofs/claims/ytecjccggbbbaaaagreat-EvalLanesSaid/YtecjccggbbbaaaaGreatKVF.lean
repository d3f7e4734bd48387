import Derived.Test.YtecjccggbbbaaaaGreatKC
set_option linter.unusedVariables false
set_option linter.unusedSimpArgs false
namespace AC
open Go Go.A
set_option maxRecDepth 1000000
theorem ln_3_16_0 (n s0 s1 : Int) (v : Vals) : lanesR n s0 s1 v 3 16 0 = some (lval (lanesR n s0 s1 v 3 16 0), lval (lanesR n s0 s1 v 3 16 0)) := by kernel_rfl
theorem ln_3_16_1 (n s0 s1 : Int) (v : Vals) : lanesR n s0 s1 v 3 16 1 = some (lval (lanesR n s0 s1 v 3 16 1), lval (lanesR n s0 s1 v 3 16 1)) := by kernel_rfl
theorem ln_3_16_2 (n s0 s1 : Int) (v : Vals) : lanesR n s0 s1 v 3 16 2 = some (lval (lanesR n s0 s1 v 3 16 2), lval (lanesR n s0 s1 v 3 16 2)) := by kernel_rfl
theorem ln_3_16_3 (n s0 s1 : Int) (v : Vals) : lanesR n s0 s1 v 3 16 3 = some (lval (lanesR n s0 s1 v 3 16 3), lval (lanesR n s0 s1 v 3 16 3)) := by kernel_rfl
theorem ln_5_16_0 (n s0 s1 : Int) (v : Vals) : lanesR n s0 s1 v 5 16 0 = some (lval (lanesR n s0 s1 v 5 16 0), lval (lanesR n s0 s1 v 5 16 0)) := by kernel_rfl
theorem ln_5_16_1 (n s0 s1 : Int) (v : Vals) : lanesR n s0 s1 v 5 16 1 = some (lval (lanesR n s0 s1 v 5 16 1), lval (lanesR n s0 s1 v 5 16 1)) := by kernel_rfl
theorem ln_5_16_2 (n s0 s1 : Int) (v : Vals) : lanesR n s0 s1 v 5 16 2 = some (lval (lanesR n s0 s1 v 5 16 2), lval (lanesR n s0 s1 v 5 16 2)) := by kernel_rfl
theorem ln_5_16_3 (n s0 s1 : Int) (v : Vals) : lanesR n s0 s1 v 5 16 3 = some (lval (lanesR n s0 s1 v 5 16 3), lval (lanesR n s0 s1 v 5 16 3)) := by kernel_rfl
end AC

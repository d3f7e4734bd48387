import Derived.Test.YtecjccggbbbaaaaGreatKA
set_option linter.unusedVariables false
set_option linter.unusedSimpArgs false
set_option linter.unusedSectionVars false
namespace AC
open Go Go.A
set_option maxRecDepth 1000000
theorem tw_1_16 : ∀ n l : Int, (execN (T2 1) 20000 twRest (twSt n l 1 16)).bind (leave false [(2, none)]) = some (vbool true, []) := by
  intro n l
  kernel_rfl
theorem tw_2_2 : ∀ n l : Int, (execN (T2 2) 20000 twRest (twSt n l 2 2)).bind (leave false [(2, none)]) = some (vbool true, []) := by
  intro n l
  kernel_rfl
theorem tw_3_2 : ∀ n l : Int, (execN (T2 3) 20000 twRest (twSt n l 3 2)).bind (leave false [(2, none)]) = some (vbool true, []) := by
  intro n l
  kernel_rfl
theorem tw_5_16 : ∀ n l : Int, (execN (T2 5) 20000 twRest (twSt n l 5 16)).bind (leave false [(2, none)]) = some (vbool true, []) := by
  intro n l
  kernel_rfl
theorem tw_6_8 : ∀ n l : Int, (execN (T2 6) 20000 twRest (twSt n l 6 8)).bind (leave false [(2, none)]) = some (vbool true, []) := by
  intro n l
  kernel_rfl
theorem tw_7_2 : ∀ n l : Int, (execN (T2 7) 20000 twRest (twSt n l 7 2)).bind (leave false [(2, none)]) = some (vbool true, []) := by
  intro n l
  kernel_rfl
theorem tw_9_16 : ∀ n l : Int, (execN (T2 9) 20000 twRest (twSt n l 9 16)).bind (leave false [(2, none)]) = some (vbool true, []) := by
  intro n l
  kernel_rfl
theorem tw_10_2 : ∀ n l : Int, (execN (T2 10) 20000 twRest (twSt n l 10 2)).bind (leave false [(2, none)]) = some (vbool true, []) := by
  intro n l
  kernel_rfl
end AC

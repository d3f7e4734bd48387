import Derived.Test.YtecjccggbbbaaaaGreatKA
set_option linter.unusedVariables false
set_option linter.unusedSimpArgs false
set_option linter.unusedSectionVars false
namespace AC
open Go Go.A
set_option maxRecDepth 1000000
theorem tw_0_16 : ∀ n l : Int, (execN (T2 0) 20000 twRest (twSt n l 0 16)).bind (leave false [(2, none)]) = some (vbool true, []) := by
  intro n l
  kernel_rfl
theorem tw_1_2 : ∀ n l : Int, (execN (T2 1) 20000 twRest (twSt n l 1 2)).bind (leave false [(2, none)]) = some (vbool true, []) := by
  intro n l
  kernel_rfl
theorem tw_4_8 : ∀ n l : Int, (execN (T2 4) 20000 twRest (twSt n l 4 8)).bind (leave false [(2, none)]) = some (vbool true, []) := by
  intro n l
  kernel_rfl
theorem tw_6_2 : ∀ n l : Int, (execN (T2 6) 20000 twRest (twSt n l 6 2)).bind (leave false [(2, none)]) = some (vbool true, []) := by
  intro n l
  kernel_rfl
theorem tw_7_8 : ∀ n l : Int, (execN (T2 7) 20000 twRest (twSt n l 7 8)).bind (leave false [(2, none)]) = some (vbool true, []) := by
  intro n l
  kernel_rfl
theorem tw_7_16 : ∀ n l : Int, (execN (T2 7) 20000 twRest (twSt n l 7 16)).bind (leave false [(2, none)]) = some (vbool true, []) := by
  intro n l
  kernel_rfl
theorem tw_8_4 : ∀ n l : Int, (execN (T2 8) 20000 twRest (twSt n l 8 4)).bind (leave false [(2, none)]) = some (vbool true, []) := by
  intro n l
  kernel_rfl
theorem tw_10_8 : ∀ n l : Int, (execN (T2 10) 20000 twRest (twSt n l 10 8)).bind (leave false [(2, none)]) = some (vbool true, []) := by
  intro n l
  kernel_rfl
end AC

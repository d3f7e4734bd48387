import Derived.Test.YtecjccggbbbaaaaGreatKA
set_option linter.unusedVariables false
set_option linter.unusedSimpArgs false
set_option linter.unusedSectionVars false
namespace AC
open Go Go.A
set_option maxRecDepth 1000000
theorem tw_0_4 : ∀ n l : Int, (execN (T2 0) 20000 twRest (twSt n l 0 4)).bind (leave false [(2, none)]) = some (vbool true, []) := by
  intro n l
  kernel_rfl
theorem tw_2_16 : ∀ n l : Int, (execN (T2 2) 20000 twRest (twSt n l 2 16)).bind (leave false [(2, none)]) = some (vbool true, []) := by
  intro n l
  kernel_rfl
theorem tw_4_2 : ∀ n l : Int, (execN (T2 4) 20000 twRest (twSt n l 4 2)).bind (leave false [(2, none)]) = some (vbool true, []) := by
  intro n l
  kernel_rfl
theorem tw_4_4 : ∀ n l : Int, (execN (T2 4) 20000 twRest (twSt n l 4 4)).bind (leave false [(2, none)]) = some (vbool true, []) := by
  intro n l
  kernel_rfl
theorem tw_5_8 : ∀ n l : Int, (execN (T2 5) 20000 twRest (twSt n l 5 8)).bind (leave false [(2, none)]) = some (vbool true, []) := by
  intro n l
  kernel_rfl
theorem tw_8_16 : ∀ n l : Int, (execN (T2 8) 20000 twRest (twSt n l 8 16)).bind (leave false [(2, none)]) = some (vbool true, []) := by
  intro n l
  kernel_rfl
theorem tw_9_8 : ∀ n l : Int, (execN (T2 9) 20000 twRest (twSt n l 9 8)).bind (leave false [(2, none)]) = some (vbool true, []) := by
  intro n l
  kernel_rfl
theorem tw_10_4 : ∀ n l : Int, (execN (T2 10) 20000 twRest (twSt n l 10 4)).bind (leave false [(2, none)]) = some (vbool true, []) := by
  intro n l
  kernel_rfl
end AC

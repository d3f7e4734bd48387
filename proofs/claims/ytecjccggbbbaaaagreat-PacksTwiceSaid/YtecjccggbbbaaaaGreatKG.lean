import Derived.Test.YtecjccggbbbaaaaGreatKA
set_option linter.unusedVariables false
set_option linter.unusedSimpArgs false
set_option linter.unusedSectionVars false
namespace AC
open Go Go.A
set_option maxRecDepth 1000000
theorem tw_1_4 : ∀ n l : Int, (execN (T2 1) 20000 twRest (twSt n l 1 4)).bind (leave false [(2, none)]) = some (vbool true, []) := by
  intro n l
  kernel_rfl
theorem tw_2_4 : ∀ n l : Int, (execN (T2 2) 20000 twRest (twSt n l 2 4)).bind (leave false [(2, none)]) = some (vbool true, []) := by
  intro n l
  kernel_rfl
theorem tw_3_8 : ∀ n l : Int, (execN (T2 3) 20000 twRest (twSt n l 3 8)).bind (leave false [(2, none)]) = some (vbool true, []) := by
  intro n l
  kernel_rfl
theorem tw_6_16 : ∀ n l : Int, (execN (T2 6) 20000 twRest (twSt n l 6 16)).bind (leave false [(2, none)]) = some (vbool true, []) := by
  intro n l
  kernel_rfl
theorem tw_8_2 : ∀ n l : Int, (execN (T2 8) 20000 twRest (twSt n l 8 2)).bind (leave false [(2, none)]) = some (vbool true, []) := by
  intro n l
  kernel_rfl
theorem tw_11_2 : ∀ n l : Int, (execN (T2 11) 20000 twRest (twSt n l 11 2)).bind (leave false [(2, none)]) = some (vbool true, []) := by
  intro n l
  kernel_rfl
theorem tw_11_4 : ∀ n l : Int, (execN (T2 11) 20000 twRest (twSt n l 11 4)).bind (leave false [(2, none)]) = some (vbool true, []) := by
  intro n l
  kernel_rfl
theorem tw_11_8 : ∀ n l : Int, (execN (T2 11) 20000 twRest (twSt n l 11 8)).bind (leave false [(2, none)]) = some (vbool true, []) := by
  intro n l
  kernel_rfl
end AC

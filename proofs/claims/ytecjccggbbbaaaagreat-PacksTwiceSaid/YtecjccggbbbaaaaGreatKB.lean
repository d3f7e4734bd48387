import Derived.Test.YtecjccggbbbaaaaGreatKA
set_option linter.unusedVariables false
set_option linter.unusedSimpArgs false
namespace AC
open Go Go.A
set_option maxRecDepth 1000000
theorem tw_0_8 : ∀ n l : Int, (execN (T2 0) 20000 twRest (twSt n l 0 8)).bind (leave false [(2, none)]) = some (vbool true, []) := by
  intro n l
  kernel_rfl
theorem tw_1_8 : ∀ n l : Int, (execN (T2 1) 20000 twRest (twSt n l 1 8)).bind (leave false [(2, none)]) = some (vbool true, []) := by
  intro n l
  kernel_rfl
theorem tw_2_8 : ∀ n l : Int, (execN (T2 2) 20000 twRest (twSt n l 2 8)).bind (leave false [(2, none)]) = some (vbool true, []) := by
  intro n l
  kernel_rfl
theorem tw_3_16 : ∀ n l : Int, (execN (T2 3) 20000 twRest (twSt n l 3 16)).bind (leave false [(2, none)]) = some (vbool true, []) := by
  intro n l
  kernel_rfl
theorem tw_4_16 : ∀ n l : Int, (execN (T2 4) 20000 twRest (twSt n l 4 16)).bind (leave false [(2, none)]) = some (vbool true, []) := by
  intro n l
  kernel_rfl
theorem tw_5_4 : ∀ n l : Int, (execN (T2 5) 20000 twRest (twSt n l 5 4)).bind (leave false [(2, none)]) = some (vbool true, []) := by
  intro n l
  kernel_rfl
theorem tw_9_2 : ∀ n l : Int, (execN (T2 9) 20000 twRest (twSt n l 9 2)).bind (leave false [(2, none)]) = some (vbool true, []) := by
  intro n l
  kernel_rfl
theorem tw_11_16 : ∀ n l : Int, (execN (T2 11) 20000 twRest (twSt n l 11 16)).bind (leave false [(2, none)]) = some (vbool true, []) := by
  intro n l
  kernel_rfl
end AC

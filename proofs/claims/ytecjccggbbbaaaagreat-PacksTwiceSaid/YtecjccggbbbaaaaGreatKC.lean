import Derived.Test.YtecjccggbbbaaaaGreatKA
set_option linter.unusedVariables false
set_option linter.unusedSimpArgs false
namespace AC
open Go Go.A
set_option maxRecDepth 1000000
theorem tw_0_2 : ∀ n l : Int, (execN (T2 0) 20000 twRest (twSt n l 0 2)).bind (leave false [(2, none)]) = some (vbool true, []) := by
  intro n l
  kernel_rfl
theorem tw_3_4 : ∀ n l : Int, (execN (T2 3) 20000 twRest (twSt n l 3 4)).bind (leave false [(2, none)]) = some (vbool true, []) := by
  intro n l
  kernel_rfl
theorem tw_5_2 : ∀ n l : Int, (execN (T2 5) 20000 twRest (twSt n l 5 2)).bind (leave false [(2, none)]) = some (vbool true, []) := by
  intro n l
  kernel_rfl
theorem tw_6_4 : ∀ n l : Int, (execN (T2 6) 20000 twRest (twSt n l 6 4)).bind (leave false [(2, none)]) = some (vbool true, []) := by
  intro n l
  kernel_rfl
theorem tw_7_4 : ∀ n l : Int, (execN (T2 7) 20000 twRest (twSt n l 7 4)).bind (leave false [(2, none)]) = some (vbool true, []) := by
  intro n l
  kernel_rfl
theorem tw_8_8 : ∀ n l : Int, (execN (T2 8) 20000 twRest (twSt n l 8 8)).bind (leave false [(2, none)]) = some (vbool true, []) := by
  intro n l
  kernel_rfl
theorem tw_9_4 : ∀ n l : Int, (execN (T2 9) 20000 twRest (twSt n l 9 4)).bind (leave false [(2, none)]) = some (vbool true, []) := by
  intro n l
  kernel_rfl
theorem tw_10_16 : ∀ n l : Int, (execN (T2 10) 20000 twRest (twSt n l 10 16)).bind (leave false [(2, none)]) = some (vbool true, []) := by
  intro n l
  kernel_rfl
end AC

import Derived.Test.YtecjccggbbbaaaaGreatKC
import Derived.Test.YtecjccggbbbaaaaGreatKVA
import Derived.Test.YtecjccggbbbaaaaGreatKVB
import Derived.Test.YtecjccggbbbaaaaGreatKVC
import Derived.Test.YtecjccggbbbaaaaGreatKVD
import Derived.Test.YtecjccggbbbaaaaGreatKVE
import Derived.Test.YtecjccggbbbaaaaGreatKVF
import Derived.Test.YtecjccggbbbaaaaGreatKVG
import Derived.Test.YtecjccggbbbaaaaGreatKVH
import Derived.Test.YtecjccggbbbaaaaGreatKVI
import Derived.Test.YtecjccggbbbaaaaGreatKVJ
import Derived.Test.YtecjccggbbbaaaaGreatKVK
import Derived.Test.YtecjccggbbbaaaaGreatKVL
set_option linter.unusedVariables false
set_option linter.unusedSimpArgs false
set_option linter.unusedSectionVars false
namespace AC
open Go Go.A
theorem ln_all : ∀ k ∈ [1, 2, 3, 5, 6, 7, 8, 9], ∀ w ∈ [8, 16, 32], ∀ i : Int, 0 ≤ i ∧ i < 4 → LnOk k w i := by
  intro k hk w hw i hi
  have hi : i = 0 ∨ i = 1 ∨ i = 2 ∨ i = 3 := by omega
  simp only [List.mem_cons, List.not_mem_nil, or_false] at hk hw
  rcases hk with rfl | rfl | rfl | rfl | rfl | rfl | rfl | rfl <;> rcases hw with rfl | rfl | rfl <;> rcases hi with rfl | rfl | rfl | rfl
  · exact lnOk_of ln_1_8_0
  · exact lnOk_of ln_1_8_1
  · exact lnOk_of ln_1_8_2
  · exact lnOk_of ln_1_8_3
  · exact lnOk_of ln_1_16_0
  · exact lnOk_of ln_1_16_1
  · exact lnOk_of ln_1_16_2
  · exact lnOk_of ln_1_16_3
  · exact lnOk_of ln_1_32_0
  · exact lnOk_of ln_1_32_1
  · exact lnOk_of ln_1_32_2
  · exact lnOk_of ln_1_32_3
  · exact lnOk_of ln_2_8_0
  · exact lnOk_of ln_2_8_1
  · exact lnOk_of ln_2_8_2
  · exact lnOk_of ln_2_8_3
  · exact lnOk_of ln_2_16_0
  · exact lnOk_of ln_2_16_1
  · exact lnOk_of ln_2_16_2
  · exact lnOk_of ln_2_16_3
  · exact lnOk_of ln_2_32_0
  · exact lnOk_of ln_2_32_1
  · exact lnOk_of ln_2_32_2
  · exact lnOk_of ln_2_32_3
  · exact lnOk_of ln_3_8_0
  · exact lnOk_of ln_3_8_1
  · exact lnOk_of ln_3_8_2
  · exact lnOk_of ln_3_8_3
  · exact lnOk_of ln_3_16_0
  · exact lnOk_of ln_3_16_1
  · exact lnOk_of ln_3_16_2
  · exact lnOk_of ln_3_16_3
  · exact lnOk_of ln_3_32_0
  · exact lnOk_of ln_3_32_1
  · exact lnOk_of ln_3_32_2
  · exact lnOk_of ln_3_32_3
  · exact lnOk_of ln_5_8_0
  · exact lnOk_of ln_5_8_1
  · exact lnOk_of ln_5_8_2
  · exact lnOk_of ln_5_8_3
  · exact lnOk_of ln_5_16_0
  · exact lnOk_of ln_5_16_1
  · exact lnOk_of ln_5_16_2
  · exact lnOk_of ln_5_16_3
  · exact lnOk_of ln_5_32_0
  · exact lnOk_of ln_5_32_1
  · exact lnOk_of ln_5_32_2
  · exact lnOk_of ln_5_32_3
  · exact lnOk_of ln_6_8_0
  · exact lnOk_of ln_6_8_1
  · exact lnOk_of ln_6_8_2
  · exact lnOk_of ln_6_8_3
  · exact lnOk_of ln_6_16_0
  · exact lnOk_of ln_6_16_1
  · exact lnOk_of ln_6_16_2
  · exact lnOk_of ln_6_16_3
  · exact lnOk_of ln_6_32_0
  · exact lnOk_of ln_6_32_1
  · exact lnOk_of ln_6_32_2
  · exact lnOk_of ln_6_32_3
  · exact lnOk_of ln_7_8_0
  · exact lnOk_of ln_7_8_1
  · exact lnOk_of ln_7_8_2
  · exact lnOk_of ln_7_8_3
  · exact lnOk_of ln_7_16_0
  · exact lnOk_of ln_7_16_1
  · exact lnOk_of ln_7_16_2
  · exact lnOk_of ln_7_16_3
  · exact lnOk_of ln_7_32_0
  · exact lnOk_of ln_7_32_1
  · exact lnOk_of ln_7_32_2
  · exact lnOk_of ln_7_32_3
  · exact lnOk_of ln_8_8_0
  · exact lnOk_of ln_8_8_1
  · exact lnOk_of ln_8_8_2
  · exact lnOk_of ln_8_8_3
  · exact lnOk_of ln_8_16_0
  · exact lnOk_of ln_8_16_1
  · exact lnOk_of ln_8_16_2
  · exact lnOk_of ln_8_16_3
  · exact lnOk_of ln_8_32_0
  · exact lnOk_of ln_8_32_1
  · exact lnOk_of ln_8_32_2
  · exact lnOk_of ln_8_32_3
  · exact lnOk_of ln_9_8_0
  · exact lnOk_of ln_9_8_1
  · exact lnOk_of ln_9_8_2
  · exact lnOk_of ln_9_8_3
  · exact lnOk_of ln_9_16_0
  · exact lnOk_of ln_9_16_1
  · exact lnOk_of ln_9_16_2
  · exact lnOk_of ln_9_16_3
  · exact lnOk_of ln_9_32_0
  · exact lnOk_of ln_9_32_1
  · exact lnOk_of ln_9_32_2
  · exact lnOk_of ln_9_32_3
theorem Lanes_call (n s0 s1 : Int) (v : Vals) (hn : 0 ≤ n ∧ n < 256) (h0 : 0 ≤ s0 ∧ s0 < 256) (h1 : 0 ≤ s1 ∧ s1 < 256) : call T F.locksteplaw13_EvalLanes [.one (u8C n), .agg [u8C s0, u8C s1], .agg v.cs] [] = some (vB true, []) := Lanes_of ln_all n s0 s1 v hn h0 h1
end AC

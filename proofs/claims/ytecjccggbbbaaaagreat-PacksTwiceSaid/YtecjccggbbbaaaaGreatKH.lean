import Derived.Test.YtecjccggbbbaaaaGreatKA
import Derived.Test.YtecjccggbbbaaaaGreatKI
import Derived.Test.YtecjccggbbbaaaaGreatKJ
import Derived.Test.YtecjccggbbbaaaaGreatKK
import Derived.Test.YtecjccggbbbaaaaGreatKL
import Derived.Test.YtecjccggbbbaaaaGreatKB
import Derived.Test.YtecjccggbbbaaaaGreatKC
import Derived.Test.YtecjccggbbbaaaaGreatKD
import Derived.Test.YtecjccggbbbaaaaGreatKE
import Derived.Test.YtecjccggbbbaaaaGreatKF
import Derived.Test.YtecjccggbbbaaaaGreatKG
set_option linter.unusedVariables false
set_option linter.unusedSimpArgs false
set_option linter.unusedSectionVars false
namespace AC
open Go Go.A Go.A.Lex
theorem twice_split : a_locksteplaw20_PacksTwice.body = .seq a_locksteplaw20_PacksTwice.body.p1 (.seq a_locksteplaw20_PacksTwice.body.p2.p1 (.seq a_locksteplaw20_PacksTwice.body.p2.p2.p1 (.seq a_locksteplaw20_PacksTwice.body.p2.p2.p2.p1 twRest))) := rfl
/-- What is behind the first pieces, whatever is kept of what was given. -/
def TwOk (k m : Int) : Prop := ∀ n l : Int, ∃ r, exec T twRest (twSt n l k m) = some r ∧ leave false [(2, none)] r = some (vbool true, [])
theorem twOk_of (k : Nat) {k' m : Int} (hk : k' = k) (h1 : callW T' (execN T' 20000) F.packs_right (rtA k) [] = some (vbool true, [])) (h2 : callW T' (execN T' 20000) F.check_Shapes (shA k) [] = some (shR k))
    (h : ∀ n l : Int, (execN (T2 k) 20000 twRest (twSt n l k' m)).bind (leave false [(2, none)]) = some (vbool true, [])) : TwOk k' m := fun n l => by
  have := h n l
  rw [Option.bind_eq_some_iff] at this
  obtain ⟨r, h3, h4⟩ := this
  exact ⟨r, execN_sub (T2_sub k h1 h2) _ _ _ _ h3, h4⟩
theorem Twice_of (hk : ∀ k : Int, 0 ≤ k ∧ k < 12 → ∀ m ∈ [2, 4, 8, 16], TwOk k m) (n l : Int) (hn : 0 ≤ n ∧ n < 256) (hl : 0 ≤ l ∧ l < 256) :
    call T F.locksteplaw20_PacksTwice [.one (.f (.lit (.int .u8 n))), .one (.f (.lit (.int .u8 l)))] [] = some (vB true, []) := by
  rw [call_eq (fn := a_locksteplaw20_PacksTwice) rfl]
  have hA := awake20
  have w1 : IntKind.i64.wrap n = n := by rw [wrap_i64] <;> omega
  have w2 : IntKind.i64.wrap l = l := by rw [wrap_i64] <;> omega
  have m1 : n.tmod 12 = n % 12 := Int.tmod_eq_emod_of_nonneg hn.1
  have m2 : l.tmod 4 = l % 4 := Int.tmod_eq_emod_of_nonneg hl.1
  have c : l % 4 = 0 ∨ l % 4 = 1 ∨ l % 4 = 2 ∨ l % 4 = 3 := by omega
  have hb : 0 ≤ n % 12 ∧ n % 12 < 12 := by omega
  have e : [A.V.one (.f (.lit (.int .u8 n))), A.V.one (.f (.lit (.int .u8 l)))].length = a_locksteplaw20_PacksTwice.np := rfl
  rw [if_pos e, show a_locksteplaw20_PacksTwice.raw = false from rfl, show a_locksteplaw20_PacksTwice.results = [(2, none)] from rfl, twice_split]
  rcases c with c | c | c | c
  · obtain ⟨r, h1, h2⟩ := hk (n % 12) hb 2 (by simp) n l
    unfold twSt at h1
    simp -implicitDefEqProofs only [go_sem, a_locksteplaw20_PacksTwice, Code.p1, Code.p2, hA, w1, w2, m1, m2, c, h1]
    exact h2
  · obtain ⟨r, h1, h2⟩ := hk (n % 12) hb 4 (by simp) n l
    unfold twSt at h1
    simp -implicitDefEqProofs only [go_sem, a_locksteplaw20_PacksTwice, Code.p1, Code.p2, hA, w1, w2, m1, m2, c, h1]
    exact h2
  · obtain ⟨r, h1, h2⟩ := hk (n % 12) hb 8 (by simp) n l
    unfold twSt at h1
    simp -implicitDefEqProofs only [go_sem, a_locksteplaw20_PacksTwice, Code.p1, Code.p2, hA, w1, w2, m1, m2, c, h1]
    exact h2
  · obtain ⟨r, h1, h2⟩ := hk (n % 12) hb 16 (by simp) n l
    unfold twSt at h1
    simp -implicitDefEqProofs only [go_sem, a_locksteplaw20_PacksTwice, Code.p1, Code.p2, hA, w1, w2, m1, m2, c, h1]
    exact h2
end AC

namespace AC
open Go Go.A
theorem tw_all (k : Int) (hk : 0 ≤ k ∧ k < 12) (m : Int) (hm : m ∈ [2, 4, 8, 16]) : TwOk k m := by
  have : k = 0 ∨ k = 1 ∨ k = 2 ∨ k = 3 ∨ k = 4 ∨ k = 5 ∨ k = 6 ∨ k = 7 ∨ k = 8 ∨ k = 9 ∨ k = 10 ∨ k = 11 := by omega
  simp only [List.mem_cons, List.not_mem_nil, or_false] at hm
  rcases this with rfl | rfl | rfl | rfl | rfl | rfl | rfl | rfl | rfl | rfl | rfl | rfl <;> rcases hm with rfl | rfl | rfl | rfl
  · exact twOk_of 0 rfl rt_0 sh_0 tw_0_2
  · exact twOk_of 0 rfl rt_0 sh_0 tw_0_4
  · exact twOk_of 0 rfl rt_0 sh_0 tw_0_8
  · exact twOk_of 0 rfl rt_0 sh_0 tw_0_16
  · exact twOk_of 1 rfl rt_1 sh_1 tw_1_2
  · exact twOk_of 1 rfl rt_1 sh_1 tw_1_4
  · exact twOk_of 1 rfl rt_1 sh_1 tw_1_8
  · exact twOk_of 1 rfl rt_1 sh_1 tw_1_16
  · exact twOk_of 2 rfl rt_2 sh_2 tw_2_2
  · exact twOk_of 2 rfl rt_2 sh_2 tw_2_4
  · exact twOk_of 2 rfl rt_2 sh_2 tw_2_8
  · exact twOk_of 2 rfl rt_2 sh_2 tw_2_16
  · exact twOk_of 3 rfl rt_3 sh_3 tw_3_2
  · exact twOk_of 3 rfl rt_3 sh_3 tw_3_4
  · exact twOk_of 3 rfl rt_3 sh_3 tw_3_8
  · exact twOk_of 3 rfl rt_3 sh_3 tw_3_16
  · exact twOk_of 4 rfl rt_4 sh_4 tw_4_2
  · exact twOk_of 4 rfl rt_4 sh_4 tw_4_4
  · exact twOk_of 4 rfl rt_4 sh_4 tw_4_8
  · exact twOk_of 4 rfl rt_4 sh_4 tw_4_16
  · exact twOk_of 5 rfl rt_5 sh_5 tw_5_2
  · exact twOk_of 5 rfl rt_5 sh_5 tw_5_4
  · exact twOk_of 5 rfl rt_5 sh_5 tw_5_8
  · exact twOk_of 5 rfl rt_5 sh_5 tw_5_16
  · exact twOk_of 6 rfl rt_6 sh_6 tw_6_2
  · exact twOk_of 6 rfl rt_6 sh_6 tw_6_4
  · exact twOk_of 6 rfl rt_6 sh_6 tw_6_8
  · exact twOk_of 6 rfl rt_6 sh_6 tw_6_16
  · exact twOk_of 7 rfl rt_7 sh_7 tw_7_2
  · exact twOk_of 7 rfl rt_7 sh_7 tw_7_4
  · exact twOk_of 7 rfl rt_7 sh_7 tw_7_8
  · exact twOk_of 7 rfl rt_7 sh_7 tw_7_16
  · exact twOk_of 8 rfl rt_8 sh_8 tw_8_2
  · exact twOk_of 8 rfl rt_8 sh_8 tw_8_4
  · exact twOk_of 8 rfl rt_8 sh_8 tw_8_8
  · exact twOk_of 8 rfl rt_8 sh_8 tw_8_16
  · exact twOk_of 9 rfl rt_9 sh_9 tw_9_2
  · exact twOk_of 9 rfl rt_9 sh_9 tw_9_4
  · exact twOk_of 9 rfl rt_9 sh_9 tw_9_8
  · exact twOk_of 9 rfl rt_9 sh_9 tw_9_16
  · exact twOk_of 10 rfl rt_10 sh_10 tw_10_2
  · exact twOk_of 10 rfl rt_10 sh_10 tw_10_4
  · exact twOk_of 10 rfl rt_10 sh_10 tw_10_8
  · exact twOk_of 10 rfl rt_10 sh_10 tw_10_16
  · exact twOk_of 11 rfl rt_11 sh_11 tw_11_2
  · exact twOk_of 11 rfl rt_11 sh_11 tw_11_4
  · exact twOk_of 11 rfl rt_11 sh_11 tw_11_8
  · exact twOk_of 11 rfl rt_11 sh_11 tw_11_16
theorem Twice_call (n l : Int) (hn : 0 ≤ n ∧ n < 256) (hl : 0 ≤ l ∧ l < 256) : call T F.locksteplaw20_PacksTwice [.one (.f (.lit (.int .u8 n))), .one (.f (.lit (.int .u8 l)))] [] = some (vB true, []) := Twice_of tw_all n l hn hl
end AC

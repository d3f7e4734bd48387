/- A table in which some functions are taken by their contracts: what it gives, the table gives. -/
import Derived.Test.YtecjccggbbbaaaaGreatMach
set_option linter.unusedVariables false
set_option linter.unusedSimpArgs false
namespace Go.A
theorem callW_sub {T T2 : Nat → Option Entry} (h : ∀ f, T2 f = T f ∨ ∃ g, T2 f = some (.ext g) ∧ ∀ args σ, Le (g args σ) (call T f args σ)) {E : Code → St → Option (Ex × St)} (hE : ∀ c s, Le (E c s) (exec T c s)) : LeC (callW T2 E) (call T) := by
  intro f a σ r hr
  rcases h f with e | ⟨g, e, hg⟩
  · unfold callW at hr
    rw [e] at hr
    exact callW_mono hE f a σ r hr
  · unfold callW at hr
    rw [e] at hr
    exact hg a σ r hr
theorem execN_sub {T T2 : Nat → Option Entry} (h : ∀ f, T2 f = T f ∨ ∃ g, T2 f = some (.ext g) ∧ ∀ args σ, Le (g args σ) (call T f args σ)) : ∀ (n : Nat) (c : Code) (s : St), Le (execN T2 n c s) (exec T c s)
  | 0, _, _ => fun r h => by simp [execN] at h
  | n + 1, c, s => by
    have ih := execN_sub h n
    have hc := callW_sub h ih
    cases c <;> simp only [execN]
    case skip => rw [exec_skip]; exact Le.refl _
    case reg ops => rw [exec_reg]; exact (steps_mono hc ops _).map _
    case regd ps ops => rw [exec_regd]; exact (regD_mono hc ps ops _).map _
    case spec sp => rw [exec_spec]; exact Le.refl _
    case seq a b => rw [exec_seq]; exact (ih a s).bind (seqK_mono (ih b))
    case cond x a b => rw [exec_cond]; exact condK_mono (ih a) (ih b) s _
    case block id body => rw [exec_block]; exact (ih body s).map _
    case loop lv ob body => rw [exec_loop]; exact (ih body s).bind (loopK_mono (ih _) lv ob)
    case exit id lv ob => rw [exec_exit]; exact Le.refl _
    case scope body => rw [exec_scope]; exact ih _ _
    case sc body cur => rw [exec_sc]; exact (ih cur s).bind (scK_mono ih body)
    case label l => rw [exec_label]; exact Le.refl _
    case goto l lv ob => rw [exec_goto]; exact Le.refl _
    case ret lv => rw [exec_ret]; exact Le.refl _
theorem callN_sub {T T2 : Nat → Option Entry} (h : ∀ f, T2 f = T f ∨ ∃ g, T2 f = some (.ext g) ∧ ∀ args σ, Le (g args σ) (call T f args σ)) (n : Nat) : LeC (callW T2 (execN T2 n)) (call T) := callW_sub h (execN_sub h n)
end Go.A

/- Proved: AliasRow returns true whatever it is given, and leaves what it is given as it was. Conditions: none beyond the given statement's own. -/
import Derived.Test.YtecjccggbbbaaaaGreatFinR
import Derived.Test.YtecjccggbbbaaaaGreatFinRc
set_option linter.unusedVariables false
set_option linter.unusedSimpArgs false
namespace Go.Proofs.YtecjccggbbbaaaaGreat
open Go.ChangeShapes Go.WideShapes Go.ChangeAt Go.RowKit Go.A
set_option maxRecDepth 100000
theorem aliasRow_holds : Rows.AliasRowSaid :=
  OpenClaim.holds_of_wide 3 Tryz.f3 rfl rfl rfl rfl rfl rfl rfl ⟨rfl, rfl, rfl, rfl, rfl⟩ rfl rfl rfl rfl rfl (by kernel_rfl) Tryz.func3 aliasRow_closed
    (of_decide_eq_true (by kernel_rfl)) (by unfold Func.isWrapper; first | (rw [if_pos (by decide +kernel)]; kernel_rfl) | (rw [if_neg (by decide +kernel)]; exact ⟨rfl, rfl⟩))
    (fun os started H enc _ => aliasRow_lifted os started H enc)
end Go.Proofs.YtecjccggbbbaaaaGreat

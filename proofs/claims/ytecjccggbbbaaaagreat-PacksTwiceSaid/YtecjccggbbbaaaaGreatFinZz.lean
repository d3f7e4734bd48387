/- Proved: PacksTwice returns true whatever it is given, and leaves what it is given as it was. Conditions: none beyond the given statement's own. -/
import Derived.Test.YtecjccggbbbaaaaGreatFinZ
import Derived.Test.YtecjccggbbbaaaaGreatFinZc
set_option linter.unusedVariables false
set_option linter.unusedSimpArgs false
namespace Go.Proofs.YtecjccggbbbaaaaGreat
open Go.ChangeShapes Go.WideShapes Go.ChangeAt Go.RowKit Go.A
set_option maxRecDepth 100000
theorem packsTwice_holds : Rows.PacksTwiceSaid :=
  OpenClaim.holds_of_wide 11 Tryz.f11 rfl rfl rfl rfl rfl rfl rfl ⟨rfl, rfl, rfl, rfl, rfl⟩ rfl rfl rfl rfl rfl (by kernel_rfl) Tryz.func11 packsTwice_closed
    (of_decide_eq_true (by kernel_rfl)) (by unfold Func.isWrapper; first | (rw [if_pos (by decide +kernel)]; kernel_rfl) | (rw [if_neg (by decide +kernel)]; exact ⟨rfl, rfl⟩))
    (fun os started H enc _ => packsTwice_lifted os started H enc)
end Go.Proofs.YtecjccggbbbaaaaGreat

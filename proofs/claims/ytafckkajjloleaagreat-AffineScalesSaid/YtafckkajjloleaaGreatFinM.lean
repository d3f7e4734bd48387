/- Proved: AffineScales returns true whatever two numbers it is given, and leaves what it is given as it was. Conditions: none beyond the given statement's own. -/
import Derived.Test.YtafckkajjloleaaGreatFinL
import Derived.Test.YtafckkajjloleaaGreatFinLc
set_option linter.unusedVariables false
set_option linter.unusedSimpArgs false
namespace Go.Proofs.YtafckkajjloleaaGreat
open Go.ChangeShapes Go.WideShapes Go.ChangeAt Go.RowKit Go.A
set_option maxRecDepth 100000
theorem affineScales_holds : Rows.AffineScalesSaid :=
  OpenClaim.holds_of_wide 12 Tryz.f12 rfl rfl rfl rfl rfl rfl rfl ⟨rfl, rfl, rfl, rfl, rfl⟩ rfl rfl rfl rfl rfl (by kernel_rfl) Tryz.func12 affineScales_closed
    (of_decide_eq_true (by kernel_rfl)) (by unfold Func.isWrapper; first | (rw [if_pos (by decide +kernel)]; kernel_rfl) | (rw [if_neg (by decide +kernel)]; exact ⟨rfl, rfl⟩))
    (fun os started H enc _ => affineScales_lifted os started H enc)
end Go.Proofs.YtafckkajjloleaaGreat

/- Proved: AliasBoth returns true whatever it is given, and leaves what it is given as it was. Conditions: none beyond the given statement's own. -/
import Derived.Test.YtmkncmffaaninaaGreatABI
import Derived.Test.YtmkncmffaaninaaGreatABJ
set_option linter.all false
namespace Go.Proofs.YtmkncmffaaninaaGreat
open Go.ChangeShapes Go.WideShapes Go.ChangeAt Go.RowKit Go.A
set_option maxRecDepth 100000
theorem aliasBoth_holds : Rows.AliasBothSaid :=
 OpenClaim.holds_of_wide 9 Tryz.f9 rfl rfl rfl rfl rfl rfl rfl ⟨rfl,rfl,rfl,rfl,rfl⟩ rfl rfl rfl rfl rfl (by kernel_rfl) Tryz.func9 zlJ
  (of_decide_eq_true (by kernel_rfl)) (by unfold Func.isWrapper; first | (rw [if_pos (by decide +kernel)]; kernel_rfl) | (rw [if_neg (by decide +kernel)]; exact ⟨rfl,rfl⟩))
  (fun os started H enc _ => zlN os started H enc)
end Go.Proofs.YtmkncmffaaninaaGreat

/- The law's function, within the walk. -/
import Derived.Test.YtecjccggbbbaaaaGreatKD
import Derived.Test.YtecjccggbbbaaaaGreatFinB
import Derived.Test.YtecjccggbbbaaaaGreatLink
import Derived.Test.YtecjccggbbbaaaaGreatRows
import Derived.ProofKit
set_option linter.unusedVariables false
set_option linter.unusedSimpArgs false
namespace AC
open Go Go.A Go.Proofs
set_option maxRecDepth 100000
theorem evalLanes_true (x1 x2 x3 : List Fz) (h1 : hasTy Tryz.prog 8 5 x1) (h2 : hasTy Tryz.prog 8 56 x2) (h3 : hasTy Tryz.prog 8 57 x3) :
    call T 6 [argOf false x1, argOf true x2, argOf true x3] [] = some (vbool true, []) := by
  obtain ⟨y1, rfl, b1⟩ := ty_u8 h1
  obtain ⟨y2, z2, rfl, b2, c2⟩ := ty_a2u8 h2
  obtain ⟨a, b, c, d, e, f, g, k, rfl⟩ := ty_a8u64 h3
  exact Lanes_call y1 y2 z2 ⟨a, b, c, d, e, f, g, k⟩ b1 b2 c2
end AC
namespace Go.Proofs.YtecjccggbbbaaaaGreat
open Go.ChangeShapes Go.WideShapes Go.ChangeAt Go.RowKit Go.A
set_option maxRecDepth 100000 in
theorem evalLanes_lifted (os : Os) (started : os.Started) (H : Type) (enc : TypeId × Value → H) :
    ReturnsInHanded {} Tryz.checked os 6 .any (Rows.evalLanesSpec.pre6 enc Tryz.prog Tryz.f6 Rows.evalLanesRow.domain false) (Rows.evalLanesSpec.post enc Tryz.prog Tryz.f6 false true false false) := by
  refine returnsInHanded_of_change (C := Tryz.checked) Tryz.own started (by kernel_rfl) Tryz.func6
    (ChangeSpec.witness6 (enc := enc) (C := Tryz.checked) false ⟨#[], #[.int .u8 0, .agg #[.int .u8 0, .int .u8 0], .agg #[.int .u64 0, .int .u64 0, .int .u64 0, .int .u64 0, .int .u64 0, .int .u64 0, .int .u64 0, .int .u64 0]], []⟩ 8 (by kernel_rfl) (by kernel_rfl) (by kernel_rfl) (by kernel_rfl)) ?_
  intro W base args ds gs before hval hW _ _
  exact law_three (m1 := 8) (m2 := 8) (m3 := 8) (t1 := 5) (t2 := 56) (t3 := 57) (tb := 4) AC.sound_T Tryz.laidOut Tryz.params6 (by kernel_rfl) (by kernel_rfl) rfl (by kernel_rfl) (by kernel_rfl) (by kernel_rfl) (of_decide_eq_true (by kernel_rfl)) (of_decide_eq_true (by kernel_rfl)) (of_decide_eq_true (by kernel_rfl)) (by kernel_rfl) (by kernel_rfl) (by kernel_rfl) (fun _ _ _ => ⟨rfl, rfl, rfl⟩) AC.evalLanes_true hval hW
end Go.Proofs.YtecjccggbbbaaaaGreat

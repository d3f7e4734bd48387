/- The law's function, within the walk. -/
import Derived.Test.YtecjccggbbbaaaaGreatKP
import Derived.Test.YtecjccggbbbaaaaGreatFinB
import Derived.Test.YtecjccggbbbaaaaGreatLink
import Derived.Test.YtecjccggbbbaaaaGreatRows
import Derived.ProofKit
set_option linter.unusedVariables false
set_option linter.unusedSimpArgs false
namespace AC
open Go Go.A Go.Proofs
set_option maxRecDepth 100000
theorem splitSteps_true (x1 x2 x3 : List Fz) (h1 : hasTy Tryz.prog 8 4 x1) (h2 : hasTy Tryz.prog 8 56 x2) (h3 : hasTy Tryz.prog 8 64 x3) :
    call T 12 [argOf false x1, argOf true x2, argOf false x3] [] = some (vbool true, []) := by
  obtain ⟨y1, rfl⟩ := ty_bool h1
  obtain ⟨y2, z2, rfl, b2, c2⟩ := ty_a2u8 h2
  obtain ⟨y3, rfl, b3⟩ := ty_bytes h3
  exact Split_call y1 y2 z2 y3 b2 c2 b3
end AC
namespace Go.Proofs.YtecjccggbbbaaaaGreat
open Go.ChangeShapes Go.WideShapes Go.ChangeAt Go.RowKit Go.A
set_option maxRecDepth 100000 in
theorem splitSteps_lifted (os : Os) (started : os.Started) (H : Type) (enc : TypeId × Value → H) :
    ReturnsInHanded {} Tryz.checked os 12 .any (Rows.splitStepsSpec.pre6 enc Tryz.prog Tryz.f12 Rows.splitStepsRow.domain false) (Rows.splitStepsSpec.post enc Tryz.prog Tryz.f12 false true false false) := by
  refine returnsInHanded_of_change (C := Tryz.checked) Tryz.own started (by kernel_rfl) Tryz.func12
    (ChangeSpec.witness6 (enc := enc) (C := Tryz.checked) false ⟨#[], #[.bool false, .agg #[.int .u8 0, .int .u8 0], .slice none 0 0], []⟩ 8 (by kernel_rfl) (by kernel_rfl) (by kernel_rfl) (by kernel_rfl)) ?_
  intro W base args ds gs before hval hW _ _
  exact law_three (m1 := 8) (m2 := 8) (m3 := 8) (t1 := 4) (t2 := 56) (t3 := 64) (tb := 4) AC.sound_T Tryz.laidOut Tryz.params12 (by kernel_rfl) (by kernel_rfl) rfl (by kernel_rfl) (by kernel_rfl) (by kernel_rfl) (of_decide_eq_true (by kernel_rfl)) (of_decide_eq_true (by kernel_rfl)) (of_decide_eq_true (by kernel_rfl)) (by kernel_rfl) (by kernel_rfl) (by kernel_rfl) (fun _ _ _ => ⟨rfl, rfl, rfl⟩) AC.splitSteps_true hval hW
end Go.Proofs.YtecjccggbbbaaaaGreat

/- The law's function, within the walk. -/
import Derived.Test.YtecjccggbbbaaaaGreatKL
import Derived.Test.YtecjccggbbbaaaaGreatAwake
import Derived.Test.YtecjccggbbbaaaaGreatFinB
import Derived.Test.YtecjccggbbbaaaaGreatLink
import Derived.Test.YtecjccggbbbaaaaGreatRows
import Derived.ProofKit
set_option linter.unusedVariables false
set_option linter.unusedSimpArgs false
namespace AC
open Go Go.A Go.Proofs
set_option maxRecDepth 100000
theorem evalTwo_true (x1 x2 x3 : List Fz) (h1 : hasTy Tryz.prog 8 5 x1) (h2 : hasTy Tryz.prog 8 5 x2) (h3 : hasTy Tryz.prog 8 43 x3) :
    call T 5 [argOf false x1, argOf false x2, argOf true x3] [] = some (vbool true, []) := by
  obtain ⟨y1, rfl, b1⟩ := ty_u8 h1
  obtain ⟨y2, rfl, b2⟩ := ty_u8 h2
  obtain ⟨y3, z3, rfl, b3, c3⟩ := ty_a2u64 h3
  exact Two_call awake13 y1 y2 y3 z3 b1 b2 b3 c3
end AC
namespace Go.Proofs.YtecjccggbbbaaaaGreat
open Go.ChangeShapes Go.WideShapes Go.ChangeAt Go.RowKit Go.A
set_option maxRecDepth 100000 in
theorem evalTwo_lifted (os : Os) (started : os.Started) (H : Type) (enc : TypeId × Value → H) :
    ReturnsInHanded {} Tryz.checked os 5 .any (Rows.evalTwoSpec.pre6 enc Tryz.prog Tryz.f5 Rows.evalTwoRow.domain false) (Rows.evalTwoSpec.post enc Tryz.prog Tryz.f5 false true false false) := by
  refine returnsInHanded_of_change (C := Tryz.checked) Tryz.own started (by kernel_rfl) Tryz.func5
    (ChangeSpec.witness6 (enc := enc) (C := Tryz.checked) false ⟨#[], #[.int .u8 0, .int .u8 0, .agg #[.int .u64 0, .int .u64 0]], []⟩ 8 (by kernel_rfl) (by kernel_rfl) (by kernel_rfl) (by kernel_rfl)) ?_
  intro W base args ds gs before hval hW _ _
  exact law_three (m1 := 8) (m2 := 8) (m3 := 8) (t1 := 5) (t2 := 5) (t3 := 43) (tb := 4) AC.sound_T Tryz.laidOut Tryz.params5 (by kernel_rfl) (by kernel_rfl) rfl (by kernel_rfl) (by kernel_rfl) (by kernel_rfl) (of_decide_eq_true (by kernel_rfl)) (of_decide_eq_true (by kernel_rfl)) (of_decide_eq_true (by kernel_rfl)) (by kernel_rfl) (by kernel_rfl) (by kernel_rfl) (fun _ _ _ => ⟨rfl, rfl, rfl⟩) AC.evalTwo_true hval hW
end Go.Proofs.YtecjccggbbbaaaaGreat

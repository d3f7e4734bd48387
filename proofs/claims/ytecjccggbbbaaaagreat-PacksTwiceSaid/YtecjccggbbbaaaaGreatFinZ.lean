/- The law's function, within the walk. -/
import Derived.Test.YtecjccggbbbaaaaGreatKH
import Derived.Test.YtecjccggbbbaaaaGreatFinB
import Derived.Test.YtecjccggbbbaaaaGreatLink
import Derived.Test.YtecjccggbbbaaaaGreatRows
import Derived.ProofKit
set_option linter.unusedVariables false
set_option linter.unusedSimpArgs false
namespace AC
open Go Go.A Go.Proofs
set_option maxRecDepth 100000
theorem packsTwice_true (x1 x2 : List Fz) (h1 : hasTy Tryz.prog 8 5 x1) (h2 : hasTy Tryz.prog 8 5 x2) :
    call T 11 [argOf false x1, argOf false x2] [] = some (vbool true, []) := by
  obtain ⟨y1, rfl, b1⟩ := ty_u8 h1
  obtain ⟨y2, rfl, b2⟩ := ty_u8 h2
  exact Twice_call y1 y2 b1 b2
end AC
namespace Go.Proofs.YtecjccggbbbaaaaGreat
open Go.ChangeShapes Go.WideShapes Go.ChangeAt Go.RowKit Go.A
set_option maxRecDepth 100000 in
theorem packsTwice_lifted (os : Os) (started : os.Started) (H : Type) (enc : TypeId × Value → H) :
    ReturnsInHanded {} Tryz.checked os 11 .any (Rows.packsTwiceSpec.pre6 enc Tryz.prog Tryz.f11 Rows.packsTwiceRow.domain false) (Rows.packsTwiceSpec.post enc Tryz.prog Tryz.f11 false true false false) := by
  refine returnsInHanded_of_change (C := Tryz.checked) Tryz.own started (by kernel_rfl) Tryz.func11
    (ChangeSpec.witness6 (enc := enc) (C := Tryz.checked) false ⟨#[], #[.int .u8 0, .int .u8 0], []⟩ 8 (by kernel_rfl) (by kernel_rfl) (by kernel_rfl) (by kernel_rfl)) ?_
  intro W base args ds gs before hval hW _ _
  exact law_two (m1 := 8) (m2 := 8) (t1 := 5) (t2 := 5) (tb := 4) AC.sound_T Tryz.laidOut Tryz.params11 (by kernel_rfl) (by kernel_rfl) rfl (by kernel_rfl) (by kernel_rfl) (of_decide_eq_true (by kernel_rfl)) (of_decide_eq_true (by kernel_rfl)) (by kernel_rfl) (by kernel_rfl) (fun _ _ => ⟨rfl, rfl, rfl⟩) AC.packsTwice_true hval hW
end Go.Proofs.YtecjccggbbbaaaaGreat

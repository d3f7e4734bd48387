/- The law's function, within the walk. -/
import Derived.Test.YtecjccggbbbaaaaGreatKP
import Derived.Test.YtecjccggbbbaaaaGreatFinB
import Derived.Test.YtecjccggbbbaaaaGreatLink
import Derived.Test.YtecjccggbbbaaaaGreatRows
import Derived.ProofKit
set_option linter.unusedVariables false
set_option linter.unusedSimpArgs false
namespace AC
open Go Go.A Go.Proofs
set_option maxRecDepth 100000
theorem evalTraps_true (x1 x2 x3 : List Fz) (h1 : hasTy Tryz.prog 8 64 x1) (h2 : hasTy Tryz.prog 8 5 x2) (h3 : hasTy Tryz.prog 8 5 x3) :
    call T 9 [argOf false x1, argOf false x2, argOf false x3] [] = some (vbool true, []) := by
  obtain ⟨y1, rfl, b1⟩ := ty_bytes h1
  obtain ⟨y2, rfl, b2⟩ := ty_u8 h2
  obtain ⟨y3, rfl, b3⟩ := ty_u8 h3
  exact Traps_call y2 y3 y1 b2 b3
end AC
namespace Go.Proofs.YtecjccggbbbaaaaGreat
open Go.ChangeShapes Go.WideShapes Go.ChangeAt Go.RowKit Go.A
set_option maxRecDepth 100000 in
theorem evalTraps_lifted (os : Os) (started : os.Started) (H : Type) (enc : TypeId × Value → H) :
    ReturnsInHanded {} Tryz.checked os 9 .any (Rows.evalTrapsSpec.pre6 enc Tryz.prog Tryz.f9 Rows.evalTrapsRow.domain false) (Rows.evalTrapsSpec.post enc Tryz.prog Tryz.f9 false true false false) := by
  refine returnsInHanded_of_change (C := Tryz.checked) Tryz.own started (by kernel_rfl) Tryz.func9
    (ChangeSpec.witness6 (enc := enc) (C := Tryz.checked) false ⟨#[], #[.slice none 0 0, .int .u8 0, .int .u8 0], []⟩ 8 (by kernel_rfl) (by kernel_rfl) (by kernel_rfl) (by kernel_rfl)) ?_
  intro W base args ds gs before hval hW _ _
  exact law_three (m1 := 8) (m2 := 8) (m3 := 8) (t1 := 64) (t2 := 5) (t3 := 5) (tb := 4) AC.sound_T Tryz.laidOut Tryz.params9 (by kernel_rfl) (by kernel_rfl) rfl (by kernel_rfl) (by kernel_rfl) (by kernel_rfl) (of_decide_eq_true (by kernel_rfl)) (of_decide_eq_true (by kernel_rfl)) (of_decide_eq_true (by kernel_rfl)) (by kernel_rfl) (by kernel_rfl) (by kernel_rfl) (fun _ _ _ => ⟨rfl, rfl, rfl⟩) AC.evalTraps_true hval hW
end Go.Proofs.YtecjccggbbbaaaaGreat

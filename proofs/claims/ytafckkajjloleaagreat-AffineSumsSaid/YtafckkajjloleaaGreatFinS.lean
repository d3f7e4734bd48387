/- The law's function, within the walk. -/
import Derived.Test.YtafckkajjloleaaGreatSame
import Derived.Test.YtafckkajjloleaaGreatAwake
import Derived.Test.YtafckkajjloleaaGreatFinA
import Derived.Test.YtafckkajjloleaaGreatLink
import Derived.Test.YtafckkajjloleaaGreatRows
import Derived.ProofKit
set_option linter.unusedVariables false
set_option linter.unusedSimpArgs false
namespace AC
open Go Go.A Go.Proofs
set_option maxRecDepth 100000
theorem sums_true (x1 x2 x3 : List Fz) (h1 : hasTy Tryz.prog 8 58 x1) (h2 : hasTy Tryz.prog 8 58 x2) (h3 : hasTy Tryz.prog 8 49 x3) :
    call T 8 [argOf true x1, argOf true x2, argOf false x3] [] = some (vbool true, []) := by
  obtain ⟨ts, off, e1, l1, r1, o1⟩ := ty_form h1
  obtain ⟨us, off', e2, l2, r2, o2⟩ := ty_form h2
  obtain ⟨n, rfl, hn⟩ := ty_u64 h3
  rw [e1, e2]
  exact Sums_call awake17 ts us off off' n l1 l2
end AC
namespace Go.Proofs.YtafckkajjloleaaGreat
open Go.ChangeShapes Go.WideShapes Go.ChangeAt Go.RowKit Go.A
set_option maxRecDepth 100000 in
theorem affineSums_lifted (os : Os) (started : os.Started) (H : Type) (enc : TypeId × Value → H) :
    ReturnsInHanded {} Tryz.checked os 8 .any (Rows.affineSumsSpec.pre6 enc Tryz.prog Tryz.f8 Rows.affineSumsRow.domain false) (Rows.affineSumsSpec.post enc Tryz.prog Tryz.f8 false true false false) := by
  refine returnsInHanded_of_change (C := Tryz.checked) Tryz.own started (by kernel_rfl) Tryz.func8
    (ChangeSpec.witness6 (enc := enc) (C := Tryz.checked) false ⟨#[], #[.agg #[.slice none 0 0, .int .u64 0], .agg #[.slice none 0 0, .int .u64 0], .int .u64 0], []⟩ 8 (by kernel_rfl) (by kernel_rfl) (by kernel_rfl) (by kernel_rfl)) ?_
  intro W base args ds gs before hval hW _ _
  exact law_three (m1 := 8) (m2 := 8) (m3 := 8) (t1 := 58) (t2 := 58) (t3 := 49) (tb := 4) AC.sound_T Tryz.laidOut Tryz.params8 (by kernel_rfl) (by kernel_rfl) rfl (by kernel_rfl) (by kernel_rfl) (by kernel_rfl) (of_decide_eq_true (by kernel_rfl)) (of_decide_eq_true (by kernel_rfl)) (of_decide_eq_true (by kernel_rfl)) (by kernel_rfl) (by kernel_rfl) (by kernel_rfl) (fun _ _ _ => ⟨rfl, rfl, rfl⟩) AC.sums_true hval hW
end Go.Proofs.YtafckkajjloleaaGreat

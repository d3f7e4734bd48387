/- The law's function, within the walk. -/
import Derived.Test.YtafckkajjloleaaGreatKH
import Derived.Test.YtafckkajjloleaaGreatAwake
import Derived.Test.YtafckkajjloleaaGreatFinA
import Derived.Test.YtafckkajjloleaaGreatLink
import Derived.Test.YtafckkajjloleaaGreatRows
import Derived.ProofKit
set_option linter.unusedVariables false
set_option linter.unusedSimpArgs false
namespace AC
open Go Go.A Go.Proofs
set_option maxRecDepth 100000
theorem ty_u8 {m : Nat} {x : List Fz} (h : hasTy Tryz.prog m 5 x) : ∃ n, x = [.lit (.int .u8 n)] ∧ 0 ≤ n ∧ n < 256 := by
  cases m with
  | zero => exact h.elim
  | succ m =>
    unfold hasTy at h
    rw [Tryz.underlying5] at h
    obtain ⟨n, h1, h2⟩ := h
    refine ⟨n, h1, ?_⟩
    simp only [Lit.wf, Bool.and_eq_true, decide_eq_true_eq] at h2
    have e : IntKind.u8.max = 255 := by decide
    have e2 : IntKind.u8.min = 0 := by decide
    omega
theorem scales_true (x1 x2 : List Fz) (h1 : hasTy Tryz.prog 8 49 x1) (h2 : hasTy Tryz.prog 8 5 x2) :
    call T 12 [argOf false x1, argOf false x2] [] = some (vbool true, []) := by
  obtain ⟨n, rfl, hn⟩ := ty_u64 h1
  obtain ⟨y, rfl, hy⟩ := ty_u8 h2
  exact Scales_call awake17 n y hn hy
end AC
namespace Go.Proofs.YtafckkajjloleaaGreat
open Go.ChangeShapes Go.WideShapes Go.ChangeAt Go.RowKit Go.A
set_option maxRecDepth 100000 in
theorem affineScales_lifted (os : Os) (started : os.Started) (H : Type) (enc : TypeId × Value → H) :
    ReturnsInHanded {} Tryz.checked os 12 .any (Rows.affineScalesSpec.pre6 enc Tryz.prog Tryz.f12 Rows.affineScalesRow.domain false) (Rows.affineScalesSpec.post enc Tryz.prog Tryz.f12 false true false false) := by
  refine returnsInHanded_of_change (C := Tryz.checked) Tryz.own started (by kernel_rfl) Tryz.func12
    (ChangeSpec.witness6 (enc := enc) (C := Tryz.checked) false ⟨#[], #[.int .u64 0, .int .u8 0], []⟩ 8 (by kernel_rfl) (by kernel_rfl) (by kernel_rfl) (by kernel_rfl)) ?_
  intro W base args ds gs before hval hW _ _
  exact law_two (m1 := 8) (m2 := 8) (t1 := 49) (t2 := 5) (tb := 4) AC.sound_T Tryz.laidOut Tryz.params12 (by kernel_rfl) (by kernel_rfl) rfl (by kernel_rfl) (by kernel_rfl) (of_decide_eq_true (by kernel_rfl)) (of_decide_eq_true (by kernel_rfl)) (by kernel_rfl) (by kernel_rfl) (fun _ _ => ⟨rfl, rfl, rfl⟩) AC.scales_true hval hW
end Go.Proofs.YtafckkajjloleaaGreat

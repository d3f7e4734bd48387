/- The law's function, within the walk. -/
import Derived.Test.YtafckkajjloleaaGreatKI
import Derived.Test.YtafckkajjloleaaGreatAwake
import Derived.Test.YtafckkajjloleaaGreatFinA
import Derived.Test.YtafckkajjloleaaGreatLink
import Derived.Test.YtafckkajjloleaaGreatRows
import Derived.ProofKit
set_option linter.unusedVariables false
set_option linter.unusedSimpArgs false
namespace AC
open Go Go.A Go.Proofs
set_option maxRecDepth 100000
theorem ty_u8 {m : Nat} {x : List Fz} (h : hasTy Tryz.prog m 5 x) : ∃ n, x = [.lit (.int .u8 n)] ∧ 0 ≤ n ∧ n < 256 := by
  cases m with
  | zero => exact h.elim
  | succ m =>
    unfold hasTy at h
    rw [Tryz.underlying5] at h
    obtain ⟨n, h1, h2⟩ := h
    refine ⟨n, h1, ?_⟩
    simp only [Lit.wf, Bool.and_eq_true, decide_eq_true_eq] at h2
    have e : IntKind.u8.max = 255 := by decide
    have e2 : IntKind.u8.min = 0 := by decide
    omega
theorem ty_bool {m : Nat} {x : List Fz} (h : hasTy Tryz.prog m 4 x) : ∃ b, x = [.lit (.bool b)] := by
  cases m with
  | zero => exact h.elim
  | succ m =>
    unfold hasTy at h
    rw [Tryz.underlying4] at h
    exact h
theorem steps_true (x1 x2 x3 : List Fz) (h1 : hasTy Tryz.prog 8 5 x1) (h2 : hasTy Tryz.prog 8 49 x2) (h3 : hasTy Tryz.prog 8 4 x3) :
    call T 11 [argOf false x1, argOf false x2, argOf false x3] [] = some (vbool true, []) := by
  obtain ⟨y, rfl, hy⟩ := ty_u8 h1
  obtain ⟨n, rfl, hn⟩ := ty_u64 h2
  obtain ⟨b, rfl⟩ := ty_bool h3
  exact Steps_call awake17 y n b hy hn
end AC
namespace Go.Proofs.YtafckkajjloleaaGreat
open Go.ChangeShapes Go.WideShapes Go.ChangeAt Go.RowKit Go.A
set_option maxRecDepth 100000 in
theorem affineSteps_lifted (os : Os) (started : os.Started) (H : Type) (enc : TypeId × Value → H) :
    ReturnsInHanded {} Tryz.checked os 11 .any (Rows.affineStepsSpec.pre6 enc Tryz.prog Tryz.f11 Rows.affineStepsRow.domain false) (Rows.affineStepsSpec.post enc Tryz.prog Tryz.f11 false true false false) := by
  refine returnsInHanded_of_change (C := Tryz.checked) Tryz.own started (by kernel_rfl) Tryz.func11
    (ChangeSpec.witness6 (enc := enc) (C := Tryz.checked) false ⟨#[], #[.int .u8 0, .int .u64 0, .bool false], []⟩ 8 (by kernel_rfl) (by kernel_rfl) (by kernel_rfl) (by kernel_rfl)) ?_
  intro W base args ds gs before hval hW _ _
  exact law_three (m1 := 8) (m2 := 8) (m3 := 8) (t1 := 5) (t2 := 49) (t3 := 4) (tb := 4) AC.sound_T Tryz.laidOut Tryz.params11 (by kernel_rfl) (by kernel_rfl) rfl (by kernel_rfl) (by kernel_rfl) (by kernel_rfl) (of_decide_eq_true (by kernel_rfl)) (of_decide_eq_true (by kernel_rfl)) (of_decide_eq_true (by kernel_rfl)) (by kernel_rfl) (by kernel_rfl) (by kernel_rfl) (fun _ _ _ => ⟨rfl, rfl, rfl⟩) AC.steps_true hval hW
end Go.Proofs.YtafckkajjloleaaGreat

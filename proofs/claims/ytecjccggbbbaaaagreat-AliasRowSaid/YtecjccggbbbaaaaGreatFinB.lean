/- What the laws are given, read as plain Lean's; the table's soundness. -/
import Derived.Test.YtecjccggbbbaaaaGreatCodeT
import Derived.Test.YtecjccggbbbaaaaGreatLink
import Derived.Test.YtecjccggbbbaaaaGreatRows
import Derived.ProofKit
set_option linter.unusedVariables false
set_option linter.unusedSimpArgs false
namespace AC
open Go Go.A Go.Proofs
set_option maxRecDepth 100000
theorem ty_u64 {m : Nat} {x : List Fz} (h : hasTy Tryz.prog m 22 x) : ∃ n, x = [.lit (.int .u64 n)] ∧ 0 ≤ n ∧ n < 18446744073709551616 := by
  cases m with
  | zero => exact h.elim
  | succ m =>
    unfold hasTy at h
    rw [Tryz.underlying22] at h
    obtain ⟨n, h1, h2⟩ := h
    refine ⟨n, h1, ?_⟩
    simp only [Lit.wf, Bool.and_eq_true, decide_eq_true_eq] at h2
    have e : IntKind.u64.max = 18446744073709551615 := by decide
    have e2 : IntKind.u64.min = 0 := by decide
    omega
theorem ty_u8 {m : Nat} {x : List Fz} (h : hasTy Tryz.prog m 5 x) : ∃ n, x = [.lit (.int .u8 n)] ∧ 0 ≤ n ∧ n < 256 := by
  cases m with
  | zero => exact h.elim
  | succ m =>
    unfold hasTy at h
    rw [Tryz.underlying5] at h
    obtain ⟨n, h1, h2⟩ := h
    refine ⟨n, h1, ?_⟩
    simp only [Lit.wf, Bool.and_eq_true, decide_eq_true_eq] at h2
    have e : IntKind.u8.max = 255 := by decide
    have e2 : IntKind.u8.min = 0 := by decide
    omega
theorem ty_u16 {m : Nat} {x : List Fz} (h : hasTy Tryz.prog m 41 x) : ∃ n, x = [.lit (.int .u16 n)] ∧ 0 ≤ n ∧ n < 65536 := by
  cases m with
  | zero => exact h.elim
  | succ m =>
    unfold hasTy at h
    rw [Tryz.underlying41] at h
    obtain ⟨n, h1, h2⟩ := h
    refine ⟨n, h1, ?_⟩
    simp only [Lit.wf, Bool.and_eq_true, decide_eq_true_eq] at h2
    have e : IntKind.u16.max = 65535 := by decide
    have e2 : IntKind.u16.min = 0 := by decide
    omega
theorem ty_bool {m : Nat} {x : List Fz} (h : hasTy Tryz.prog m 4 x) : ∃ b, x = [.lit (.bool b)] := by
  cases m with
  | zero => exact h.elim
  | succ m =>
    unfold hasTy at h
    rw [Tryz.underlying4] at h
    exact h
theorem mixed : Tryz.prog.follows .mixedOrders = true := by kernel_rfl
theorem sound_T : Sound Tryz.prog (call T) := sound (draws_ok mixed) T_ok
end AC
namespace Go.Proofs.YtecjccggbbbaaaaGreat
open Go.ChangeShapes Go.WideShapes Go.ChangeAt Go.RowKit Go.A
theorem Tryz.own : ownKnob Tryz.prog.godebug = none := by kernel_rfl
theorem Tryz.laidOut : laidOutB Tryz.prog = true := by kernel_rfl
end Go.Proofs.YtecjccggbbbaaaaGreat

/- What the laws are given, read as plain Lean's; the table's soundness. -/
import Derived.Test.YtafckkajjloleaaGreatLaw
import Derived.Test.YtafckkajjloleaaGreatCodeT
import Derived.Test.YtafckkajjloleaaGreatLink
import Derived.Test.YtafckkajjloleaaGreatRows
import Derived.ProofKit
set_option linter.unusedVariables false
set_option linter.unusedSimpArgs false
namespace AC
open Go Go.A Go.Proofs
theorem wf_u64 {x : Int} (h : (Lit.int .u64 x).wf = true) : u64ok x := by
  simp only [Lit.wf, Bool.and_eq_true, decide_eq_true_eq] at h
  exact ⟨by have := h.1; exact this, by have h2 := h.2; have : IntKind.u64.max = 18446744073709551615 := (by decide); omega⟩
set_option maxRecDepth 100000
theorem ty_u64 {m : Nat} {x : List Fz} (h : hasTy Tryz.prog m 49 x) : ∃ n, x = [.lit (.int .u64 n)] ∧ u64ok n := by
  cases m with
  | zero => exact h.elim
  | succ m =>
    unfold hasTy at h
    rw [Tryz.underlying49] at h
    obtain ⟨n, h1, h2⟩ := h
    exact ⟨n, h1, wf_u64 h2⟩
theorem ty_int {m : Nat} {x : List Fz} (h : hasTy Tryz.prog m 3 x) : ∃ n, x = [.lit (.int .i64 n)] := by
  cases m with
  | zero => exact h.elim
  | succ m =>
    unfold hasTy at h
    rw [Tryz.underlying3] at h
    obtain ⟨n, h1, h2⟩ := h
    exact ⟨n, h1⟩
theorem ty_term {m : Nat} {x : List Fz} (h : hasTy Tryz.prog m 68 x) : ∃ t : Int × Int, x = row t ∧ u64ok t.2 := by
  cases m with
  | zero => exact h.elim
  | succ m =>
    unfold hasTy at h
    rw [Tryz.underlying68] at h
    simp only [List.map_cons, List.map_nil, inTurn] at h
    obtain ⟨a, b, rfl, ha, c, d, rfl, hc, rfl⟩ := h
    obtain ⟨v, rfl⟩ := ty_int ha
    obtain ⟨s, rfl, hs⟩ := ty_u64 hc
    exact ⟨(v, s), rfl, hs⟩
theorem ty_terms (m : Nat) : ∀ xs : List (List Fz), (∀ x ∈ xs, hasTy Tryz.prog m 68 x) → ∃ ts : List (Int × Int), xs = rows ts ∧ ∀ t ∈ ts, u64ok t.2
  | [], _ => ⟨[], rfl, fun _ h => by simp at h⟩
  | x :: xs, h => by
    obtain ⟨ts, rfl, h2⟩ := ty_terms m xs fun y hy => h y (List.mem_cons_of_mem _ hy)
    obtain ⟨t, rfl, h1⟩ := ty_term (h x List.mem_cons_self)
    refine ⟨t :: ts, rfl, fun u hu => ?_⟩
    rcases List.mem_cons.1 hu with rfl | hu
    · exact h1
    · exact h2 u hu
theorem ty_form {m : Nat} {x : List Fz} (h : hasTy Tryz.prog m 58 x) : ∃ ts off, argOf true x = fF ts off ∧ ts.length ≤ 9223372036854775807 ∧ (∀ t ∈ ts, u64ok t.2) ∧ u64ok off := by
  cases m with
  | zero => exact h.elim
  | succ m =>
    unfold hasTy at h
    rw [Tryz.underlying58] at h
    simp only [List.map_cons, List.map_nil, inTurn] at h
    obtain ⟨a, b, rfl, ha, c, d, rfl, hc, rfl⟩ := h
    obtain ⟨off, rfl, ho⟩ := ty_u64 hc
    cases m with
    | zero => exact ha.elim
    | succ m =>
      unfold hasTy at ha
      rw [Tryz.underlying56] at ha
      obtain ⟨xs, rfl, hl, hx⟩ := ha
      obtain ⟨ts, rfl, ht⟩ := ty_terms m xs hx
      rw [rows_len] at hl
      exact ⟨ts, off, rfl, hl, ht, ho⟩
theorem mixed : Tryz.prog.follows .mixedOrders = true := by kernel_rfl
theorem sound_T : Sound Tryz.prog (call T) := sound (draws_ok mixed) T_ok
end AC
namespace Go.Proofs.YtafckkajjloleaaGreat
open Go.ChangeShapes Go.WideShapes Go.ChangeAt Go.RowKit Go.A
theorem Tryz.own : ownKnob Tryz.prog.godebug = none := by kernel_rfl
theorem Tryz.laidOut : laidOutB Tryz.prog = true := by kernel_rfl
end Go.Proofs.YtafckkajjloleaaGreat

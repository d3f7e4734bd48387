/- What the laws are given, read as plain Lean's; the table's soundness. -/
import Derived.Test.YtecjccggbbbaaaaGreatCodeT
import Derived.Test.YtecjccggbbbaaaaGreatLink
import Derived.Test.YtecjccggbbbaaaaGreatRows
import Derived.ProofKit
set_option linter.unusedVariables false
set_option linter.unusedSimpArgs false
namespace AC
open Go Go.A Go.Proofs
set_option maxRecDepth 100000
theorem ty_u64 {m : Nat} {x : List Fz} (h : hasTy Tryz.prog m 22 x) : ∃ n, x = [.lit (.int .u64 n)] ∧ 0 ≤ n ∧ n < 18446744073709551616 := by
  cases m with
  | zero => exact h.elim
  | succ m =>
    unfold hasTy at h
    rw [Tryz.underlying22] at h
    obtain ⟨n, h1, h2⟩ := h
    refine ⟨n, h1, ?_⟩
    simp only [Lit.wf, Bool.and_eq_true, decide_eq_true_eq] at h2
    have e : IntKind.u64.max = 18446744073709551615 := by decide
    have e2 : IntKind.u64.min = 0 := by decide
    omega
theorem ty_u8 {m : Nat} {x : List Fz} (h : hasTy Tryz.prog m 5 x) : ∃ n, x = [.lit (.int .u8 n)] ∧ 0 ≤ n ∧ n < 256 := by
  cases m with
  | zero => exact h.elim
  | succ m =>
    unfold hasTy at h
    rw [Tryz.underlying5] at h
    obtain ⟨n, h1, h2⟩ := h
    refine ⟨n, h1, ?_⟩
    simp only [Lit.wf, Bool.and_eq_true, decide_eq_true_eq] at h2
    have e : IntKind.u8.max = 255 := by decide
    have e2 : IntKind.u8.min = 0 := by decide
    omega
theorem ty_u16 {m : Nat} {x : List Fz} (h : hasTy Tryz.prog m 41 x) : ∃ n, x = [.lit (.int .u16 n)] ∧ 0 ≤ n ∧ n < 65536 := by
  cases m with
  | zero => exact h.elim
  | succ m =>
    unfold hasTy at h
    rw [Tryz.underlying41] at h
    obtain ⟨n, h1, h2⟩ := h
    refine ⟨n, h1, ?_⟩
    simp only [Lit.wf, Bool.and_eq_true, decide_eq_true_eq] at h2
    have e : IntKind.u16.max = 65535 := by decide
    have e2 : IntKind.u16.min = 0 := by decide
    omega
theorem ty_bool {m : Nat} {x : List Fz} (h : hasTy Tryz.prog m 4 x) : ∃ b, x = [.lit (.bool b)] := by
  cases m with
  | zero => exact h.elim
  | succ m =>
    unfold hasTy at h
    rw [Tryz.underlying4] at h
    exact h
theorem ty_a2u64 {m : Nat} {x : List Fz} (h : hasTy Tryz.prog m 43 x) : ∃ a b, x = [.lit (.int .u64 a), .lit (.int .u64 b)] ∧ (0 ≤ a ∧ a < 18446744073709551616) ∧ 0 ≤ b ∧ b < 18446744073709551616 := by
  cases m with
  | zero => exact h.elim
  | succ m =>
    unfold hasTy at h
    rw [Tryz.underlying43] at h
    simp only [List.replicate_succ, List.replicate_zero, inTurn] at h
    obtain ⟨p, q, rfl, hp, r, s, rfl, hr, rfl⟩ := h
    obtain ⟨a, rfl, ha⟩ := ty_u64 hp
    obtain ⟨b, rfl, hb⟩ := ty_u64 hr
    exact ⟨a, b, rfl, ha, hb⟩
theorem ty_a2u8 {m : Nat} {x : List Fz} (h : hasTy Tryz.prog m 56 x) : ∃ a b, x = [.lit (.int .u8 a), .lit (.int .u8 b)] ∧ (0 ≤ a ∧ a < 256) ∧ 0 ≤ b ∧ b < 256 := by
  cases m with
  | zero => exact h.elim
  | succ m =>
    unfold hasTy at h
    rw [Tryz.underlying56] at h
    simp only [List.replicate_succ, List.replicate_zero, inTurn] at h
    obtain ⟨p, q, rfl, hp, r, s, rfl, hr, rfl⟩ := h
    obtain ⟨a, rfl, ha⟩ := ty_u8 hp
    obtain ⟨b, rfl, hb⟩ := ty_u8 hr
    exact ⟨a, b, rfl, ha, hb⟩
theorem ty_bytes0 (m : Nat) : ∀ xs : List (List Fz), (∀ x ∈ xs, hasTy Tryz.prog m 5 x) → ∃ l : List Int, xs = l.map (fun x => [.lit (.int .u8 x)]) ∧ ∀ x ∈ l, 0 ≤ x ∧ x < 256
  | [], _ => ⟨[], rfl, fun _ h => by simp at h⟩
  | x :: xs, h => by
    obtain ⟨l, rfl, h2⟩ := ty_bytes0 m xs fun y hy => h y (List.mem_cons_of_mem _ hy)
    obtain ⟨n, rfl, hn⟩ := ty_u8 (h x List.mem_cons_self)
    refine ⟨n :: l, rfl, fun u hu => ?_⟩
    rcases List.mem_cons.1 hu with rfl | hu
    · exact hn
    · exact h2 u hu
theorem ty_bytes {m : Nat} {x : List Fz} (h : hasTy Tryz.prog m 64 x) : ∃ l : List Int, x = [.sl (l.map fun x => [.lit (.int .u8 x)])] ∧ ∀ x ∈ l, 0 ≤ x ∧ x < 256 := by
  cases m with
  | zero => exact h.elim
  | succ m =>
    unfold hasTy at h
    rw [Tryz.underlying64] at h
    obtain ⟨xs, rfl, _, hx⟩ := h
    obtain ⟨l, rfl, hl⟩ := ty_bytes0 m xs hx
    exact ⟨l, rfl, hl⟩
theorem ty_a8u64 {m : Nat} {x : List Fz} (h : hasTy Tryz.prog m 57 x) : ∃ a b c d e f g k : Int, x = [.lit (.int .u64 a), .lit (.int .u64 b), .lit (.int .u64 c), .lit (.int .u64 d), .lit (.int .u64 e), .lit (.int .u64 f), .lit (.int .u64 g), .lit (.int .u64 k)] := by
  cases m with
  | zero => exact h.elim
  | succ m =>
    unfold hasTy at h
    rw [Tryz.underlying57] at h
    simp only [List.replicate_succ, List.replicate_zero, inTurn] at h
    obtain ⟨p1, q1, rfl, h1, p2, q2, rfl, h2, p3, q3, rfl, h3, p4, q4, rfl, h4, p5, q5, rfl, h5, p6, q6, rfl, h6, p7, q7, rfl, h7, p8, q8, rfl, h8, rfl⟩ := h
    obtain ⟨a, rfl, _⟩ := ty_u64 h1
    obtain ⟨b, rfl, _⟩ := ty_u64 h2
    obtain ⟨c, rfl, _⟩ := ty_u64 h3
    obtain ⟨d, rfl, _⟩ := ty_u64 h4
    obtain ⟨e, rfl, _⟩ := ty_u64 h5
    obtain ⟨f, rfl, _⟩ := ty_u64 h6
    obtain ⟨g, rfl, _⟩ := ty_u64 h7
    obtain ⟨k, rfl, _⟩ := ty_u64 h8
    exact ⟨a, b, c, d, e, f, g, k, rfl⟩
theorem mixed : Tryz.prog.follows .mixedOrders = true := by kernel_rfl
theorem sound_T : Sound Tryz.prog (call T) := sound (draws_ok mixed) T_ok
end AC
namespace Go.Proofs.YtecjccggbbbaaaaGreat
open Go.ChangeShapes Go.WideShapes Go.ChangeAt Go.RowKit Go.A
theorem Tryz.own : ownKnob Tryz.prog.godebug = none := by kernel_rfl
theorem Tryz.laidOut : laidOutB Tryz.prog = true := by kernel_rfl
end Go.Proofs.YtecjccggbbbaaaaGreat

/- Proved: AffineRing returns true whatever two forms and whatever number it is given, and leaves what it is given as it was. Conditions: none beyond the given statement's own. -/
import Derived.Test.YtafckkajjloleaaGreatRing
import Derived.Test.YtafckkajjloleaaGreatAwake
import Derived.Test.YtafckkajjloleaaGreatLink
import Derived.Test.YtafckkajjloleaaGreatRows
import Derived.ProofKit
set_option linter.unusedVariables false
set_option linter.unusedSimpArgs false
namespace AC
open Go Go.A Go.Proofs
theorem wf_u64 {x : Int} (h : (Lit.int .u64 x).wf = true) : u64ok x := by
  simp only [Lit.wf, Bool.and_eq_true, decide_eq_true_eq] at h
  exact ⟨by have := h.1; exact this, by have h2 := h.2; have : IntKind.u64.max = 18446744073709551615 := (by decide); omega⟩
set_option maxRecDepth 100000
theorem ty_u64 {m : Nat} {x : List Fz} (h : hasTy Tryz.prog m 49 x) : ∃ n, x = [.lit (.int .u64 n)] ∧ u64ok n := by
  cases m with
  | zero => exact h.elim
  | succ m =>
    unfold hasTy at h
    rw [Tryz.underlying49] at h
    obtain ⟨n, h1, h2⟩ := h
    exact ⟨n, h1, wf_u64 h2⟩
theorem ty_int {m : Nat} {x : List Fz} (h : hasTy Tryz.prog m 3 x) : ∃ n, x = [.lit (.int .i64 n)] := by
  cases m with
  | zero => exact h.elim
  | succ m =>
    unfold hasTy at h
    rw [Tryz.underlying3] at h
    obtain ⟨n, h1, h2⟩ := h
    exact ⟨n, h1⟩
theorem ty_term {m : Nat} {x : List Fz} (h : hasTy Tryz.prog m 68 x) : ∃ t : Int × Int, x = row t ∧ u64ok t.2 := by
  cases m with
  | zero => exact h.elim
  | succ m =>
    unfold hasTy at h
    rw [Tryz.underlying68] at h
    simp only [List.map_cons, List.map_nil, inTurn] at h
    obtain ⟨a, b, rfl, ha, c, d, rfl, hc, rfl⟩ := h
    obtain ⟨v, rfl⟩ := ty_int ha
    obtain ⟨s, rfl, hs⟩ := ty_u64 hc
    exact ⟨(v, s), rfl, hs⟩
theorem ty_terms (m : Nat) : ∀ xs : List (List Fz), (∀ x ∈ xs, hasTy Tryz.prog m 68 x) → ∃ ts : List (Int × Int), xs = rows ts ∧ ∀ t ∈ ts, u64ok t.2
  | [], _ => ⟨[], rfl, fun _ h => by simp at h⟩
  | x :: xs, h => by
    obtain ⟨ts, rfl, h2⟩ := ty_terms m xs fun y hy => h y (List.mem_cons_of_mem _ hy)
    obtain ⟨t, rfl, h1⟩ := ty_term (h x List.mem_cons_self)
    refine ⟨t :: ts, rfl, fun u hu => ?_⟩
    rcases List.mem_cons.1 hu with rfl | hu
    · exact h1
    · exact h2 u hu
theorem ty_form {m : Nat} {x : List Fz} (h : hasTy Tryz.prog m 58 x) : ∃ ts off, argOf true x = fF ts off ∧ ts.length ≤ 9223372036854775807 ∧ (∀ t ∈ ts, u64ok t.2) ∧ u64ok off := by
  cases m with
  | zero => exact h.elim
  | succ m =>
    unfold hasTy at h
    rw [Tryz.underlying58] at h
    simp only [List.map_cons, List.map_nil, inTurn] at h
    obtain ⟨a, b, rfl, ha, c, d, rfl, hc, rfl⟩ := h
    obtain ⟨off, rfl, ho⟩ := ty_u64 hc
    cases m with
    | zero => exact ha.elim
    | succ m =>
      unfold hasTy at ha
      rw [Tryz.underlying56] at ha
      obtain ⟨xs, rfl, hl, hx⟩ := ha
      obtain ⟨ts, rfl, ht⟩ := ty_terms m xs hx
      rw [rows_len] at hl
      exact ⟨ts, off, rfl, hl, ht, ho⟩
theorem mixed : Tryz.prog.follows .mixedOrders = true := by kernel_rfl
theorem sound_T : Sound Tryz.prog (call T) := sound (draws_ok mixed) T_ok
theorem ring_true (x1 x2 x3 : List Fz) (h1 : hasTy Tryz.prog 8 58 x1) (h2 : hasTy Tryz.prog 8 58 x2) (h3 : hasTy Tryz.prog 8 49 x3) :
    call T 10 [argOf true x1, argOf true x2, argOf false x3] [] = some (vbool true, []) := by
  obtain ⟨ts, off, e1, l1, r1, o1⟩ := ty_form h1
  obtain ⟨us, off', e2, l2, r2, o2⟩ := ty_form h2
  obtain ⟨n, rfl, hn⟩ := ty_u64 h3
  rw [e1, e2]
  exact Ring_call awake17 ts us off off' n r1 o1 l1 l2
end AC
namespace Go.Proofs.YtafckkajjloleaaGreat
open Go.ChangeShapes Go.WideShapes Go.ChangeAt Go.RowKit Go.A
theorem Tryz.own : ownKnob Tryz.prog.godebug = none := by kernel_rfl
theorem Tryz.laidOut : laidOutB Tryz.prog = true := by kernel_rfl
set_option maxRecDepth 100000 in
theorem affineRing_lifted (os : Os) (started : os.Started) (H : Type) (enc : TypeId × Value → H) :
    ReturnsInHanded {} Tryz.checked os 10 .any (Rows.affineRingSpec.pre6 enc Tryz.prog Tryz.f10 Rows.affineRingRow.domain false) (Rows.affineRingSpec.post enc Tryz.prog Tryz.f10 false true false false) := by
  refine returnsInHanded_of_change (C := Tryz.checked) Tryz.own started (by kernel_rfl) Tryz.func10
    (ChangeSpec.witness6 (enc := enc) (C := Tryz.checked) false ⟨#[], #[.agg #[.slice none 0 0, .int .u64 0], .agg #[.slice none 0 0, .int .u64 0], .int .u64 0], []⟩ 8 (by kernel_rfl) (by kernel_rfl) (by kernel_rfl) (by kernel_rfl)) ?_
  intro W base args ds gs before hval hW _ _
  exact law_three (m1 := 8) (m2 := 8) (m3 := 8) (t1 := 58) (t2 := 58) (t3 := 49) (tb := 4) AC.sound_T Tryz.laidOut Tryz.params10 (by kernel_rfl) (by kernel_rfl) rfl (by kernel_rfl) (by kernel_rfl) (by kernel_rfl) (of_decide_eq_true (by kernel_rfl)) (of_decide_eq_true (by kernel_rfl)) (of_decide_eq_true (by kernel_rfl)) (by kernel_rfl) (by kernel_rfl) (by kernel_rfl) (fun _ _ _ => ⟨rfl, rfl, rfl⟩) AC.ring_true hval hW
theorem affineRing_holds : Rows.AffineRingSaid :=
  OpenClaim.holds_of_wide 10 Tryz.f10 rfl rfl rfl rfl rfl rfl rfl ⟨rfl, rfl, rfl, rfl, rfl⟩ rfl rfl rfl rfl rfl (by kernel_rfl) Tryz.func10 (by kernel_rfl)
    (of_decide_eq_true (by kernel_rfl)) (by unfold Func.isWrapper; first | (rw [if_pos (by decide +kernel)]; kernel_rfl) | (rw [if_neg (by decide +kernel)]; exact ⟨rfl, rfl⟩))
    (fun os started H enc _ => affineRing_lifted os started H enc)
end Go.Proofs.YtafckkajjloleaaGreat

/- The law's function, within the walk. -/
import Derived.Test.YtafckkajjloleaaGreatKJ
import Derived.Test.YtafckkajjloleaaGreatAwakeS
import Derived.Test.YtafckkajjloleaaGreatFinB
import Derived.Test.YtafckkajjloleaaGreatLink
import Derived.Test.YtafckkajjloleaaGreatRows
import Derived.ProofKit
set_option linter.unusedVariables false
set_option linter.unusedSimpArgs false
namespace AC
open Go Go.A Go.Proofs
set_option maxRecDepth 100000
theorem ty_u8 {m : Nat} {x : List Fz} (h : hasTy Tryz.prog m 5 x) : ∃ n, x = [.lit (.int .u8 n)] ∧ 0 ≤ n ∧ n < 256 := by
  cases m with
  | zero => exact h.elim
  | succ m =>
    unfold hasTy at h
    rw [Tryz.underlying5] at h
    obtain ⟨n, h1, h2⟩ := h
    refine ⟨n, h1, ?_⟩
    simp only [Lit.wf, Bool.and_eq_true, decide_eq_true_eq] at h2
    have e : IntKind.u8.max = 255 := by decide
    have e2 : IntKind.u8.min = 0 := by decide
    omega
theorem ty_order (m : Nat) : ∀ xs : List (List Fz), (∀ x ∈ xs, hasTy Tryz.prog m 5 x) → ∃ l : List Int, xs = l.map ru8 ∧ ∀ x ∈ l, 0 ≤ x ∧ x < 256
  | [], _ => ⟨[], rfl, fun _ h => by simp at h⟩
  | x :: xs, h => by
    obtain ⟨l, rfl, h2⟩ := ty_order m xs fun y hy => h y (List.mem_cons_of_mem _ hy)
    obtain ⟨n, rfl, h1⟩ := ty_u8 (h x List.mem_cons_self)
    refine ⟨n :: l, rfl, fun u hu => ?_⟩
    rcases List.mem_cons.1 hu with rfl | hu
    · exact h1
    · exact h2 u hu
theorem free_true (x1 : List Fz) (h1 : hasTy Tryz.prog 8 53 x1) : call T 7 [argOf false x1] [] = some (vbool true, []) := by
  unfold hasTy at h1
  rw [Tryz.underlying53] at h1
  obtain ⟨xs, rfl, hl, hx⟩ := h1
  obtain ⟨l, rfl, hr⟩ := ty_order 7 xs hx
  rw [List.length_map] at hl
  exact Free_call awake19 l hr hl
end AC
namespace Go.Proofs.YtafckkajjloleaaGreat
open Go.ChangeShapes Go.WideShapes Go.ChangeAt Go.RowKit Go.A
set_option maxRecDepth 100000 in
theorem schedFree_lifted (os : Os) (started : os.Started) (H : Type) (enc : TypeId × Value → H) :
    ReturnsInHanded {} Tryz.checked os 7 .any (Rows.schedFreeSpec.pre6 enc Tryz.prog Tryz.f7 Rows.schedFreeRow.domain false) (Rows.schedFreeSpec.post enc Tryz.prog Tryz.f7 false true false false) := by
  refine returnsInHanded_of_change (C := Tryz.checked) Tryz.own started (by kernel_rfl) Tryz.func7
    (ChangeSpec.witness6 (enc := enc) (C := Tryz.checked) false ⟨#[], #[.slice none 0 0], []⟩ 8 (by kernel_rfl) (by kernel_rfl) (by kernel_rfl) (by kernel_rfl)) ?_
  intro W base args ds gs before hval hW _ _
  exact law_one (m1 := 8) (t1 := 53) (tb := 4) AC.sound_T Tryz.laidOut Tryz.params7 (by kernel_rfl) (by kernel_rfl) rfl (by kernel_rfl) (of_decide_eq_true (by kernel_rfl)) (by kernel_rfl) (fun _ => ⟨rfl, rfl, rfl⟩) AC.free_true hval hW
end Go.Proofs.YtafckkajjloleaaGreat

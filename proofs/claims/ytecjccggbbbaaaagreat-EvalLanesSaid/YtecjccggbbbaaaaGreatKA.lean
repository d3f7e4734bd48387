import Derived.Test.YtecjccggbbbaaaaGreatData
import Derived.KernelRfl
set_option linter.unusedVariables false
set_option linter.unusedSimpArgs false
namespace AC
open Go Go.A Go.A.Lex
def mayW (b : Int) : Bool := decide (b = 1) || decide (b = 8) || decide (b = 16) || decide (b = 32) || decide (b = 64)
@[go_sem] theorem word_May_call (b : Int) : call T F.word_May [vI b] [] = some (vB (mayW b), []) := by
  rw [call_eq (fn := a_word_May) rfl]
  by_cases c1 : b = 1
  · simp -implicitDefEqProofs only [go_sem, a_word_May, mayW, c1]
  by_cases c2 : b = 8
  · simp -implicitDefEqProofs only [go_sem, a_word_May, mayW, c1, c2]
  by_cases c3 : b = 16
  · simp -implicitDefEqProofs only [go_sem, a_word_May, mayW, c1, c2, c3]
  by_cases c4 : b = 32
  · simp -implicitDefEqProofs only [go_sem, a_word_May, mayW, c1, c2, c3, c4]
  by_cases c5 : b = 64 <;> simp -implicitDefEqProofs only [go_sem, a_word_May, mayW, c1, c2, c3, c4, c5]
def value (v : Int) : Bool := decide (1 ≤ v) && decide (v ≤ 1023)
@[go_sem] theorem kind_value_call (v : Int) : call T F.kind_value [vI v] [] = some (vB (value v), []) := by
  rw [call_eq (fn := a_kind_value) rfl]
  by_cases c1 : 1 ≤ v <;> simp -implicitDefEqProofs only [go_sem, a_kind_value, value, c1]
end AC

namespace AC
open Go Go.A Go.A.Lex
def idxFrom {α : Type} (p : α → Bool) : Nat → List α → Int
  | _, [] => -1
  | k, x :: r => if p x = true then (k : Int) else idxFrom p (k + 1) r
theorem idx_any {α : Type} (p : α → Bool) : ∀ (l : List α) (k : Nat), decide (0 ≤ idxFrom p k l) = l.any p
  | [], _ => by simp [idxFrom]
  | x :: r, k => by
    simp only [idxFrom, List.any_cons]
    by_cases h : p x = true
    · simp [h]
    · simp [h, idx_any p r (k + 1)]
theorem IndexFunc_int_loop (l : List (Int)) (p : Int → Bool) (g : Nat) (fst caps : List C) (σ : Store) (hl : l.length ≤ 4294967296)
    (hf : ∀ x ∈ l, call T g (fst.map V.one ++ vI x :: caps.map V.one) σ = some (vB (p x), σ)) : ∀ (d k : Nat) (a2 a3 a6 a7 : V), l.length - k = d → k ≤ l.length →
    exec T slices_IndexFunc_int_l0 ⟨[vIs l, .one (.fn g fst caps), a2, a3, vI l.length, vI k, a6, a7], σ, σ.length, σ.length⟩ =
      some (if (l.drop k).any p = true then (.ret, ⟨[vU, vU, vI (idxFrom p k (l.drop k)), vU, vU, vU, vU, vU], σ, σ.length, σ.length⟩) else (.exit 0, ⟨[vU, vU, vU, vU, vU, vU, vU, vU], σ, σ.length, σ.length⟩)) := by
  intro d
  induction d with
  | zero =>
    intro k a2 a3 a6 a7 h1 h2
    have hk : k = l.length := by omega
    subst hk
    rw [slices_IndexFunc_int_l0_eq, slices_IndexFunc_int_b0]
    simp -implicitDefEqProofs only [go_sem, Int.lt_irrefl, List.drop_length]
  | succ d ih =>
    intro k a2 a3 a6 a7 h1 h2
    have hk : k < l.length := by omega
    have hd : l.drop k = l[k] :: l.drop (k + 1) := List.drop_eq_getElem_cons hk
    have hc := hf l[k] (List.getElem_mem hk)
    rw [slices_IndexFunc_int_l0_eq, slices_IndexFunc_int_b0, hd]
    cases hp : p l[k]
    · rw [hp] at hc
      simp -implicitDefEqProofs only [go_sem, ilt hk, getr hk, ri, hc, hp, idxFrom, wrap_succ hk hl]
      exact ih (k + 1) _ _ _ _ (by omega) (by omega)
    · rw [hp] at hc
      simp -implicitDefEqProofs only [go_sem, ilt hk, getr hk, ri, hc, hp, idxFrom]
theorem ContainsFunc_int_call (l : List (Int)) (p : Int → Bool) (g : Nat) (fst caps : List C) (σ : Store) (hl : l.length ≤ 4294967296)
    (hf : ∀ x ∈ l, call T g (fst.map V.one ++ vI x :: caps.map V.one) σ = some (vB (p x), σ)) :
    call T F.slices_ContainsFunc_int [vIs l, .one (.fn g fst caps)] σ = some (vB (l.any p), σ) := by
  have hI : call T F.slices_IndexFunc_int [vIs l, .one (.fn g fst caps)] σ = some (vI (idxFrom p 0 l), σ) := by
    rw [call_eq (fn := a_slices_IndexFunc_int) rfl]
    have h := fun a2 a3 a6 a7 => IndexFunc_int_loop l p g fst caps σ hl hf l.length 0 a2 a3 a6 a7 (by omega) (by omega)
    simp only [List.drop_zero, Int.natCast_zero] at h
    have hn : l.any p = false → idxFrom p 0 l = -1 := fun h => by
      have := idx_any p l 0
      rw [h] at this
      have h2 : ∀ (l : List (Int)) k, l.any p = false → idxFrom p k l = -1 := by
        intro l
        induction l with
        | nil => exact fun _ _ => rfl
        | cons x r ih =>
          intro k h
          simp only [List.any_cons, Bool.or_eq_false_iff] at h
          simp only [idxFrom, h.1, Bool.false_eq_true, if_false]
          exact ih _ h.2
      exact h2 l 0 h
    cases ha : l.any p
    · simp -implicitDefEqProofs only [go_sem, ha] at h
      simp -implicitDefEqProofs only [go_sem, a_slices_IndexFunc_int, h, hn ha]
    · simp -implicitDefEqProofs only [go_sem, ha] at h
      simp -implicitDefEqProofs only [go_sem, a_slices_IndexFunc_int, h]
  rw [call_eq (fn := a_slices_ContainsFunc_int) rfl]
  simp -implicitDefEqProofs only [go_sem, a_slices_ContainsFunc_int, hI, idx_any]
theorem IndexFunc_Block_loop (l : List (PBlock)) (p : PBlock → Bool) (g : Nat) (fst caps : List C) (σ : Store) (hl : l.length ≤ 4294967296)
    (hf : ∀ x ∈ l, call T g (fst.map V.one ++ vBlock x :: caps.map V.one) σ = some (vB (p x), σ)) : ∀ (d k : Nat) (a2 a3 a6 a7 : V), l.length - k = d → k ≤ l.length →
    exec T slices_IndexFunc_Block_l0 ⟨[vL (l.map rb), .one (.fn g fst caps), a2, a3, vI l.length, vI k, a6, a7], σ, σ.length, σ.length⟩ =
      some (if (l.drop k).any p = true then (.ret, ⟨[vU, vU, vI (idxFrom p k (l.drop k)), vU, vU, vU, vU, vU], σ, σ.length, σ.length⟩) else (.exit 0, ⟨[vU, vU, vU, vU, vU, vU, vU, vU], σ, σ.length, σ.length⟩)) := by
  intro d
  induction d with
  | zero =>
    intro k a2 a3 a6 a7 h1 h2
    have hk : k = l.length := by omega
    subst hk
    rw [slices_IndexFunc_Block_l0_eq, slices_IndexFunc_Block_b0]
    simp -implicitDefEqProofs only [go_sem, Int.lt_irrefl, List.drop_length]
  | succ d ih =>
    intro k a2 a3 a6 a7 h1 h2
    have hk : k < l.length := by omega
    have hd : l.drop k = l[k] :: l.drop (k + 1) := List.drop_eq_getElem_cons hk
    have hc := hf l[k] (List.getElem_mem hk)
    rw [slices_IndexFunc_Block_l0_eq, slices_IndexFunc_Block_b0, hd]
    cases hp : p l[k]
    · rw [hp] at hc
      simp -implicitDefEqProofs only [go_sem, ilt hk, getr hk, rb, hc, hp, idxFrom, wrap_succ hk hl]
      exact ih (k + 1) _ _ _ _ (by omega) (by omega)
    · rw [hp] at hc
      simp -implicitDefEqProofs only [go_sem, ilt hk, getr hk, rb, hc, hp, idxFrom]
theorem ContainsFunc_Block_call (l : List (PBlock)) (p : PBlock → Bool) (g : Nat) (fst caps : List C) (σ : Store) (hl : l.length ≤ 4294967296)
    (hf : ∀ x ∈ l, call T g (fst.map V.one ++ vBlock x :: caps.map V.one) σ = some (vB (p x), σ)) :
    call T F.slices_ContainsFunc_Block [vL (l.map rb), .one (.fn g fst caps)] σ = some (vB (l.any p), σ) := by
  have hI : call T F.slices_IndexFunc_Block [vL (l.map rb), .one (.fn g fst caps)] σ = some (vI (idxFrom p 0 l), σ) := by
    rw [call_eq (fn := a_slices_IndexFunc_Block) rfl]
    have h := fun a2 a3 a6 a7 => IndexFunc_Block_loop l p g fst caps σ hl hf l.length 0 a2 a3 a6 a7 (by omega) (by omega)
    simp only [List.drop_zero, Int.natCast_zero] at h
    have hn : l.any p = false → idxFrom p 0 l = -1 := fun h => by
      have := idx_any p l 0
      rw [h] at this
      have h2 : ∀ (l : List (PBlock)) k, l.any p = false → idxFrom p k l = -1 := by
        intro l
        induction l with
        | nil => exact fun _ _ => rfl
        | cons x r ih =>
          intro k h
          simp only [List.any_cons, Bool.or_eq_false_iff] at h
          simp only [idxFrom, h.1, Bool.false_eq_true, if_false]
          exact ih _ h.2
      exact h2 l 0 h
    cases ha : l.any p
    · simp -implicitDefEqProofs only [go_sem, ha] at h
      simp -implicitDefEqProofs only [go_sem, a_slices_IndexFunc_Block, h, hn ha]
    · simp -implicitDefEqProofs only [go_sem, ha] at h
      simp -implicitDefEqProofs only [go_sem, a_slices_IndexFunc_Block, h]
  rw [call_eq (fn := a_slices_ContainsFunc_Block) rfl]
  simp -implicitDefEqProofs only [go_sem, a_slices_ContainsFunc_Block, hI, idx_any]
theorem IndexFunc_Phi_loop (l : List (PPhi)) (p : PPhi → Bool) (g : Nat) (fst caps : List C) (σ : Store) (hl : l.length ≤ 4294967296)
    (hf : ∀ x ∈ l, call T g (fst.map V.one ++ vPhi x :: caps.map V.one) σ = some (vB (p x), σ)) : ∀ (d k : Nat) (a2 a3 a6 a7 : V), l.length - k = d → k ≤ l.length →
    exec T slices_IndexFunc_Phi_l0 ⟨[vL (l.map rp), .one (.fn g fst caps), a2, a3, vI l.length, vI k, a6, a7], σ, σ.length, σ.length⟩ =
      some (if (l.drop k).any p = true then (.ret, ⟨[vU, vU, vI (idxFrom p k (l.drop k)), vU, vU, vU, vU, vU], σ, σ.length, σ.length⟩) else (.exit 0, ⟨[vU, vU, vU, vU, vU, vU, vU, vU], σ, σ.length, σ.length⟩)) := by
  intro d
  induction d with
  | zero =>
    intro k a2 a3 a6 a7 h1 h2
    have hk : k = l.length := by omega
    subst hk
    rw [slices_IndexFunc_Phi_l0_eq, slices_IndexFunc_Phi_b0]
    simp -implicitDefEqProofs only [go_sem, Int.lt_irrefl, List.drop_length]
  | succ d ih =>
    intro k a2 a3 a6 a7 h1 h2
    have hk : k < l.length := by omega
    have hd : l.drop k = l[k] :: l.drop (k + 1) := List.drop_eq_getElem_cons hk
    have hc := hf l[k] (List.getElem_mem hk)
    rw [slices_IndexFunc_Phi_l0_eq, slices_IndexFunc_Phi_b0, hd]
    cases hp : p l[k]
    · rw [hp] at hc
      simp -implicitDefEqProofs only [go_sem, ilt hk, getr hk, rp, hc, hp, idxFrom, wrap_succ hk hl]
      exact ih (k + 1) _ _ _ _ (by omega) (by omega)
    · rw [hp] at hc
      simp -implicitDefEqProofs only [go_sem, ilt hk, getr hk, rp, hc, hp, idxFrom]
theorem ContainsFunc_Phi_call (l : List (PPhi)) (p : PPhi → Bool) (g : Nat) (fst caps : List C) (σ : Store) (hl : l.length ≤ 4294967296)
    (hf : ∀ x ∈ l, call T g (fst.map V.one ++ vPhi x :: caps.map V.one) σ = some (vB (p x), σ)) :
    call T F.slices_ContainsFunc_Phi [vL (l.map rp), .one (.fn g fst caps)] σ = some (vB (l.any p), σ) := by
  have hI : call T F.slices_IndexFunc_Phi [vL (l.map rp), .one (.fn g fst caps)] σ = some (vI (idxFrom p 0 l), σ) := by
    rw [call_eq (fn := a_slices_IndexFunc_Phi) rfl]
    have h := fun a2 a3 a6 a7 => IndexFunc_Phi_loop l p g fst caps σ hl hf l.length 0 a2 a3 a6 a7 (by omega) (by omega)
    simp only [List.drop_zero, Int.natCast_zero] at h
    have hn : l.any p = false → idxFrom p 0 l = -1 := fun h => by
      have := idx_any p l 0
      rw [h] at this
      have h2 : ∀ (l : List (PPhi)) k, l.any p = false → idxFrom p k l = -1 := by
        intro l
        induction l with
        | nil => exact fun _ _ => rfl
        | cons x r ih =>
          intro k h
          simp only [List.any_cons, Bool.or_eq_false_iff] at h
          simp only [idxFrom, h.1, Bool.false_eq_true, if_false]
          exact ih _ h.2
      exact h2 l 0 h
    cases ha : l.any p
    · simp -implicitDefEqProofs only [go_sem, ha] at h
      simp -implicitDefEqProofs only [go_sem, a_slices_IndexFunc_Phi, h, hn ha]
    · simp -implicitDefEqProofs only [go_sem, ha] at h
      simp -implicitDefEqProofs only [go_sem, a_slices_IndexFunc_Phi, h]
  rw [call_eq (fn := a_slices_ContainsFunc_Phi) rfl]
  simp -implicitDefEqProofs only [go_sem, a_slices_ContainsFunc_Phi, hI, idx_any]
theorem IndexFunc_Op_loop (l : List (POp)) (p : POp → Bool) (g : Nat) (fst caps : List C) (σ : Store) (hl : l.length ≤ 4294967296)
    (hf : ∀ x ∈ l, call T g (fst.map V.one ++ vOp x :: caps.map V.one) σ = some (vB (p x), σ)) : ∀ (d k : Nat) (a2 a3 a6 a7 : V), l.length - k = d → k ≤ l.length →
    exec T slices_IndexFunc_Op_l0 ⟨[vL (l.map ro), .one (.fn g fst caps), a2, a3, vI l.length, vI k, a6, a7], σ, σ.length, σ.length⟩ =
      some (if (l.drop k).any p = true then (.ret, ⟨[vU, vU, vI (idxFrom p k (l.drop k)), vU, vU, vU, vU, vU], σ, σ.length, σ.length⟩) else (.exit 0, ⟨[vU, vU, vU, vU, vU, vU, vU, vU], σ, σ.length, σ.length⟩)) := by
  intro d
  induction d with
  | zero =>
    intro k a2 a3 a6 a7 h1 h2
    have hk : k = l.length := by omega
    subst hk
    rw [slices_IndexFunc_Op_l0_eq, slices_IndexFunc_Op_b0]
    simp -implicitDefEqProofs only [go_sem, Int.lt_irrefl, List.drop_length]
  | succ d ih =>
    intro k a2 a3 a6 a7 h1 h2
    have hk : k < l.length := by omega
    have hd : l.drop k = l[k] :: l.drop (k + 1) := List.drop_eq_getElem_cons hk
    have hc := hf l[k] (List.getElem_mem hk)
    rw [slices_IndexFunc_Op_l0_eq, slices_IndexFunc_Op_b0, hd]
    cases hp : p l[k]
    · rw [hp] at hc
      simp -implicitDefEqProofs only [go_sem, ilt hk, getr hk, ro, hc, hp, idxFrom, wrap_succ hk hl]
      exact ih (k + 1) _ _ _ _ (by omega) (by omega)
    · rw [hp] at hc
      simp -implicitDefEqProofs only [go_sem, ilt hk, getr hk, ro, hc, hp, idxFrom]
theorem ContainsFunc_Op_call (l : List (POp)) (p : POp → Bool) (g : Nat) (fst caps : List C) (σ : Store) (hl : l.length ≤ 4294967296)
    (hf : ∀ x ∈ l, call T g (fst.map V.one ++ vOp x :: caps.map V.one) σ = some (vB (p x), σ)) :
    call T F.slices_ContainsFunc_Op [vL (l.map ro), .one (.fn g fst caps)] σ = some (vB (l.any p), σ) := by
  have hI : call T F.slices_IndexFunc_Op [vL (l.map ro), .one (.fn g fst caps)] σ = some (vI (idxFrom p 0 l), σ) := by
    rw [call_eq (fn := a_slices_IndexFunc_Op) rfl]
    have h := fun a2 a3 a6 a7 => IndexFunc_Op_loop l p g fst caps σ hl hf l.length 0 a2 a3 a6 a7 (by omega) (by omega)
    simp only [List.drop_zero, Int.natCast_zero] at h
    have hn : l.any p = false → idxFrom p 0 l = -1 := fun h => by
      have := idx_any p l 0
      rw [h] at this
      have h2 : ∀ (l : List (POp)) k, l.any p = false → idxFrom p k l = -1 := by
        intro l
        induction l with
        | nil => exact fun _ _ => rfl
        | cons x r ih =>
          intro k h
          simp only [List.any_cons, Bool.or_eq_false_iff] at h
          simp only [idxFrom, h.1, Bool.false_eq_true, if_false]
          exact ih _ h.2
      exact h2 l 0 h
    cases ha : l.any p
    · simp -implicitDefEqProofs only [go_sem, ha] at h
      simp -implicitDefEqProofs only [go_sem, a_slices_IndexFunc_Op, h, hn ha]
    · simp -implicitDefEqProofs only [go_sem, ha] at h
      simp -implicitDefEqProofs only [go_sem, a_slices_IndexFunc_Op, h]
  rw [call_eq (fn := a_slices_ContainsFunc_Op) rfl]
  simp -implicitDefEqProofs only [go_sem, a_slices_ContainsFunc_Op, hI, idx_any]
theorem IndexFunc_sint_loop (l : List (List Int)) (p : List Int → Bool) (g : Nat) (fst caps : List C) (σ : Store) (hl : l.length ≤ 4294967296)
    (hf : ∀ x ∈ l, call T g (fst.map V.one ++ vIs x :: caps.map V.one) σ = some (vB (p x), σ)) : ∀ (d k : Nat) (a2 a3 a6 a7 : V), l.length - k = d → k ≤ l.length →
    exec T slices_IndexFunc_sint_l0 ⟨[vLs l, .one (.fn g fst caps), a2, a3, vI l.length, vI k, a6, a7], σ, σ.length, σ.length⟩ =
      some (if (l.drop k).any p = true then (.ret, ⟨[vU, vU, vI (idxFrom p k (l.drop k)), vU, vU, vU, vU, vU], σ, σ.length, σ.length⟩) else (.exit 0, ⟨[vU, vU, vU, vU, vU, vU, vU, vU], σ, σ.length, σ.length⟩)) := by
  intro d
  induction d with
  | zero =>
    intro k a2 a3 a6 a7 h1 h2
    have hk : k = l.length := by omega
    subst hk
    rw [slices_IndexFunc_sint_l0_eq, slices_IndexFunc_sint_b0]
    simp -implicitDefEqProofs only [go_sem, Int.lt_irrefl, List.drop_length]
  | succ d ih =>
    intro k a2 a3 a6 a7 h1 h2
    have hk : k < l.length := by omega
    have hd : l.drop k = l[k] :: l.drop (k + 1) := List.drop_eq_getElem_cons hk
    have hc := hf l[k] (List.getElem_mem hk)
    rw [slices_IndexFunc_sint_l0_eq, slices_IndexFunc_sint_b0, hd]
    cases hp : p l[k]
    · rw [hp] at hc
      simp -implicitDefEqProofs only [go_sem, ilt hk, getr hk, rl, hc, hp, idxFrom, wrap_succ hk hl]
      exact ih (k + 1) _ _ _ _ (by omega) (by omega)
    · rw [hp] at hc
      simp -implicitDefEqProofs only [go_sem, ilt hk, getr hk, rl, hc, hp, idxFrom]
theorem ContainsFunc_sint_call (l : List (List Int)) (p : List Int → Bool) (g : Nat) (fst caps : List C) (σ : Store) (hl : l.length ≤ 4294967296)
    (hf : ∀ x ∈ l, call T g (fst.map V.one ++ vIs x :: caps.map V.one) σ = some (vB (p x), σ)) :
    call T F.slices_ContainsFunc_sint [vLs l, .one (.fn g fst caps)] σ = some (vB (l.any p), σ) := by
  have hI : call T F.slices_IndexFunc_sint [vLs l, .one (.fn g fst caps)] σ = some (vI (idxFrom p 0 l), σ) := by
    rw [call_eq (fn := a_slices_IndexFunc_sint) rfl]
    have h := fun a2 a3 a6 a7 => IndexFunc_sint_loop l p g fst caps σ hl hf l.length 0 a2 a3 a6 a7 (by omega) (by omega)
    simp only [List.drop_zero, Int.natCast_zero] at h
    have hn : l.any p = false → idxFrom p 0 l = -1 := fun h => by
      have := idx_any p l 0
      rw [h] at this
      have h2 : ∀ (l : List (List Int)) k, l.any p = false → idxFrom p k l = -1 := by
        intro l
        induction l with
        | nil => exact fun _ _ => rfl
        | cons x r ih =>
          intro k h
          simp only [List.any_cons, Bool.or_eq_false_iff] at h
          simp only [idxFrom, h.1, Bool.false_eq_true, if_false]
          exact ih _ h.2
      exact h2 l 0 h
    cases ha : l.any p
    · simp -implicitDefEqProofs only [go_sem, ha] at h
      simp -implicitDefEqProofs only [go_sem, a_slices_IndexFunc_sint, h, hn ha]
    · simp -implicitDefEqProofs only [go_sem, ha] at h
      simp -implicitDefEqProofs only [go_sem, a_slices_IndexFunc_sint, h]
  rw [call_eq (fn := a_slices_ContainsFunc_sint) rfl]
  simp -implicitDefEqProofs only [go_sem, a_slices_ContainsFunc_sint, hI, idx_any]
end AC

namespace AC
open Go Go.A Go.A.Lex
attribute [go_sem] V.beq C.beq C.beqs Fz.beq Fz.beqR Value.beq
def cutW (v b : Int) : Int := if mayW b = true then v % 2 ^ b.toNat else 0
theorem mayW_cases {b : Int} (h : mayW b = true) : b = 1 ∨ b = 8 ∨ b = 16 ∨ b = 32 ∨ b = 64 := by
  simp only [mayW, Bool.or_eq_true, decide_eq_true_eq] at h
  omega
theorem wrap_u64' (n : Int) : Go.IntKind.u64.wrap n = n % 18446744073709551616 := by
  unfold Go.IntKind.wrap Go.IntKind.bits Go.IntKind.signed
  simp
@[go_sem] theorem word_Cut_call (v b : Int) (h0 : 0 ≤ v) (h1 : v < 18446744073709551616) : call T F.word_Cut [vU64 v, vI b] [] = some (vU64 (cutW v b), []) := by
  rw [call_eq (fn := a_word_Cut) rfl]
  cases hm : mayW b
  · simp -implicitDefEqProofs only [go_sem, a_word_Cut, cutW, hm]
  · have w1 : Go.IntKind.i64.wrap (64 - 1) = 63 := by decide
    have w8 : Go.IntKind.i64.wrap (64 - 8) = 56 := by decide
    have w16 : Go.IntKind.i64.wrap (64 - 16) = 48 := by decide
    have w32 : Go.IntKind.i64.wrap (64 - 32) = 32 := by decide
    have w64 : Go.IntKind.i64.wrap (64 - 64) = 0 := by decide
    have hb : Go.IntKind.u64.bits = 64 := rfl
    rcases mayW_cases hm with rfl | rfl | rfl | rfl | rfl
    all_goals
      simp -implicitDefEqProofs only [Int.reduceSub] at w1 w8 w16 w32 w64
      simp -implicitDefEqProofs only [go_sem, a_word_Cut, cutW, hm, w1, w8, w16, w32, w64, hb, wrap_u64', Option.some.injEq, Prod.mk.injEq, V.one.injEq, C.f.injEq, Fz.lit.injEq, Value.int.injEq]
      simp
      try (rw [Int.fdiv_eq_ediv_of_nonneg _ (by omega)]; omega)
def lanesOk (l : Int) : Bool := decide (l = 2) || decide (l = 4) || decide (l = 8) || decide (l = 16)
def shapeS (b l : Int) : Bool := mayW b && (decide (l = 1) || (lanesOk l && (decide (8 ≤ b) && decide (b * l ≤ 128))))
theorem lanesOk_cases {l : Int} (h : lanesOk l = true) : l = 2 ∨ l = 4 ∨ l = 8 ∨ l = 16 := by
  simp only [lanesOk, Bool.or_eq_true, decide_eq_true_eq] at h
  omega
theorem shapeS_lanes {b l : Int} (h : shapeS b l = true) : mayW b = true ∧ (l = 1 ∨ l = 2 ∨ l = 4 ∨ l = 8 ∨ l = 16) := by
  simp only [shapeS, Bool.and_eq_true, Bool.or_eq_true, decide_eq_true_eq] at h
  refine ⟨h.1, ?_⟩
  rcases h.2 with h | h
  · exact .inl h
  · have := lanesOk_cases h.1
    omega
@[go_sem] theorem kind_Shape_call (b l : Int) : call T F.kind_Shape [vI b, vI l] [] = some (vB (shapeS b l), []) := by
  rw [call_eq (fn := a_kind_Shape) rfl]
  cases hm : mayW b
  · simp -implicitDefEqProofs only [go_sem, a_kind_Shape, shapeS, hm]
  by_cases c1 : l = 1
  · simp -implicitDefEqProofs only [go_sem, a_kind_Shape, shapeS, hm, c1]
  cases hl : lanesOk l
  · have hl' := hl
    simp only [lanesOk, Bool.or_eq_false_iff, decide_eq_false_iff_not] at hl'
    obtain ⟨⟨⟨c2, c3⟩, c4⟩, c5⟩ := hl'
    simp -implicitDefEqProofs only [go_sem, a_kind_Shape, shapeS, hm, c1, c2, c3, c4, c5, hl]
  · by_cases c8 : 8 ≤ b
    · have hm' := mayW_cases hm
      rcases lanesOk_cases hl with rfl | rfl | rfl | rfl
      all_goals
        have w2 : Go.IntKind.i64.wrap (b * 2) = b * 2 := wrap_i64 (by omega) (by omega)
        have w4 : Go.IntKind.i64.wrap (b * 4) = b * 4 := wrap_i64 (by omega) (by omega)
        have w8 : Go.IntKind.i64.wrap (b * 8) = b * 8 := wrap_i64 (by omega) (by omega)
        have w16 : Go.IntKind.i64.wrap (b * 16) = b * 16 := wrap_i64 (by omega) (by omega)
        simp -implicitDefEqProofs only [go_sem, a_kind_Shape, shapeS, hm, c1, hl, c8, w2, w4, w8, w16]
    · rcases lanesOk_cases hl with rfl | rfl | rfl | rfl
      all_goals simp -implicitDefEqProofs only [go_sem, a_kind_Shape, shapeS, hm, c1, hl, c8]
def stores (k : Int) : Bool := decide (k = 17) || decide (k = 19)
@[go_sem] theorem kind_stores_call (k : Int) : call T F.kind_stores [vI k] [] = some (vB (stores k), []) := by
  rw [call_eq (fn := a_kind_stores) rfl]
  by_cases c1 : k = 17 <;> simp -implicitDefEqProofs only [go_sem, a_kind_stores, stores, c1]
@[go_sem] theorem kind_row_call (l : List (List Fz)) : call T F.kind_row [vL l] [] = some (vL l, []) := by
  rw [call_eq (fn := a_kind_row) rfl]
  simp -implicitDefEqProofs only [go_sem, a_kind_row]
theorem callN_of {n f : Nat} {args : List V} {r : V × Store} (h : callW T (execN T n) f args [] = some r) : call T f args [] = some r := callN_call T n _ _ _ _ h
set_option maxRecDepth 100000 in
theorem Repeat_2int_call (s : Int × Int) (l : Int) (h : l = 1 ∨ l = 2 ∨ l = 4 ∨ l = 8 ∨ l = 16) : call T F.slices_Repeat_2int [vL [rs s], vI l] [] = some (vL (List.replicate l.toNat (rs s)), []) := by
  rcases h with rfl | rfl | rfl | rfl | rfl
  · exact callN_of (n := 200) (by kernel_rfl)
  · exact callN_of (n := 200) (by kernel_rfl)
  · exact callN_of (n := 200) (by kernel_rfl)
  · exact callN_of (n := 200) (by kernel_rfl)
  · exact callN_of (n := 200) (by kernel_rfl)
end AC

import Derived.Test.YtecjccggbbbaaaaGreatKH
import Derived.Test.YtecjccggbbbaaaaGreatKI
set_option linter.unusedVariables false
set_option linter.unusedSimpArgs false
set_option linter.unusedSectionVars false
namespace AC
open Go Go.A Go.A.Lex
/-- The places: loads of one width, one behind the other. -/
def c64 (base : Int) (s i : Nat) : Int := (base + i * s) % 18446744073709551616
def rowC (base : Int) (s : Nat) : Nat → Nat → List POp
  | 0, _ => []
  | d + 1, i => cstO (2 + 3 * i) (c64 base s i) :: binO 1 (3 + 3 * i) 1 (2 + 3 * i) :: ldO (8 * s) (4 + 3 * i) (3 + 3 * i) :: rowC base s d (i + 1)
theorem rowC_length (base : Int) (s : Nat) : ∀ d i, (rowC base s d i).length = 3 * d
  | 0, _ => rfl
  | d + 1, i => by simp only [rowC, List.length_cons, rowC_length base s d]; omega
def rwSh (s : Nat) (v : Int) : Int × Int := if 4 ≤ v ∧ v % 3 = 1 then (8 * s, 1) else (64, 1)
def okS (s : Nat) : Prop := s = 1 ∨ s = 2 ∨ s = 4 ∨ s = 8
theorem okS_w {s : Nat} (h : okS s) : mayW (8 * s) = true := by rcases h with rfl | rfl | rfl | rfl <;> rfl
theorem c64_ok (base : Int) (s i : Nat) : 0 ≤ c64 base s i ∧ c64 base s i < 18446744073709551616 := by unfold c64; omega
theorem row_line (base : Int) (s : Nat) (hs : okS s) : ∀ d i : Nat, d + i ≤ 16 → MTo (rwSh s) (2 + 3 * i) (rowC base s d i) (2 + 3 * (i + d : Nat))
  | 0, i, _ => MTo.nil _ _
  | d + 1, i, h => by
    obtain ⟨b0, b1⟩ := c64_ok base s i
    have s1 : rwSh s 1 = (64, 1) := by unfold rwSh; rw [if_neg (by omega)]
    have s2 : rwSh s (2 + 3 * i) = (64, 1) := by unfold rwSh; rw [if_neg (by omega)]
    have s3 : rwSh s (3 + 3 * i) = (64, 1) := by unfold rwSh; rw [if_neg (by omega)]
    have s4 : rwSh s (4 + 3 * i) = (8 * (s : Int), 1) := by unfold rwSh; rw [if_pos (by omega)]
    have hr := row_line base s hs d (i + 1) (by omega)
    have e : (2 : Int) + 3 * ((i + 1 : Nat) : Int) = 2 + 3 * i + 1 + 1 + 1 := by omega
    have e2 : i + 1 + d = i + (d + 1) := by omega
    rw [e, e2] at hr
    have e3 : (2 : Int) + 3 * i + 1 = 3 + 3 * i := by omega
    have e4 : (3 : Int) + 3 * i + 1 = 4 + 3 * i := by omega
    refine .val (mop_cst (rwSh s) 64 (2 + 3 * i) (c64 base s i) rfl (by omega) (by omega) b0 b1 (cut64 b0 b1) s2) rfl (by omega) rfl ?_
    rw [e3] at hr ⊢
    refine .val (mop_bin (rwSh s) 1 64 (3 + 3 * i) 1 (2 + 3 * i) rfl rfl (by omega) (by omega) (by omega) (by omega) (by omega) (by omega) s1 s2 (by rw [s3]; rfl)) rfl (by omega) rfl ?_
    rw [e4] at hr ⊢
    have h8 : (8 : Int) ≤ 8 * s := by rcases hs with rfl | rfl | rfl | rfl <;> omega
    exact .val (mop_load (rwSh s) (8 * s) (4 + 3 * i) (3 + 3 * i) (okS_w hs) h8 (by omega) (by omega) (by omega) (by omega) s3 s4) rfl (by omega) rfl hr
theorem get_row (base : Int) (s i : Nat) : ∀ (d j : Nat) (D : OMap), (j ≤ i ∧ i < j + d → getM (2 + 3 * (i : Int)) (putOpsM D (rowC base s d j)) = some (cstO (2 + 3 * i) (c64 base s i)) ∧ getM (3 + 3 * (i : Int)) (putOpsM D (rowC base s d j)) = some (binO 1 (3 + 3 * i) 1 (2 + 3 * i))) ∧
      (∀ v : Int, v < 2 + 3 * j → getM v (putOpsM D (rowC base s d j)) = getM v D)
  | 0, j, D => ⟨fun h => by omega, fun _ _ => rfl⟩
  | d + 1, j, D => by
    simp only [rowC, putOpsM]
    obtain ⟨h1, h2⟩ := get_row base s i d (j + 1) (putM (ldO (8 * s) (4 + 3 * j) (3 + 3 * j)).dst (ldO (8 * s) (4 + 3 * j) (3 + 3 * j)) (putM (binO 1 (3 + 3 * j) 1 (2 + 3 * j)).dst (binO 1 (3 + 3 * j) 1 (2 + 3 * j)) (putM (cstO (2 + 3 * j) (c64 base s j)).dst (cstO (2 + 3 * j) (c64 base s j)) D)))
    have q1 : ∀ v : Int, v < 2 + 3 * j → getM v (putM (ldO (8 * s) (4 + 3 * j) (3 + 3 * j)).dst (ldO (8 * s) (4 + 3 * j) (3 + 3 * j)) (putM (binO 1 (3 + 3 * j) 1 (2 + 3 * j)).dst (binO 1 (3 + 3 * j) 1 (2 + 3 * j)) (putM (cstO (2 + 3 * j) (c64 base s j)).dst (cstO (2 + 3 * j) (c64 base s j)) D))) = getM v D := fun v hv => by
      rw [get_putM, if_neg (show ¬ (ldO (8 * s) (4 + 3 * j) (3 + 3 * j)).dst = v by simp only [ldO]; omega), get_putM, if_neg (show ¬ (binO 1 (3 + 3 * j) 1 (2 + 3 * j)).dst = v by simp only [binO]; omega), get_putM, if_neg (show ¬ (cstO (2 + 3 * j) (c64 base s j)).dst = v by simp only [cstO]; omega)]
    refine ⟨fun h => ?_, fun v hv => by rw [h2 v (by omega), q1 v hv]⟩
    by_cases c : j = i
    · subst c
      rw [h2 _ (by omega), h2 _ (by omega)]
      constructor
      · rw [get_putM, if_neg (show ¬ (ldO (8 * s) (4 + 3 * j) (3 + 3 * j)).dst = 2 + 3 * (j : Int) by simp only [ldO]; omega), get_putM, if_neg (show ¬ (binO 1 (3 + 3 * j) 1 (2 + 3 * j)).dst = 2 + 3 * (j : Int) by simp only [binO]; omega), get_putM]
        exact if_pos rfl
      · rw [get_putM, if_neg (show ¬ (ldO (8 * s) (4 + 3 * j) (3 + 3 * j)).dst = 3 + 3 * (j : Int) by simp only [ldO]; omega), get_putM]
        exact if_pos rfl
    · exact h1 (by omega)
section
variable (base : Int) (s k : Nat)
abbrev rwF : PFunc := oneF [64] (8 * s) (rowC base s k 0) (1 + 3 * k)
def rwM : OMap := opsOf [] (rwF base s k).blocks
theorem rwM_eq : rwM base s k = putOpsM [] (rowC base s k 0) := rfl
theorem rw_form (i : Nat) (hi : i < k) : ∃ M', formS (rwM base s k) 2 [] (3 + 3 * i) = some (([(1, 1)], c64 base s i), M') := by
  obtain ⟨h1, h2⟩ := get_row base s i k 0 []
  obtain ⟨g1, g2⟩ := h1 (by omega)
  rw [← rwM_eq] at g1 g2 h2
  have g0 : getM 1 (rwM base s k) = none := by rw [h2 1 (by omega)]; rfl
  obtain ⟨b0, b1⟩ := c64_ok base s i
  have e1 : getM (2 + 3 * (i : Int)) (putM 1 (([(1, 1)], 0) : PForm) []) = none := by rw [get_putM, if_neg (by omega)]; rfl
  have f1 : formS (rwM base s k) 1 [] 1 = some (([(1, 1)], 0), putM 1 ([(1, 1)], 0) []) := by simp [formS, madeS, g0, keepS, getM]
  have f2 : formS (rwM base s k) 1 (putM 1 (([(1, 1)], 0) : PForm) []) (2 + 3 * i) = some (([], c64 base s i), putM (2 + 3 * i) ([], c64 base s i) (putM 1 ([(1, 1)], 0) [])) := by
    simp [formS, madeS, e1, g1, keepS, cstO]
  refine ⟨putM (3 + 3 * i) ([(1, 1)], c64 base s i) (putM (2 + 3 * i) ([], c64 base s i) (putM 1 ([(1, 1)], 0) [])), ?_⟩
  rw [formS]
  simp only [getM, madeS, g2, binO, f1, Option.bind_some, f2]
  simp [b0, tellA _ b0 b1, keepS]
theorem touch_row : ∀ d i : Nat, touchesFrom (3 * i) (rowC base s d i) = (List.range d).map fun j => ((2 + 3 * (i + j) : Nat) : Int)
  | 0, _ => rfl
  | d + 1, i => by
    have t0 : ¬ 0 ≤ touchK 0 := by decide
    have t1 : ¬ 0 ≤ touchK 1 := by decide
    have t16 : 0 ≤ touchK 16 := by decide
    have := touch_row d (i + 1)
    simp only [rowC, touchesFrom, cstO, binO, ldO, t0, t1, t16, if_false, if_true]
    rw [show 3 * i + 1 + 1 + 1 = 3 * (i + 1) from by omega, this, List.range_succ_eq_map, List.map_cons, List.map_map, show 3 * i + 1 + 1 = 2 + 3 * (i + 0) from by omega]
    congr 1
    refine List.map_congr_left fun j _ => ?_
    simp only [Function.comp]
    congr 1
    omega
theorem row_get : ∀ (d j i : Nat), i < d → (rowC base s d j)[2 + 3 * i]? = some (ldO (8 * s) (4 + 3 * (j + i : Nat)) (3 + 3 * (j + i : Nat)))
  | 0, _, _, h => by omega
  | d + 1, j, 0, _ => by simp [rowC]
  | d + 1, j, i + 1, h => by
    have := row_get d (j + 1) i (by omega)
    rw [rowC, show 2 + 3 * (i + 1) = (2 + 3 * i) + 1 + 1 + 1 from by omega, List.getElem?_cons_succ, List.getElem?_cons_succ, List.getElem?_cons_succ, this, show j + 1 + i = j + (i + 1) from by omega]
end
end AC

namespace AC
open Go Go.A Go.A.Lex
theorem u64w' (x : Int) : IntKind.u64.wrap x = x % 18446744073709551616 := u64w_eq x
theorem row_l0 (base : Int) (s k : Nat) (hs : okS s) (hk : k ≤ 16) : ∀ (d j : Nat) (acc : List POp) (last : Int) a0 a1 a3 a9 a10 a11 a12 a13 a14 a15 a16 a17 a18 a19 a20, k - j = d → j ≤ k → acc.length = 3 * j →
    exec T locksteplaw18_AliasRow_l0 ⟨[a0, a1, vU64 base, a3, vI k, vI (8 * s), .one (.ap 0 0 (acc.map ro)), vI last, vI j, a9, a10, a11, a12, a13, a14, a15, a16, a17, a18, a19, a20], [.tok 6 [3 * j]], 0, 0⟩ =
      some (.exit 0, ⟨[vU, vU, vU, vU, vI k, vI (8 * s), .one (.ap 0 0 ((acc ++ rowC base s d j).map ro)), vI (if d = 0 then last else 1 + 3 * k), vU, vU, vU, vU, vU, vU, vU, vU, vU, vU, vU, vU, vU], [.tok 6 [3 * k]], 0, 0⟩) := by
  intro d
  induction d with
  | zero =>
    intro j acc last a0 a1 a3 a9 a10 a11 a12 a13 a14 a15 a16 a17 a18 a19 a20 h1 h2 h3
    have hj : j = k := by omega
    subst hj
    rw [locksteplaw18_AliasRow_l0_eq, locksteplaw18_AliasRow_b0]
    simp -implicitDefEqProofs only [go_sem, Int.lt_irrefl, rowC, List.append_nil]
  | succ d ih =>
    intro j acc last a0 a1 a3 a9 a10 a11 a12 a13 a14 a15 a16 a17 a18 a19 a20 h1 h2 h3
    have hs8 : s ≤ 8 := by rcases hs with rfl | rfl | rfl | rfl <;> omega
    have hj : ((j : Int) < (k : Int)) = True := by simp; omega
    have hjs : (j : Int) * s ≤ 16 * 8 ∧ 0 ≤ (j : Int) * s := by
      rcases hs with rfl | rfl | rfl | rfl <;> omega
    have w1 : Go.IntKind.i64.wrap ((j : Int) + 1) = ((j + 1 : Nat) : Int) := by rw [wrap_i64] <;> omega
    have w2 : Go.IntKind.i64.wrap (3 * (j : Int)) = 3 * (j : Int) := by rw [wrap_i64] <;> omega
    have w3 : Go.IntKind.i64.wrap (2 + 3 * (j : Int)) = 2 + 3 * (j : Int) := by rw [wrap_i64] <;> omega
    have w4 : Go.IntKind.i64.wrap (3 + 3 * (j : Int)) = 3 + 3 * (j : Int) := by rw [wrap_i64] <;> omega
    have w5 : Go.IntKind.i64.wrap (4 + 3 * (j : Int)) = 4 + 3 * (j : Int) := by rw [wrap_i64] <;> omega
    have em : (j : Int) * (8 * (s : Int)) = 8 * ((j : Int) * s) := by rw [Int.mul_left_comm]
    have w6 : Go.IntKind.i64.wrap ((j : Int) * (8 * (s : Int))) = 8 * ((j : Int) * s) := by rw [em, wrap_i64] <;> omega
    have w7 : (8 * ((j : Int) * s)).tdiv 8 = (j : Int) * s := by rw [Int.mul_tdiv_cancel_left _ (by decide)]
    have w8 : Go.IntKind.i64.wrap ((j : Int) * s) = (j : Int) * s := by rw [wrap_i64] <;> omega
    have w9 : Go.IntKind.u64.wrap ((j : Int) * s) = (j : Int) * s := by rw [wrap_u64] <;> omega
    have w10 : Go.IntKind.u64.wrap (base + (j : Int) * s) = c64 base s j := by rw [u64w', c64]
    have l1 : 3 * j + 1 ≤ LIM := by unfold LIM; omega
    have l2 : 3 * j + 1 + 1 ≤ LIM := by unfold LIM; omega
    have l3 : 3 * j + 1 + 1 + 1 ≤ LIM := by unfold LIM; omega
    have ee : acc ++ rowC base s (d + 1) j = (acc ++ [cstO (2 + 3 * j) (c64 base s j), binO 1 (3 + 3 * j) 1 (2 + 3 * j), ldO (8 * s) (4 + 3 * j) (3 + 3 * j)]) ++ rowC base s d (j + 1) := by simp [rowC]
    have el : (if d = 0 then 4 + 3 * (j : Int) else 1 + 3 * (k : Int)) = if d + 1 = 0 then last else 1 + 3 * (k : Int) := by
      rw [if_neg (show ¬ d + 1 = 0 by omega)]
      split <;> omega
    have := ih (j + 1) (acc ++ [cstO (2 + 3 * j) (c64 base s j), binO 1 (3 + 3 * j) 1 (2 + 3 * j), ldO (8 * s) (4 + 3 * j) (3 + 3 * j)]) (4 + 3 * j) vU vU vU vU vU vU vU vU vU vU vU vU vU vU vU (by omega) (by omega) (by simp; omega)
    rw [← ee, el, List.map_append, show 3 * (j + 1) = 3 * j + 1 + 1 + 1 from by omega] at this
    rw [locksteplaw18_AliasRow_l0_eq, locksteplaw18_AliasRow_b0]
    simp -implicitDefEqProofs only [go_sem, List.map_cons, List.map_nil, cstO, binO, ldO, ro, ri, ei, eu, eI] at this
    simp -implicitDefEqProofs only [go_sem, cstO, binO, ldO, ro, ri, ei, eu, eI, hj, w1, w2, w3, w4, w5, w6, w7, w8, w9, w10, l1, l2, l3, h3, List.length_map, List.length_append, List.length_cons, List.length_nil, List.append_assoc, List.cons_append, List.nil_append, this]
end AC

namespace AC
open Go Go.A Go.A.Lex
def rowL (k : Nat) : List Int := (List.range k).map fun j : Nat => 2 + 3 * (j : Int)
def dd (s i j : Nat) : Int := IntKind.u64.wrap (((j : Int) - i) * s)
/-- What is told of the places of a function. -/
structure RowF (f : PFunc) (k s : Nat) : Prop where
  hd : ∀ i j, i < k → j < k → call T F.alias_Distance [vFunc f, vI 0, vI (2 + 3 * i), vI (2 + 3 * j)] [] = some (.tup [vU64 (dd s i j), vB true], [])
  hf : ∀ i j, i < k → j < k → call T F.alias_Follows [vFunc f, vI 0, vI (2 + 3 * i), vI (2 + 3 * j)] [] = some (vB (decide ((j : Int) = ((i + 1 : Nat) : Int))), [])
  ha : ∀ i j, i < k → j < k → call T F.alias_Apart [vFunc f, vI 0, vI (2 + 3 * i), vI (2 + 3 * j)] [] = some (vB (!decide ((i : Int) = (j : Int))), [])
section
variable (f : PFunc) (k s : Nat) (hs : okS s) (hk : k ≤ 16) (H : RowF f k s)
include hs hk H
theorem row_l1 (i : Nat) (hi : i < k) : ∀ (d j : Nat) a0 a1 a2 a3 a6 a7 a8 a13 a14 a15 a16 a17 a18 a19 a20, k - j = d → j ≤ k →
    exec T locksteplaw18_AliasRow_l1 ⟨[a0, a1, a2, a3, vI k, vI (8 * s), a6, a7, a8, .one (.ptr 1 0 0 0), vIs (rowL k), vI i, vI j, a13, a14, a15, a16, a17, a18, a19, a20], [.tok 6 [3 * k], .cells 0 3 [cFunc f]], 0, 0⟩ =
      some (.exit 4, ⟨[vU, vU, vU, vU, vI k, vI (8 * s), vU, vU, vU, .one (.ptr 1 0 0 0), vIs (rowL k), vI i, vU, vU, vU, vU, vU, vU, vU, vU, vU], [.tok 6 [3 * k], .cells 0 3 [cFunc f]], 0, 0⟩) := by
  intro d
  induction d with
  | zero =>
    intro j a0 a1 a2 a3 a6 a7 a8 a13 a14 a15 a16 a17 a18 a19 a20 h1 h2
    have hj : j = k := by omega
    subst hj
    rw [locksteplaw18_AliasRow_l1_eq, locksteplaw18_AliasRow_b1]
    simp -implicitDefEqProofs only [go_sem, Int.lt_irrefl]
  | succ d ih =>
    intro j a0 a1 a2 a3 a6 a7 a8 a13 a14 a15 a16 a17 a18 a19 a20 h1 h2
    have hj : j < k := by omega
    have hs8 : s ≤ 8 := by rcases hs with rfl | rfl | rfl | rfl <;> omega
    have hjs : -200 ≤ ((j : Int) - i) * s ∧ ((j : Int) - i) * s ≤ 200 := by
      rcases hs with rfl | rfl | rfl | rfl <;> omega
    have w1 : Go.IntKind.i64.wrap ((j : Int) + 1) = ((j + 1 : Nat) : Int) := by rw [wrap_i64] <;> omega
    have w2 : Go.IntKind.i64.wrap ((i : Int) + 1) = ((i + 1 : Nat) : Int) := by rw [wrap_i64] <;> omega
    have w3 : Go.IntKind.i64.wrap ((j : Int) - i) = (j : Int) - i := by rw [wrap_i64] <;> omega
    have w6 : Go.IntKind.i64.wrap (((j : Int) - i) * (8 * (s : Int))) = 8 * (((j : Int) - i) * s) := by rw [Int.mul_left_comm, wrap_i64] <;> omega
    have w7 : (8 * (((j : Int) - i) * s)).tdiv 8 = ((j : Int) - i) * s := by rw [Int.mul_tdiv_cancel_left _ (by decide)]
    have w8 : Go.IntKind.i64.wrap (((j : Int) - i) * s) = ((j : Int) - i) * s := by rw [wrap_i64] <;> omega
    have w9 : Go.IntKind.u64.wrap (((j : Int) - i) * s) = dd s i j := rfl
    have gl : (rowL k).length = k := by simp [rowL]
    have g1 : ((rowL k).map ri)[i]? = some (ri (2 + 3 * i)) := by simp [rowL, hi]
    have g2 : ((rowL k).map ri)[j]? = some (ri (2 + 3 * j)) := by simp [rowL, hj]
    have hD := H.hd i j hi hj
    have hF := H.hf i j hi hj
    have hA := H.ha i j hi hj
    have := ih (j + 1) vU vU vU vU vU vU vU vU vU vU vU vU vU vU vU (by omega) (by omega)
    rw [locksteplaw18_AliasRow_l1_eq, locksteplaw18_AliasRow_b1]
    simp -implicitDefEqProofs only [go_sem] at this hD hF hA
    simp -implicitDefEqProofs only [go_sem, ilt hj, w1, w2, w3, w6, w7, w8, w9, g1, g2, ri, hD, hF, hA, beq_self_eq_true, Int.natCast_nonneg, Int.toNat_natCast, this]
theorem row_l2 : ∀ (d i : Nat) a0 a1 a2 a3 a6 a7 a8 a12 a13 a14 a15 a16 a17 a18 a19 a20, k - i = d → i ≤ k →
    exec T locksteplaw18_AliasRow_l2 ⟨[a0, a1, a2, a3, vI k, vI (8 * s), a6, a7, a8, .one (.ptr 1 0 0 0), vIs (rowL k), vI i, a12, a13, a14, a15, a16, a17, a18, a19, a20], [.tok 6 [3 * k], .cells 0 3 [cFunc f]], 0, 0⟩ =
      some (.exit 2, ⟨[vU, vU, vU, vU, vU, vU, vU, vU, vU, vU, vU, vU, vU, vU, vU, vU, vU, vU, vU, vU, vU], [.tok 6 [3 * k], .cells 0 3 [cFunc f]], 0, 0⟩) := by
  intro d
  induction d with
  | zero =>
    intro i a0 a1 a2 a3 a6 a7 a8 a12 a13 a14 a15 a16 a17 a18 a19 a20 h1 h2
    have hj : i = k := by omega
    subst hj
    rw [locksteplaw18_AliasRow_l2_eq, locksteplaw18_AliasRow_b2]
    simp -implicitDefEqProofs only [go_sem, Int.lt_irrefl]
  | succ d ih =>
    intro i a0 a1 a2 a3 a6 a7 a8 a12 a13 a14 a15 a16 a17 a18 a19 a20 h1 h2
    have hi : i < k := by omega
    have w2 : Go.IntKind.i64.wrap ((i : Int) + 1) = ((i + 1 : Nat) : Int) := by rw [wrap_i64] <;> omega
    have q := fun a0 a1 a2 a3 a6 a7 a8 a13 a14 a15 a16 a17 a18 a19 a20 => row_l1 f k s hs hk H i hi k 0 a0 a1 a2 a3 a6 a7 a8 a13 a14 a15 a16 a17 a18 a19 a20 (by omega) (by omega)
    have := ih (i + 1) vU vU vU vU vU vU vU vU vU vU vU vU vU vU vU vU (by omega) (by omega)
    rw [locksteplaw18_AliasRow_l2_eq, locksteplaw18_AliasRow_b2]
    simp only [Int.natCast_zero] at q
    simp -implicitDefEqProofs only [go_sem] at this q
    simp -implicitDefEqProofs only [go_sem, ilt hi, w2, q, this]
end
theorem row_right (base : Int) (s k : Nat) (hs : okS s) (hk : k ≤ 16) (hk1 : 1 ≤ k) : RightF (rwF base s k) [-1] ∧ ∀ v : Int, 1 ≤ v → v < 2 + 3 * k → getM v (shapesS (rwF base s k)) = some (rwSh s v) := by
  have hl := row_line base s hs k 0 (by omega)
  rw [Nat.zero_add] at hl
  refine right_of (sh := rwSh s) (ps := [64]) (ret := 8 * s) (ops := rowC base s k 0) (arg := 1 + 3 * k) (d := 2) (e := 2 + 3 * k) rfl rfl (by simp) (okS_w hs) (fun q hq => ?_) hl (by rw [rowC_length]; omega) (by omega) (by omega) (by omega) ?_
  · have : q = 0 := by simp at hq; omega
    subst this
    rfl
  · unfold rwSh
    rw [if_pos (by omega)]
theorem row_two (base : Int) (s k : Nat) (hs : okS s) (hk : k ≤ 16) (hk1 : 1 ≤ k) (i j : Nat) (hi : i < k) (hj : j < k) :
    TwoT (rwF base s k) 0 (2 + 3 * i) (2 + 3 * j) (3 + 3 * i) (3 + 3 * j) s s ([(1, 1)], c64 base s i) ([(1, 1)], c64 base s j) := by
  obtain ⟨R, hsh⟩ := row_right base s k hs hk hk1
  have hs8 : 1 ≤ s ∧ s ≤ 8 := by rcases hs with rfl | rfl | rfl | rfl <;> omega
  have sh : ∀ i : Nat, i < k → getM (3 + 3 * (i : Int)) (shapesS (rwF base s k)) = some (64, 1) := fun i hi => by
    rw [hsh _ (by omega) (by omega), rwSh, if_neg (by omega)]
  have oi := Of_line R (sh i hi) (rw_form base s k i hi)
  have oj := Of_line R (sh j hj) (rw_form base s k j hj)
  have gi := row_get base s k 0 i hi
  have gj := row_get base s k 0 j hj
  rw [Nat.zero_add] at gi gj
  have := two_one R (a := 2 + 3 * i) (b := 2 + 3 * j) (m := s) (n := s) gi gj (.inl rfl) (.inl rfl) rfl rfl rfl rfl rfl rfl (by omega) (by omega) oi oj (by simp)
  have e : ∀ i : Nat, ((2 + 3 * i : Nat) : Int) = 2 + 3 * (i : Int) := fun i => by omega
  rw [e, e] at this
  exact this
theorem row_facts (base : Int) (s k : Nat) (hs : okS s) (hk : k ≤ 16) (hk1 : 1 ≤ k) : RowF (rwF base s k) k s := by
  have hd : ∀ i j : Nat, IntKind.u64.wrap (c64 base s j - c64 base s i) = dd s i j := fun i j => by
    rw [u64w', c64, c64, dd, u64w', Int.sub_mul, Int.emod_sub_emod, Int.sub_emod, Int.emod_emod_of_dvd _ (Int.dvd_refl _), ← Int.sub_emod]
    congr 1
    omega
  have hv : ∀ i j : Nat, i < k → j < k → (((j : Int) - i) * s) % 18446744073709551616 = dd s i j := fun i j _ _ => (u64w' _).symm
  refine ⟨fun i j hi hj => ?_, fun i j hi hj => ?_, fun i j hi hj => ?_⟩
  · have := Distance_call (row_two base s k hs hk hk1 i j hi hj)
    rw [hd] at this
    simpa using this
  · have := Follows_call (row_two base s k hs hk hk1 i j hi hj)
    rw [hd] at this
    rw [this, decide_eq_true (show (([(1, 1)], c64 base s i) : PForm).1 = (([(1, 1)], c64 base s j) : PForm).1 from rfl), Bool.true_and]
    congr 3
    rw [← hv i j hi hj]
    have : (((j : Int) - i) * s % 18446744073709551616 = s) ↔ ((j : Int) = ((i + 1 : Nat) : Int)) := by
      rcases hs with rfl | rfl | rfl | rfl <;> omega
    exact decide_eq_decide.2 this
  · have := Apart_call (row_two base s k hs hk hk1 i j hi hj)
    rw [hd] at this
    rw [this, decide_eq_true (show (([(1, 1)], c64 base s i) : PForm).1 = (([(1, 1)], c64 base s j) : PForm).1 from rfl), Bool.true_and]
    congr 3
    rw [← hv i j hi hj, u64w']
    have h1 : ((s : Int) ≤ ((j : Int) - i) * s % 18446744073709551616 ∧ (s : Int) ≤ (0 - ((j : Int) - i) * s % 18446744073709551616) % 18446744073709551616) ↔ ¬ ((i : Int) = (j : Int)) := by
      rcases hs with rfl | rfl | rfl | rfl <;> omega
    rw [← Bool.decide_and, ← decide_not]
    exact decide_eq_decide.2 h1
set_option maxRecDepth 10000 in
theorem Row_call (hA : call T F.locksteplaw18_awake [] [] = some (vB true, [])) (n b base : Int) (hn : 0 ≤ n ∧ n < 256) (hb : 0 ≤ b ∧ b < 256) :
    call T F.locksteplaw18_AliasRow [.one (.f (.lit (.int .u8 n))), .one (.f (.lit (.int .u8 b))), vU64 base] [] = some (vB true, []) := by
  rw [call_eq (fn := a_locksteplaw18_AliasRow) rfl]
  obtain ⟨k0, hk0⟩ : ∃ k0 : Nat, n % 16 = k0 := ⟨(n % 16).toNat, by omega⟩
  obtain ⟨q, hq⟩ : ∃ q : Nat, b % 4 = q := ⟨(b % 4).toNat, by omega⟩
  obtain ⟨k, hk⟩ : ∃ k : Nat, k = 1 + k0 := ⟨_, rfl⟩
  have hk16 : k ≤ 16 := by omega
  have hk1 : 1 ≤ k := by omega
  have hq4 : q < 4 := by omega
  obtain ⟨s, hs, hg⟩ : ∃ s : Nat, okS s ∧ ([[Fz.lit (.int .i64 8)], [.lit (.int .i64 16)], [.lit (.int .i64 32)], [.lit (.int .i64 64)]] : List (List Fz))[q]? = some [.lit (.int .i64 (8 * s))] := by
    have : q = 0 ∨ q = 1 ∨ q = 2 ∨ q = 3 := by omega
    rcases this with rfl | rfl | rfl | rfl
    · exact ⟨1, .inl rfl, rfl⟩
    · exact ⟨2, .inr (.inl rfl), rfl⟩
    · exact ⟨4, .inr (.inr (.inl rfl)), rfl⟩
    · exact ⟨8, .inr (.inr (.inr rfl)), rfl⟩
  have wn : IntKind.i64.wrap n = n := by rw [wrap_i64] <;> omega
  have wb : IntKind.i64.wrap b = b := by rw [wrap_i64] <;> omega
  have mn : n.tmod 16 = k0 := by rw [Int.tmod_eq_emod_of_nonneg hn.1]; exact hk0
  have mb : b.tmod 4 = q := by rw [Int.tmod_eq_emod_of_nonneg hb.1]; exact hq
  have w1 : IntKind.i64.wrap (1 + (k0 : Int)) = (k : Int) := by rw [wrap_i64] <;> omega
  have wk0 : IntKind.i64.wrap (k0 : Int) = k0 := by rw [wrap_i64] <;> omega
  have wq : IntKind.i64.wrap (q : Int) = q := by rw [wrap_i64] <;> omega
  have hl := fun a0 a1 a3 a9 a10 a11 a12 a13 a14 a15 a16 a17 a18 a19 a20 => row_l0 base s k hs hk16 k 0 [] 0 a0 a1 a3 a9 a10 a11 a12 a13 a14 a15 a16 a17 a18 a19 a20 (by omega) (by omega) rfl
  rw [if_neg (show ¬ k = 0 by omega)] at hl
  obtain ⟨R, _⟩ := row_right base s k hs hk16 hk1
  have hT := Touches_call R 0 (by simp [oneF])
  have eT : touchesFrom 0 ((rwF base s k).blocks[0]'(by simp [oneF])).ops = rowL k := by
    have := touch_row base s k 0
    rw [Nat.mul_zero] at this
    show touchesFrom 0 (rowC base s k 0) = _
    rw [this, rowL]
    refine List.map_congr_left fun j _ => ?_
    omega
  rw [eT] at hT
  have gl : ((rowL k).length : Int) = (k : Int) := by simp [rowL]
  have q2 := fun a0 a1 a2 a3 a6 a7 a8 a12 a13 a14 a15 a16 a17 a18 a19 a20 => row_l2 (rwF base s k) k s hs hk16 (row_facts base s k hs hk16 hk1) k 0 a0 a1 a2 a3 a6 a7 a8 a12 a13 a14 a15 a16 a17 a18 a19 a20 (by omega) (by omega)
  simp only [Int.natCast_zero, List.map_nil, List.nil_append, Nat.mul_zero] at hl q2 hT
  simp -implicitDefEqProofs only [go_sem, oneF, List.map_cons, List.map_nil, rb, ri, ei, eu, eI] at hl hT q2
  simp -implicitDefEqProofs only [go_sem, a_locksteplaw18_AliasRow, hA, wn, wb, mn, mb, w1, wk0, wq, hg, hl, hT, gl, q2, Int.natCast_nonneg, Int.toNat_natCast, List.length_map]
end AC

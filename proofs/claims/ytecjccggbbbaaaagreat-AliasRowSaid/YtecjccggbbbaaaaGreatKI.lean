import Derived.Test.YtecjccggbbbaaaaGreatData
import Derived.Test.YtecjccggbbbaaaaGreatKH
set_option linter.unusedVariables false
set_option linter.unusedSimpArgs false
set_option linter.unusedSectionVars false
namespace AC
open Go Go.A Go.A.Lex
theorem ints_l0 (l : List Int) (hl : l.length ≤ 4294967296) : ∀ (d k : Nat) (a2 a4 a5 a6 : V), l.length - k = d → k ≤ l.length →
    exec T lockstepref02_Ints_l0 ⟨[vIs l, vIs l, a2, vI k, a4, a5, a6], [], 0, 0⟩ = some (.exit 0, ⟨[vU, vU, vU, vU, vU, vU, vU], [], 0, 0⟩) := by
  intro d
  induction d with
  | zero =>
    intro k a2 a4 a5 a6 h1 h2
    have hk : k = l.length := by omega
    subst hk
    rw [lockstepref02_Ints_l0_eq, lockstepref02_Ints_b0]
    simp -implicitDefEqProofs only [go_sem, Int.lt_irrefl, List.length_map]
  | succ d ih =>
    intro k a2 a4 a5 a6 h1 h2
    have hk : k < l.length := by omega
    have := ih (k + 1) vU vU vU vU (by omega) (by omega)
    rw [lockstepref02_Ints_l0_eq, lockstepref02_Ints_b0]
    simp -implicitDefEqProofs only [go_sem] at this
    simp -implicitDefEqProofs only [go_sem, ilt hk, getr hk, ri, List.length_map, wrap_succ hk hl, this]
theorem Ints_same (l : List Int) (hl : l.length ≤ 4294967296) : call T F.lockstepref02_Ints [vIs l, vIs l] [] = some (vB true, []) := by
  rw [call_eq (fn := a_lockstepref02_Ints) rfl]
  have h := fun a2 a4 a5 a6 => ints_l0 l hl l.length 0 a2 a4 a5 a6 (by omega) (by omega)
  simp only [Int.natCast_zero] at h
  simp -implicitDefEqProofs only [go_sem] at h
  simp -implicitDefEqProofs only [go_sem, a_lockstepref02_Ints, h]
def fop (i : Nat) : POp := ⟨0, 8, 1, 2 + (i : Int), [], (i : Int)⟩
def freeOps (n : Nat) : List POp := (List.range n).map fop
end AC

namespace AC
open Go Go.A Go.A.Lex
theorem cut64 {n : Int} (h3 : 0 ≤ n) (h4 : n < 18446744073709551616) : cutW n 64 = n := by
  unfold cutW
  rw [if_pos (show mayW 64 = true from rfl)]
  exact Int.emod_eq_of_lt h3 h4
def otSh (v : Int) : Int × Int := if v ≤ 6 then (64, 1) else (8, 1)
def otOps (k : Int) : List POp := [cstO 3 k, binO 1 4 1 3, binO 1 5 4 2, binO 2 6 5 2, ldO 8 7 4, ldO 8 8 6, ldO 8 9 5, ldO 8 10 1]
theorem ot_line (k : Int) (h0 : 0 ≤ k) (h1 : k < 18446744073709551616) : MTo otSh 3 (otOps k) 11 :=
  .val (mop_cst otSh 64 3 k rfl (by omega) (by omega) h0 h1 (cut64 h0 h1) rfl) rfl (by omega) rfl <|
  .val (mop_bin otSh 1 64 4 1 3 rfl rfl (by omega) (by omega) (by omega) (by omega) (by omega) (by omega) rfl rfl rfl) rfl (by omega) rfl <|
  .val (mop_bin otSh 1 64 5 4 2 rfl rfl (by omega) (by omega) (by omega) (by omega) (by omega) (by omega) rfl rfl rfl) rfl (by omega) rfl <|
  .val (mop_bin otSh 2 64 6 5 2 rfl rfl (by omega) (by omega) (by omega) (by omega) (by omega) (by omega) rfl rfl rfl) rfl (by omega) rfl <|
  .val (mop_load otSh 8 7 4 rfl (by omega) (by omega) (by omega) (by omega) (by omega) rfl rfl) rfl (by omega) rfl <|
  .val (mop_load otSh 8 8 6 rfl (by omega) (by omega) (by omega) (by omega) (by omega) rfl rfl) rfl (by omega) rfl <|
  .val (mop_load otSh 8 9 5 rfl (by omega) (by omega) (by omega) (by omega) (by omega) rfl rfl) rfl (by omega) rfl <|
  .val (mop_load otSh 8 10 1 rfl (by omega) (by omega) (by omega) (by omega) (by omega) rfl rfl) rfl (by omega) rfl <|
  .nil _ _
section
variable (k : Int) (h0 : 0 ≤ k) (h1 : k < 18446744073709551616)
abbrev otF : PFunc := oneF [64, 64] 8 (otOps k) 10
def otM : OMap := opsOf [] (otF k).blocks
theorem om1 : getM 1 (otM k) = none := rfl
theorem om2 : getM 2 (otM k) = none := rfl
theorem om3 : getM 3 (otM k) = some (cstO 3 k) := rfl
theorem om4 : getM 4 (otM k) = some (binO 1 4 1 3) := rfl
theorem om5 : getM 5 (otM k) = some (binO 1 5 4 2) := rfl
theorem om6 : getM 6 (otM k) = some (binO 2 6 5 2) := rfl
include h0 h1 in
theorem tellA : tell 1 ([(1, 1)], 0) ([], k) = some ([(1, 1)], k) := by
  have a : mayFrom 0 [((1 : Int), (1 : Int))] = true := by simp [mayFrom]
  have b : mayFrom 0 ([] : List (Int × Int)) = true := rfl
  have : pl 0 k = k := by
    rw [pl, u64w_eq, Int.zero_add]
    exact Int.emod_eq_of_lt h0 h1
  rw [tell, if_pos rfl, plusS, if_pos ⟨a, b⟩, mergeA rfl rfl, this]
include h0 h1 in
theorem tellB : tell 1 ([(1, 1)], k) ([(2, 1)], 0) = some ([(1, 1), (2, 1)], k) := by
  have a : mayFrom 0 [((1 : Int), (1 : Int))] = true := by simp [mayFrom]
  have b : mayFrom 0 [((2 : Int), (1 : Int))] = true := by simp [mayFrom]
  have : pl k 0 = k := by
    rw [pl, u64w_eq, Int.add_zero]
    exact Int.emod_eq_of_lt h0 h1
  rw [tell, if_pos rfl, plusS, if_pos ⟨a, b⟩, mergeB, this]
include h0 h1 in
theorem tellC : tell 2 ([(1, 1), (2, 1)], k) ([(2, 1)], 0) = some ([(1, 1)], k) := by
  have a : mayFrom 0 [((1 : Int), (1 : Int)), (2, 1)] = true := by simp [mayFrom]
  have b : mayFrom 0 [((2 : Int), (1 : Int))] = true := by simp [mayFrom]
  have : mi k 0 = k := by
    rw [mi, u64w_eq, Int.sub_zero]
    exact Int.emod_eq_of_lt h0 h1
  rw [tell, if_neg (by omega), if_pos rfl, minusS, if_pos ⟨a, b⟩, mergeC, this]
theorem fo1 (n : Nat) (M : FMap) (h : getM 1 M = none) : formS (otM k) (n + 1) M 1 = some (([(1, 1)], 0), putM 1 ([(1, 1)], 0) M) := by
  simp [formS, madeS, h, om1, keepS]
theorem fo2 (n : Nat) (M : FMap) (h : getM 2 M = none) : formS (otM k) (n + 1) M 2 = some (([(2, 1)], 0), putM 2 ([(2, 1)], 0) M) := by
  simp [formS, madeS, h, om2, keepS]
theorem fo3 (n : Nat) (M : FMap) (h : getM 3 M = none) : formS (otM k) (n + 1) M 3 = some (([], k), putM 3 ([], k) M) := by
  simp [formS, madeS, h, om3, keepS, cstO]
abbrev oF4 : FMap := [(1, ([(1, 1)], 0)), (3, ([], k)), (4, ([(1, 1)], k))]
include h0 h1 in
theorem fo4 (n : Nat) : formS (otM k) (n + 2) [] 4 = some (([(1, 1)], k), oF4 k) := by
  have e3 : getM 3 (putM 1 (([(1, 1)], 0) : PForm) []) = none := rfl
  rw [formS]
  simp only [getM, madeS, om4, binO, fo1 k n [] rfl, Option.bind_some, fo3 k n _ e3]
  simp [h0, tellA k h0 h1, keepS, putM]
include h0 h1 in
theorem fo5 (n : Nat) : formS (otM k) (n + 3) [] 5 = some (([(1, 1), (2, 1)], k), putM 5 ([(1, 1), (2, 1)], k) (putM 2 ([(2, 1)], 0) (oF4 k))) := by
  have e2 : getM 2 (oF4 k) = none := rfl
  rw [formS]
  simp only [getM, madeS, om5, binO, fo4 k h0 h1 n, Option.bind_some, fo2 k (n + 1) _ e2]
  simp [tellB k h0 h1, keepS]
include h0 h1 in
theorem fo6 (n : Nat) : ∃ M', formS (otM k) (n + 4) [] 6 = some (([(1, 1)], k), M') := by
  have e2 : ∀ m, formS (otM k) (m + 1) (putM 5 ([(1, 1), (2, 1)], k) (putM 2 ([(2, 1)], 0) (oF4 k))) 2 = some (([(2, 1)], 0), putM 5 ([(1, 1), (2, 1)], k) (putM 2 ([(2, 1)], 0) (oF4 k))) := fun m => rfl
  refine ⟨putM 6 ([(1, 1)], k) (putM 5 ([(1, 1), (2, 1)], k) (putM 2 ([(2, 1)], 0) (oF4 k))), ?_⟩
  rw [formS]
  simp only [getM, madeS, om6, binO, fo5 k h0 h1 n, Option.bind_some, e2 (n + 2)]
  simp [tellC k h0 h1, keepS]
end
end AC

namespace AC
open Go Go.A Go.A.Lex
def awSh (v : Int) : Int × Int := if v ≤ 3 then (64, 1) else (32, 1)
def awOps : List POp := [cstO 2 4, binO 1 3 1 2, ldO 32 4 1, ldO 32 5 3]
theorem aw_line : MTo awSh 2 awOps 6 :=
  .val (mop_cst awSh 64 2 4 rfl (by omega) (by omega) (by omega) (by omega) (cut64 (by omega) (by omega)) rfl) rfl (by omega) rfl <|
  .val (mop_bin awSh 1 64 3 1 2 rfl rfl (by omega) (by omega) (by omega) (by omega) (by omega) (by omega) rfl rfl rfl) rfl (by omega) rfl <|
  .val (mop_load awSh 32 4 1 rfl (by omega) (by omega) (by omega) (by omega) (by omega) rfl rfl) rfl (by omega) rfl <|
  .val (mop_load awSh 32 5 3 rfl (by omega) (by omega) (by omega) (by omega) (by omega) rfl rfl) rfl (by omega) rfl <|
  .nil _ _
abbrev awF : PFunc := oneF [64] 32 awOps 5
def awM : OMap := opsOf [] awF.blocks
theorem am1 : getM 1 awM = none := rfl
theorem am2 : getM 2 awM = some (cstO 2 4) := rfl
theorem am3 : getM 3 awM = some (binO 1 3 1 2) := rfl
theorem ao1 (n : Nat) (M : FMap) (h : getM 1 M = none) : formS awM (n + 1) M 1 = some (([(1, 1)], 0), putM 1 ([(1, 1)], 0) M) := by
  simp [formS, madeS, h, am1, keepS]
theorem ao2 (n : Nat) (M : FMap) (h : getM 2 M = none) : formS awM (n + 1) M 2 = some (([], 4), putM 2 ([], 4) M) := by
  simp [formS, madeS, h, am2, keepS, cstO]
theorem ao3 (n : Nat) : ∃ M', formS awM (n + 2) [] 3 = some (([(1, 1)], 4), M') := by
  have e2 : getM 2 (putM 1 (([(1, 1)], 0) : PForm) []) = none := rfl
  refine ⟨putM 3 ([(1, 1)], 4) (putM 2 ([], 4) (putM 1 ([(1, 1)], 0) [])), ?_⟩
  rw [formS]
  simp only [getM, madeS, am3, binO, ao1 n [] rfl, Option.bind_some, ao2 n _ e2]
  simp [tellA 4 (by omega) (by omega), keepS]
set_option maxRecDepth 10000 in
theorem awake18_call : call T F.locksteplaw18_awake [] [] = some (vB true, []) := by
  rw [call_eq (fn := a_locksteplaw18_awake) rfl]
  obtain ⟨R, hs⟩ := right_of (sh := awSh) (ps := [64]) (ret := 32) (ops := awOps) (arg := 5) (d := 2) (e := 6) rfl rfl (by simp) rfl (fun q hq => by
    have : q = 0 := by simp at hq; omega
    subst this
    rfl) aw_line (by simp [awOps]) (by omega) (by omega) (by omega) rfl
  have o1 := Of_line R (hs 1 (by omega) (by omega)) ⟨_, ao1 0 [] rfl⟩
  have o3 := Of_line R (hs 3 (by omega) (by omega)) (ao3 0)
  have t32 := two_one R (a := 3) (b := 2) (m := 4) (n := 4) rfl rfl (.inl rfl) (.inl rfl) rfl rfl rfl rfl rfl rfl (by omega) (by omega) o3 o1 (by simp)
  have t23 := two_one R (a := 2) (b := 3) (m := 4) (n := 4) rfl rfl (.inl rfl) (.inl rfl) rfl rfl rfl rfl rfl rfl (by omega) (by omega) o1 o3 (by simp)
  have t22 := two_one R (a := 2) (b := 2) (m := 4) (n := 4) rfl rfl (.inl rfl) (.inl rfl) rfl rfl rfl rfl rfl rfl (by omega) (by omega) o1 o1 (by simp)
  have hA := t32.hA
  have d32 := Distance_call t32
  have f32 := Follows_call t32
  have a32 := Apart_call t32
  have f23 := Follows_call t23
  have a22 := Apart_call t22
  have hT := Touches_call R 0 (by simp [oneF])
  have eT : touchesFrom 0 (oneF [64] 32 awOps 5).blocks[0].ops = [2, 3] := rfl
  rw [eT] at hT
  have hI := Ints_same [2, 3] (by simp)
  have w1 : IntKind.u64.wrap (0 - 4) = 18446744073709551612 := by decide
  have w2 : IntKind.u64.wrap (0 - 18446744073709551612) = 4 := by decide
  have w3 : IntKind.u64.wrap (4 - 0) = 4 := by decide
  have w4 : IntKind.u64.wrap (0 - 0) = 0 := by decide
  simp only [w1, w2, w3, w4, if_true, decide_true, Bool.true_and, Int.reduceEq, Int.reduceLE, decide_false, Bool.and_self, Bool.and_true, Bool.and_false] at d32 f32 a32 f23 a22
  simp -implicitDefEqProofs only [go_sem, oneF, awOps, cstO, binO, ldO, List.map_cons, List.map_nil, rb, ro, ri, ei, eu, eI, Int.cast_ofNat_Int] at hA d32 f32 a32 f23 a22 hT hI
  simp -implicitDefEqProofs only [go_sem, a_locksteplaw18_awake, hA, d32, f32, a32, f23, a22, hT, hI, beq_self_eq_true]
end AC

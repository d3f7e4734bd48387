import Derived.Test.YtecjccggbbbaaaaGreatKK
import Derived.Test.YtecjccggbbbaaaaGreatKH
set_option linter.unusedVariables false
set_option linter.unusedSimpArgs false
set_option linter.unusedSectionVars false
namespace AC
open Go Go.A Go.A.Lex
theorem call_ext' {n : Nat} {g : List A.V → Store → Option (A.V × Store)} (h : T n = some (.ext g)) (args : List A.V) (σ : Store) : call T n args σ = g args σ := by
  simp only [call, callW, h]
abbrev memO (n : Nat) : Store := [.tok 1 [0], .tok 3 [0], .cells 0 2 [[.f (.sl []), .ap (n + 1) 0 []]]]
theorem New_nil : call T F.mem_New [vL []] [] = some (.tup [.one (cP 2), vI 0], memO 0) := by
  rw [call_eq (fn := a_mem_New) rfl]
  have hb : call T F.bytes_Clone [vL []] [] = some (vL [], []) := by
    rw [call_ext' (g := extBytes 1) rfl]
    simp [extBytes, okSz, LIM]
  simp -implicitDefEqProofs only [go_sem] at hb
  simp -implicitDefEqProofs only [go_sem, a_mem_New, hb]
theorem stepV_two {V : UMap} {o : POp} {a b p q : Int} (hk : 1 ≤ o.kind ∧ o.kind ≤ 12) (ha : o.args = [a, b]) (hp : getM a V = some p) (hq : getM b V = some q) (hw : mayW o.bits = true) (rp : 0 ≤ p ∧ p < 18446744073709551616) (rq : 0 ≤ q ∧ q < 18446744073709551616) :
    stepV V o = some (doS o.kind o.bits p q) := by
  unfold stepV
  rw [if_neg (by omega), if_pos hk, ha]
  simp only [hp, hq]
  rw [if_pos ⟨hw, rp, rq⟩]
theorem stepV_cst {V : UMap} {o : POp} (hk : o.kind = 0) (hl : o.lanes = 1) : stepV V o = some (some o.imm) := by
  unfold stepV
  rw [if_pos hk, if_pos hl]
def twSh (k w : Int) (v : Int) : Int × Int := if v ≤ 2 then (w, 1) else if 10 ≤ k then (1, 1) else (w, 1)
def twOp (k w : Int) : POp := ⟨k, w, 1, 3, [1, 2], 0⟩
def twRet (k w : Int) : Int := if 10 ≤ k then 1 else w
abbrev twF (k w : Int) : PFunc := oneF [w, w] (twRet k w) [twOp k w] 3
theorem two_kinds {k : Int} (hk : 1 ≤ k ∧ k ≤ 12) : (arith k || asks k) = true := by
  have : k = 1 ∨ k = 2 ∨ k = 3 ∨ k = 4 ∨ k = 5 ∨ k = 6 ∨ k = 7 ∨ k = 8 ∨ k = 9 ∨ k = 10 ∨ k = 11 ∨ k = 12 := by omega
  rcases this with rfl | rfl | rfl | rfl | rfl | rfl | rfl | rfl | rfl | rfl | rfl | rfl <;> rfl
section
variable (k w a b : Int) (hk : 1 ≤ k ∧ k ≤ 12) (hw : mayW w = true) (ha : 0 ≤ a ∧ a < 18446744073709551616) (hb : 0 ≤ b ∧ b < 18446744073709551616)
include hk hw
theorem tw_right : RightF (twF k w) [-1] := by
  have hs : stores k = false := by simp only [stores, Bool.or_eq_false_iff, decide_eq_false_iff_not]; omega
  have hl : MTo (twSh k w) 3 [twOp k w] 4 := .val (mop_bin (twSh k w) k w 3 1 2 (two_kinds hk) hw (by omega) (by omega) (by omega) (by omega) (by omega) (by omega) rfl rfl rfl) rfl (by omega) hs (.nil _ _)
  refine (right_of (sh := twSh k w) (ps := [w, w]) (ret := twRet k w) (ops := [twOp k w]) (arg := 3) (d := 3) (e := 4) rfl ?_ (by simp) ?_ ?_ hl (by simp) (by omega) (by omega) (by omega) ?_).1
  · simp [hw]
  · unfold twRet
    split
    · rfl
    · exact hw
  · intro q hq
    have : q = 0 ∨ q = 1 := by simp at hq; omega
    rcases this with rfl | rfl <;> rfl
  · unfold twSh twRet
    rw [if_neg (by omega)]
    split <;> rfl
theorem tw_check : call T F.check_Check [vFunc (twF k w), vI 2] [] = some (vI 0, []) := by
  have R := tw_right k w hk hw
  rw [Check_call _ R.ok 2 _ R.isT, checkS, if_neg (by omega), R.look]
include ha hb
theorem tw_run : ∃ U s c v, runS 9 (twF k w) 1 0 0 (argsV 0 [] [w, w] [a, b]) 0 = some (c, v, U, s) ∧ ((doS k w a b = none ∧ c = 8 ∧ v = 0 ∧ s = 1) ∨ (doS k w a b = some v ∧ c = 0 ∧ s = 2)) := by
  have r1 := cutW_range (w := w) ha.1
  have r2 := cutW_range (w := w) hb.1
  have hd : doS k w (cutW a w) (cutW b w) = doS k w a b := by simp only [doS, cutW_cut w hw a ha.1, cutW_cut w hw b hb.1]
  have g1 : getM 1 (argsV 0 [] [w, w] [a, b]) = some (cutW a w) := rfl
  have g2 : getM 2 (argsV 0 [] [w, w] [a, b]) = some (cutW b w) := rfl
  have hst : stepV (argsV 0 [] [w, w] [a, b]) (twOp k w) = some (doS k w a b) := by
    rw [← hd]
    exact stepV_two (o := twOp k w) hk rfl g1 g2 hw r1 r2
  have hp : phisV (argsV 0 [] [w, w] [a, b]) 0 ⟨[], [twOp k w], 0, 3, []⟩ = some (argsV 0 [] [w, w] [a, b]) := rfl
  have h9 : ¬ (0 : Int) = 9 := by omega
  cases e : doS k w a b with
  | none =>
    rw [e] at hst
    refine ⟨argsV 0 [] [w, w] [a, b], 1, 8, 0, ?_, .inl ⟨rfl, rfl, rfl, rfl⟩⟩
    simp only [runS, twF, oneF, List.getElem?_cons_zero, Int.natCast_zero, hp, opsS, hst, h9, if_false]
    rfl
  | some v =>
    rw [e] at hst
    have g3 : getM 3 (putM 3 v (argsV 0 [] [w, w] [a, b])) = some v := by rw [get_putM, if_pos rfl]
    have h91 : ¬ (0 + 1 : Int) = 9 := by omega
    refine ⟨putM 3 v (argsV 0 [] [w, w] [a, b]), 2, 0, v, ?_, .inr ⟨rfl, rfl, rfl⟩⟩
    have hd0 : (twOp k w).dst = 3 := rfl
    have c3 : (0 : Int) < 3 := by omega
    have k3 : ¬ (0 : Int) = 3 := by omega
    simp only [runS, twF, oneF, List.getElem?_cons_zero, Int.natCast_zero, hp, opsS, hst, h9, h91, hd0, c3, k3, if_true, if_false, g3, Option.map_some]
    rfl
end
end AC

namespace AC
open Go Go.A Go.A.Lex
theorem okRun_one {ps : List Int} {ret arg : Int} {ops : List POp} (h : okF (oneF ps ret ops arg)) : OkRun (oneF ps ret ops arg) :=
  ⟨h, fun b hb => by simp [oneF] at hb; subst hb; simp, fun b hb => by simp [oneF] at hb; subst hb; simp⟩
set_option maxRecDepth 10000 in
set_option maxHeartbeats 1000000 in
theorem Two_call (hA : call T F.locksteplaw13_awake [] [] = some (vB true, [])) (kk bb a b : Int) (hkk : 0 ≤ kk ∧ kk < 256) (hbb : 0 ≤ bb ∧ bb < 256) (ha : 0 ≤ a ∧ a < 18446744073709551616) (hb : 0 ≤ b ∧ b < 18446744073709551616) :
    call T F.locksteplaw13_EvalTwo [.one (.f (.lit (.int .u8 kk))), .one (.f (.lit (.int .u8 bb))), .agg [.f (.lit (.int .u64 a)), .f (.lit (.int .u64 b))]] [] = some (vB true, []) := by
  rw [call_eq (fn := a_locksteplaw13_EvalTwo) rfl]
  obtain ⟨q, hq⟩ : ∃ q : Nat, bb % 5 = q := ⟨(bb % 5).toNat, by omega⟩
  obtain ⟨k, hk⟩ : ∃ k : Int, k = 1 + kk % 12 := ⟨_, rfl⟩
  have hk1 : 1 ≤ k ∧ k ≤ 12 := by omega
  have hq5 : q < 5 := by omega
  obtain ⟨w, hw, hg⟩ : ∃ w : Int, mayW w = true ∧ ([[Fz.lit (.int .i64 1)], [.lit (.int .i64 8)], [.lit (.int .i64 16)], [.lit (.int .i64 32)], [.lit (.int .i64 64)]] : List (List Fz))[q]? = some [.lit (.int .i64 w)] := by
    have : q = 0 ∨ q = 1 ∨ q = 2 ∨ q = 3 ∨ q = 4 := by omega
    rcases this with rfl | rfl | rfl | rfl | rfl
    · exact ⟨1, rfl, rfl⟩
    · exact ⟨8, rfl, rfl⟩
    · exact ⟨16, rfl, rfl⟩
    · exact ⟨32, rfl, rfl⟩
    · exact ⟨64, rfl, rfl⟩
  have wn : IntKind.i64.wrap kk = kk := by rw [wrap_i64] <;> omega
  have wb : IntKind.i64.wrap bb = bb := by rw [wrap_i64] <;> omega
  have mn : kk.tmod 12 = kk % 12 := Int.tmod_eq_emod_of_nonneg hkk.1
  have mb : bb.tmod 5 = q := by rw [Int.tmod_eq_emod_of_nonneg hbb.1]; exact hq
  have w1 : IntKind.i64.wrap (1 + kk % 12) = k := by rw [wrap_i64] <;> omega
  have w12 : IntKind.i64.wrap (kk % 12) = kk % 12 := by rw [wrap_i64] <;> omega
  have wq : IntKind.i64.wrap (q : Int) = q := by rw [wrap_i64] <;> omega
  have n2 : ((2 : Nat) : Int) = 2 := rfl
  have hN := New_nil
  have hD := rDo_call w hw k a b hk1 ha.1 ha.2 hb.1 hb.2
  obtain ⟨U, s, c, v, hrun, hcase⟩ := tw_run k w a b hk1 hw ha hb
  have R := tw_right k w hk1 hw
  have hC := tw_check k w hk1 hw
  let σ : Store := [.cells 0 2 [[.f (eu a), .f (eu b)]], .cells 0 3 [cFunc (twF k w)], .tok 1 [0], .tok 3 [0], .cells 0 2 [[.f (.sl []), .ap 3 0 []]]]
  have hσ : Ok σ := by
    unfold Ok
    rfl
  have hR := Run_call hσ (twF k w) (okRun_one R.ok) 4 (by simp [σ]) 9 (by omega) hC [a, b] rfl (by simp [ha, hb]) 1 c v s U hrun
  by_cases c10 : 10 ≤ k
  · have er : twRet k w = 1 := by unfold twRet; rw [if_pos c10]
    rcases hcase with ⟨hd, rfl, rfl, rfl⟩ | ⟨hd, rfl, rfl⟩
    · rw [hd] at hD
      simp -implicitDefEqProofs only [go_sem, σ, twF, oneF, er, twOp, List.map_cons, List.map_nil, rb, ro, ri, ru, ei, eu, eI, vDo] at hR hD hN
      simp -implicitDefEqProofs only [go_sem, a_locksteplaw13_EvalTwo, hA, wn, wb, mn, mb, w1, w12, wq, hg, n2, hN, hR, hD, eq_true c10, beq_self_eq_true, Int.natCast_nonneg, Int.toNat_natCast]
    · rw [hd] at hD
      simp -implicitDefEqProofs only [go_sem, σ, twF, oneF, er, twOp, List.map_cons, List.map_nil, rb, ro, ri, ru, ei, eu, eI, vDo] at hR hD hN
      simp -implicitDefEqProofs only [go_sem, a_locksteplaw13_EvalTwo, hA, wn, wb, mn, mb, w1, w12, wq, hg, n2, hN, hR, hD, eq_true c10, beq_self_eq_true, Int.natCast_nonneg, Int.toNat_natCast]
  · have er : twRet k w = w := by unfold twRet; rw [if_neg c10]
    rcases hcase with ⟨hd, rfl, rfl, rfl⟩ | ⟨hd, rfl, rfl⟩
    · rw [hd] at hD
      simp -implicitDefEqProofs only [go_sem, σ, twF, oneF, er, twOp, List.map_cons, List.map_nil, rb, ro, ri, ru, ei, eu, eI, vDo] at hR hD hN
      simp -implicitDefEqProofs only [go_sem, a_locksteplaw13_EvalTwo, hA, wn, wb, mn, mb, w1, w12, wq, hg, n2, hN, hR, hD, c10, beq_self_eq_true, Int.natCast_nonneg, Int.toNat_natCast]
    · rw [hd] at hD
      simp -implicitDefEqProofs only [go_sem, σ, twF, oneF, er, twOp, List.map_cons, List.map_nil, rb, ro, ri, ru, ei, eu, eI, vDo] at hR hD hN
      simp -implicitDefEqProofs only [go_sem, a_locksteplaw13_EvalTwo, hA, wn, wb, mn, mb, w1, w12, wq, hg, n2, hN, hR, hD, c10, beq_self_eq_true, Int.natCast_nonneg, Int.toNat_natCast]
end AC

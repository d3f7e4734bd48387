import Derived.Test.YtafckkajjloleaaGreatWide
import Derived.Test.YtafckkajjloleaaGreatCon
set_option linter.unusedVariables false
set_option linter.unusedSimpArgs false
namespace AC
open Go Go.A Go.A.Lex
theorem rSame_loop (ts us : List (Int × Int)) (off off' : Int) (hn : us.length = ts.length) (hl : ts.length ≤ 9223372036854775807) : ∀ (d k : Nat) a0 a1 a4 a6 a7 a8, ts.length - k = d → k ≤ ts.length →
    exec T lockstepref17_Same_l0 ⟨[a0, a1, (.one (.ptr 0 0 0 0)), (.one (.ptr 1 0 0 0)), a4, (vI k), a6, a7, a8], [bx ts off, bx us off'], 0, 0⟩ =
      (if ts.drop k = us.drop k then some (.exit 0, ⟨[vU, vU, vU, vU, vU, vU, vU, vU, vU], [bx ts off, bx us off'], 0, 0⟩) else some (.ret, ⟨[vU, vU, vU, vU, (vB false), vU, vU, vU, vU], [bx ts off, bx us off'], 0, 0⟩)) := by
  intro d
  induction d with
  | zero =>
    intro k a0 a1 a4 a6 a7 a8 h1 h2
    have hk : k = ts.length := by omega
    subst hk
    have e : us.drop ts.length = [] := by simp [hn]
    have e' : ts.drop ts.length = [] := by simp
    rw [lockstepref17_Same_l0_eq, lockstepref17_Same_b0, e, e', if_pos rfl]
    simp -implicitDefEqProofs only [go_sem, bx, rows_len, Int.lt_irrefl]
  | succ d ih =>
    intro k a0 a1 a4 a6 a7 a8 h1 h2
    have hk : k < ts.length := by omega
    have hk2 : k < us.length := by omega
    have hd : ts.drop k = ts[k] :: ts.drop (k + 1) := List.drop_eq_getElem_cons hk
    have hd2 : us.drop k = us[k] :: us.drop (k + 1) := List.drop_eq_getElem_cons hk2
    have hk' : (k : Int) < (ts.length : Int) := by omega
    rw [lockstepref17_Same_l0_eq, lockstepref17_Same_b0, hd, hd2]
    have ih := fun a0 a1 a4 a6 a7 a8 => ih (k + 1) a0 a1 a4 a6 a7 a8 (by omega) (by omega)
    have hp : (ts[k] = us[k]) ↔ (ts[k].1 = us[k].1 ∧ ts[k].2 = us[k].2) := Prod.ext_iff
    simp -implicitDefEqProofs only [bx] at ih
    by_cases c1 : ts[k].1 = us[k].1
    · by_cases c2 : ts[k].2 = us[k].2
      · simp -implicitDefEqProofs only [List.cons.injEq, hp, and_self, true_and, go_sem, bx, rows_len, hk', getw hk, getw hk2, row, wrap_suc hk hl, c1, c2]
        exact ih _ _ _ _ _ _
      · rw [if_neg (fun h => c2 (by rw [(List.cons.inj h).1]))]
        simp -implicitDefEqProofs only [go_sem, bx, rows_len, hk', getw hk, getw hk2, row, wrap_suc hk hl, c1, c2]
    · rw [if_neg (fun h => c1 (by rw [(List.cons.inj h).1]))]
      simp -implicitDefEqProofs only [go_sem, bx, rows_len, hk', getw hk, getw hk2, row, wrap_suc hk hl, c1]
theorem rSame_call (ts us : List (Int × Int)) (off off' : Int) (hl : ts.length ≤ 9223372036854775807) : call T F.lockstepref17_Same [fF ts off, fF us off'] [] = some (vB (decide (off = off' ∧ ts = us)), []) := by
  rw [call_eq (fn := a_lockstepref17_Same) rfl]
  by_cases ho : off = off'
  · by_cases hn : us.length = ts.length
    · have h := fun a0 a1 a4 a6 a7 a8 => rSame_loop ts us off off' hn hl ts.length 0 a0 a1 a4 a6 a7 a8 (by omega) (by omega)
      simp only [List.drop_zero, Int.natCast_zero] at h
      have hn' : (us.length : Int) = ts.length := by rw [hn]
      by_cases he : ts = us
      · simp -implicitDefEqProofs only [if_pos he] at h
        have hd : decide (off = off' ∧ ts = us) = true := decide_eq_true ⟨ho, he⟩
        rw [hd]
        simp -implicitDefEqProofs only [go_sem, bx] at h
        simp -implicitDefEqProofs only [go_sem, a_lockstepref17_Same, fF, ho, rows_len, hn', h] at h ⊢
        simp -implicitDefEqProofs only [go_sem, h]
      · simp -implicitDefEqProofs only [if_neg he] at h
        have hd : decide (off = off' ∧ ts = us) = false := decide_eq_false fun h => he h.2
        rw [hd]
        simp -implicitDefEqProofs only [go_sem, bx] at h
        simp -implicitDefEqProofs only [go_sem, a_lockstepref17_Same, fF, ho, rows_len, hn', h] at h ⊢
        simp -implicitDefEqProofs only [go_sem, h]
    · have hn' : ¬ (ts.length : Int) = us.length := by omega
      have hd : decide (off = off' ∧ ts = us) = false := decide_eq_false fun h => hn (by rw [h.2])
      rw [hd]
      simp -implicitDefEqProofs only [go_sem, a_lockstepref17_Same, fF, ho, rows_len, hn']
  · have hd : decide (off = off' ∧ ts = us) = false := decide_eq_false fun h => ho h.1
    rw [hd]
    simp -implicitDefEqProofs only [go_sem, a_lockstepref17_Same, fF, ho]
end AC

namespace AC
open Go Go.A Go.A.Lex
theorem hop_pl (a b : Int) : pl a b = comb 1 1 a b := by
  simp only [pl, comb, u64w_eq, Int.mul_one]
  rw [← Int.add_emod]
theorem hop_mi (a b : Int) : mi a b = comb 1 18446744073709551615 a b := by
  simp only [mi, comb, u64w_eq, Int.mul_one]
  rw [← Int.add_emod]
  have : a + b * 18446744073709551615 = (a - b) + b * 18446744073709551616 := by omega
  rw [this, Int.add_mul_emod_self_right]
theorem hop_ti (n a : Int) : ti n a 0 = comb n 0 a 0 := by
  simp only [ti, comb, u64w_eq, Int.zero_mul]
  rw [← Int.add_emod, Int.add_zero]
theorem mix_pl {ts us : List (Int × Int)} (off off' : Int) (h1 : mayFrom 0 ts = true) (h2 : mayFrom 0 us = true) (hl : ts.length ≤ 4294967296) (hl' : us.length ≤ 4294967296) :
    call T F.lockstepref17_Mix [fF ts off, vU64 1, fF us off', vU64 1] [] = some (fF (mergeT pl ts us) (pl off off'), []) := by
  rw [Mix_call ts us off off' 1 1 hl hl' h1 h2, mix_merge pl 1 1 ts us off off' h1 h2 (fun v => hop_pl _ _) rfl, ← hop_pl]
theorem mix_mi {ts us : List (Int × Int)} (off off' : Int) (h1 : mayFrom 0 ts = true) (h2 : mayFrom 0 us = true) (hl : ts.length ≤ 4294967296) (hl' : us.length ≤ 4294967296) :
    call T F.lockstepref17_Mix [fF ts off, vU64 1, fF us off', vU64 18446744073709551615] [] = some (fF (mergeT mi ts us) (mi off off'), []) := by
  rw [Mix_call ts us off off' 1 18446744073709551615 hl hl' h1 h2, mix_merge mi 1 18446744073709551615 ts us off off' h1 h2 (fun v => hop_mi _ _) rfl, ← hop_mi]
theorem mix_ti {ts : List (Int × Int)} (off n : Int) (h1 : mayFrom 0 ts = true) (hl : ts.length ≤ 4294967296) :
    call T F.lockstepref17_Mix [fF ts off, vU64 n, fF [] 0, vU64 0] [] = some (fF (mergeT (ti n) ts []) (ti n off 0), []) := by
  rw [Mix_call ts [] off 0 n 0 hl (by simp) h1 rfl, mix_merge (ti n) n 0 ts [] off 0 h1 rfl (fun v => by rw [show cf [] v = 0 from rfl]; exact hop_ti n _) (ti_zero n), ← hop_ti]
set_option maxRecDepth 10000 in
theorem Sums_call (hA : call T F.locksteplaw17_awake [] [] = some (vB true, [])) (ts us : List (Int × Int)) (off off' n : Int)
    (hl : ts.length ≤ 9223372036854775807) (hl' : us.length ≤ 9223372036854775807) :
    call T F.locksteplaw17_AffineSums [fF ts off, fF us off', vU64 n] [] = some (vB true, []) := by
  rw [call_eq (fn := a_locksteplaw17_AffineSums) rfl]
  by_cases c1 : (200 : Int) < (ts.length : Int)
  · simp -implicitDefEqProofs only [go_sem, a_locksteplaw17_AffineSums, fF, rows_len, hA, c1]
  by_cases c2 : (200 : Int) < (us.length : Int)
  · simp -implicitDefEqProofs only [go_sem, a_locksteplaw17_AffineSums, fF, rows_len, hA, c1, c2]
  have L1 : ts.length ≤ 200 := by omega
  have L2 : us.length ≤ 200 := by omega
  have m1 := rMay_call ts off hl
  have m2 := rMay_call us off' hl'
  have m3 := May_call ts off hl
  have p1 := Plus_call ts us off off' (by omega)
  have s1 := Minus_call ts us off off' (by omega)
  have t1 := Times_call ts off n (by omega)
  have e1 := Same_call ts us off off' hl
  have e2 := rSame_call ts us off off' hl
  have q0 := rSame_call [] [] 0 0 (by simp)
  have bb : ∀ b : Bool, (b == b) = true := fun b => by cases b <;> rfl
  generalize decide (off = off' ∧ ts = us) = z at e1 e2
  cases h1 : mayFrom 0 ts with
  | false =>
    simp -implicitDefEqProofs only [go_sem, fF, h1, rows_nil, false_and] at m1 m3 p1 s1 t1 e1 e2 q0
    simp -implicitDefEqProofs only [go_sem, a_locksteplaw17_AffineSums, fF, rows_len, rows_nil, hA, c1, c2, m1, m3, p1, s1, t1, e1, e2, q0, bb, Bool.not_true]
  | true =>
    have x3 := mix_ti off n h1 (by omega)
    have lt := len_merge (ti n) ts []
    simp only [List.length_nil] at lt
    have q3 := rSame_call (mergeT (ti n) ts []) (mergeT (ti n) ts []) (ti n off 0) (ti n off 0) (by omega)
    cases h2 : mayFrom 0 us with
    | false =>
      simp -implicitDefEqProofs only [go_sem, fF, h1, h2, rows_nil, false_and, and_false] at m1 m2 m3 p1 s1 t1 e1 e2 q0 q3 x3
      simp -implicitDefEqProofs only [go_sem, a_locksteplaw17_AffineSums, fF, rows_len, rows_nil, hA, c1, c2, m1, m2, m3, p1, s1, t1, e1, e2, q0, bb, Bool.not_true, x3, q3]
    | true =>
      have x1 := mix_pl off off' h1 h2 (by omega) (by omega)
      have x2 := mix_mi off off' h1 h2 (by omega) (by omega)
      have lp := len_merge pl ts us
      have lm := len_merge mi ts us
      have q1 := rSame_call (mergeT pl ts us) (mergeT pl ts us) (pl off off') (pl off off') (by omega)
      have q2 := rSame_call (mergeT mi ts us) (mergeT mi ts us) (mi off off') (mi off off') (by omega)
      simp -implicitDefEqProofs only [go_sem, fF, h1, h2, rows_nil, and_self] at m1 m2 m3 p1 s1 t1 e1 e2 q1 q2 q3 x1 x2 x3
      simp -implicitDefEqProofs only [go_sem, a_locksteplaw17_AffineSums, fF, rows_len, rows_nil, hA, c1, c2, m1, m2, m3, p1, s1, t1, e1, e2, bb, Bool.not_true, q1, q2, q3, x1, x2, x3]
end AC

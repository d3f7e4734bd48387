import Derived.Test.YtafckkajjloleaaGreatLaw
set_option linter.unusedVariables false
set_option linter.unusedSimpArgs false
namespace AC
open Go Go.A Go.A.Lex
theorem both_op {op : Int → Int → Int} {ts us : List (Int × Int)} (ht : mayFrom 0 ts = true) (hu : mayFrom 0 us = true) : mayFrom 0 (mergeT op ts us) = true := may_merge op ts us 0 ht hu
set_option maxRecDepth 10000 in
theorem Ring_call (hA : call T F.locksteplaw17_awake [] [] = some (vB true, [])) (ts us : List (Int × Int)) (off off' n : Int) (h1 : ∀ t ∈ ts, u64ok t.2) (h2 : u64ok off)
    (hl : ts.length ≤ 9223372036854775807) (hl' : us.length ≤ 9223372036854775807) :
    call T F.locksteplaw17_AffineRing [fF ts off, fF us off', vU64 n] [] = some (vB true, []) := by
  rw [call_eq (fn := a_locksteplaw17_AffineRing) rfl]
  have hA' := hA
  by_cases c1 : (200 : Int) < (ts.length : Int)
  · simp -implicitDefEqProofs only [go_sem, a_locksteplaw17_AffineRing, fF, rows_len, hA, c1]
  by_cases c2 : (200 : Int) < (us.length : Int)
  · simp -implicitDefEqProofs only [go_sem, a_locksteplaw17_AffineRing, fF, rows_len, hA, c1, c2]
  have m1 := rMay_call ts off hl
  have m2 := rMay_call us off' hl'
  cases e1 : mayFrom 0 ts with
  | false =>
    simp -implicitDefEqProofs only [go_sem, fF, e1] at m1
    simp -implicitDefEqProofs only [go_sem, a_locksteplaw17_AffineRing, fF, rows_len, hA, c1, c2, m1]
  | true =>
    cases e2 : mayFrom 0 us with
    | false =>
      simp -implicitDefEqProofs only [go_sem, fF, e1] at m1
      simp -implicitDefEqProofs only [go_sem, fF, e2] at m2
      simp -implicitDefEqProofs only [go_sem, a_locksteplaw17_AffineRing, fF, rows_len, hA, c1, c2, m1, m2]
    | true =>
      have L1 : ts.length ≤ 200 := by omega
      have L2 : us.length ≤ 200 := by omega
      have p1 := Plus_call ts us off off' (by omega)
      have p2 := Plus_call us ts off' off (by omega)
      have s1 := Minus_call ts ts off off (by omega)
      have lp := len_merge pl ts us
      have mp := both_op (op := pl) e1 e2
      have t1 := Times_call (mergeT pl ts us) (pl off off') n (by omega)
      have t2 := Times_call ts off n (by omega)
      have t3 := Times_call us off' n (by omega)
      have lt2 := len_merge (ti n) ts []
      have lt3 := len_merge (ti n) us []
      simp only [List.length_nil] at lt2 lt3
      have mt2 := both_op (op := ti n) e1 (us := []) rfl
      have mt3 := both_op (op := ti n) e2 (us := []) rfl
      have p3 := Plus_call (mergeT (ti n) ts []) (mergeT (ti n) us []) (ti n off 0) (ti n off' 0) (by omega)
      have s2 := Minus_call (mergeT pl ts us) us (pl off off') off' (by omega)
      have t4 := Times_call ts off 1 (by omega)
      have t5 := Times_call ts off 0 (by omega)
      have q1 := Same_call (mergeT pl ts us) (mergeT pl us ts) (pl off off') (pl off' off) (by omega)
      have q2 := Same_call [] [] 0 0 (by simp)
      have q3 := Same_call (mergeT (ti n) (mergeT pl ts us) []) (mergeT pl (mergeT (ti n) ts []) (mergeT (ti n) us [])) (ti n (pl off off') 0) (pl (ti n off 0) (ti n off' 0)) (by
        have := len_merge (ti n) (mergeT pl ts us) []
        simp only [List.length_nil] at this
        omega)
      have q4 := Same_call ts ts off off (by omega)
      have f1 : pl off' off = pl off off' := by rw [pl, pl, Int.add_comm]
      have f2 : mi off off = 0 := by rw [mi, Int.sub_self]; rfl
      rw [← ring_comm ts us e1 e2, f1] at q1
      rw [← ring_comm ts us e1 e2, f1] at p2
      rw [ring_less ts e1, f2] at s1
      rw [← ring_dist ts us n e1 e2, ← num_dist] at q3
      rw [← ring_dist ts us n e1 e2, ← num_dist] at p3
      rw [ring_back ts us e1 e2 h1, num_back _ _ h2] at s2
      rw [ring_one ts e1 h1, num_one _ h2] at t4
      rw [ring_none ts e1, num_none] at t5
      simp -implicitDefEqProofs only [go_sem, fF, e1, e2, mp, mt2, mt3, rows_nil] at m1 m2 p1 p2 s1 t1 t2 t3 p3 s2 t4 t5 q1 q2 q3 q4
      simp -implicitDefEqProofs only [go_sem, a_locksteplaw17_AffineRing, fF, rows_len, hA, c1, c2, m1, m2, p1, p2, s1, t1, t2, t3, p3, s2, t4, t5, q1, q2, q3, q4]
end AC

import Derived.Test.YtafckkajjloleaaGreatKH
import Derived.Test.YtafckkajjloleaaGreatLaw
import Derived.Test.YtafckkajjloleaaGreatCon
import Derived.Test.YtafckkajjloleaaGreatAwake
set_option linter.unusedVariables false
set_option linter.unusedSimpArgs false
set_option linter.unusedSectionVars false
namespace AC
open Go Go.A Go.A.Lex
def lastOf (j : Nat) : Int := if j = 0 then 1 else 2 + j
def chain (kd : Int) : Nat → Nat → List POp
  | 0, _ => []
  | d + 1, j => binO kd (3 + j) (lastOf j) 2 :: chain kd d (j + 1)
theorem chain_length (kd : Int) : ∀ d j, (chain kd d j).length = d
  | 0, _ => rfl
  | d + 1, j => by rw [chain, List.length_cons, chain_length kd d]
theorem chain_line (kd : Int) (hk : kd = 1 ∨ kd = 2) : ∀ d j : Nat, d + j ≤ 60 → Line (64, 1) (3 + j) (chain kd d j)
  | 0, _, _ => trivial
  | d + 1, j, h => by
    have e : (3 : Int) + j + 1 = 3 + ((j + 1 : Nat) : Int) := by omega
    refine ⟨?_, by rw [e]; exact chain_line kd hk d (j + 1) (by omega)⟩
    have l1 : 1 ≤ lastOf j := by unfold lastOf; split <;> omega
    have l2 : lastOf j < 3 + j := by unfold lastOf; split <;> omega
    rcases hk with rfl | rfl
    · exact line_bin 1 _ _ _ rfl (by omega) (by omega) rfl (by omega) (by omega) l1 l2 (by omega) (by omega)
    · exact line_bin 2 _ _ _ rfl (by omega) (by omega) rfl (by omega) (by omega) l1 l2 (by omega) (by omega)
def stOps (kd sz : Int) (k : Nat) : List POp := cstO 2 sz :: chain kd k 0
def stF (kd sz : Int) (k : Nat) : PFunc := oneF [64] 64 (stOps kd sz k) (lastOf k)
def stM (kd sz : Int) (k : Nat) : OMap := opsOf [] (stF kd sz k).blocks
theorem get_chain (kd : Int) (i : Nat) : ∀ (d j : Nat) (D : OMap), getM (3 + (i : Int)) (putOpsM D (chain kd d j)) = if j ≤ i ∧ i < j + d then some (binO kd (3 + i) (lastOf i) 2) else getM (3 + (i : Int)) D
  | 0, j, D => by rw [chain, putOpsM, if_neg (by omega)]
  | d + 1, j, D => by
    rw [chain, putOpsM, get_chain kd i d (j + 1), get_putM]
    have hd : (binO kd (3 + j) (lastOf j) 2).dst = 3 + j := rfl
    rw [hd]
    by_cases c : j + 1 ≤ i ∧ i < j + 1 + d
    · rw [if_pos c, if_pos (by omega)]
    · rw [if_neg c]
      by_cases c2 : (3 : Int) + j = 3 + i
      · have : j = i := by omega
        subst this
        rw [if_pos rfl, if_pos (by omega)]
      · rw [if_neg c2, if_neg (by omega)]
theorem get_chain_low (kd v : Int) (hv : v < 3) : ∀ (d j : Nat) (D : OMap), getM v (putOpsM D (chain kd d j)) = getM v D
  | 0, _, _ => rfl
  | d + 1, j, D => by
    rw [chain, putOpsM, get_chain_low kd v hv d (j + 1), get_putM, if_neg (show ¬ (binO kd (3 + j) (lastOf j) 2).dst = v by simp only [binO]; omega)]
def offS (kd sz : Int) (j : Nat) : Int := if kd = 1 then (sz * j) % 18446744073709551616 else (-(sz * j)) % 18446744073709551616
def stP (kd sz : Int) (j : Nat) : PForm := ([(1, 1)], offS kd sz j)
theorem one_may : mayFrom 0 [((1 : Int), (1 : Int))] = true := by simp [mayFrom]
theorem merge_one {op : Int → Int → Int} (h0 : op 0 0 = 0) (h1 : op 1 0 = 1) : mergeT op [(1, 1)] [] = [(1, 1)] := by
  refine cf_ext _ _ (may_merge op [(1, 1)] [] 0 one_may rfl) one_may fun v => ?_
  rw [cf_merge op h0 v [(1, 1)] [] 0 one_may rfl]
  simp only [cf]
  split
  · exact h1
  · exact h0
theorem step_plus (sz : Int) (j : Nat) : plusS (stP 1 sz j) ([], sz) = stP 1 sz (j + 1) := by
  have h : mayFrom 0 ([] : List (Int × Int)) = true := rfl
  rw [plusS, if_pos ⟨one_may, h⟩]
  show (mergeT pl [(1, 1)] [], pl (offS 1 sz j) sz) = _
  rw [merge_one rfl rfl, stP, pl, u64w_eq, offS, if_pos rfl, offS, if_pos rfl, Int.emod_add_emod]
  have : sz * (j : Int) + sz = sz * ((j + 1 : Nat) : Int) := by rw [Int.natCast_add, Int.mul_add]; simp
  rw [this]
theorem step_minus (sz : Int) (j : Nat) : minusS (stP 2 sz j) ([], sz) = stP 2 sz (j + 1) := by
  have h : mayFrom 0 ([] : List (Int × Int)) = true := rfl
  rw [minusS, if_pos ⟨one_may, h⟩]
  show (mergeT mi [(1, 1)] [], mi (offS 2 sz j) sz) = _
  rw [merge_one rfl rfl, stP, mi, u64w_eq, offS, if_neg (by omega), offS, if_neg (by omega), Int.emod_sub_emod]
  have : -(sz * (j : Int)) - sz = -(sz * ((j + 1 : Nat) : Int)) := by
    rw [Int.natCast_add, Int.mul_add]
    simp
    omega
  rw [this]
theorem step_tell (kd sz : Int) (hk : kd = 1 ∨ kd = 2) (j : Nat) : tell kd (stP kd sz j) ([], sz) = some (stP kd sz (j + 1)) := by
  rcases hk with rfl | rfl
  · rw [tell, if_pos rfl, step_plus]
  · rw [tell, if_neg (by omega), if_pos rfl, step_minus]
theorem form_chain (kd sz : Int) (hk : kd = 1 ∨ kd = 2) (hsz : u64ok sz) (k : Nat) : ∀ j : Nat, j ≤ k →
    ∃ M, formS (stM kd sz k) (j + 2) [] (lastOf j) = some (stP kd sz j, M) ∧ (getM 2 M = none ∨ getM 2 M = some ([], sz)) := by
  have hM : stM kd sz k = putOpsM [(2, cstO 2 sz)] (chain kd k 0) := rfl
  intro j
  induction j with
  | zero =>
    intro _
    have h1 : getM 1 (stM kd sz k) = none := by rw [hM, get_chain_low kd 1 (by omega)]; rfl
    have e : lastOf 0 = 1 := rfl
    have ho : stP kd sz 0 = ([(1, 1)], 0) := by
      simp only [stP, offS]
      split <;> simp
    refine ⟨putM 1 ([(1, 1)], 0) [], ?_, .inl rfl⟩
    rw [e, ho]
    simp [formS, madeS, h1, keepS, getM]
  | succ j ih =>
    intro hj
    obtain ⟨M, hf, h2⟩ := ih (by omega)
    have e : lastOf (j + 1) = 3 + (j : Int) := by unfold lastOf; rw [if_neg (by omega)]; omega
    have ho : getM (3 + (j : Int)) (stM kd sz k) = some (binO kd (3 + j) (lastOf j) 2) := by rw [hM, get_chain, if_pos (by omega)]
    have hc : getM 2 (stM kd sz k) = some (cstO 2 sz) := by rw [hM, get_chain_low kd 2 (by omega)]; rfl
    have k0 : ¬ kd = 0 := by omega
    have k1 : ¬ (kd < 1 ∨ 8 < kd) := by omega
    have hs0 := hsz.1
    have ht := step_tell kd sz hk j
    have hq : (stP kd sz j).1.length ≤ 4294967296 := by simp [stP]
    have hk16 : ∀ v, keepS v (some (stP kd sz (j + 1))) = stP kd sz (j + 1) := fun v => by simp [keepS, stP]
    have f2 : ∃ M2, formS (stM kd sz k) (j + 2) M 2 = some (([], sz), M2) ∧ getM 2 M2 = some ([], sz) := by
      rcases h2 with h2 | h2
      · refine ⟨putM 2 ([], sz) M, ?_, by rw [get_putM, if_pos rfl]⟩
        simp [formS, madeS, h2, hc, cstO, keepS]
      · exact ⟨M, by simp [formS, h2], h2⟩
    obtain ⟨M2, f2, h22⟩ := f2
    refine ⟨putM (3 + (j : Int)) (stP kd sz (j + 1)) M2, ?_, ?_⟩
    · rw [e, show j + 1 + 2 = (j + 2) + 1 from rfl, formS]
      simp only [getM, madeS, ho, binO, hf, Option.bind_some, f2]
      simp [k0, k1, hs0, hq, ht, hk16]
    · rw [get_putM, if_neg (by omega)]
      exact .inr h22
end AC

namespace AC
open Go Go.A Go.A.Lex
theorem ap_app1 (l : List POp) (o : POp) : l.map ro ++ [ro o] = (l ++ [o]).map ro := by simp
theorem steps_l0 (sz : Int) (dn : V) (kd : Int) (k : Nat) (hk : k ≤ 60) : ∀ (d j : Nat) (acc : List POp) a0 a3 a9 a10 a11 a12 a13 a14 a15 a16, k - j = d → j ≤ k → acc.length = j + 1 →
    exec T locksteplaw17_AffineSteps_l0 ⟨[a0, vU64 sz, dn, a3, vI k, vI kd, .one (.ap 0 0 (acc.map ro)), vI (lastOf j), vI j, a9, a10, a11, a12, a13, a14, a15, a16], [.tok 6 [acc.length]], 0, 0⟩ =
      some (.exit 0, ⟨[vU, vU64 sz, dn, vU, vI k, vU, .one (.ap 0 0 ((acc ++ chain kd d j).map ro)), vI (lastOf k), vU, vU, vU, vU, vU, vU, vU, vU, vU], [.tok 6 [(acc ++ chain kd d j).length]], 0, 0⟩) := by
  intro d
  induction d with
  | zero =>
    intro j acc a0 a3 a9 a10 a11 a12 a13 a14 a15 a16 h1 h2 h3
    have hj : j = k := by omega
    subst hj
    rw [locksteplaw17_AffineSteps_l0_eq, locksteplaw17_AffineSteps_b0]
    simp -implicitDefEqProofs only [go_sem, Int.lt_irrefl, chain, List.append_nil]
  | succ d ih =>
    intro j acc a0 a3 a9 a10 a11 a12 a13 a14 a15 a16 h1 h2 h3
    have hj : ((j : Int) < (k : Int)) = True := by simp; omega
    have hw : Go.IntKind.i64.wrap ((j : Int) + 1) = ((j + 1 : Nat) : Int) := by rw [wrap_i64] <;> omega
    have hw3 : Go.IntKind.i64.wrap (3 + (j : Int)) = 3 + (j : Int) := by rw [wrap_i64] <;> omega
    have hlim : acc.length + 1 ≤ LIM := by unfold LIM; omega
    have e : acc ++ binO kd (3 + j) (lastOf j) 2 :: chain kd d (j + 1) = (acc ++ [binO kd (3 + j) (lastOf j) 2]) ++ chain kd d (j + 1) := by simp
    have el : lastOf (j + 1) = 3 + (j : Int) := by unfold lastOf; rw [if_neg (by omega)]; omega
    have := ih (j + 1) (acc ++ [binO kd (3 + j) (lastOf j) 2]) vU vU vU vU vU vU vU vU vU vU (by omega) (by omega) (by simp; omega)
    rw [← e, ← ap_app1, el] at this
    rw [locksteplaw17_AffineSteps_l0_eq, locksteplaw17_AffineSteps_b0, chain]
    simp -implicitDefEqProofs only [go_sem, binO, ro, ri, ei, eu, eI] at this
    simp -implicitDefEqProofs only [go_sem, binO, ro, ri, ei, eu, eI, hj, hw, hw3, hlim, List.length_map, this]
theorem Of_ofS {f : PFunc} (hf : okF f) (hT : TreeIs f [-1]) (h0 : lookS f 2 [-1] = 0) {v : Int} (hv : getM v (shapesS f) = some (64, 1)) {n : Nat} {r : PForm} (hr : ∃ M', formS (opsOf [] f.blocks) n [] v = some (r, M')) :
    call T F.affine_Of [vFunc f, vI v] [] = some (.tup [vFm r, vI 0], []) := by
  obtain ⟨M', h⟩ := hr
  exact Of_call f hf [-1] hT h0 v hv n r M' h
set_option maxRecDepth 10000 in
theorem Steps_call (hA : call T F.locksteplaw17_awake [] [] = some (vB true, [])) (n sz : Int) (down : Bool) (hn : 0 ≤ n ∧ n < 256) (hsz : u64ok sz) :
    call T F.locksteplaw17_AffineSteps [.one (.f (.lit (.int .u8 n))), vU64 sz, vB down] [] = some (vB true, []) := by
  rw [call_eq (fn := a_locksteplaw17_AffineSteps) rfl]
  obtain ⟨k, hk⟩ : ∃ k : Nat, n % 60 = k := ⟨(n % 60).toNat, by omega⟩
  have hk60 : k < 60 := by omega
  obtain ⟨kd, hkd⟩ : ∃ kd : Int, kd = if down then 2 else 1 := ⟨_, rfl⟩
  have hkk : kd = 1 ∨ kd = 2 := by rw [hkd]; split <;> simp
  have hlen : (stOps kd sz k).length = k + 1 := by rw [stOps, List.length_cons, chain_length]
  have hlast : 1 ≤ lastOf k ∧ lastOf k < (k : Int) + 3 := by unfold lastOf; split <;> omega
  have hline : Line (64, 1) 2 (stOps kd sz k) := ⟨line_cst 2 sz (by omega) (by omega) hsz.1 hsz.2, chain_line kd hkk k 0 (by omega)⟩
  obtain ⟨hF, h0, hs⟩ := line_right 64 rfl (stOps kd sz k) (lastOf k) hline (by omega) hlast.1 (by omega)
  have hT := tree_one [64] 64 (stOps kd sz k) (lastOf k)
  obtain ⟨M, hf, _⟩ := form_chain kd sz hkk hsz k k (Nat.le_refl k)
  have o := Of_ofS hF hT h0 (hs (lastOf k) hlast.1 (by omega)) ⟨M, hf⟩
  have hl := fun a0 a3 a9 a10 a11 a12 a13 a14 a15 a16 => steps_l0 sz (vB down) kd k (by omega) k 0 [cstO 2 sz] a0 a3 a9 a10 a11 a12 a13 a14 a15 a16 (by omega) (by omega) rfl
  have ea : [cstO 2 sz] ++ chain kd k 0 = stOps kd sz k := rfl
  have el0 : lastOf 0 = 1 := rfl
  have ec : [ro (cstO 2 sz)] = [[.lit (.int .i64 0), .lit (.int .i64 64), .lit (.int .i64 1), .lit (.int .i64 2), .sl [], .lit (.int .u64 sz)]] := rfl
  rw [ea] at hl
  simp only [el0, Int.natCast_zero, List.map_cons, List.map_nil, ec, List.length_cons, List.length_nil] at hl
  have hw : IntKind.i64.wrap n = n := by rw [wrap_i64] <;> omega
  have hw2 : IntKind.i64.wrap (k : Int) = k := by rw [wrap_i64] <;> omega
  have hw3 : IntKind.u64.wrap (k : Int) = k := by rw [show IntKind.u64.wrap (k : Int) = u64w k from rfl, u64w_eq]; omega
  have hm : n.tmod 60 = k := by rw [Int.tmod_eq_emod_of_nonneg hn.1]; exact hk
  have ho : ∀ want, want = offS kd sz k → call T F.affine_Same [fF (stP kd sz k).1 (stP kd sz k).2, fF [(1, 1)] want] [] = some (vB true, []) := fun want h => by
    rw [Same_call _ _ _ _ (by simp [stP]), decide_eq_true (show (stP kd sz k).2 = want ∧ (stP kd sz k).1 = [(1, 1)] from ⟨h.symm, rfl⟩)]
  simp -implicitDefEqProofs only [go_sem] at hl
  simp -implicitDefEqProofs only [go_sem, vFm, stP, fF, oneF, rows, row, List.map_cons, List.map_nil, rb, ri, ei, eu, eI] at o ho
  cases down with
  | false =>
    simp only [Bool.false_eq_true, if_false] at hkd
    subst hkd
    have w1 := ho (IntKind.u64.wrap (sz * (k : Int))) (by rw [show IntKind.u64.wrap (sz * (k : Int)) = u64w (sz * k) from rfl, u64w_eq, offS, if_pos rfl])
    simp -implicitDefEqProofs only [go_sem, a_locksteplaw17_AffineSteps, hA, hw, hw2, hw3, hm, hl, o, w1]
  | true =>
    simp only [if_true] at hkd
    subst hkd
    have w1 := ho (IntKind.u64.wrap (0 - IntKind.u64.wrap (sz * (k : Int)))) (by
      rw [show IntKind.u64.wrap (sz * (k : Int)) = u64w (sz * k) from rfl, show ∀ x, IntKind.u64.wrap x = u64w x from fun _ => rfl, u64w_eq, u64w_eq, offS, if_neg (by omega), Int.sub_emod, Int.emod_emod_of_dvd _ (Int.dvd_refl _), ← Int.sub_emod, Int.zero_sub])
    simp -implicitDefEqProofs only [go_sem, a_locksteplaw17_AffineSteps, hA, hw, hw2, hw3, hm, hl, o, w1]
end AC

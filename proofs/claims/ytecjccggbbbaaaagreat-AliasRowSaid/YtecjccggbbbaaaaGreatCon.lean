import Derived.Test.YtecjccggbbbaaaaGreatData
import Derived.Test.YtecjccggbbbaaaaGreatRules
set_option linter.unusedVariables false
set_option linter.unusedSimpArgs false
namespace AC
open Go Go.A Go.A.Lex
variable (a0 a1 a2 a3 a4 a5 a6 a7 a8 a9 : V)
def row (t : Int × Int) : List Fz := [.lit (.int .i64 t.1), .lit (.int .u64 t.2)]
def rows (ts : List (Int × Int)) : List (List Fz) := ts.map row
def fF (ts : List (Int × Int)) (off : Int) : V := .agg [.f (.sl (rows ts)), .f (.lit (.int .u64 off))]
theorem wrap_suc {k n : Nat} (h : k < n) (h' : n ≤ 9223372036854775807) : Go.IntKind.i64.wrap ((k : Int) + 1) = ((k + 1 : Nat) : Int) := by rw [wrap_i64] <;> omega

def mayFrom : Int → List (Int × Int) → Bool
  | _, [] => true
  | last, t :: r => if t.1 ≤ last ∨ 1023 < t.1 ∨ t.2 = 0 then false else mayFrom t.1 r
theorem May_loop (ts : List (Int × Int)) (off : Int) (hl : ts.length ≤ 9223372036854775807) : ∀ (d k : Nat) (last : Int) (a0 a1 a2 a4 a8 a9 : V), ts.length - k = d → k ≤ ts.length →
    (mayFrom last (ts.drop k) = true → exec T affine_May_l0 ⟨[a0, a1, a2, vI last, a4, vL (rows ts), vI ts.length, vI k, a8, a9], [.cells 0 2 [[.f (.sl (rows ts)), .f (.lit (.int .u64 off))]]], 0, 0⟩ = some (.exit 0, ⟨[vU, vU, vU, vU, vU, vU, vU, vU, vU, vU], [.cells 0 2 [[.f (.sl (rows ts)), .f (.lit (.int .u64 off))]]], 0, 0⟩)) ∧
    (mayFrom last (ts.drop k) = false → ∃ o, exec T affine_May_l0 ⟨[a0, a1, a2, vI last, a4, vL (rows ts), vI ts.length, vI k, a8, a9], [.cells 0 2 [[.f (.sl (rows ts)), .f (.lit (.int .u64 off))]]], 0, 0⟩ = some (.ret, ⟨[vU, vU, vB false, vU, vU, vU, vU, vU, vU, vU], [.cells 0 2 [[.f (.sl (rows ts)), .f (.lit (.int .u64 off))]], o], 0, 0⟩)) := by
  intro d
  induction d with
  | zero =>
    intro k last a0 a1 a2 a4 a8 a9 h1 h2
    have hk : k = ts.length := by omega
    subst hk
    rw [affine_May_l0_eq, affine_May_b0]
    simp -implicitDefEqProofs only [go_sem, Int.lt_irrefl, List.drop_length, mayFrom, true_implies, false_implies, reduceCtorEq]
  | succ d ih =>
    intro k last a0 a1 a2 a4 a8 a9 h1 h2
    have hk : k < ts.length := by omega
    have hd : ts.drop k = ts[k] :: ts.drop (k + 1) := List.drop_eq_getElem_cons hk
    have hk' : (k : Int) < (ts.length : Int) := by omega
    have hg : (rows ts)[k]? = some (row ts[k]) := by simp [rows, hk]
    rw [affine_May_l0_eq, affine_May_b0, hd]
    simp -implicitDefEqProofs only [go_sem, hk', Int.natCast_nonneg, Int.toNat_natCast, hg, row, mayFrom]
    by_cases c1 : ts[k].1 ≤ last
    · simp -implicitDefEqProofs only [go_sem, c1, true_or]
      exact ⟨fun h => by simp at h, fun _ => ⟨_, rfl⟩⟩
    · by_cases c2 : 1023 < ts[k].1
      · simp -implicitDefEqProofs only [go_sem, c1, c2, true_or, or_true]
        exact ⟨fun h => by simp at h, fun _ => ⟨_, rfl⟩⟩
      · by_cases c3 : ts[k].2 = 0
        · simp -implicitDefEqProofs only [go_sem, c1, c2, c3, true_or, or_true]
          exact ⟨fun h => by simp at h, fun _ => ⟨_, rfl⟩⟩
        · simp -implicitDefEqProofs only [go_sem, c1, c2, c3, wrap_suc hk hl, or_false]
          exact ih (k + 1) _ _ _ _ _ _ _ (by omega) (by omega)
theorem May_call (ts : List (Int × Int)) (off : Int) (hl : ts.length ≤ 9223372036854775807) : call T F.affine_May [fF ts off] [] = some (vbool (mayFrom 0 ts), []) := by
  rw [call_eq (fn := a_affine_May) rfl]
  have h := May_loop ts off hl ts.length 0 0
  cases hm : mayFrom 0 ts with
  | true =>
    have h1 := fun a0 a1 a2 a4 a8 a9 => (h a0 a1 a2 a4 a8 a9 (by omega) (by omega)).1 hm
    simp -implicitDefEqProofs only [go_sem, a_affine_May, fF, rows, row, List.length_map, Int.natCast_zero] at h1 ⊢
    simp -implicitDefEqProofs only [go_sem, h1]
  | false =>
    obtain ⟨o, h1⟩ := (h (fF ts off) (.one (.ptr 0 0 0 0)) (vB false) vU vU vU (by omega) (by omega)).2 hm
    simp -implicitDefEqProofs only [go_sem, a_affine_May, fF, rows, List.length_map, Int.natCast_zero] at h1 ⊢
    simp -implicitDefEqProofs only [go_sem, h1]
end AC

namespace AC
open Go Go.A Go.A.Lex
theorem getw {ts : List (Int × Int)} {k : Nat} (hk : k < ts.length) : (rows ts)[k]? = some (row ts[k]) := by simp [rows, hk]
theorem rows_len (ts : List (Int × Int)) : (rows ts).length = ts.length := by simp [rows]
theorem rows_app (ts us : List (Int × Int)) : rows ts ++ rows us = rows (ts ++ us) := by simp [rows]
theorem rows_app1 (ts : List (Int × Int)) (a b : Int) : rows ts ++ [[.lit (.int .i64 a), .lit (.int .u64 b)]] = rows (ts ++ [(a, b)]) := by simp [rows, row]
theorem beqs_rows : ∀ ts : List (Int × Int), Fz.beqs (rows ts) (rows ts) = true
  | [] => rfl
  | t :: r => by
    have := beqs_rows r
    simp only [rows, List.map_cons, row] at this ⊢
    simp [Fz.beqs, Fz.beqR, Fz.beq, Value.beq, this]
theorem rows_nil : rows [] = [] := rfl
def consT (a b : Int) (l : List (Int × Int)) : List (Int × Int) := if b = 0 then l else (a, b) :: l
def mergeT (op : Int → Int → Int) : List (Int × Int) → List (Int × Int) → List (Int × Int)
  | [], [] => []
  | t :: ts, [] => consT t.1 (op t.2 0) (mergeT op ts [])
  | [], u :: us => consT u.1 (op 0 u.2) (mergeT op [] us)
  | t :: ts, u :: us => if t.1 < u.1 then consT t.1 (op t.2 0) (mergeT op ts (u :: us)) else if u.1 < t.1 then consT u.1 (op 0 u.2) (mergeT op (t :: ts) us) else consT t.1 (op t.2 u.2) (mergeT op ts us)
  termination_by ts us => ts.length + us.length
def bothR (op : Int → Int → Int) (ts : List (Int × Int)) (off : Int) (us : List (Int × Int)) (off' : Int) : V := fF (mergeT op ts us) (op off off')
def bx (ts : List (Int × Int)) (off : Int) : Ob := .cells 0 2 [[.f (.sl (rows ts)), .f (.lit (.int .u64 off))]]
def bo6 (acc : List (Int × Int)) (off : Int) : Ob := .cells 0 2 [[.ap 6 0 (rows acc), .f (.lit (.int .u64 off))]]
def zz : Ob := .cells 0 2 [[.f (.sl []), .f (.lit (.int .u64 0))]]
theorem consT_app (acc : List (Int × Int)) (a b : Int) (l : List (Int × Int)) : acc ++ consT a b l = (if b = 0 then acc else acc ++ [(a, b)]) ++ l := by
  unfold consT
  split <;> simp

theorem beq_sl (xs ys : List (List Fz)) : V.beq (.one (.f (.sl xs))) (.one (.f (.sl ys))) = Fz.beqs xs ys := by simp only [V.beq, C.beq, Fz.beq]
theorem beq_int (k : IntKind) (a : Int) : V.beq (.one (.f (.lit (.int k a)))) (.one (.f (.lit (.int k a)))) = true := by simp [V.beq, C.beq, Fz.beq, Value.beq]
theorem beq_fp (k k' : IntKind) (a b : Int) (o : Nat) : V.beq (.one (.fp [.lit (.int k a), .lit (.int k' b)] o)) (.one (.fp [.lit (.int k a), .lit (.int k' b)] o)) = true := by simp [V.beq, C.beq, Fz.beqR, Fz.beq, Value.beq]

def both_hd : Go.A.Code := affine_both_b0.p1
def both_sw : Go.A.Code := affine_both_b0.p2.p1.p2.p1.p1
def both_tl : Go.A.Code := affine_both_b0.p2.p1.p2.p2
theorem both_b0_eq : affine_both_b0 = .seq both_hd (.block 1 (.seq (.reg [w 9 (.al [.f (.lit (.int .i64 0)), .f (.lit (.int .u64 0))] [])]) (.seq (.block 2 both_sw) both_tl))) := rfl
section
variable (a0 a1 : V) (op : Int → Int → Int) (g : Nat) (caps : List C) (o0 o1 o2 : Ob) (ts us acc : List (Int × Int)) (off off' off2 : Int) (i k : Nat) (hl : ts.length + us.length ≤ 4294967296)
abbrev benv (i k : V) (b9 b10 b11 b12 b13 : V) : List V := [a0, a1, .one (.fn g [] caps), .one (.ptr 3 0 0 0), .one (.ptr 4 0 0 0), .one (.ptr 5 0 0 0), .one (.ptr 7 0 0 0), i, k, b9, b10, b11, b12, b13]
abbrev bst (tl : List Ob) : Store := o0 :: o1 :: o2 :: bx ts off :: bx us off' :: zz :: .tok 2 [acc.length] :: bo6 acc off2 :: tl
def ob8 (v s : Int) : Ob := .cells 0 2 [[.f (.lit (.int .i64 v)), .f (.lit (.int .u64 s))]]
theorem both_hd_go (h : i < ts.length ∨ k < us.length) (a9 a10 a11 a12 a13 : V) : exec T both_hd ⟨benv a0 a1 g caps (vI i) (vI k) a9 a10 a11 a12 a13, bst o0 o1 o2 ts us acc off off' off2 [], 3, 3⟩ = some (.normal, ⟨benv a0 a1 g caps (vI i) (vI k) a9 (vB true) a11 a12 a13, bst o0 o1 o2 ts us acc off off' off2 [], 3, 3⟩) := by
  unfold both_hd affine_both_b0 Code.p1
  by_cases ci : i < ts.length
  · have ci' : (i : Int) < (ts.length : Int) := by omega
    simp -implicitDefEqProofs only [go_sem, benv, bst, bx, bo6, zz, rows_len, ci']
  · have ci' : ¬ (i : Int) < (ts.length : Int) := by omega
    have ck' : (k : Int) < (us.length : Int) := by omega
    simp -implicitDefEqProofs only [go_sem, benv, bst, bx, bo6, zz, rows_len, ci', ck']
theorem both_hd_end (hi : i = ts.length) (hk : k = us.length) (hcap : C.lts 8 caps = true) (h0 : o0.lt 8 = true) (h1 : o1.lt 8 = true) (h2 : o2.lt 8 = true) (a9 a10 a11 a12 a13 : V) : exec T both_hd ⟨benv a0 a1 g caps (vI i) (vI k) a9 a10 a11 a12 a13, bst o0 o1 o2 ts us acc off off' off2 [], 3, 3⟩ =
    some (.exit 0, ⟨[vU, vU, vU, vU, vU, .one (.ptr 5 0 0 0), .one (.ptr 7 0 0 0), vU, vU, vU, vU, vU, vU, vU], bst o0 o1 o2 ts us acc off off' off2 [], 3, 3⟩) := by
  subst hi
  subst hk
  unfold both_hd affine_both_b0 Code.p1
  simp -implicitDefEqProofs only [go_sem, benv, bst, bx, bo6, zz, rows_len, Int.lt_irrefl]
include hl in
theorem both_tl_go (i' k' : V) (hacc : acc.length < ts.length + us.length) (v s : Int) (b10 b11 b12 b13 : V) : ∃ b, exec T both_tl ⟨benv a0 a1 g caps i' k' (.one (.ptr 8 0 0 0)) b10 b11 b12 b13, bst o0 o1 o2 ts us acc off off' off2 [ob8 v s], 3, 3⟩ =
    some (.normal, ⟨benv a0 a1 g caps i' k' (.one (.ptr 8 0 0 0)) b10 b11 b12 b, bst o0 o1 o2 ts us (if s = 0 then acc else acc ++ [(v, s)]) off off' off2 [ob8 v s], 3, 3⟩) := by
  have hlim : acc.length + 1 ≤ LIM := by unfold LIM; omega
  unfold both_tl affine_both_b0 Code.p1 Code.p2
  by_cases hs : s = 0
  · exact ⟨vB false, by simp -implicitDefEqProofs only [go_sem, benv, bst, bx, bo6, zz, ob8, rows_len, hs, decide_true]⟩
  · exact ⟨vB true, by simp -implicitDefEqProofs only [go_sem, benv, bst, bx, bo6, zz, ob8, rows_len, hs, decide_false, hlim, rows_app1]⟩

def both_c1 : Go.A.Code := both_sw.p1
def both_x1 : Go.A.Code := both_sw.p2.p1.p1
def both_n1 : Go.A.Code := both_sw.p2.p1.p2
def both_c2 : Go.A.Code := both_sw.p2.p2.p1
def both_x2 : Go.A.Code := both_sw.p2.p2.p2.p1.p1
def both_n2 : Go.A.Code := both_sw.p2.p2.p2.p1.p2
def both_x3 : Go.A.Code := both_sw.p2.p2.p2.p2.p1
def both_n3 : Go.A.Code := both_sw.p2.p2.p2.p2.p2
theorem both_sw_eq : both_sw = .seq both_c1 (.cond (.s 11) (.seq both_x1 both_n1) (.seq both_c2 (.cond (.s 12) (.seq both_x2 both_n2) (.seq both_x3 both_n3)))) := rfl
variable (a10 a11 a12 a13 : V)
abbrev vp8 : V := .one (.ptr 8 0 0 0)
theorem both_c1_t (h : k = us.length ∨ ∃ (hi : i < ts.length) (hk : k < us.length), ts[i].1 < us[k].1) (hk : k ≤ us.length) : exec T both_c1 ⟨benv a0 a1 g caps (vI i) (vI k) vp8 a10 a11 a12 a13, bst o0 o1 o2 ts us acc off off' off2 [ob8 0 0], 3, 3⟩ =
    some (.normal, ⟨benv a0 a1 g caps (vI i) (vI k) vp8 a10 (vB true) a12 a13, bst o0 o1 o2 ts us acc off off' off2 [ob8 0 0], 3, 3⟩) := by
  unfold both_c1 both_sw affine_both_b0 Code.p1 Code.p2
  by_cases ck : k = us.length
  · subst ck
    simp -implicitDefEqProofs only [go_sem, benv, bst, bx, bo6, zz, ob8, rows_len]
  · have ck' : ¬ (k : Int) = (us.length : Int) := by omega
    rcases h with h | ⟨hi, hk, h⟩
    · exact absurd h ck
    have ci' : (i : Int) < (ts.length : Int) := by omega
    simp -implicitDefEqProofs only [go_sem, benv, bst, bx, bo6, zz, ob8, rows_len, ck', ci', Int.natCast_nonneg, Int.toNat_natCast, getw hi, getw hk, row, h]
theorem both_c1_f (hk : k < us.length) (h : ∀ hi : i < ts.length, ¬ ts[i].1 < us[k].1) : exec T both_c1 ⟨benv a0 a1 g caps (vI i) (vI k) vp8 a10 a11 a12 a13, bst o0 o1 o2 ts us acc off off' off2 [ob8 0 0], 3, 3⟩ =
    some (.normal, ⟨benv a0 a1 g caps (vI i) (vI k) vp8 a10 (vB false) a12 a13, bst o0 o1 o2 ts us acc off off' off2 [ob8 0 0], 3, 3⟩) := by
  unfold both_c1 both_sw affine_both_b0 Code.p1 Code.p2
  have ck' : ¬ (k : Int) = (us.length : Int) := by omega
  by_cases hi : i < ts.length
  · have ci' : (i : Int) < (ts.length : Int) := by omega
    simp -implicitDefEqProofs only [go_sem, benv, bst, bx, bo6, zz, ob8, rows_len, ck', ci', Int.natCast_nonneg, Int.toNat_natCast, getw hi, getw hk, row, h hi]
  · have ci' : ¬ (i : Int) < (ts.length : Int) := by omega
    simp -implicitDefEqProofs only [go_sem, benv, bst, bx, bo6, zz, ob8, rows_len, ck', ci']
theorem both_c2_go (hi : i ≤ ts.length) (hk : k < us.length) (c : Bool) (h : (∃ h : i < ts.length, c = decide (us[k].1 < ts[i].1)) ∨ (i = ts.length ∧ c = true)) : exec T both_c2 ⟨benv a0 a1 g caps (vI i) (vI k) vp8 a10 a11 a12 a13, bst o0 o1 o2 ts us acc off off' off2 [ob8 0 0], 3, 3⟩ =
    some (.normal, ⟨benv a0 a1 g caps (vI i) (vI k) vp8 a10 a11 (vB c) a13, bst o0 o1 o2 ts us acc off off' off2 [ob8 0 0], 3, 3⟩) := by
  unfold both_c2 both_sw affine_both_b0 Code.p1 Code.p2
  rcases h with ⟨hi, h⟩ | ⟨h, hc⟩
  · have ci' : ¬ (i : Int) = (ts.length : Int) := by omega
    simp -implicitDefEqProofs only [go_sem, benv, bst, bx, bo6, zz, ob8, rows_len, ci', Int.natCast_nonneg, Int.toNat_natCast, getw hi, getw hk, row, h]
  · subst hc
    subst h
    simp -implicitDefEqProofs only [go_sem, benv, bst, bx, bo6, zz, ob8, rows_len]
section
variable (hdo : ∀ a b τ, call T g (vU64 a :: vU64 b :: caps.map V.one) (o0 :: o1 :: o2 :: τ) = some (vU64 (op a b), o0 :: o1 :: o2 :: τ))
include hdo
theorem both_x1_go (hi : i < ts.length) : exec T both_x1 ⟨benv a0 a1 g caps (vI i) (vI k) vp8 a10 a11 a12 a13, bst o0 o1 o2 ts us acc off off' off2 [ob8 0 0], 3, 3⟩ =
    some (.normal, ⟨benv a0 a1 g caps (vI i) (vI k) vp8 a10 a11 a12 a13, bst o0 o1 o2 ts us acc off off' off2 [ob8 ts[i].1 (op ts[i].2 0)], 3, 3⟩) := by
  unfold both_x1 both_sw affine_both_b0 Code.p1 Code.p2
  simp -implicitDefEqProofs only [go_sem, benv, bst, bx, bo6, zz, ob8, exec_regd, regD, samePair, sameRes, List.all_cons, List.all_nil, List.headD_cons, beq_sl, beq_fp, beq_int, beqs_rows, Int.natCast_nonneg, Int.toNat_natCast, getw hi, row, hdo]
theorem both_x2_go (hk : k < us.length) : exec T both_x2 ⟨benv a0 a1 g caps (vI i) (vI k) vp8 a10 a11 a12 a13, bst o0 o1 o2 ts us acc off off' off2 [ob8 0 0], 3, 3⟩ =
    some (.normal, ⟨benv a0 a1 g caps (vI i) (vI k) vp8 a10 a11 a12 a13, bst o0 o1 o2 ts us acc off off' off2 [ob8 us[k].1 (op 0 us[k].2)], 3, 3⟩) := by
  unfold both_x2 both_sw affine_both_b0 Code.p1 Code.p2
  simp -implicitDefEqProofs only [go_sem, benv, bst, bx, bo6, zz, ob8, exec_regd, regD, samePair, sameRes, List.all_cons, List.all_nil, List.headD_cons, beq_sl, beq_fp, beq_int, beqs_rows, Int.natCast_nonneg, Int.toNat_natCast, getw hk, row, hdo]
theorem both_x3_go (hi : i < ts.length) (hk : k < us.length) : exec T both_x3 ⟨benv a0 a1 g caps (vI i) (vI k) vp8 a10 a11 a12 a13, bst o0 o1 o2 ts us acc off off' off2 [ob8 0 0], 3, 3⟩ =
    some (.normal, ⟨benv a0 a1 g caps (vI i) (vI k) vp8 a10 a11 a12 a13, bst o0 o1 o2 ts us acc off off' off2 [ob8 ts[i].1 (op ts[i].2 us[k].2)], 3, 3⟩) := by
  unfold both_x3 both_sw affine_both_b0 Code.p1 Code.p2
  simp -implicitDefEqProofs only [go_sem, benv, bst, bx, bo6, zz, ob8, exec_regd, regD, samePair, sameRes, List.all_cons, List.all_nil, List.headD_cons, beq_sl, beq_fp, beq_int, beqs_rows, Int.natCast_nonneg, Int.toNat_natCast, getw hi, getw hk, row, hdo]
end
theorem both_n1_go (hi : i < ts.length) (hw : ts.length ≤ 9223372036854775807) (τ : Store) : exec T both_n1 ⟨benv a0 a1 g caps (vI i) (vI k) vp8 a10 a11 a12 a13, τ, 3, 3⟩ =
    some (.normal, ⟨benv a0 a1 g caps (vI (i + 1 : Nat)) (vI k) vp8 a10 a11 a12 a13, τ, 3, 3⟩) := by
  unfold both_n1 both_sw affine_both_b0 Code.p1 Code.p2
  simp -implicitDefEqProofs only [go_sem, benv, wrap_suc hi hw]
theorem both_n2_go (hk : k < us.length) (hw : us.length ≤ 9223372036854775807) (τ : Store) : exec T both_n2 ⟨benv a0 a1 g caps (vI i) (vI k) vp8 a10 a11 a12 a13, τ, 3, 3⟩ =
    some (.normal, ⟨benv a0 a1 g caps (vI i) (vI (k + 1 : Nat)) vp8 a10 a11 a12 a13, τ, 3, 3⟩) := by
  unfold both_n2 both_sw affine_both_b0 Code.p1 Code.p2
  simp -implicitDefEqProofs only [go_sem, benv, wrap_suc hk hw]
theorem both_n3_go (hi : i < ts.length) (hk : k < us.length) (hw : ts.length ≤ 9223372036854775807) (hw' : us.length ≤ 9223372036854775807) (τ : Store) : exec T both_n3 ⟨benv a0 a1 g caps (vI i) (vI k) vp8 a10 a11 a12 a13, τ, 3, 3⟩ =
    some (.normal, ⟨benv a0 a1 g caps (vI (i + 1 : Nat)) (vI (k + 1 : Nat)) vp8 a10 a11 a12 a13, τ, 3, 3⟩) := by
  unfold both_n3 both_sw affine_both_b0 Code.p1 Code.p2
  simp -implicitDefEqProofs only [go_sem, benv, wrap_suc hi hw, wrap_suc hk hw']

theorem both_step (op : Int → Int → Int) (g : Nat) (caps : List C) (o0 o1 o2 : Ob) (hcap : C.lts 8 caps = true) (h0 : o0.lt 8 = true) (h1 : o1.lt 8 = true) (h2 : o2.lt 8 = true)
    (ts us : List (Int × Int)) (off off' off2 : Int) (hl : ts.length + us.length ≤ 4294967296) (i k i' k' : Nat) (hik : i < ts.length ∨ k < us.length) (acc : List (Int × Int)) (hacc : acc.length < ts.length + us.length) (a0 a1 a9 a10 a11 a12 a13 : V) (v s : Int)
    (hsw : ∀ b11 b12 b13, ∃ c11 c12 c13, exec T both_sw ⟨benv a0 a1 g caps (vI i) (vI k) vp8 (vB true) b11 b12 b13, bst o0 o1 o2 ts us acc off off' off2 [ob8 0 0], 3, 3⟩ =
      some (.normal, ⟨benv a0 a1 g caps (vI i') (vI k') vp8 (vB true) c11 c12 c13, bst o0 o1 o2 ts us acc off off' off2 [ob8 v s], 3, 3⟩)) (r : Option (Ex × St))
    (hr : exec T affine_both_l0 ⟨benv vU vU g caps (vI i') (vI k') vU vU vU vU vU, bst o0 o1 o2 ts us (if s = 0 then acc else acc ++ [(v, s)]) off off' off2 [], 3, 3⟩ = r) :
    exec T affine_both_l0 ⟨benv a0 a1 g caps (vI i) (vI k) a9 a10 a11 a12 a13, bst o0 o1 o2 ts us acc off off' off2 [], 3, 3⟩ = r := by
  obtain ⟨c11, c12, c13, hsw⟩ := hsw a11 a12 a13
  obtain ⟨c, htl⟩ := both_tl_go a0 a1 g caps o0 o1 o2 ts us acc off off' off2 hl (vI i') (vI k') hacc v s (vB true) c11 c12 c13
  refine r_loop (b := affine_both_b0) (s1 := ⟨benv a0 a1 g caps (vI i') (vI k') vp8 (vB true) c11 c12 c, bst o0 o1 o2 ts us (if s = 0 then acc else acc ++ [(v, s)]) off off' off2 [ob8 v s], 3, 3⟩) rfl ?_ ?_ hr
  · rw [both_b0_eq]
    refine r_seq (both_hd_go a0 a1 g caps o0 o1 o2 ts us acc off off' off2 i k hik a9 a10 a11 a12 a13) (r_blockn (r_seq (s1 := ⟨benv a0 a1 g caps (vI i) (vI k) vp8 (vB true) a11 a12 a13, bst o0 o1 o2 ts us acc off off' off2 [ob8 0 0], 3, 3⟩) ?_ (r_seq (r_blockn hsw) htl)))
    simp -implicitDefEqProofs only [go_sem, benv, bst, bx, bo6, zz, ob8]
  · unfold Ob.lt at h0 h1 h2
    simp -implicitDefEqProofs only [go_sem, benv, bst, bx, bo6, zz, ob8, hcap, h0, h1, h2]
theorem both_loop (op : Int → Int → Int) (g : Nat) (caps : List C) (o0 o1 o2 : Ob) (hcap : C.lts 8 caps = true) (h0 : o0.lt 8 = true) (h1 : o1.lt 8 = true) (h2 : o2.lt 8 = true)
    (hdo : ∀ a b τ, call T g (vU64 a :: vU64 b :: caps.map V.one) (o0 :: o1 :: o2 :: τ) = some (vU64 (op a b), o0 :: o1 :: o2 :: τ))
    (ts us : List (Int × Int)) (off off' off2 : Int) (hl : ts.length + us.length ≤ 4294967296) :
    ∀ (d i k : Nat) (acc : List (Int × Int)) (a0 a1 a9 a10 a11 a12 a13 : V), (ts.length - i) + (us.length - k) ≤ d → i ≤ ts.length → k ≤ us.length → acc.length ≤ i + k →
    exec T affine_both_l0 ⟨benv a0 a1 g caps (vI i) (vI k) a9 a10 a11 a12 a13, bst o0 o1 o2 ts us acc off off' off2 [], 3, 3⟩ =
    some (.exit 0, ⟨[vU, vU, vU, vU, vU, .one (.ptr 5 0 0 0), .one (.ptr 7 0 0 0), vU, vU, vU, vU, vU, vU, vU],
      bst o0 o1 o2 ts us (acc ++ mergeT op (ts.drop i) (us.drop k)) off off' off2 [], 3, 3⟩) := by
  intro d
  induction d with
  | zero =>
    intro i k acc a0 a1 a9 a10 a11 a12 a13 h1' h2' h3' h4'
    have hi : i = ts.length := by omega
    have hk : k = us.length := by omega
    refine r_loopx (b := affine_both_b0) rfl ?_ (by simp)
    rw [both_b0_eq]
    refine r_seqx ?_ (by simp)
    rw [both_hd_end a0 a1 g caps o0 o1 o2 ts us acc off off' off2 i k hi hk hcap h0 h1 h2]
    subst hi
    subst hk
    simp only [List.drop_length, mergeT, List.append_nil]
  | succ d ih =>
    intro i k acc a0 a1 a9 a10 a11 a12 a13 h1' h2' h3' h4'
    by_cases hi : i < ts.length
    · have hdi : ts.drop i = ts[i] :: ts.drop (i + 1) := List.drop_eq_getElem_cons hi
      by_cases hk : k < us.length
      · have hdk : us.drop k = us[k] :: us.drop (k + 1) := List.drop_eq_getElem_cons hk
        by_cases clt : ts[i].1 < us[k].1
        · refine both_step op g caps o0 o1 o2 hcap h0 h1 h2 ts us off off' off2 hl i k (i + 1) k (.inl hi) acc (by omega) a0 a1 a9 a10 a11 a12 a13 ts[i].1 (op ts[i].2 0) (fun b11 b12 b13 => ⟨vB true, b12, b13, ?_⟩) _ ?_
          · rw [both_sw_eq]
            exact r_seq (both_c1_t a0 a1 g caps o0 o1 o2 ts us acc off off' off2 i k _ _ _ _ (.inr ⟨hi, hk, clt⟩) h3') (r_ct rfl (r_seq (both_x1_go a0 a1 op g caps o0 o1 o2 ts us acc off off' off2 i k _ _ _ _ hdo hi) (both_n1_go a0 a1 g caps ts i k _ _ _ _ hi (by omega) _)))
          · rw [ih (i + 1) k _ _ _ _ _ _ _ _ (by omega) (by omega) (by omega) (by split <;> (try rw [List.length_append]) <;> (try simp only [List.length_cons, List.length_nil]) <;> omega), hdi, hdk, mergeT, if_pos clt, consT_app]
        · by_cases cgt : us[k].1 < ts[i].1
          · refine both_step op g caps o0 o1 o2 hcap h0 h1 h2 ts us off off' off2 hl i k i (k + 1) (.inl hi) acc (by omega) a0 a1 a9 a10 a11 a12 a13 us[k].1 (op 0 us[k].2) (fun b11 b12 b13 => ⟨vB false, vB true, b13, ?_⟩) _ ?_
            · rw [both_sw_eq]
              exact r_seq (both_c1_f a0 a1 g caps o0 o1 o2 ts us acc off off' off2 i k _ _ _ _ hk (fun _ => clt)) (r_cf rfl (r_seq (both_c2_go a0 a1 g caps o0 o1 o2 ts us acc off off' off2 i k _ _ _ _ h2' hk true (.inl ⟨hi, by simp [cgt]⟩)) (r_ct rfl (r_seq (both_x2_go a0 a1 op g caps o0 o1 o2 ts us acc off off' off2 i k _ _ _ _ hdo hk) (both_n2_go a0 a1 g caps us i k _ _ _ _ hk (by omega) _)))))
            · rw [ih i (k + 1) _ _ _ _ _ _ _ _ (by omega) (by omega) (by omega) (by split <;> (try rw [List.length_append]) <;> (try simp only [List.length_cons, List.length_nil]) <;> omega), hdi, hdk, mergeT, if_neg clt, if_pos cgt, consT_app]
          · refine both_step op g caps o0 o1 o2 hcap h0 h1 h2 ts us off off' off2 hl i k (i + 1) (k + 1) (.inl hi) acc (by omega) a0 a1 a9 a10 a11 a12 a13 ts[i].1 (op ts[i].2 us[k].2) (fun b11 b12 b13 => ⟨vB false, vB false, b13, ?_⟩) _ ?_
            · rw [both_sw_eq]
              exact r_seq (both_c1_f a0 a1 g caps o0 o1 o2 ts us acc off off' off2 i k _ _ _ _ hk (fun _ => clt)) (r_cf rfl (r_seq (both_c2_go a0 a1 g caps o0 o1 o2 ts us acc off off' off2 i k _ _ _ _ h2' hk false (.inl ⟨hi, by simp [cgt]⟩)) (r_cf rfl (r_seq (both_x3_go a0 a1 op g caps o0 o1 o2 ts us acc off off' off2 i k _ _ _ _ hdo hi hk) (both_n3_go a0 a1 g caps ts us i k _ _ _ _ hi hk (by omega) (by omega) _)))))
            · rw [ih (i + 1) (k + 1) _ _ _ _ _ _ _ _ (by omega) (by omega) (by omega) (by split <;> (try rw [List.length_append]) <;> (try simp only [List.length_cons, List.length_nil]) <;> omega), hdi, hdk, mergeT, if_neg clt, if_neg cgt, consT_app]
      · have hk' : k = us.length := by omega
        have hdk : us.drop k = [] := by simp [hk']
        refine both_step op g caps o0 o1 o2 hcap h0 h1 h2 ts us off off' off2 hl i k (i + 1) k (.inl hi) acc (by omega) a0 a1 a9 a10 a11 a12 a13 ts[i].1 (op ts[i].2 0) (fun b11 b12 b13 => ⟨vB true, b12, b13, ?_⟩) _ ?_
        · rw [both_sw_eq]
          exact r_seq (both_c1_t a0 a1 g caps o0 o1 o2 ts us acc off off' off2 i k _ _ _ _ (.inl hk') h3') (r_ct rfl (r_seq (both_x1_go a0 a1 op g caps o0 o1 o2 ts us acc off off' off2 i k _ _ _ _ hdo hi) (both_n1_go a0 a1 g caps ts i k _ _ _ _ hi (by omega) _)))
        · rw [ih (i + 1) k _ _ _ _ _ _ _ _ (by omega) (by omega) (by omega) (by split <;> (try rw [List.length_append]) <;> (try simp only [List.length_cons, List.length_nil]) <;> omega), hdi, hdk, mergeT, consT_app]
    · have hi' : i = ts.length := by omega
      have hdi : ts.drop i = [] := by simp [hi']
      by_cases hk : k < us.length
      · have hdk : us.drop k = us[k] :: us.drop (k + 1) := List.drop_eq_getElem_cons hk
        refine both_step op g caps o0 o1 o2 hcap h0 h1 h2 ts us off off' off2 hl i k i (k + 1) (.inr hk) acc (by omega) a0 a1 a9 a10 a11 a12 a13 us[k].1 (op 0 us[k].2) (fun b11 b12 b13 => ⟨vB false, vB true, b13, ?_⟩) _ ?_
        · rw [both_sw_eq]
          exact r_seq (both_c1_f a0 a1 g caps o0 o1 o2 ts us acc off off' off2 i k _ _ _ _ hk (fun h => absurd h hi)) (r_cf rfl (r_seq (both_c2_go a0 a1 g caps o0 o1 o2 ts us acc off off' off2 i k _ _ _ _ h2' hk true (.inr ⟨hi', rfl⟩)) (r_ct rfl (r_seq (both_x2_go a0 a1 op g caps o0 o1 o2 ts us acc off off' off2 i k _ _ _ _ hdo hk) (both_n2_go a0 a1 g caps us i k _ _ _ _ hk (by omega) _)))))
        · rw [ih i (k + 1) _ _ _ _ _ _ _ _ (by omega) (by omega) (by omega) (by split <;> (try rw [List.length_append]) <;> (try simp only [List.length_cons, List.length_nil]) <;> omega), hdi, hdk, mergeT, consT_app]
      · exact ih i k acc a0 a1 a9 a10 a11 a12 a13 (by omega) h2' h3' h4'
theorem both_call (op : Int → Int → Int) (g : Nat) (caps : List C) (o0 o1 o2 : Ob) (hcap : C.lts 8 caps = true) (h0 : ∀ n, 3 ≤ n → o0.lt n = true) (h1 : ∀ n, 3 ≤ n → o1.lt n = true) (h2 : ∀ n, 3 ≤ n → o2.lt n = true)
    (hdo : ∀ a b τ, call T g (vU64 a :: vU64 b :: caps.map V.one) (o0 :: o1 :: o2 :: τ) = some (vU64 (op a b), o0 :: o1 :: o2 :: τ))
    (ts us : List (Int × Int)) (off off' : Int) (hl : ts.length + us.length ≤ 4294967296) :
    call T F.affine_both [fF ts off, fF us off', .one (.fn g [] caps)] [o0, o1, o2] = some (fF (mergeT op ts us) (op off off'), [o0, o1, o2]) := by
  rw [call_eq (fn := a_affine_both) rfl]
  have h03 := h0 3 (Nat.le_refl 3)
  have h13 := h1 3 (Nat.le_refl 3)
  have h23 := h2 3 (Nat.le_refl 3)
  unfold Ob.lt at h03 h13 h23
  have h := both_loop op g caps o0 o1 o2 hcap (h0 8 (by omega)) (h1 8 (by omega)) (h2 8 (by omega)) hdo ts us off off' (op off off') hl (ts.length + us.length) 0 0 []
  have h := fun a0 a1 a9 a10 a11 a12 a13 => h a0 a1 a9 a10 a11 a12 a13 (by omega) (by omega) (by omega) (by simp)
  simp -implicitDefEqProofs only [go_sem, a_affine_both, benv, bst, bx, bo6, zz, fF, hdo, Int.natCast_zero, rows_nil, h03, h13, h23] at h ⊢
  simp -implicitDefEqProofs only [go_sem, h, bx, h03, h13, h23]
end
end AC

namespace AC
open Go Go.A Go.A.Lex
abbrev u64w (x : Int) : Int := Go.IntKind.u64.wrap x
def pl (a b : Int) : Int := u64w (a + b)
def mi (a b : Int) : Int := u64w (a - b)
def ti (n : Int) (a _b : Int) : Int := u64w (a * n)
theorem Plus1_call (a b : Int) (τ : Store) : call T F.affine_Plus_1 [vU64 a, vU64 b] τ = some (vU64 (pl a b), τ) := by
  rw [call_eq (fn := a_affine_Plus_1) rfl]
  simp -implicitDefEqProofs only [go_sem, a_affine_Plus_1, pl, u64w]
theorem Minus1_call (a b : Int) (τ : Store) : call T F.affine_Minus_1 [vU64 a, vU64 b] τ = some (vU64 (mi a b), τ) := by
  rw [call_eq (fn := a_affine_Minus_1) rfl]
  simp -implicitDefEqProofs only [go_sem, a_affine_Minus_1, mi, u64w]
theorem Times1_call (n : Int) (o0 o2 : Ob) (a b : Int) (τ : Store) : call T F.affine_Times_1 [vU64 a, vU64 b, .one (.ptr 1 0 0 0)] (o0 :: .cells 0 1 [[.f (.lit (.int .u64 n))]] :: o2 :: τ) = some (vU64 (ti n a b), o0 :: .cells 0 1 [[.f (.lit (.int .u64 n))]] :: o2 :: τ) := by
  rw [call_eq (fn := a_affine_Times_1) rfl]
  simp -implicitDefEqProofs only [go_sem, a_affine_Times_1, ti, u64w]

theorem may1_call (ts : List (Int × Int)) (off : Int) (hl : ts.length ≤ 9223372036854775807) : call T F.affine_may_1 [fF ts off] [] = some (vbool (!mayFrom 0 ts), []) := by
  rw [call_eq (fn := a_affine_may_1) rfl]
  have h := May_call ts off hl
  simp -implicitDefEqProofs only [go_sem, a_affine_may_1, fF] at h ⊢
  simp -implicitDefEqProofs only [go_sem, h]
theorem fFl (ts : List (Int × Int)) (off : Int) : vagg [Fz.sl (rows ts), .lit (.int .u64 off)] = fF ts off := rfl
theorem IndexForm_call (ts us : List (Int × Int)) (off off' : Int) (hl : ts.length ≤ 9223372036854775807) (hl' : us.length ≤ 9223372036854775807) :
    call T F.slices_IndexFunc_Form [.one (.f (.sl [[.sl (rows ts), .lit (.int .u64 off)], [.sl (rows us), .lit (.int .u64 off')]])), .one (.fn F.affine_may_1 [] [])] [] =
      some (vI (if mayFrom 0 ts then (if mayFrom 0 us then -1 else 1) else 0), []) := by
  rw [call_eq (fn := a_slices_IndexFunc_Form) rfl]
  have h := may1_call ts off hl
  have h' := may1_call us off' hl'
  have w1 : IntKind.i64.wrap 1 = 1 := by decide
  have w2 : IntKind.i64.wrap 2 = 2 := by decide
  have n2 : ((2 : Nat) : Int) = 2 := rfl
  have z1 : ∀ n : Nat, ((n + 1 + 1 : Nat) : Int) = (n : Int) + 2 := fun n => by omega
  have e1 : (1 : Int) < 2 := by decide
  simp -implicitDefEqProofs only [go_sem, fF] at h h'
  cases h1 : mayFrom 0 ts with
  | false =>
    simp -implicitDefEqProofs only [h1, go_sem] at h
    simp -implicitDefEqProofs only [go_sem, a_slices_IndexFunc_Form, slices_IndexFunc_Form_l0_eq, slices_IndexFunc_Form_b0, h, w1, w2, n2, Int.reduceAdd]
  | true =>
    simp -implicitDefEqProofs only [h1, go_sem] at h
    cases h2 : mayFrom 0 us with
    | false =>
      simp -implicitDefEqProofs only [h2, go_sem] at h'
      simp -implicitDefEqProofs only [go_sem, a_slices_IndexFunc_Form, slices_IndexFunc_Form_l0_eq, slices_IndexFunc_Form_b0, h, h', w1, w2, n2, Int.reduceAdd]
    | true =>
      simp -implicitDefEqProofs only [h2, go_sem] at h'
      simp -implicitDefEqProofs only [go_sem, a_slices_IndexFunc_Form, slices_IndexFunc_Form_l0_eq, slices_IndexFunc_Form_b0, h, h', w1, w2, n2, Int.reduceAdd]

theorem ContainsForm_call (ts us : List (Int × Int)) (off off' : Int) (hl : ts.length ≤ 9223372036854775807) (hl' : us.length ≤ 9223372036854775807) :
    call T F.slices_ContainsFunc_Form [.one (.f (.sl [[.sl (rows ts), .lit (.int .u64 off)], [.sl (rows us), .lit (.int .u64 off')]])), .one (.fn F.affine_may_1 [] [])] [] =
      some (vB (!(mayFrom 0 ts && mayFrom 0 us)), []) := by
  rw [call_eq (fn := a_slices_ContainsFunc_Form) rfl]
  have h := IndexForm_call ts us off off' hl hl'
  have e1 : decide ((0 : Int) ≤ -1) = false := by decide
  have e2 : decide ((0 : Int) ≤ 1) = true := by decide
  have e3 : decide ((0 : Int) ≤ 0) = true := by decide
  cases h1 : mayFrom 0 ts with
  | false =>
    simp -implicitDefEqProofs only [h1, go_sem] at h
    simp -implicitDefEqProofs only [go_sem, a_slices_ContainsFunc_Form, h, e3]
  | true =>
    cases h2 : mayFrom 0 us with
    | false =>
      simp -implicitDefEqProofs only [h1, h2, go_sem] at h
      simp -implicitDefEqProofs only [go_sem, a_slices_ContainsFunc_Form, h, e2]
    | true =>
      simp -implicitDefEqProofs only [h1, h2, go_sem] at h
      simp -implicitDefEqProofs only [go_sem, a_slices_ContainsFunc_Form, h, e1]
theorem may_call (ts us : List (Int × Int)) (off off' : Int) (hl : ts.length ≤ 9223372036854775807) (hl' : us.length ≤ 9223372036854775807) :
    call T F.affine_may [.one (.f (.sl [[.sl (rows ts), .lit (.int .u64 off)], [.sl (rows us), .lit (.int .u64 off')]]))] [] =
      some (vB (mayFrom 0 ts && mayFrom 0 us), []) := by
  rw [call_eq (fn := a_affine_may) rfl]
  have h := ContainsForm_call ts us off off' hl hl'
  simp -implicitDefEqProofs only [go_sem, a_affine_may, h, Bool.not_not]
abbrev nF : V := fF [] 0
theorem Plus_call (ts us : List (Int × Int)) (off off' : Int) (hl : ts.length + us.length ≤ 4294967296) :
    call T F.affine_Plus [fF ts off, fF us off'] [] = some (if mayFrom 0 ts = true ∧ mayFrom 0 us = true then fF (mergeT pl ts us) (pl off off') else nF, []) := by
  rw [call_eq (fn := a_affine_Plus) rfl]
  have h := may_call ts us off off' (by omega) (by omega)
  have hb := both_call pl F.affine_Plus_1 [] (bx ts off) (bx us off') zz rfl (fun _ _ => rfl) (fun _ _ => rfl) (fun _ _ => rfl) (fun a b τ => Plus1_call a b _) ts us off off' hl
  simp -implicitDefEqProofs only [go_sem, bx, zz, fF] at hb
  cases h1 : mayFrom 0 ts with
  | false =>
    simp -implicitDefEqProofs only [h1, go_sem] at h
    simp -implicitDefEqProofs only [go_sem, a_affine_Plus, fF, h, false_and, rows_nil]
  | true =>
    cases h2 : mayFrom 0 us with
    | false =>
      simp -implicitDefEqProofs only [h1, h2, go_sem] at h
      simp -implicitDefEqProofs only [go_sem, a_affine_Plus, fF, h, and_false, rows_nil]
    | true =>
      simp -implicitDefEqProofs only [h1, h2, go_sem] at h
      simp -implicitDefEqProofs only [go_sem, a_affine_Plus, fF, h, hb]
theorem Minus_call (ts us : List (Int × Int)) (off off' : Int) (hl : ts.length + us.length ≤ 4294967296) :
    call T F.affine_Minus [fF ts off, fF us off'] [] = some (if mayFrom 0 ts = true ∧ mayFrom 0 us = true then fF (mergeT mi ts us) (mi off off') else nF, []) := by
  rw [call_eq (fn := a_affine_Minus) rfl]
  have h := may_call ts us off off' (by omega) (by omega)
  have hb := both_call mi F.affine_Minus_1 [] (bx ts off) (bx us off') zz rfl (fun _ _ => rfl) (fun _ _ => rfl) (fun _ _ => rfl) (fun a b τ => Minus1_call a b _) ts us off off' hl
  simp -implicitDefEqProofs only [go_sem, bx, zz, fF] at hb
  cases h1 : mayFrom 0 ts with
  | false =>
    simp -implicitDefEqProofs only [h1, go_sem] at h
    simp -implicitDefEqProofs only [go_sem, a_affine_Minus, fF, h, false_and, rows_nil]
  | true =>
    cases h2 : mayFrom 0 us with
    | false =>
      simp -implicitDefEqProofs only [h1, h2, go_sem] at h
      simp -implicitDefEqProofs only [go_sem, a_affine_Minus, fF, h, and_false, rows_nil]
    | true =>
      simp -implicitDefEqProofs only [h1, h2, go_sem] at h
      simp -implicitDefEqProofs only [go_sem, a_affine_Minus, fF, h, hb]
theorem Times_call (ts : List (Int × Int)) (off n : Int) (hl : ts.length ≤ 4294967296) :
    call T F.affine_Times [fF ts off, vU64 n] [] = some (if mayFrom 0 ts = true then fF (mergeT (ti n) ts []) (ti n off 0) else nF, []) := by
  rw [call_eq (fn := a_affine_Times) rfl]
  have h := May_call ts off (by omega)
  have hb := both_call (ti n) F.affine_Times_1 [.ptr 1 0 0 0] (bx ts off) (.cells 0 1 [[.f (.lit (.int .u64 n))]]) zz rfl (fun _ _ => rfl) (fun _ _ => rfl) (fun _ _ => rfl) (fun a b τ => Times1_call n _ _ a b _) ts [] off 0 (by simpa using hl)
  simp -implicitDefEqProofs only [go_sem, fF] at h
  simp -implicitDefEqProofs only [go_sem, bx, zz, fF, rows_nil] at hb
  cases h1 : mayFrom 0 ts with
  | false =>
    simp -implicitDefEqProofs only [h1, go_sem] at h
    simp -implicitDefEqProofs only [go_sem, a_affine_Times, fF, h, rows_nil]
  | true =>
    simp -implicitDefEqProofs only [h1, go_sem] at h
    simp -implicitDefEqProofs only [go_sem, a_affine_Times, fF, h, hb]
end AC

namespace AC
open Go Go.A Go.A.Lex
theorem Equal_loop (ts us : List (Int × Int)) (hn : ts.length = us.length) (hl : ts.length ≤ 9223372036854775807) : ∀ (d k : Nat) (b2 b3 b4 b7 b8 : V), ts.length - k = d → k ≤ ts.length →
    (ts.drop k = us.drop k → exec T slices_Equal_Term_l0 ⟨[vL (rows ts), vL (rows us), b2, b3, b4, vI ts.length, vI k, b7, b8], [], 0, 0⟩ = some (.exit 0, ⟨[vU, vU, vU, vU, vU, vU, vU, vU, vU], [], 0, 0⟩)) ∧
    (ts.drop k ≠ us.drop k → exec T slices_Equal_Term_l0 ⟨[vL (rows ts), vL (rows us), b2, b3, b4, vI ts.length, vI k, b7, b8], [], 0, 0⟩ = some (.ret, ⟨[vU, vU, vB false, vU, vU, vU, vU, vU, vU], [], 0, 0⟩)) := by
  intro d
  induction d with
  | zero =>
    intro k b2 b3 b4 b7 b8 h1 h2
    have hk : k = ts.length := by omega
    subst hk
    have e : us.drop ts.length = [] := by simp [hn]
    have e' : ts.drop ts.length = [] := by simp
    refine ⟨fun _ => ?_, fun h => absurd (e'.trans e.symm) h⟩
    rw [slices_Equal_Term_l0_eq, slices_Equal_Term_b0]
    simp -implicitDefEqProofs only [go_sem, Int.lt_irrefl]
  | succ d ih =>
    intro k b2 b3 b4 b7 b8 h1 h2
    have hk : k < ts.length := by omega
    have hk2 : k < us.length := by omega
    have hd : ts.drop k = ts[k] :: ts.drop (k + 1) := List.drop_eq_getElem_cons hk
    have hd2 : us.drop k = us[k] :: us.drop (k + 1) := List.drop_eq_getElem_cons hk2
    have hk' : (k : Int) < (ts.length : Int) := by omega
    rw [slices_Equal_Term_l0_eq, slices_Equal_Term_b0, hd, hd2]
    obtain ⟨h1, h2⟩ := ih (k + 1) (vB false) vU vU vU vU (by omega) (by omega)
    have hp : (ts[k] = us[k]) ↔ (ts[k].1 = us[k].1 ∧ ts[k].2 = us[k].2) := Prod.ext_iff
    by_cases c1 : ts[k].1 = us[k].1
    · by_cases c2 : ts[k].2 = us[k].2
      · simp -implicitDefEqProofs only [go_sem, hk', getw hk, getw hk2, row, wrap_suc hk hl, List.cons.injEq, hp, ne_eq, c1, c2, and_self, true_and]
        exact ih (k + 1) _ _ _ _ _ (by omega) (by omega)
      · simp -implicitDefEqProofs only [go_sem, hk', getw hk, getw hk2, row, wrap_suc hk hl, List.cons.injEq, hp, ne_eq, c1, c2, and_false, false_and, not_false_eq_true, true_implies, false_implies]
    · simp -implicitDefEqProofs only [go_sem, hk', getw hk, getw hk2, row, wrap_suc hk hl, List.cons.injEq, hp, ne_eq, c1, false_and, not_false_eq_true, true_implies, false_implies]
theorem Equal_call (ts us : List (Int × Int)) (hl : ts.length ≤ 9223372036854775807) : call T F.slices_Equal_Term [vL (rows ts), vL (rows us)] [] = some (vB (decide (ts = us)), []) := by
  rw [call_eq (fn := a_slices_Equal_Term) rfl]
  by_cases hn : ts.length = us.length
  · have h := Equal_loop ts us hn hl ts.length 0
    have hz : (us.length : Int) = ts.length := by omega
    by_cases he : ts = us
    · subst he
      have h1 := fun b2 b3 b4 b7 b8 => (h b2 b3 b4 b7 b8 (by omega) (by omega)).1 rfl
      simp -implicitDefEqProofs only [go_sem] at h1
      simp -implicitDefEqProofs only [go_sem, a_slices_Equal_Term, h1, rows_len]
    · have h1 := fun b2 b3 b4 b7 b8 => (h b2 b3 b4 b7 b8 (by omega) (by omega)).2 (by simpa using he)
      simp -implicitDefEqProofs only [go_sem] at h1
      simp -implicitDefEqProofs only [go_sem, a_slices_Equal_Term, h1, he, rows_len, hz]
  · have he : ¬ ts = us := fun h => hn (by rw [h])
    have hn' : ¬ (ts.length : Int) = (us.length : Int) := by omega
    simp -implicitDefEqProofs only [go_sem, a_slices_Equal_Term, hn', he, rows_len]
end AC

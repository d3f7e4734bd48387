import Derived.Test.YtafckkajjloleaaGreatLaw
import Derived.Test.YtafckkajjloleaaGreatData
import Derived.Test.YtafckkajjloleaaGreatCon
import Derived.Test.YtafckkajjloleaaGreatAwake
set_option linter.unusedVariables false
set_option linter.unusedSimpArgs false
namespace AC
open Go Go.A Go.A.Lex
/-! The document's sums: a number for each value, and one behind them. -/
def cU (x : Int) : C := .f (.lit (.int .u64 x))
theorem n1024 : ((1024 : Nat) : Int) = 1024 := rfl
theorem n1025 : ((1025 : Nat) : Int) = 1025 := rfl
attribute [go_sem] n1024 n1025
abbrev obW (W : List Int) : Ob := .cells 0 1025 [W.map cU]
def setT : List (Int × Int) → List Int → List Int
  | [], W => W
  | t :: r, W => setT r (W.set t.1.toNat t.2)
theorem setT_length : ∀ (l : List (Int × Int)) (W : List Int), (setT l W).length = W.length
  | [], _ => rfl
  | t :: r, W => by rw [setT, setT_length r]; simp
def W0 (off : Int) : List Int := (List.replicate 1025 (0 : Int)).set 1024 off
theorem W0_length (off : Int) : (W0 off).length = 1025 := by rw [W0, List.length_set, List.length_replicate]
theorem cellU {W : List Int} {j : Nat} (h : j < W.length) : (W.map cU)[j]? = some (.f (.lit (.int .u64 (W.getD j 0)))) := by simp [h, cU]
theorem setU {W : List Int} {j : Nat} (x : Int) (h : j < W.length) : (W.map cU).take j ++ C.f (.lit (.int .u64 x)) :: (W.map cU).drop (j + 1) = (W.set j x).map cU := by
  rw [put_set _ (by simpa using h), List.map_set]
  rfl
theorem mayFrom_in {last : Int} : ∀ {ts : List (Int × Int)}, mayFrom last ts = true → 0 ≤ last → ∀ t ∈ ts, 0 < t.1 ∧ t.1 ≤ 1023
  | [], _, _, t, h => by simp at h
  | u :: r, h, h0, t, ht => by
    rw [may_cons] at h
    rcases List.mem_cons.1 ht with rfl | ht
    · omega
    · exact mayFrom_in (last := u.1) h.2.2.2 (by omega) t ht
theorem Of_l0 (ts : List (Int × Int)) (off : Int) (hl : ts.length ≤ 4294967296) (hm : ∀ t ∈ ts, 0 < t.1 ∧ t.1 ≤ 1023) : ∀ (d k : Nat) (W : List Int) (a0 a2 a5 : V), W.length = 1025 → ts.length - k = d → k ≤ ts.length →
    exec T lockstepref17_Of_l0 ⟨[a0, .one (.ptr 0 0 0 0), a2, .one (.ptr 1 0 0 0), vI k, a5], [bx ts off, obW W], 0, 2⟩ =
      some (.exit 0, ⟨[vU, vU, vU, .one (.ptr 1 0 0 0), vU, vU], [bx ts off, obW (setT (ts.drop k) W)], 0, 2⟩) := by
  intro d
  induction d with
  | zero =>
    intro k W a0 a2 a5 hW h1 h2
    have hk : k = ts.length := by omega
    subst hk
    rw [lockstepref17_Of_l0_eq, lockstepref17_Of_b0]
    simp -implicitDefEqProofs only [go_sem, bx, rows_len, Int.lt_irrefl, List.drop_length, setT]
  | succ d ih =>
    intro k W a0 a2 a5 hW h1 h2
    have hk : k < ts.length := by omega
    have hd : ts.drop k = ts[k] :: ts.drop (k + 1) := List.drop_eq_getElem_cons hk
    obtain ⟨p1, p2⟩ := hm _ (List.getElem_mem hk)
    have p0 : 0 ≤ ts[k].1 := by omega
    have p3 : ts[k].1 < 1024 := by omega
    have hs := setU (W := W) (j := ts[k].1.toNat) ts[k].2 (by omega)
    have hle := lt_leT (show ts[k].1.toNat < W.length by omega)
    have := ih (k + 1) (W.set ts[k].1.toNat ts[k].2) vU vU vU (by simpa using hW) (by omega) (by omega)
    rw [lockstepref17_Of_l0_eq, lockstepref17_Of_b0, hd, setT]
    simp -implicitDefEqProofs only [go_sem, obW, bx] at this
    simp -implicitDefEqProofs only [go_sem, bx, obW, rows_len, ilt hk, getw hk, row, Int.natCast_nonneg, Int.toNat_natCast, p0, p3, Nat.mul_one, hs, hle, wrap_succ hk hl, this]
def wideOf (ts : List (Int × Int)) (off : Int) : List Int := setT ts (W0 off)
theorem wideOf_length (ts : List (Int × Int)) (off : Int) : (wideOf ts off).length = 1025 := by rw [wideOf, setT_length, W0_length]
theorem flat_one {α : Type} (c : α) : ∀ n : Nat, (List.replicate n [c]).flatten = List.replicate n c
  | 0 => rfl
  | n + 1 => by rw [List.replicate_succ, List.flatten_cons, flat_one c n, List.replicate_succ]; rfl
def ofReg : Go.A.Code := a_lockstepref17_Of.body.p2.p1
def ofRest : Go.A.Code := a_lockstepref17_Of.body.p2.p2
def ofHead : Go.A.Code := a_lockstepref17_Of.body.p1
theorem of_body : a_lockstepref17_Of.body = .seq ofHead (.seq ofReg ofRest) := rfl
theorem ofReg_eq : ofReg = .reg [q (.fa 1 (.s 1)), q (.ld none (.l 0)), q (.bld ((List.replicate 1025 [C.f (.lit (.int .u64 0))]).flatten) [(1024, 1, (.l 0))] []), q (.box 1025 (.l 0)), w 3 (.mv (.l 0))] := rfl
theorem ofHead_eq : ofHead = .reg [w 1 (.box 2 (.s 0)), w 2 (.mv (.c (.one (.f (.lit (.pointer none))))))] := rfl
theorem ofRest_eq : ofRest = .seq (.seq (.reg [w 4 (.mv (i 0))]) (.block 0 lockstepref17_Of_l0)) (.seq (.reg [q (.mv (.s 3)), w 2 (.mv (.l 0))]) (.ret [false, false, true, false, false, false])) := rfl
theorem kns_cU : ∀ W : List Int, C.kns (W.map cU) = true
  | [] => rfl
  | x :: r => by simp only [List.map_cons, cU, C.kns]; exact kns_cU r
theorem Of_reg (Z : List C) (W : List Int) (hZ : Z = W.map cU) (hW : W.length = 1025) (ts : List (Int × Int)) (off : Int) (a0 a2 a3 a4 a5 : V) :
    exec T (.reg [q (.fa 1 (.s 1)), q (.ld none (.l 0)), q (.bld Z [(1024, 1, (.l 0))] []), q (.box 1025 (.l 0)), w 3 (.mv (.l 0))]) ⟨[a0, .one (.ptr 0 0 0 0), a2, a3, a4, a5], [bx ts off], 0, 2⟩ =
      some (.normal, ⟨[a0, .one (.ptr 0 0 0 0), a2, .one (.ptr 1 0 0 0), a4, a5], [bx ts off, obW (W.set 1024 off)], 0, 2⟩) := by
  subst hZ
  have hs := setU (W := W) (j := 1024) off (by omega)
  have hl2 : (W.set 1024 off).length = 1025 := by rw [List.length_set, hW]
  simp -implicitDefEqProofs only [go_sem, bx, obW, hW, hs, hl2, kns_cU]
theorem rOf_call (ts : List (Int × Int)) (off : Int) (hl : ts.length ≤ 4294967296) (hm : mayFrom 0 ts = true) : call T F.lockstepref17_Of [fF ts off] [] = some (.one (.ptr 1 0 0 0), [bx ts off, obW (wideOf ts off)]) := by
  rw [call_eq (fn := a_lockstepref17_Of) rfl, if_pos (show [fF ts off].length = a_lockstepref17_Of.np from rfl), of_body]
  have h := fun a0 a2 a5 => Of_l0 ts off hl (mayFrom_in hm (by omega)) ts.length 0 (W0 off) a0 a2 a5 (W0_length off) (by omega) (by omega)
  simp only [List.drop_zero, Int.natCast_zero] at h
  have e0 : exec T ofHead (enter a_lockstepref17_Of [fF ts off] []) = some (.normal, ⟨[fF ts off, .one (.ptr 0 0 0 0), .one (.f (.lit (.pointer none))), vU, vU, vU], [bx ts off], 0, 2⟩) := by
    rw [ofHead_eq, show enter a_lockstepref17_Of [fF ts off] [] = ⟨[fF ts off, vU, vU, vU, vU, vU], [], 0, 2⟩ from rfl]
    simp -implicitDefEqProofs only [go_sem, fF, bx]
  have e1 := Of_reg ((List.replicate 1025 [C.f (.lit (.int .u64 0))]).flatten) (List.replicate 1025 0) (by rw [flat_one, List.map_replicate]; rfl) (by rw [List.length_replicate]) ts off (fF ts off) (.one (.f (.lit (.pointer none)))) vU vU vU
  rw [← ofReg_eq] at e1
  rw [exec_seq, e0]
  simp only [Option.bind_some, seqK]
  rw [exec_seq, e1]
  simp only [Option.bind_some, seqK]
  have e2 : exec T ofRest ⟨[fF ts off, .one (.ptr 0 0 0 0), .one (.f (.lit (.pointer none))), .one (.ptr 1 0 0 0), vU, vU], [bx ts off, obW (W0 off)], 0, 2⟩ = some (.ret, ⟨[vU, vU, .one (.ptr 1 0 0 0), vU, vU, vU], [bx ts off, obW (wideOf ts off)], 0, 2⟩) := by
    simp -implicitDefEqProofs only [go_sem, bx, obW] at h
    rw [ofRest_eq]
    simp -implicitDefEqProofs only [go_sem, h, bx, obW, wideOf]
  rw [show (List.replicate 1025 (0 : Int)).set 1024 off = W0 off from rfl, e2]
  simp -implicitDefEqProofs only [go_sem, bx, obW, show a_lockstepref17_Of.raw = false from rfl, show a_lockstepref17_Of.results = [(2, none)] from rfl]
end AC

namespace AC
open Go Go.A Go.A.Lex
def comb (n m a b : Int) : Int := u64w (u64w (a * n) + u64w (b * m))
def mixFrom (n m : Int) (B : List Int) : Nat → Nat → List Int → List Int
  | 0, _, W => W
  | d + 1, k, W => mixFrom n m B d (k + 1) (W.set k (comb n m (W.getD k 0) (B.getD k 0)))
theorem mixFrom_length (n m : Int) (B : List Int) : ∀ (d k : Nat) (W : List Int), (mixFrom n m B d k W).length = W.length
  | 0, _, _ => rfl
  | d + 1, k, W => by rw [mixFrom, mixFrom_length n m B d]; simp
theorem mixFrom_get (n m : Int) (B : List Int) : ∀ (d k : Nat) (W : List Int) (v : Nat), v < W.length → (mixFrom n m B d k W).getD v 0 = if k ≤ v ∧ v < k + d then comb n m (W.getD v 0) (B.getD v 0) else W.getD v 0
  | 0, k, W, v, _ => by rw [mixFrom, if_neg (by omega)]
  | d + 1, k, W, v, hv => by
    rw [mixFrom, mixFrom_get n m B d (k + 1) _ v (by simpa using hv)]
    by_cases e : k = v
    · subst e
      rw [if_neg (by omega), if_pos (by omega)]
      simp [hv]
    · have h1 : (W.set k (comb n m (W.getD k 0) (B.getD k 0))).getD v 0 = W.getD v 0 := by
        simp [List.getElem?_set_ne e]
      rw [h1]
      by_cases c : k ≤ v ∧ v < k + (d + 1)
      · rw [if_pos c, if_pos (by omega)]
      · rw [if_neg c, if_neg (by omega)]
abbrev zz2 : Ob := .cells 0 2 [[.f (.sl []), .f (.lit (.int .u64 0))]]
theorem Mix_l0 (n m : Int) (o0 o1 o3 o5 : Ob) (h0 : ∀ k, o0.lt (k + 7) = true) (B : List Int) (hB : B.length = 1025) : ∀ (d k : Nat) (W : List Int) (a0 a2 a4 a5 a10 : V), W.length = 1025 → d + k = 1024 →
    exec T lockstepref17_Mix_l0 ⟨[a0, vU64 n, a2, vU64 m, a4, a5, .one (.ptr 2 0 0 0), .one (.ptr 4 0 0 0), .one (.ptr 6 0 0 0), vI k, a10], [o0, o1, zz2, o3, obW W, o5, obW B], 0, 0⟩ =
      some (.exit 0, ⟨[vU, vU64 n, vU, vU64 m, vU, vU, .one (.ptr 2 0 0 0), .one (.ptr 4 0 0 0), .one (.ptr 6 0 0 0), vU, vU], [o0, o1, zz2, o3, obW (mixFrom n m B d k W), o5, obW B], 0, 0⟩) := by
  intro d
  induction d with
  | zero =>
    intro k W a0 a2 a4 a5 a10 hW h1
    have hk : k = 1024 := by omega
    subst hk
    rw [lockstepref17_Mix_l0_eq, lockstepref17_Mix_b0]
    simp -implicitDefEqProofs only [go_sem, Int.lt_irrefl, mixFrom]
  | succ d ih =>
    intro k W a0 a2 a4 a5 a10 hW h1
    have hk : ((k : Int) < 1024) = True := by simp; omega
    have g1 := cellU (W := W) (j := k) (by omega)
    have g2 := cellU (W := B) (j := k) (by omega)
    have hs := setU (W := W) (j := k) (comb n m (W.getD k 0) (B.getD k 0)) (by omega)
    have hle := lt_leT (show k < W.length by omega)
    have hw : Go.IntKind.i64.wrap ((k : Int) + 1) = ((k + 1 : Nat) : Int) := by rw [wrap_i64] <;> omega
    have := ih (k + 1) (W.set k (comb n m (W.getD k 0) (B.getD k 0))) vU vU vU vU vU (by simpa using hW) (by omega)
    rw [lockstepref17_Mix_l0_eq, lockstepref17_Mix_b0, mixFrom]
    unfold comb at hs this ⊢
    simp -implicitDefEqProofs only [go_sem, obW, u64w] at this hs
    simp -implicitDefEqProofs only [go_sem, obW, u64w, hk, g1, g2, Int.natCast_nonneg, Int.toNat_natCast, Nat.mul_one, hs, hle, hw, this]
/-- The terms of a sum. -/
def formFrom (W : List Int) : Nat → Nat → List (Int × Int)
  | 0, _ => []
  | d + 1, k => if W.getD k 0 = 0 then formFrom W d (k + 1) else ((k : Int), W.getD k 0) :: formFrom W d (k + 1)
theorem formFrom_le (W : List Int) : ∀ (d k : Nat), (formFrom W d k).length ≤ d
  | 0, _ => by simp [formFrom]
  | d + 1, k => by
    have := formFrom_le W d (k + 1)
    rw [formFrom]
    split
    · omega
    · simp only [List.length_cons]; omega
theorem Form_l0 (W : List Int) (hW : W.length = 1025) (σ : Store) (id : Nat) (hid : σ[id]? = some (obW W)) (hσ : Ok σ) (off : Int) : ∀ (d k : Nat) (acc : List (Int × Int)) (a4 a5 : V), acc.length ≤ k → d + k = 1024 →
    exec T lockstepref17_Wide_Form_l0 ⟨[.one (.ptr id 0 0 0), .one (.ptr σ.length 0 0 0), .one (.ptr (σ.length + 2) 0 0 0), vI k, a4, a5], σ ++ [zz2, .tok 2 [acc.length], .cells 0 2 [[.ap (σ.length + 1) 0 (rows acc), .f (.lit (.int .u64 off))]]], σ.length, σ.length⟩ =
      some (.exit 0, ⟨[vU, .one (.ptr σ.length 0 0 0), .one (.ptr (σ.length + 2) 0 0 0), vU, vU, vU], σ ++ [zz2, .tok 2 [(acc ++ formFrom W d k).length], .cells 0 2 [[.ap (σ.length + 1) 0 (rows (acc ++ formFrom W d k)), .f (.lit (.int .u64 off))]]], σ.length, σ.length⟩) := by
  intro d
  have hlow := get_low hid
  have hl2 := lt_low hid
  induction d with
  | zero =>
    intro k acc a4 a5 ha h1
    have hk : k = 1024 := by omega
    subst hk
    rw [lockstepref17_Wide_Form_l0_eq, lockstepref17_Wide_Form_b0]
    simp -implicitDefEqProofs only [go_sem, Int.lt_irrefl, formFrom]
  | succ d ih =>
    intro k acc a4 a5 ha h1
    have hk : ((k : Int) < 1024) = True := by simp; omega
    have g1 := cellU (W := W) (j := k) (by omega)
    have hw : Go.IntKind.i64.wrap ((k : Int) + 1) = ((k + 1 : Nat) : Int) := by rw [wrap_i64] <;> omega
    rw [lockstepref17_Wide_Form_l0_eq, lockstepref17_Wide_Form_b0, formFrom]
    by_cases c : W.getD k 0 = 0
    · have := ih (k + 1) acc vU vU (by omega) (by omega)
      simp -implicitDefEqProofs only [go_sem, obW] at this hlow
      simp -implicitDefEqProofs only [go_sem, obW, hk, hlow, g1, c, Int.natCast_nonneg, Int.toNat_natCast, Nat.mul_one, hw, Ok.up hσ, hl2, this]
    · have e : acc ++ ((k : Int), W.getD k 0) :: formFrom W d (k + 1) = (acc ++ [((k : Int), W.getD k 0)]) ++ formFrom W d (k + 1) := by simp
      have hlim : acc.length + 1 ≤ LIM := by unfold LIM; omega
      have := ih (k + 1) (acc ++ [((k : Int), W.getD k 0)]) vU vU (by simp; omega) (by omega)
      rw [← e] at this
      rw [← rows_app1] at this
      simp -implicitDefEqProofs only [go_sem, obW] at this hlow
      simp -implicitDefEqProofs only [go_sem, obW, hk, hlow, g1, c, Int.natCast_nonneg, Int.toNat_natCast, Nat.mul_one, rows_len, hlim, hw, Ok.up hσ, hl2, this]
end AC

namespace AC
open Go Go.A Go.A.Lex
theorem Form_call (W : List Int) (hW : W.length = 1025) (σ : Store) (id : Nat) (hid : σ[id]? = some (obW W)) (hσ : Ok σ) : call T F.lockstepref17_Wide_Form [.one (.ptr id 0 0 0)] σ = some (fF (formFrom W 1024 0) (W.getD 1024 0), σ) := by
  rw [call_eq (fn := a_lockstepref17_Wide_Form) rfl]
  have hlow := get_low hid
  have g1 := cellU (W := W) (j := 1024) (by omega)
  have h := fun a4 a5 => Form_l0 W hW σ id hid hσ (W.getD 1024 0) 1024 0 [] a4 a5 (by simp) (by omega)
  simp only [List.nil_append, Int.natCast_zero, rows_nil] at h
  simp -implicitDefEqProofs only [go_sem, obW] at h hlow
  simp -implicitDefEqProofs only [go_sem, a_lockstepref17_Wide_Form, obW, hlow, g1, h, fF, Ok.at hσ]
def mixT (ts us : List (Int × Int)) (n m : Int) : List (Int × Int) := formFrom (mixFrom n m (wideOf us 0) 1024 0 (wideOf ts 0)) 1024 0
theorem setT_get : ∀ (ts : List (Int × Int)) (W : List Int) (last : Int), mayFrom last ts = true → 0 ≤ last → ∀ v : Nat, (v : Nat) < W.length → (setT ts W).getD v 0 = if (last < v ∧ cf ts v ≠ 0) then cf ts v else W.getD v 0
  | [], W, _, _, _, v, _ => by simp [setT, cf]
  | t :: r, W, last, hm, h0, v, hv => by
    rw [may_cons] at hm
    obtain ⟨m1, m2, m3, m4⟩ := hm
    rw [setT, setT_get r _ t.1 m4 (by omega) v (by simpa using hv)]
    by_cases e : t.1 = v
    · have hc : cf (t :: r) (v : Int) = t.2 := by simp only [cf]; rw [if_pos e]
      have hz : cf r v = 0 := cf_lt r m4 (by omega)
      simp only [hc, hz, ne_eq, not_true_eq_false, and_false, if_false]
      rw [if_pos ⟨by omega, m3⟩]
      have : t.1.toNat = v := by omega
      rw [this]
      simp [hv]
    · have hc : cf (t :: r) (v : Int) = cf r v := by simp only [cf]; rw [if_neg e]
      simp only [hc]
      have hne : t.1.toNat ≠ v := by omega
      have h1 : (W.set t.1.toNat t.2).getD v 0 = W.getD v 0 := by simp [List.getElem?_set_ne hne]
      rw [h1]
      by_cases c : cf r v = 0
      · simp only [c, ne_eq, not_true_eq_false, and_false, if_false]
      · have hlt : t.1 < v := by
          by_cases h : (v : Int) ≤ t.1
          · exact absurd (cf_lt r m4 h) c
          · omega
        rw [if_pos ⟨hlt, c⟩, if_pos ⟨by omega, c⟩]
theorem cf_in {ts : List (Int × Int)} (hm : mayFrom 0 ts = true) {v : Int} (h : cf ts v ≠ 0) : 0 < v := by
  by_cases c : v ≤ 0
  · exact absurd (cf_lt ts hm c) h
  · omega
theorem wide_get (ts : List (Int × Int)) (off : Int) (hm : mayFrom 0 ts = true) (v : Nat) (hv : v < 1024) : (wideOf ts off).getD v 0 = cf ts v := by
  have hz : (W0 off).getD v 0 = 0 := by
    rw [W0, List.getD_eq_getElem?_getD, List.getElem?_set_ne (by omega), List.getElem?_replicate, if_pos (by omega)]
    rfl
  rw [wideOf, setT_get ts _ 0 hm (Int.le_refl 0) v (by rw [W0_length]; omega), hz]
  by_cases c : cf ts v = 0
  · rw [if_neg (by simp [c]), c]
  · rw [if_pos ⟨cf_in hm c, c⟩]
theorem cf_1024 {ts : List (Int × Int)} : ∀ {last : Int}, mayFrom last ts = true → ∀ {v : Int}, 1023 < v → cf ts v = 0 := by
  induction ts with
  | nil => intro _ _ v _; rfl
  | cons t r ih =>
    intro last hm v hv
    rw [may_cons] at hm
    simp only [cf]
    rw [if_neg (by omega)]
    exact ih hm.2.2.2 hv
theorem wide_off (ts : List (Int × Int)) (off : Int) (hm : mayFrom 0 ts = true) : (wideOf ts off).getD 1024 0 = off := by
  rw [wideOf, setT_get ts _ 0 hm (Int.le_refl 0) 1024 (by rw [W0_length]; omega), if_neg (by rw [cf_1024 hm (by decide)]; simp)]
  rw [W0, List.getD_eq_getElem?_getD, List.getElem?_set_self (by rw [List.length_replicate]; omega)]
  rfl
theorem mayFrom_form (W : List Int) : ∀ (d k : Nat) (last : Int), d + k ≤ 1024 → last < (k : Int) → mayFrom last (formFrom W d k) = true
  | 0, _, _, _, _ => rfl
  | d + 1, k, last, h1, h2 => by
    rw [formFrom]
    split
    · exact mayFrom_form W d (k + 1) last (by omega) (by omega)
    · rename_i hc
      rw [may_cons]
      exact ⟨h2, by simp only; omega, hc, mayFrom_form W d (k + 1) _ (by omega) (by simp only; omega)⟩
theorem cf_form (W : List Int) : ∀ (d k : Nat) (v : Nat), cf (formFrom W d k) v = if k ≤ v ∧ v < k + d then W.getD v 0 else 0
  | 0, k, v => by rw [formFrom, if_neg (by omega)]; rfl
  | d + 1, k, v => by
    rw [formFrom]
    split
    · rename_i hc
      rw [cf_form W d (k + 1) v]
      by_cases e : k = v
      · subst e
        rw [if_neg (by omega), if_pos (by omega), hc]
      · by_cases c : k + 1 ≤ v ∧ v < k + 1 + d
        · rw [if_pos c, if_pos (by omega)]
        · rw [if_neg c, if_neg (by omega)]
    · simp only [cf]
      by_cases e : k = v
      · subst e
        rw [if_pos rfl, if_pos (by omega)]
      · rw [if_neg (by omega), cf_form W d (k + 1) v]
        by_cases c : k + 1 ≤ v ∧ v < k + 1 + d
        · rw [if_pos c, if_pos (by omega)]
        · rw [if_neg c, if_neg (by omega)]
end AC

namespace AC
open Go Go.A Go.A.Lex
theorem getD_set_selfW {α : Type} {l : List α} {i : Nat} (v d : α) (h : i < l.length) : (l.set i v).getD i d = v := by simp [h]
def mixW (ts us : List (Int × Int)) (off off' n m : Int) : List Int := mixFrom n m (wideOf us off') 1024 0 (wideOf ts off)
theorem mixW_length (ts us : List (Int × Int)) (off off' n m : Int) : (mixW ts us off off' n m).length = 1025 := by rw [mixW, mixFrom_length, wideOf_length]
theorem ok_mix (ts us : List (Int × Int)) (off off' : Int) (W B : List Int) : Ok [bx ts off, bx us off', zz2, bx ts off, obW W, bx us off', obW B] := by
  have h : ∀ (n : Nat) (W : List Int), C.lts n (W.map cU) = true := fun n W => by
    induction W with
    | nil => simp only [List.map_nil, C.lts]
    | cons x r ih => simp only [List.map_cons, C.lts, cU, C.lt, ih, Bool.and_self]
  unfold Ok
  simp -implicitDefEqProofs only [go_sem, bx, obW, h]
theorem shifts_cU (n : Nat) : ∀ W : List Int, C.shifts n (W.map cU) = W.map cU
  | [] => by simp only [List.map_nil, C.shifts]
  | x :: r => by simp only [List.map_cons, C.shifts, cU, C.shift, shifts_cU n r]
theorem Mix_call (ts us : List (Int × Int)) (off off' n m : Int) (hl : ts.length ≤ 4294967296) (hl' : us.length ≤ 4294967296) (h1 : mayFrom 0 ts = true) (h2 : mayFrom 0 us = true) :
    call T F.lockstepref17_Mix [fF ts off, vU64 n, fF us off', vU64 m] [] = some (fF (formFrom (mixW ts us off off' n m) 1024 0) (comb n m off off'), []) := by
  rw [call_eq (fn := a_lockstepref17_Mix) rfl]
  have q1 := rOf_call ts off hl h1
  have q2 := rOf_call us off' hl' h2
  have hx := fun a0 a2 a4 a5 a10 => Mix_l0 n m (bx ts off) (bx us off') (bx ts off) (bx us off') (fun k => rfl) (wideOf us off') (wideOf_length _ _) 1024 0 (wideOf ts off) a0 a2 a4 a5 a10 (wideOf_length _ _) (by omega)
  simp only [Int.natCast_zero] at hx
  have g1 := cellU (W := mixW ts us off off' n m) (j := 1024) (by rw [mixW_length]; omega)
  have g2 := cellU (W := wideOf us off') (j := 1024) (by rw [wideOf_length]; omega)
  have e1 : (mixW ts us off off' n m).getD 1024 0 = off := by
    rw [mixW, mixFrom_get _ _ _ _ _ _ _ (by rw [wideOf_length]; omega), if_neg (by omega), wide_off ts off h1]
  rw [e1] at g1
  rw [wide_off us off' h2] at g2
  have hs := setU (W := mixW ts us off off' n m) (j := 1024) (comb n m off off') (by rw [mixW_length]; omega)
  have hle := lt_leT (show 1024 < (mixW ts us off off' n m).length by rw [mixW_length]; omega)
  have hF := Form_call ((mixW ts us off off' n m).set 1024 (comb n m off off')) (by rw [List.length_set, mixW_length]) [bx ts off, bx us off', zz2, bx ts off, obW ((mixW ts us off off' n m).set 1024 (comb n m off off')), bx us off', obW (wideOf us off')] 4 (by simp only [List.getElem?_cons_succ, List.getElem?_cons_zero]) (ok_mix _ _ _ _ _ _)
  have e2 : ((mixW ts us off off' n m).set 1024 (comb n m off off')).getD 1024 0 = comb n m off off' := getD_set_selfW _ _ (by rw [mixW_length]; omega)
  have e3 : ∀ (d k : Nat), d + k ≤ 1024 → formFrom ((mixW ts us off off' n m).set 1024 (comb n m off off')) d k = formFrom (mixW ts us off off' n m) d k := by
    intro d
    induction d with
    | zero => intro k _; simp only [formFrom]
    | succ d ih =>
      intro k hk
      have : ((mixW ts us off off' n m).set 1024 (comb n m off off')).getD k 0 = (mixW ts us off off' n m).getD k 0 := by
        rw [List.getD_eq_getElem?_getD, List.getElem?_set_ne (by omega), ← List.getD_eq_getElem?_getD]
      rw [formFrom, formFrom, this, ih (k + 1) (by omega)]
  rw [e2, e3 1024 0 (by omega)] at hF
  unfold comb at hs hF ⊢
  have em : mixFrom n m (wideOf us off') 1024 0 (wideOf ts off) = mixW ts us off off' n m := rfl
  rw [em] at hx
  simp -implicitDefEqProofs only [go_sem, obW, bx, fF, u64w, shifts_cU] at q1 q2 hx hs hF
  simp -implicitDefEqProofs only [go_sem, a_lockstepref17_Mix, obW, bx, fF, u64w, shifts_cU, q1, q2, hx, g1, g2, hs, hle, hF]
theorem mix_merge (op : Int → Int → Int) (n m : Int) (ts us : List (Int × Int)) (off off' : Int) (h1 : mayFrom 0 ts = true) (h2 : mayFrom 0 us = true) (hop : ∀ v, op (cf ts v) (cf us v) = comb n m (cf ts v) (cf us v)) (h0 : op 0 0 = 0) :
    formFrom (mixW ts us off off' n m) 1024 0 = mergeT op ts us := by
  refine cf_ext _ _ (a := 0) (b := 0) ?_ (may_merge op ts us 0 h1 h2) fun v => ?_
  · have := mayFrom_form (mixW ts us off off' n m) 1024 0 (-1) (by omega) (by omega)
    have hz : ∀ (l : List (Int × Int)), mayFrom (-1) l = true → cf l 0 = 0 → mayFrom 0 l = true := by
      intro l hl hc
      cases l with
      | nil => rfl
      | cons t r =>
        rw [may_cons] at hl ⊢
        refine ⟨?_, hl.2⟩
        by_cases e : t.1 = 0
        · simp only [cf] at hc
          rw [if_pos e] at hc
          exact absurd hc hl.2.2.1
        · omega
    refine hz _ this ?_
    have hc := cf_form (mixW ts us off off' n m) 1024 0 0
    rw [if_pos (by omega)] at hc
    have hg : (mixW ts us off off' n m).getD 0 0 = comb n m (cf ts 0) (cf us 0) := by
      rw [mixW, mixFrom_get _ _ _ _ _ _ _ (by rw [wideOf_length]; omega), if_pos (by omega), wide_get ts off h1 0 (by omega), wide_get us off' h2 0 (by omega)]
      rfl
    rw [hg] at hc
    have c1 : cf ts 0 = 0 := cf_lt ts h1 (Int.le_refl 0)
    have c2 : cf us 0 = 0 := cf_lt us h2 (Int.le_refl 0)
    have h := hop 0
    rw [c1, c2, h0] at h
    rw [c1, c2, ← h] at hc
    exact hc
  · rw [cf_merge op h0 v ts us 0 h1 h2, hop v]
    by_cases hv : 0 ≤ v ∧ v < 1024
    · obtain ⟨k, rfl⟩ : ∃ k : Nat, v = k := ⟨v.toNat, by omega⟩
      rw [cf_form, if_pos (by omega), mixW, mixFrom_get _ _ _ _ _ _ _ (by rw [wideOf_length]; omega), if_pos (by omega), wide_get ts off h1 k (by omega), wide_get us off' h2 k (by omega)]
    · have z1 : cf ts v = 0 ∧ cf us v = 0 := by
        by_cases c : v ≤ 0
        · exact ⟨cf_lt ts h1 c, cf_lt us h2 c⟩
        · exact ⟨cf_1024 h1 (by omega), cf_1024 h2 (by omega)⟩
      have h := hop v
      rw [z1.1, z1.2, h0] at h
      rw [z1.1, z1.2, ← h]
      have hm := mayFrom_form (mixW ts us off off' n m) 1024 0 (-1) (by omega) (by omega)
      by_cases c : v ≤ -1
      · exact cf_lt _ hm c
      · exact cf_1024 hm (by omega)
end AC

import Derived.Test.YtecjccggbbbaaaaGreatKB
set_option linter.unusedVariables false
set_option linter.unusedSimpArgs false
namespace AC
open Go Go.A Go.A.Lex
def goesS (k : Int) : Int := if k = 0 ∨ k = 3 then 0 else if k = 1 then 1 else if k = 2 then 2 else -1
@[go_sem] theorem graph_goes_call (k : Int) : call T F.graph_goes [vI k] [] = some (vI (goesS k), []) := by
  rw [call_eq (fn := a_graph_goes) rfl]
  by_cases c0 : k = 0
  · simp -implicitDefEqProofs only [go_sem, a_graph_goes, goesS, c0]
  by_cases c3 : k = 3
  · simp -implicitDefEqProofs only [go_sem, a_graph_goes, goesS, c0, c3]
  by_cases c1 : k = 1
  · simp -implicitDefEqProofs only [go_sem, a_graph_goes, goesS, c0, c3, c1]
  by_cases c2 : k = 2 <;> simp -implicitDefEqProofs only [go_sem, a_graph_goes, goesS, c0, c3, c1, c2]
def risingFrom (n : Int) : Int → List Int → Bool
  | _, [] => true
  | last, x :: r => if x ≤ last ∨ n ≤ x then false else risingFrom n x r
theorem rising_loop (l : List Int) (n : Int) (hl : l.length ≤ 4294967296) : ∀ (d k : Nat) (last : Int) (a0 a2 a4 a8 a9 : V), l.length - k = d → k ≤ l.length →
    exec T graph_rising_l0 ⟨[a0, vI n, a2, vI last, a4, vIs l, vI l.length, vI k, a8, a9], [], 0, 0⟩ =
      some (if risingFrom n last (l.drop k) = true then (.exit 0, ⟨[vU, vU, vU, vU, vU, vU, vU, vU, vU, vU], [], 0, 0⟩) else (.ret, ⟨[vU, vU, vB false, vU, vU, vU, vU, vU, vU, vU], [], 0, 0⟩)) := by
  intro d
  induction d with
  | zero =>
    intro k last a0 a2 a4 a8 a9 h1 h2
    have hk : k = l.length := by omega
    subst hk
    rw [graph_rising_l0_eq, graph_rising_b0]
    simp -implicitDefEqProofs only [go_sem, Int.lt_irrefl, List.drop_length, risingFrom]
  | succ d ih =>
    intro k last a0 a2 a4 a8 a9 h1 h2
    have hk : k < l.length := by omega
    have hd : l.drop k = l[k] :: l.drop (k + 1) := List.drop_eq_getElem_cons hk
    rw [graph_rising_l0_eq, graph_rising_b0, hd]
    by_cases c1 : l[k] ≤ last
    · simp -implicitDefEqProofs only [go_sem, ilt hk, getr hk, ri, c1, risingFrom]
    · by_cases c2 : n ≤ l[k]
      · simp -implicitDefEqProofs only [go_sem, ilt hk, getr hk, ri, c1, c2, risingFrom]
      · simp -implicitDefEqProofs only [go_sem, ilt hk, getr hk, ri, c1, c2, risingFrom, wrap_succ hk hl]
        exact ih (k + 1) l[k] _ _ _ _ _ (by omega) (by omega)
def rising (l : List Int) (n : Int) : Bool := risingFrom n (-1) l
@[go_sem] theorem graph_rising_call (l : List Int) (n : Int) (hl : l.length ≤ 4294967296) : call T F.graph_rising [vIs l, vI n] [] = some (vB (rising l n), []) := by
  rw [call_eq (fn := a_graph_rising) rfl]
  have h := fun a0 a2 a4 a8 a9 => rising_loop l n hl l.length 0 (-1) a0 a2 a4 a8 a9 (by omega) (by omega)
  simp only [List.drop_zero, Int.natCast_zero] at h
  cases ha : risingFrom n (-1) l <;> simp -implicitDefEqProofs only [go_sem, ha] at h <;> simp -implicitDefEqProofs only [go_sem, a_graph_rising, rising, h, ha]
theorem Equal_int_loop (l m : List Int) (hn : l.length = m.length) (hl : l.length ≤ 4294967296) (σ : Store) : ∀ (d k : Nat) (a2 a3 a4 a7 a8 : V), l.length - k = d → k ≤ l.length →
    exec T slices_Equal_int_l0 ⟨[vIs l, vIs m, a2, a3, a4, vI l.length, vI k, a7, a8], σ, σ.length, σ.length⟩ =
      some (if l.drop k = m.drop k then (.exit 0, ⟨[vU, vU, vU, vU, vU, vU, vU, vU, vU], σ, σ.length, σ.length⟩) else (.ret, ⟨[vU, vU, vB false, vU, vU, vU, vU, vU, vU], σ, σ.length, σ.length⟩)) := by
  intro d
  induction d with
  | zero =>
    intro k a2 a3 a4 a7 a8 h1 h2
    have hk : k = l.length := by omega
    subst hk
    have e : m.drop l.length = [] := by simp [hn]
    rw [slices_Equal_int_l0_eq, slices_Equal_int_b0, e]
    simp -implicitDefEqProofs only [go_sem, Int.lt_irrefl, List.drop_length]
  | succ d ih =>
    intro k a2 a3 a4 a7 a8 h1 h2
    have hk : k < l.length := by omega
    have hk2 : k < m.length := by omega
    have hd : l.drop k = l[k] :: l.drop (k + 1) := List.drop_eq_getElem_cons hk
    have hd2 : m.drop k = m[k] :: m.drop (k + 1) := List.drop_eq_getElem_cons hk2
    rw [slices_Equal_int_l0_eq, slices_Equal_int_b0, hd, hd2]
    by_cases c1 : l[k] = m[k]
    · simp -implicitDefEqProofs only [go_sem, ilt hk, getr hk, getr hk2, ri, c1, wrap_succ hk hl, List.cons.injEq]
      exact ih (k + 1) _ _ _ _ _ (by omega) (by omega)
    · simp -implicitDefEqProofs only [go_sem, ilt hk, getr hk, getr hk2, ri, c1, List.cons.injEq, false_and]
@[go_sem] theorem Equal_int_call (l m : List Int) (σ : Store) (hl : l.length ≤ 4294967296) : call T F.slices_Equal_int [vIs l, vIs m] σ = some (vB (decide (l = m)), σ) := by
  rw [call_eq (fn := a_slices_Equal_int) rfl]
  by_cases hn : l.length = m.length
  · have h := fun a2 a3 a4 a7 a8 => Equal_int_loop l m hn hl σ l.length 0 a2 a3 a4 a7 a8 (by omega) (by omega)
    have hz : ((l.length : Int) = (m.length : Int)) = True := by simp [hn]
    simp only [List.drop_zero, Int.natCast_zero] at h
    by_cases he : l = m
    · subst he
      simp -implicitDefEqProofs only [go_sem] at h
      simp -implicitDefEqProofs only [go_sem, a_slices_Equal_int, h]
    · simp -implicitDefEqProofs only [go_sem, he] at h
      simp -implicitDefEqProofs only [go_sem, a_slices_Equal_int, h, he, hz]
  · have he : ¬ l = m := fun h => hn (by rw [h])
    have hn' : ¬ (l.length : Int) = (m.length : Int) := by omega
    simp -implicitDefEqProofs only [go_sem, a_slices_Equal_int, hn', he]
theorem EqualFunc_loop (l m : List (List Int)) (hn : l.length = m.length) (hl : l.length ≤ 4294967296) (hls : ∀ x ∈ l, x.length ≤ 4294967296) (σ : Store) : ∀ (d k : Nat) (a0 a3 a4 a5 a6 a7 a11 a12 : V), l.length - k = d → k ≤ l.length →
    exec T slices_EqualFunc_sint_l0 ⟨[a0, vLs m, vFn F.slices_Equal_int [], a3, a4, a5, a6, a7, vLs l, vI l.length, vI k, a11, a12], σ, σ.length, σ.length⟩ =
      some (if l.drop k = m.drop k then (.exit 0, ⟨[vU, vU, vU, vU, vU, vU, vU, vU, vU, vU, vU, vU, vU], σ, σ.length, σ.length⟩) else (.ret, ⟨[vU, vU, vU, vB false, vU, vU, vU, vU, vU, vU, vU, vU, vU], σ, σ.length, σ.length⟩)) := by
  intro d
  induction d with
  | zero =>
    intro k a0 a3 a4 a5 a6 a7 a11 a12 h1 h2
    have hk : k = l.length := by omega
    subst hk
    have e : m.drop l.length = [] := by simp [hn]
    rw [slices_EqualFunc_sint_l0_eq, slices_EqualFunc_sint_b0, e]
    simp -implicitDefEqProofs only [go_sem, Int.lt_irrefl, List.drop_length]
  | succ d ih =>
    intro k a0 a3 a4 a5 a6 a7 a11 a12 h1 h2
    have hk : k < l.length := by omega
    have hk2 : k < m.length := by omega
    have hd : l.drop k = l[k] :: l.drop (k + 1) := List.drop_eq_getElem_cons hk
    have hd2 : m.drop k = m[k] :: m.drop (k + 1) := List.drop_eq_getElem_cons hk2
    have hc := Equal_int_call l[k] m[k] σ (hls _ (List.getElem_mem hk))
    rw [slices_EqualFunc_sint_l0_eq, slices_EqualFunc_sint_b0, hd, hd2]
    by_cases c1 : l[k] = m[k]
    · simp -implicitDefEqProofs only [go_sem, c1] at hc
      simp -implicitDefEqProofs only [go_sem, ilt hk, getr hk, getr hk2, rl, c1, hc, wrap_succ hk hl, List.cons.injEq]
      exact ih (k + 1) _ _ _ _ _ _ _ _ (by omega) (by omega)
    · simp -implicitDefEqProofs only [go_sem, c1] at hc
      simp -implicitDefEqProofs only [go_sem, ilt hk, getr hk, getr hk2, rl, c1, hc, List.cons.injEq, false_and]
@[go_sem] theorem EqualFunc_sint_call (l m : List (List Int)) (σ : Store) (hl : l.length ≤ 4294967296) (hls : ∀ x ∈ l, x.length ≤ 4294967296) : call T F.slices_EqualFunc_sint [vLs l, vLs m, vFn F.slices_Equal_int []] σ = some (vB (decide (l = m)), σ) := by
  rw [call_eq (fn := a_slices_EqualFunc_sint) rfl]
  by_cases hn : l.length = m.length
  · have h := fun a0 a3 a4 a5 a6 a7 a11 a12 => EqualFunc_loop l m hn hl hls σ l.length 0 a0 a3 a4 a5 a6 a7 a11 a12 (by omega) (by omega)
    have hz : ((l.length : Int) = (m.length : Int)) = True := by simp [hn]
    simp only [List.drop_zero, Int.natCast_zero] at h
    by_cases he : l = m
    · subst he
      simp -implicitDefEqProofs only [go_sem] at h
      simp -implicitDefEqProofs only [go_sem, a_slices_EqualFunc_sint, h]
    · simp -implicitDefEqProofs only [go_sem, he] at h
      simp -implicitDefEqProofs only [go_sem, a_slices_EqualFunc_sint, h, he, hz]
  · have he : ¬ l = m := fun h => hn (by rw [h])
    have hn' : ¬ (l.length : Int) = (m.length : Int) := by omega
    simp -implicitDefEqProofs only [go_sem, a_slices_EqualFunc_sint, hn', he]
end AC

namespace AC
open Go Go.A Go.A.Lex
def apR : Nat → List (List Int) → List (List C)
  | _, [] => []
  | q, l :: r => [.ap 0 q (l.map ri)] :: apR (q + 1) r
theorem apR_length : ∀ (out : List (List Int)) (q : Nat), (apR q out).length = out.length
  | [], _ => rfl
  | l :: r, q => by simp [apR, apR_length r (q + 1)]
theorem apR_get : ∀ (out : List (List Int)) (q k : Nat) (h : k < out.length), (apR q out)[k]? = some [.ap 0 (q + k) (out[k].map ri)]
  | [], _, _, h => by simp at h
  | l :: r, q, 0, _ => by simp [apR]
  | l :: r, q, k + 1, h => by
    simp only [apR, List.getElem?_cons_succ, List.getElem_cons_succ]
    rw [apR_get r (q + 1) k (by simpa using h), Nat.add_assoc, Nat.add_comm 1 k]
theorem apR_set : ∀ (out : List (List Int)) (q k : Nat) (l : List Int), (apR q out).set k [.ap 0 (q + k) (l.map ri)] = apR q (out.set k l)
  | [], _, _, _ => rfl
  | x :: r, q, 0, l => by simp [apR]
  | x :: r, q, k + 1, l => by
    simp only [apR, List.set_cons_succ]
    rw [← apR_set r (q + 1) k l, Nat.add_assoc, Nat.add_comm 1 k]
theorem apR_frz : ∀ (out : List (List Int)) (q : Nat), frzRows (apR q out) = some (out.map rl)
  | [], _ => rfl
  | x :: r, q => by simp [apR, frzRows, frzRow, frzC, ocons, apR_frz r (q + 1), rl]
theorem apR_nil (n : Nat) : (List.range n).map (nest 0 [.f (.sl [])] 0) = apR 0 (List.replicate n []) := by
  apply List.ext_getElem?
  intro k
  by_cases hk : k < n
  · rw [apR_get _ _ _ (by simpa using hk)]
    simp [hk, nest]
  · rw [List.getElem?_eq_none (by simp; omega), List.getElem?_eq_none (by rw [apR_length]; simp; omega)]
def addP (i : Int) (out : List (List Int)) (x : Int) : List (List Int) := out.set x.toNat (out.getD x.toNat [] ++ [i])
theorem addP_length (i : Int) (out : List (List Int)) (x : Int) : (addP i out x).length = out.length := by simp [addP]
theorem foldP_length (i : Int) : ∀ (l : List Int) (out : List (List Int)), (l.foldl (addP i) out).length = out.length
  | [], _ => rfl
  | x :: r, out => by rw [List.foldl_cons, foldP_length i r, addP_length]
theorem addP_le {i : Int} {out : List (List Int)} {x : Int} {B : Nat} (h : ∀ y ∈ out, y.length ≤ B) : ∀ y ∈ addP i out x, y.length ≤ B + 1 := by
  intro y hy
  rcases List.mem_or_eq_of_mem_set hy with h1 | h1
  · have := h y h1
    omega
  · subst h1
    simp only [List.length_append, List.length_cons, List.length_nil, List.getD_eq_getElem?_getD]
    cases e : out[x.toNat]? with
    | none => simp
    | some z =>
      have := h z (List.mem_of_getElem? e)
      simp
      omega
theorem foldP_le (i : Int) : ∀ (l : List Int) (out : List (List Int)) (B : Nat), (∀ y ∈ out, y.length ≤ B) → ∀ y ∈ l.foldl (addP i) out, y.length ≤ B + l.length
  | [], _, _, h => h
  | x :: r, out, B, h => fun y hy => by
    have := foldP_le i r (addP i out x) (B + 1) (addP_le h) y hy
    simp only [List.length_cons]
    omega
def predsFrom : Nat → List (List Int) → List (List Int) → List (List Int)
  | _, [], out => out
  | i, l :: r, out => predsFrom (i + 1) r (l.foldl (addP i) out)
def predsS (succ : List (List Int)) : List (List Int) := predsFrom 0 succ (List.replicate succ.length [])
abbrev pst (out : List (List Int)) : Store := [.tok 1 (out.map List.length), .cells 0 1 (apR 0 out)]
theorem preds_l0 (succ : List (List Int)) (i n : Nat) (l : List Int) (hl : l.length ≤ 4294967296) (hx : ∀ x ∈ l, 0 ≤ x ∧ x < n) : ∀ (d k : Nat) (out : List (List Int)) (B : Nat) (a0 a1 a4 a5 a9 a13 : V), l.length - k = d → k ≤ l.length → out.length = n →
    (∀ y ∈ out, y.length ≤ B) → B + d ≤ 4294967296 →
    exec T graph_preds_l0 ⟨[a0, a1, .one (.own 1 0 0 n), vI i, a4, a5, vLs succ, vI succ.length, vI i, a9, vIs l, vI l.length, vI k, a13], pst out, 0, 0⟩ =
      some (.exit 2, ⟨[vU, vU, .one (.own 1 0 0 n), vU, vU, vU, vLs succ, vI succ.length, vI i, vU, vU, vU, vU, vU], pst ((l.drop k).foldl (addP i) out), 0, 0⟩) := by
  intro d
  induction d with
  | zero =>
    intro k out B a0 a1 a4 a5 a9 a13 h1 h2 ho hb hB
    have hk : k = l.length := by omega
    subst hk
    rw [graph_preds_l0_eq, graph_preds_b0]
    simp -implicitDefEqProofs only [go_sem, Int.lt_irrefl, List.drop_length, List.foldl_nil]
  | succ d ih =>
    intro k out B a0 a1 a4 a5 a9 a13 h1 h2 ho hb hB
    have hk : k < l.length := by omega
    have hd : l.drop k = l[k] :: l.drop (k + 1) := List.drop_eq_getElem_cons hk
    obtain ⟨x0, x1⟩ := hx _ (List.getElem_mem hk)
    generalize hxe : l[k] = x at *
    obtain ⟨j, rfl⟩ : ∃ j : Nat, x = j := ⟨x.toNat, by omega⟩
    have hj : j < out.length := by omega
    have hjn : ((j : Int) < (n : Int)) = True := by simp; omega
    have hg := apR_get out 0 j hj
    have hs := fun m => apR_set out 0 j m
    simp only [Nat.zero_add] at hg hs
    have hf : (out.map List.length)[j]? = some out[j].length := by simp [hj]
    have hlim : out[j].length + 1 ≤ LIM := by
      have := hb _ (List.getElem_mem hj)
      unfold LIM
      omega
    have hadd : addP i out j = out.set j (out[j] ++ [(i : Int)]) := by simp [addP, hj]
    have hkr : (l.map ri)[k]? = some (ri (j : Int)) := by rw [getr hk, hxe]
    rw [graph_preds_l0_eq, graph_preds_b0, hd, List.foldl_cons]
    simp -implicitDefEqProofs only [go_sem, ilt hk, hkr, ri, x0, hjn, Int.toNat_natCast, hg, hf, hlim, apR_length, List.map_append, List.map_set]
    have e1 : List.map ri out[j] ++ [[Fz.lit (Value.int .i64 (i : Int))]] = List.map ri (out[j] ++ [(i : Int)]) := by simp [ri]
    rw [e1]
    simp -implicitDefEqProofs only [go_sem, hs, apR_length, wrap_succ hk hl, hg]
    have hB' : ∀ y ∈ out.set j (out[j] ++ [(i : Int)]), y.length ≤ B + 1 := by
      rw [← hadd]
      exact addP_le hb
    have := ih (k + 1) (out.set j (out[j] ++ [(i : Int)])) (B + 1) vU vU vU vU vU vU (by omega) (by omega) (by simpa using ho) hB' (by omega)
    rw [hadd]
    simp -implicitDefEqProofs only [go_sem, pst, List.map_set] at this ⊢
    exact this
theorem foldP_mem {P : List Int → Prop} : True := trivial
theorem preds_l1 (succ : List (List Int)) (hs : succ.length ≤ 4294967296) (hl : ∀ l ∈ succ, l.length ≤ 4294967296) (hx : ∀ l ∈ succ, ∀ x ∈ l, 0 ≤ x ∧ x < succ.length) : ∀ (d k : Nat) (out : List (List Int)) (B : Nat) (a0 a1 a3 a4 a5 a9 a10 a11 a12 a13 : V), succ.length - k = d → k ≤ succ.length → out.length = succ.length →
    (∀ y ∈ out, y.length ≤ B) → B + ((succ.drop k).map List.length).sum ≤ 4294967296 →
    exec T graph_preds_l1 ⟨[a0, a1, .one (.own 1 0 0 succ.length), a3, a4, a5, vLs succ, vI succ.length, vI k, a9, a10, a11, a12, a13], pst out, 0, 0⟩ =
      some (.exit 0, ⟨[vU, vU, .one (.own 1 0 0 succ.length), vU, vU, vU, vU, vU, vU, vU, vU, vU, vU, vU], pst (predsFrom k (succ.drop k) out), 0, 0⟩) := by
  intro d
  induction d with
  | zero =>
    intro k out B a0 a1 a3 a4 a5 a9 a10 a11 a12 a13 h1 h2 ho hb hB
    have hk : k = succ.length := by omega
    subst hk
    rw [graph_preds_l1_eq, graph_preds_b1]
    simp -implicitDefEqProofs only [go_sem, Int.lt_irrefl, List.drop_length, predsFrom]
  | succ d ih =>
    intro k out B a0 a1 a3 a4 a5 a9 a10 a11 a12 a13 h1 h2 ho hb hB
    have hk : k < succ.length := by omega
    have hd : succ.drop k = succ[k] :: succ.drop (k + 1) := List.drop_eq_getElem_cons hk
    have hm := List.getElem_mem hk
    rw [hd, List.map_cons, List.sum_cons] at hB
    have h0 := fun a0 a1 a4 a5 a9 a13 => preds_l0 succ k succ.length succ[k] (hl _ hm) (hx _ hm) succ[k].length 0 out B a0 a1 a4 a5 a9 a13 (by omega) (by omega) ho hb (by omega)
    have := ih (k + 1) (succ[k].foldl (addP k) out) (B + succ[k].length) vU vU vU vU vU vU vU vU vU vU (by omega) (by omega) (by rw [foldP_length, ho]) (foldP_le _ _ _ _ hb) (by omega)
    rw [graph_preds_l1_eq, graph_preds_b1, hd, predsFrom]
    simp -implicitDefEqProofs only [go_sem, pst, List.drop_zero, Int.natCast_zero] at h0 this
    simp -implicitDefEqProofs only [go_sem, ilt hk, getr hk, rl, pst, h0, wrap_succ hk hs]
    exact this
theorem predsFrom_length : ∀ (l : List (List Int)) (i : Nat) (out : List (List Int)), (predsFrom i l out).length = out.length
  | [], _, _ => rfl
  | x :: r, i, out => by rw [predsFrom, predsFrom_length r, foldP_length]
theorem preds_call (succ : List (List Int)) (hs : succ.length ≤ 4294967296) (hl : ∀ l ∈ succ, l.length ≤ 4294967296) (hx : ∀ l ∈ succ, ∀ x ∈ l, 0 ≤ x ∧ x < succ.length) (ht : (succ.map List.length).sum ≤ 4294967296) :
    call T F.graph_preds [vLs succ] [] = some (vLs (predsS succ), []) := by
  rw [call_eq (fn := a_graph_preds) rfl]
  have h := fun a0 a1 a3 a4 a5 a9 a10 a11 a12 a13 => preds_l1 succ hs hl hx succ.length 0 (List.replicate succ.length []) 0 a0 a1 a3 a4 a5 a9 a10 a11 a12 a13 (by omega) (by omega) (by simp) (fun y hy => by rw [(List.mem_replicate.1 hy).2]; simp) (by simpa using ht)
  have hlen : (apR 0 (predsFrom 0 succ (List.replicate succ.length []))).length = succ.length := by rw [apR_length, predsFrom_length]; simp
  have hlim : (succ.length : Int) ≤ (LIM : Int) := by unfold LIM; omega
  have htk : (apR 0 (predsFrom 0 succ (List.replicate succ.length []))).take succ.length = apR 0 (predsFrom 0 succ (List.replicate succ.length [])) := List.take_of_length_le (by omega)
  simp -implicitDefEqProofs only [go_sem, pst, List.drop_zero, Int.natCast_zero, List.map_replicate] at h
  simp -implicitDefEqProofs only [go_sem, a_graph_preds, hlim, apR_nil, h, Int.natCast_nonneg, Int.toNat_natCast, htk, apR_frz, predsS]
end AC

namespace AC
open Go Go.A Go.A.Lex
theorem call_ext {f : Nat} {g : List V → Store → Option (V × Store)} (h : T f = some (.ext g)) (args : List V) (σ : Store) : call T f args σ = g args σ := by
  simp only [call, callW, h]
theorem okSz_ri (l : List Int) : okSz 1 (l.map ri) = true := by
  induction l with
  | nil => rfl
  | cons x r ih => simp [okSz, ri, ih]
@[go_sem] theorem Clone_int_call (l : List Int) (hl : l.length ≤ 4294967296) : call T F.slices_Clone_int [vIs l] [] = some (vIs l, []) := by
  rw [call_ext (g := extClone 1) rfl]
  simp [extClone, okSz_ri, LIM, hl]
theorem graph_Make_1_call (l : List Int) (n : Int) (hl : l.length ≤ 4294967296) (o : Ob) (r : Store) : call T F.graph_Make_1 [vIs l, .one (.ptr 1 0 0 0)] (o :: .cells 0 1 [[.f (ei n)]] :: r) = some (vB (!rising l n), o :: .cells 0 1 [[.f (ei n)]] :: r) := by
  rw [call_eq (fn := a_graph_Make_1) rfl]
  have h := graph_rising_call l n hl
  simp -implicitDefEqProofs only [go_sem] at h
  simp -implicitDefEqProofs only [go_sem, a_graph_Make_1, h]
def okSucc (succ : List (List Int)) : Prop := succ.length ≤ 4294967296 ∧ ∀ l ∈ succ, l.length ≤ 4294967296
def makeOk (succ : List (List Int)) : Bool := !(decide (succ.length < 1) || (decide (64 < succ.length) || succ.any fun l => !rising l succ.length))
theorem rising_mem (n : Int) : ∀ (l : List Int) (last : Int), risingFrom n last l = true → ∀ x ∈ l, last < x ∧ x < n
  | [], _, _, x, h => by simp at h
  | y :: r, last, h, x, hx => by
    simp only [risingFrom] at h
    split at h
    · cases h
    · rename_i hc
      rcases List.mem_cons.1 hx with rfl | hx
      · omega
      · have := rising_mem n r y h x hx
        omega
theorem rising_len (n : Int) : ∀ (l : List Int) (last : Int), risingFrom n last l = true → -1 ≤ last → last < n → (l.length : Int) ≤ n - last - 1
  | [], last, _, h1, h2 => by simp; omega
  | y :: r, last, h, h1, h2 => by
    simp only [risingFrom] at h
    split at h
    · cases h
    · rename_i hc
      have := rising_len n r y h (by omega) (by omega)
      simp only [List.length_cons]
      omega
theorem makeOk_facts {succ : List (List Int)} (h : makeOk succ = true) : 1 ≤ succ.length ∧ succ.length ≤ 64 ∧ ∀ l ∈ succ, rising l succ.length = true := by
  simp only [makeOk, Bool.not_eq_true', Bool.or_eq_false_iff, decide_eq_false_iff_not, List.any_eq_false, Bool.not_eq_true', Bool.not_eq_false] at h
  exact ⟨by omega, by omega, fun l hl => by simpa using h.2.2 l hl⟩
theorem sum_le_mul (B : Nat) : ∀ l : List Nat, (∀ x ∈ l, x ≤ B) → l.sum ≤ B * l.length
  | [], _ => by simp
  | x :: r, h => by
    have h1 := h x (by simp)
    have h2 := sum_le_mul B r fun y hy => h y (by simp [hy])
    simp only [List.sum_cons, List.length_cons, Nat.mul_add]
    omega
theorem Make_loop (succ : List (List Int)) (hs : okSucc succ) (hn : succ.length ≤ 64) (o0 o1 : Ob) (hlt0 : o0.lt 3 = true) (hlt1 : o1.lt 3 = true) : ∀ (d k : Nat) (a0 a2 a3 a5 a6 a10 : V), succ.length - k = d → k ≤ succ.length →
    exec T graph_Make_l0 ⟨[a0, .one (.ptr 0 0 0 0), a2, a3, .one (.ap 2 0 ((succ.take k).map rl)), a5, a6, vLs succ, vI succ.length, vI k, a10], [o0, o1, .tok 1 [k]], 0, 0⟩ =
      some (.exit 0, ⟨[vU, .one (.ptr 0 0 0 0), vU, vU, .one (.ap 2 0 (succ.map rl)), vU, vU, vU, vU, vU, vU], [o0, o1, .tok 1 [succ.length]], 0, 0⟩) := by
  intro d
  induction d with
  | zero =>
    intro k a0 a2 a3 a5 a6 a10 h1 h2
    have hk : k = succ.length := by omega
    subst hk
    rw [graph_Make_l0_eq, graph_Make_b0]
    simp -implicitDefEqProofs only [go_sem, Int.lt_irrefl, List.take_length]
  | succ d ih =>
    intro k a0 a2 a3 a5 a6 a10 h1 h2
    have hk : k < succ.length := by omega
    have hc := Clone_int_call succ[k] (hs.2 _ (List.getElem_mem hk))
    have hlt : (succ.take k).length = k := by simp; omega
    have hlim : k + 1 ≤ LIM := by unfold LIM; omega
    have e : (succ.take k).map rl ++ [[Fz.sl (succ[k].map ri)]] = (succ.take (k + 1)).map rl := by
      rw [List.take_succ_eq_append_getElem hk, List.map_append]
      rfl
    rw [graph_Make_l0_eq, graph_Make_b0]
    simp -implicitDefEqProofs only [go_sem] at hc
    simp -implicitDefEqProofs only [go_sem, ilt hk, getr hk, rl, hc, hlt, hlim, wrap_succ hk hs.1]
    have := ih (k + 1) vU vU vU vU vU vU (by omega) (by omega)
    rw [← e] at this
    simp -implicitDefEqProofs only [go_sem] at this
    exact this
def vMake (succ : List (List Int)) : V := if makeOk succ = true then .tup [.agg [.f (.sl (succ.map rl)), .f (.sl ((predsS succ).map rl))], vI 0] else .tup [.agg [.f (.sl []), .f (.sl [])], vI 5]
theorem makeOk_sum {succ : List (List Int)} (h : makeOk succ = true) : (succ.map List.length).sum ≤ 4294967296 := by
  obtain ⟨h1, h2, h3⟩ := makeOk_facts h
  have := sum_le_mul 64 (succ.map List.length) (fun x hx => by
    obtain ⟨l, hl, rfl⟩ := List.mem_map.1 hx
    have := rising_len _ _ _ (h3 l hl) (by omega) (by omega)
    omega)
  rw [List.length_map] at this
  have h4 : 64 * succ.length ≤ 64 * 64 := Nat.mul_le_mul_left _ h2
  omega
@[go_sem] theorem graph_Make_call (succ : List (List Int)) (hs : okSucc succ) : call T F.graph_Make [vLs succ] [] = some (vMake succ, []) := by
  rw [call_eq (fn := a_graph_Make) rfl]
  have hcf := ContainsFunc_sint_call succ (fun l => !rising l succ.length) F.graph_Make_1 [] [.ptr 1 0 0 0] [.cells 0 2 [[.f (.sl []), .f (.sl [])]], .cells 0 1 [[.f (ei succ.length)]]] hs.1 (fun x hx => graph_Make_1_call x _ (hs.2 x hx) _ _)
  simp -implicitDefEqProofs only [go_sem] at hcf
  by_cases c1 : succ.length < 1
  · have c1' : (succ.length : Int) < 1 := by omega
    simp -implicitDefEqProofs only [go_sem, a_graph_Make, vMake, makeOk, c1, c1']
  have c1' : ¬ (succ.length : Int) < 1 := by omega
  by_cases c2 : 64 < succ.length
  · have c2' : (64 : Int) < (succ.length : Int) := by omega
    simp -implicitDefEqProofs only [go_sem, a_graph_Make, vMake, makeOk, c1, c1', c2, c2']
  have c2' : ¬ (64 : Int) < (succ.length : Int) := by omega
  cases c3 : succ.any fun l => !rising l succ.length
  · have hok : makeOk succ = true := by simp [makeOk, c1, c2, c3]
    obtain ⟨q1, q2, q3⟩ := makeOk_facts hok
    have hl := fun a0 a2 a3 a5 a6 a10 => Make_loop succ hs q2 (.cells 0 2 [[.f (.sl []), .f (.sl [])]]) (.cells 0 1 [[.f (ei succ.length)]]) rfl rfl succ.length 0 a0 a2 a3 a5 a6 a10 (by omega) (by omega)
    have hp := preds_call succ hs.1 hs.2 (fun l hl x hx => by have := rising_mem _ _ _ (q3 l hl) x hx; omega) (makeOk_sum hok)
    have hlim : (succ.length : Int) ≤ (LIM : Int) := by unfold LIM; omega
    simp -implicitDefEqProofs only [go_sem, List.take_zero, Int.natCast_zero] at hl hp
    simp -implicitDefEqProofs only [go_sem, a_graph_Make, c1', c2', hcf, c3, hlim, Int.natCast_nonneg, hl, hp, vMake, hok]
  · simp -implicitDefEqProofs only [go_sem, a_graph_Make, vMake, makeOk, c1, c1', c2, c2', hcf, c3]
end AC

namespace AC
open Go Go.A Go.A.Lex
theorem intRows_ri (l : List Int) : intRows (l.map ri) = some l := by
  induction l with
  | nil => rfl
  | cons x r ih => simp [intRows, intRow, ri, ocons, ih]
theorem frzRows_cellI (l : List Int) : frzRows (l.map cellI) = some (l.map ri) := by
  induction l with
  | nil => rfl
  | cons x r ih => simp [frzRows, frzRow, frzC, cellI, ocons, ih, ri]
theorem Sorted_call (l : List Int) (hl : l.length ≤ 4294967296) (σ : Store) (id : Nat) (hσ : σ[id]? = some (.cells 0 1 [[.f (.sl (l.map ri))]])) :
    call T F.slices_Sorted_int [.one (.fn F.slices_Values_int_int__1 [] [.ptr id 0 0 0])] σ = some (.one (.own σ.length 0 0 l.length), σ ++ [.cells 0 1 ((sortI l).map cellI)]) := by
  rw [call_ext (g := extSorted F.slices_Values_int_int__1) rfl]
  simp [extSorted, Store.cell, Store.elem, hσ, Ob.elem, sortedTo, intRows_ri, sortedOf, LIM, hl]
theorem Compact_call (l : List Int) (n : Nat) (hn : l.length = n) (hl : n ≤ 4294967296) (σ : Store) (id : Nat) (hσ : σ[id]? = some (.cells 0 1 (l.map cellI))) :
    call T F.slices_Compact_int [.one (.own id 0 0 n)] σ = some (vIs (compactI l), σ.set id (.cells 1 1 [])) := by
  rw [call_ext (g := extCompact) rfl]
  subst hn
  simp [extCompact, hσ, rowInts, LIM, hl, frzRows_cellI, intRows_ri, compactRow, vsl]
  exact fun _ _ => rfl
@[go_sem] theorem Values_call (l : List Int) : call T F.slices_Values_int [vIs l] [] = some (.one (.fn F.slices_Values_int_int__1 [] [.ptr 0 0 0 0]), [.cells 0 1 [[.f (.sl (l.map ri))]]]) := by
  rw [call_eq (fn := a_slices_Values_int) rfl]
  simp -implicitDefEqProofs only [go_sem, a_slices_Values_int]
theorem sortI_length (l : List Int) : (sortI l).length = l.length := List.length_mergeSort l
def outOf (n k : Int) : Bool := decide (k < 1) || decide (n ≤ k)
theorem graph_Of_1_call (k n : Int) (o0 o1 : Ob) (r : Store) : call T F.graph_Of_1 [vI k, .one (.ptr 2 0 0 0)] (o0 :: o1 :: .cells 0 1 [[.f (ei n)]] :: r) = some (vB (outOf n k), o0 :: o1 :: .cells 0 1 [[.f (ei n)]] :: r) := by
  rw [call_eq (fn := a_graph_Of_1) rfl]
  by_cases c : k < 1
  · simp -implicitDefEqProofs only [go_sem, a_graph_Of_1, outOf, c]
  · by_cases d : n ≤ k <;> simp -implicitDefEqProofs only [go_sem, a_graph_Of_1, outOf, c, d]
def endOk (n : Nat) (b : PBlock) : Bool := decide (goesS b.kind = b.to.length) && !b.to.any (outOf n)
def firstBad (n : Nat) : Nat → List PBlock → Option (Nat × PBlock)
  | _, [] => none
  | k, b :: r => if endOk n b = true then firstBad n (k + 1) r else some (k, b)
def normS (l : List Int) : List Int := compactI (sortI l)
def succS (f : PFunc) : List (List Int) := f.blocks.map fun b => normS b.to
theorem Of_loop (f : PFunc) (hf : okF f) (hn : f.blocks.length ≤ 64) : ∀ (d k : Nat) (a0 a1 a3 a6 a7 a11 a12 : V), f.blocks.length - k = d → k ≤ f.blocks.length →
    exec T graph_Of_l0 ⟨[a0, a1, .one (.ptr 1 0 0 0), a3, .one (.ptr 2 0 0 0), .one (.ap 3 0 (((succS f).take k).map rl)), a6, a7, vL (f.blocks.map rb), vI f.blocks.length, vI k, a11, a12], [.cells 0 3 [cFunc f], .cells 0 2 [[.f (.sl []), .f (.sl [])]], .cells 0 1 [[.f (ei f.blocks.length)]], .tok 1 [k]], 0, 0⟩ =
      some (match firstBad f.blocks.length k (f.blocks.drop k) with
        | none => (.exit 0, ⟨[vU, vU, .one (.ptr 1 0 0 0), vU, vU, .one (.ap 3 0 ((succS f).map rl)), vU, vU, vU, vU, vU, vU, vU], [.cells 0 3 [cFunc f], .cells 0 2 [[.f (.sl []), .f (.sl [])]], .cells 0 1 [[.f (ei f.blocks.length)]], .tok 1 [f.blocks.length]], 0, 0⟩)
        | some (j, b) => (.ret, ⟨[vU, vU, .one (.ptr 1 0 0 0), vI 5, vU, vU, vU, vU, vU, vU, vU, vU, vU], [.cells 0 3 [cFunc f], .cells 0 2 [[.f (.sl []), .f (.sl [])]], .cells 0 1 [[.f (ei f.blocks.length)]], .tok 1 [j], .cells 0 5 [cBlock b]], 0, 0⟩)) := by
  intro d
  induction d with
  | zero =>
    intro k a0 a1 a3 a6 a7 a11 a12 q1 q2
    have hk : k = f.blocks.length := by omega
    subst hk
    have e : (succS f).take f.blocks.length = succS f := List.take_of_length_le (by simp [succS])
    rw [graph_Of_l0_eq, graph_Of_b0, e]
    simp -implicitDefEqProofs only [go_sem, Int.lt_irrefl, List.drop_length, firstBad]
  | succ d ih =>
    intro k a0 a1 a3 a6 a7 a11 a12 q1 q2
    have hk : k < f.blocks.length := by omega
    have hd : f.blocks.drop k = f.blocks[k] :: f.blocks.drop (k + 1) := List.drop_eq_getElem_cons hk
    have hm := hf.block _ (List.getElem_mem hk)
    rw [graph_Of_l0_eq, graph_Of_b0, hd, firstBad]
    by_cases c1 : goesS f.blocks[k].kind = f.blocks[k].to.length
    · have hc := ContainsFunc_int_call f.blocks[k].to (outOf f.blocks.length) F.graph_Of_1 [] [.ptr 2 0 0 0] [.cells 0 3 [cFunc f], .cells 0 2 [[.f (.sl []), .f (.sl [])]], .cells 0 1 [[.f (ei f.blocks.length)]], .tok 1 [k], .cells 0 5 [cBlock f.blocks[k]]] hm.to (fun x _ => graph_Of_1_call x _ _ _ _)
      cases c2 : f.blocks[k].to.any (outOf f.blocks.length)
      · have hlt : ((succS f).take k).length = k := by simp [succS]; omega
        have hlim : k + 1 ≤ LIM := by unfold LIM; omega
        have hv := Values_call f.blocks[k].to
        have hs := Sorted_call f.blocks[k].to hm.to [.cells 0 3 [cFunc f], .cells 0 2 [[.f (.sl []), .f (.sl [])]], .cells 0 1 [[.f (ei f.blocks.length)]], .tok 1 [k], .cells 0 5 [cBlock f.blocks[k]], .cells 0 1 [[.f (.sl (f.blocks[k].to.map ri))]]] 5 rfl
        have hcp := Compact_call (sortI f.blocks[k].to) f.blocks[k].to.length (sortI_length _) hm.to [.cells 0 3 [cFunc f], .cells 0 2 [[.f (.sl []), .f (.sl [])]], .cells 0 1 [[.f (ei f.blocks.length)]], .tok 1 [k], .cells 0 5 [cBlock f.blocks[k]], .cells 0 1 [[.f (.sl (f.blocks[k].to.map ri))]], .cells 0 1 ((sortI f.blocks[k].to).map cellI)] 6 rfl
        have e : ((succS f).take k).map rl ++ [[Fz.sl ((compactI (sortI f.blocks[k].to)).map ri)]] = ((succS f).take (k + 1)).map rl := by
          rw [List.take_succ_eq_append_getElem (by simpa [succS] using hk), List.map_append]
          simp [succS, rl, normS]
        have := ih (k + 1) vU vU vU vU vU vU vU (by omega) (by omega)
        rw [← e] at this
        simp -implicitDefEqProofs only [go_sem] at hc hv hs hcp this
        simp -implicitDefEqProofs only [go_sem, ilt hk, getr hk, rb, c1, hc, c2, endOk, hv, hs, hcp, hlt, hlim, wrap_succ hk hf.blocks] at this ⊢
        exact this
      · simp -implicitDefEqProofs only [go_sem] at hc
        simp -implicitDefEqProofs only [go_sem, ilt hk, getr hk, rb, c1, hc, c2, endOk]
    · have c1' : ¬ goesS f.blocks[k].kind = (f.blocks[k].to.length : Int) := c1
      simp -implicitDefEqProofs only [go_sem, ilt hk, getr hk, rb, c1, endOk]
theorem firstBad_all (n : Nat) : ∀ (bs : List PBlock) (k : Nat), (firstBad n k bs).isNone = bs.all (endOk n)
  | [], _ => rfl
  | b :: r, k => by
    simp only [firstBad, List.all_cons]
    cases h : endOk n b
    · simp
    · simpa using firstBad_all n r (k + 1)
theorem compactI_length : ∀ l : List Int, (compactI l).length ≤ l.length
  | [] => by simp [compactI]
  | [x] => by simp [compactI]
  | x :: y :: r => by
    have := compactI_length (y :: r)
    simp only [compactI]
    split
    · simp only [List.length_cons] at this ⊢; omega
    · simp only [List.length_cons] at this ⊢; omega
theorem normS_length (l : List Int) : (normS l).length ≤ l.length := by
  have := compactI_length (sortI l)
  rwa [sortI_length] at this
theorem okSucc_of {f : PFunc} (hf : okF f) : okSucc (succS f) := by
  refine ⟨by simpa [succS] using hf.blocks, fun l hl => ?_⟩
  obtain ⟨b, hb, rfl⟩ := List.mem_map.1 hl
  have := normS_length b.to
  have := (hf.block b hb).to
  omega
/-- The graph of a function: where it goes on; nothing: there is none. -/
def graphOk (f : PFunc) : Bool := !decide (64 < f.blocks.length) && (f.blocks.all (endOk f.blocks.length) && makeOk (succS f))
def vGraph (f : PFunc) : V := if graphOk f = true then .tup [.agg [.f (.sl ((succS f).map rl)), .f (.sl ((predsS (succS f)).map rl))], vI 0] else .tup [.agg [.f (.sl []), .f (.sl [])], vI 5]
@[go_sem] theorem graph_Of_call (f : PFunc) (hf : okF f) : call T F.graph_Of [vFunc f] [] = some (vGraph f, []) := by
  rw [call_eq (fn := a_graph_Of) rfl]
  by_cases c1 : 64 < f.blocks.length
  · have c1' : (64 : Int) < (f.blocks.length : Int) := by omega
    simp -implicitDefEqProofs only [go_sem, a_graph_Of, c1, c1', vGraph, graphOk]
  have c1' : ¬ (64 : Int) < (f.blocks.length : Int) := by omega
  have hl := fun a0 a1 a3 a6 a7 a11 a12 => Of_loop f hf (by omega) f.blocks.length 0 a0 a1 a3 a6 a7 a11 a12 (by omega) (by omega)
  have ha := firstBad_all f.blocks.length f.blocks 0
  simp only [List.drop_zero, Int.natCast_zero, List.take_zero] at hl
  cases e : firstBad f.blocks.length 0 f.blocks with
  | some x =>
    rw [e] at ha
    simp only [Option.isNone_some] at ha
    obtain ⟨j, b⟩ := x
    simp -implicitDefEqProofs only [go_sem, e] at hl
    simp -implicitDefEqProofs only [go_sem, a_graph_Of, c1, c1', hl, vGraph, graphOk, ← ha]
  | none =>
    rw [e] at ha
    simp only [Option.isNone_none] at ha
    have hm := graph_Make_call (succS f) (okSucc_of hf)
    cases e2 : makeOk (succS f)
    · simp -implicitDefEqProofs only [go_sem, e, vMake, e2] at hl hm
      simp -implicitDefEqProofs only [go_sem, a_graph_Of, c1, c1', hl, hm, vGraph, graphOk, ← ha, e2]
    · simp -implicitDefEqProofs only [go_sem, e, vMake, e2] at hl hm
      simp -implicitDefEqProofs only [go_sem, a_graph_Of, c1, c1', hl, hm, vGraph, graphOk, ← ha, e2]
end AC

namespace AC
open Go Go.A Go.A.Lex
/-- An entry of a tree. -/
def tr (t : List Int) (a : Int) : Int := t.getD a.toNat (-2)
def depthRun (t : List Int) : Nat → Int → Int → Option Int
  | 0, _, _ => none
  | r + 1, n, a => if a < 0 then some (-1) else if (t.length : Int) ≤ a then some (-1) else if tr t a = -1 then some n else depthRun t r (n + 1) (tr t a)
def depthS (t : List Int) (a : Int) : Int := (depthRun t t.length 0 a).getD (-1)
theorem getT {t : List Int} {a : Int} (h0 : ¬ a < 0) (h1 : ¬ (t.length : Int) ≤ a) : (t.map ri)[a.toNat]? = some [.lit (.int .i64 (tr t a))] := by
  have : a.toNat < t.length := by omega
  rw [getr this]
  simp [tr, this, ri]
theorem depth_loop (t : List Int) (hl : t.length ≤ 4294967296) : ∀ (d k : Nat) (a : Int) (a2 a3 a6 a7 a8 : V), t.length - k = d → k ≤ t.length →
    exec T dom_depth_l0 ⟨[vIs t, vI a, a2, a3, vI t.length, vI k, a6, a7, a8], [], 0, 0⟩ =
      some (match depthRun t d k a with
        | none => (.exit 0, ⟨[vU, vU, vU, vU, vU, vU, vU, vU, vU], [], 0, 0⟩)
        | some n => (.ret, ⟨[vU, vU, vI n, vU, vU, vU, vU, vU, vU], [], 0, 0⟩)) := by
  intro d
  induction d with
  | zero =>
    intro k a a2 a3 a6 a7 a8 h1 h2
    have hk : k = t.length := by omega
    subst hk
    rw [dom_depth_l0_eq, dom_depth_b0]
    simp -implicitDefEqProofs only [go_sem, Int.lt_irrefl, depthRun]
  | succ d ih =>
    intro k a a2 a3 a6 a7 a8 h1 h2
    have hk : k < t.length := by omega
    rw [dom_depth_l0_eq, dom_depth_b0, depthRun]
    by_cases c1 : a < 0
    · simp -implicitDefEqProofs only [go_sem, ilt hk, c1]
    by_cases c2 : (t.length : Int) ≤ a
    · simp -implicitDefEqProofs only [go_sem, ilt hk, c1, c2]
    have c0 : 0 ≤ a := by omega
    have c3 : a < (t.length : Int) := by omega
    by_cases c4 : tr t a = -1
    · simp -implicitDefEqProofs only [go_sem, ilt hk, c0, c1, c2, c3, getT c1 c2, c4]
    · have := ih (k + 1) (tr t a) vU vU vU vU vU (by omega) (by omega)
      simp -implicitDefEqProofs only [go_sem] at this
      simp -implicitDefEqProofs only [go_sem, ilt hk, c0, c1, c2, c3, getT c1 c2, c4, wrap_succ hk hl]
      rw [this]
      rfl
@[go_sem] theorem depth_call (t : List Int) (a : Int) (hl : t.length ≤ 4294967296) : call T F.dom_depth [vIs t, vI a] [] = some (vI (depthS t a), []) := by
  rw [call_eq (fn := a_dom_depth) rfl]
  have h := fun a2 a3 a6 a7 a8 => depth_loop t hl t.length 0 a a2 a3 a6 a7 a8 (by omega) (by omega)
  simp only [Int.natCast_zero] at h
  cases e : depthRun t t.length 0 a <;> simp -implicitDefEqProofs only [go_sem, e] at h <;> simp -implicitDefEqProofs only [go_sem, a_dom_depth, h, depthS, e, Option.getD_none, Option.getD_some]
def rightFrom (t : List Int) : Nat → Nat → List Int → Option Nat
  | _, n, [] => some n
  | k, n, x :: r => if x = -2 then rightFrom t (k + 1) n r else if depthS t k < 0 then none else rightFrom t (k + 1) (if x = -1 then n + 1 else n) r
theorem right_loop (t : List Int) (hl : t.length ≤ 4294967296) : ∀ (d k n : Nat) (a1 a3 a4 a8 a9 a10 : V), t.length - k = d → k ≤ t.length → n ≤ k →
    exec T dom_right_l0 ⟨[vIs t, a1, vI n, a3, a4, vIs t, vI t.length, vI k, a8, a9, a10], [], 0, 0⟩ =
      some (match rightFrom t k n (t.drop k) with
        | none => (.ret, ⟨[vU, vB false, vU, vU, vU, vU, vU, vU, vU, vU, vU], [], 0, 0⟩)
        | some n => (.exit 0, ⟨[vU, vU, vI n, vU, vU, vU, vU, vU, vU, vU, vU], [], 0, 0⟩)) := by
  intro d
  induction d with
  | zero =>
    intro k n a1 a3 a4 a8 a9 a10 h1 h2 h3
    have hk : k = t.length := by omega
    subst hk
    rw [dom_right_l0_eq, dom_right_b0]
    simp -implicitDefEqProofs only [go_sem, Int.lt_irrefl, List.drop_length, rightFrom]
  | succ d ih =>
    intro k n a1 a3 a4 a8 a9 a10 h1 h2 h3
    have hk : k < t.length := by omega
    have hd : t.drop k = t[k] :: t.drop (k + 1) := List.drop_eq_getElem_cons hk
    have hc := depth_call t k hl
    have hn := wrap_succ (k := n) (n := t.length) (by omega) hl
    rw [dom_right_l0_eq, dom_right_b0, hd, rightFrom]
    simp -implicitDefEqProofs only [go_sem] at hc
    by_cases c1 : t[k] = -2
    · have := ih (k + 1) n vU vU vU vU vU vU (by omega) (by omega) (by omega)
      simp -implicitDefEqProofs only [go_sem] at this
      simp -implicitDefEqProofs only [go_sem, ilt hk, getr hk, ri, c1, wrap_succ hk hl]
      rw [this]
      all_goals rfl
    · by_cases c2 : t[k] = -1
      · by_cases c3 : depthS t k < 0
        · simp -implicitDefEqProofs only [go_sem, ilt hk, getr hk, ri, c1, c2, hc, c3, hn]
        · have := ih (k + 1) (n + 1) vU vU vU vU vU vU (by omega) (by omega) (by omega)
          simp -implicitDefEqProofs only [go_sem] at this
          simp -implicitDefEqProofs only [go_sem, ilt hk, getr hk, ri, c1, c2, hc, c3, hn, wrap_succ hk hl]
          rw [this]
          all_goals rfl
      · by_cases c3 : depthS t k < 0
        · simp -implicitDefEqProofs only [go_sem, ilt hk, getr hk, ri, c1, c2, hc, c3]
        · have := ih (k + 1) n vU vU vU vU vU vU (by omega) (by omega) (by omega)
          simp -implicitDefEqProofs only [go_sem] at this
          simp -implicitDefEqProofs only [go_sem, ilt hk, getr hk, ri, c1, c2, hc, c3, wrap_succ hk hl]
          rw [this]
          all_goals rfl
def rightS (t : List Int) : Bool := rightFrom t 0 0 t == some 1
@[go_sem] theorem right_call (t : List Int) (hl : t.length ≤ 4294967296) : call T F.dom_right [vIs t] [] = some (vB (rightS t), []) := by
  rw [call_eq (fn := a_dom_right) rfl]
  have h := fun a1 a3 a4 a8 a9 a10 => right_loop t hl t.length 0 0 a1 a3 a4 a8 a9 a10 (by omega) (by omega) (by omega)
  simp only [Int.natCast_zero, List.drop_zero] at h
  cases e : rightFrom t 0 0 t with
  | none =>
    simp -implicitDefEqProofs only [go_sem, e] at h
    simp -implicitDefEqProofs only [go_sem, a_dom_right, h, rightS, e]
    rfl
  | some n =>
    simp -implicitDefEqProofs only [go_sem, e] at h
    by_cases c : n = 1
    · subst c
      simp -implicitDefEqProofs only [go_sem, a_dom_right, h, rightS, e]
      rfl
    · have c' : ¬ (n : Int) = 1 := by omega
      have c2 : (some n == some 1) = false := by simpa using c
      simp -implicitDefEqProofs only [go_sem, a_dom_right, h, rightS, e, c', c2]
theorem dom_in_1_call (t : List Int) (a : Int) (hl : t.length ≤ 4294967296) (r : Store) : call T F.dom_in_1 [vI a, .one (.ptr 0 0 0 0)] (.cells 0 1 [[.f (eI t)]] :: r) = some (vB (decide (depthS t a < 0)), .cells 0 1 [[.f (eI t)]] :: r) := by
  rw [call_eq (fn := a_dom_in_1) rfl]
  have h := depth_call t a hl
  simp -implicitDefEqProofs only [go_sem] at h
  simp -implicitDefEqProofs only [go_sem, a_dom_in_1, h]
def inS (t : List Int) (l : List Int) : Bool := rightS t && !l.any fun a => decide (depthS t a < 0)
theorem dom_in_call (t l : List Int) (hl : t.length ≤ 4294967296) (hll : l.length ≤ 4294967296) : call T F.dom_in [vIs t, vIs l] [] = some (vB (inS t l), []) := by
  rw [call_eq (fn := a_dom_in) rfl]
  have hc := ContainsFunc_int_call l (fun a => decide (depthS t a < 0)) F.dom_in_1 [] [.ptr 0 0 0 0] [.cells 0 1 [[.f (eI t)]]] hll (fun x _ => dom_in_1_call t x hl [])
  have hr := right_call t hl
  simp -implicitDefEqProofs only [go_sem] at hc
  cases c : rightS t <;> simp -implicitDefEqProofs only [go_sem, c] at hr <;> simp -implicitDefEqProofs only [go_sem, a_dom_in, hr, c, hc, inS]
theorem dom_in2_call (t : List Int) (a b : Int) (hl : t.length ≤ 4294967296) : call T F.dom_in [vIs t, vL [[ei a], [ei b]]] [] = some (vB (inS t [a, b]), []) := dom_in_call t [a, b] hl (by simp)
theorem depthRun_some (t : List Int) : ∀ (r : Nat) (n a m : Int), 0 ≤ n → depthRun t r n a = some m → m = -1 ∨ n ≤ m
  | 0, _, _, _, _, h => by simp [depthRun] at h
  | r + 1, n, a, m, hn, h => by
    simp only [depthRun] at h
    split at h
    · simp at h; omega
    split at h
    · simp at h; omega
    split at h
    · simp at h; omega
    · have := depthRun_some t r (n + 1) _ m (by omega) h
      omega
theorem depthRun_succ (t : List Int) : ∀ (r : Nat) (n a m : Int), 0 ≤ n → 0 ≤ m → depthRun t r (n + 1) a = some m → depthRun t r n a = some (m - 1)
  | 0, _, _, _, _, _, h => by simp [depthRun] at h
  | r + 1, n, a, m, hn, hm, h => by
    simp only [depthRun] at h ⊢
    split at h
    · simp at h; omega
    split at h
    · simp at h; omega
    split at h
    · rename_i h1 h2 h3
      simp only [h1, h2, h3, if_true, if_false, Option.some.injEq] at h ⊢
      omega
    · rename_i h1 h2 h3
      simp only [h1, h2, h3, if_false]
      exact depthRun_succ t r (n + 1) _ m (by omega) hm h
theorem depthRun_mono (t : List Int) : ∀ (r : Nat) (n a m : Int), depthRun t r n a = some m → depthRun t (r + 1) n a = some m
  | 0, _, _, _, h => by simp [depthRun] at h
  | r + 1, n, a, m, h => by
    rw [depthRun] at h ⊢
    split at h
    · rename_i h1; simp only [h1, if_true]; exact h
    split at h
    · rename_i h1 h2; simp only [h1, h2, if_true, if_false]; exact h
    split at h
    · rename_i h1 h2 h3; simp only [h1, h2, h3, if_true, if_false]; exact h
    · rename_i h1 h2 h3
      simp only [h1, h2, h3, if_false]
      exact depthRun_mono t r (n + 1) _ m h
theorem depthS_some {t : List Int} {a : Int} (h : 0 ≤ depthS t a) : depthRun t t.length 0 a = some (depthS t a) := by
  unfold depthS at h ⊢
  cases e : depthRun t t.length 0 a with
  | none => rw [e] at h; simp at h
  | some m => rfl
theorem depthS_in {t : List Int} {a : Int} (h : 0 ≤ depthS t a) : 0 ≤ a ∧ a < t.length := by
  have := depthS_some h
  cases ht : t.length with
  | zero => rw [ht] at this; simp [depthRun] at this
  | succ r =>
    rw [ht, depthRun] at this
    split at this
    · simp at this; omega
    split at this
    · simp at this; omega
    · rename_i h1 h2
      rw [ht] at h2
      omega
theorem depthS_top {t : List Int} {a : Int} (h0 : 0 ≤ a) (h1 : a < t.length) (h : tr t a = -1) : depthS t a = 0 := by
  unfold depthS
  cases ht : t.length with
  | zero => omega
  | succ r =>
    rw [depthRun, if_neg (by omega), if_neg (by omega), if_pos h]
    rfl
theorem depthS_step {t : List Int} {a : Int} (h : 0 ≤ depthS t a) (hn : tr t a ≠ -1) : 1 ≤ depthS t a ∧ depthS t (tr t a) = depthS t a - 1 := by
  have hs := depthS_some h
  obtain ⟨h0, h1⟩ := depthS_in h
  cases ht : t.length with
  | zero => omega
  | succ r =>
    rw [ht, depthRun, if_neg (by omega), if_neg (by omega), if_neg hn] at hs
    have h2 := depthRun_some t r (0 + 1) _ _ (by omega) hs
    have h3 := depthRun_mono t r _ _ _ (depthRun_succ t r 0 _ _ (by omega) h hs)
    refine ⟨by omega, ?_⟩
    rw [← ht] at h3
    rw [depthS, h3]
    rfl
theorem depthS_zero {t : List Int} {a : Int} (h : depthS t a = 0) : tr t a = -1 := by
  by_cases c : tr t a = -1
  · exact c
  · have := depthS_step (by omega) c
    omega
theorem rightFrom_count (t : List Int) : ∀ (l : List Int) (k n m : Nat), rightFrom t k n l = some m → m = n + l.count (-1)
  | [], _, _, _, h => by simp [rightFrom] at h; simp [h]
  | x :: r, k, n, m, h => by
    simp only [rightFrom] at h
    split at h
    · rename_i hx
      subst hx
      rw [rightFrom_count t r _ _ _ h, List.count_cons_of_ne (by decide)]
    split at h
    · cases h
    · split at h
      · rename_i hx
        subst hx
        rw [rightFrom_count t r _ _ _ h, List.count_cons_self]
        omega
      · rename_i hx
        rw [rightFrom_count t r _ _ _ h, List.count_cons_of_ne (by simpa using hx)]
theorem rightFrom_deep (t : List Int) : ∀ (l : List Int) (k n m : Nat), rightFrom t k n l = some m → ∀ j (h : j < l.length), l[j] ≠ -2 → 0 ≤ depthS t (k + j : Nat)
  | [], _, _, _, _, j, h, _ => by simp at h
  | x :: r, k, n, m, h, j, hj, hx => by
    simp only [rightFrom] at h
    split at h
    · rename_i hxx
      cases j with
      | zero => exact absurd hxx (by simpa using hx)
      | succ j =>
        have := rightFrom_deep t r _ _ _ h j (by simpa using hj) (by simpa using hx)
        rwa [show k + 1 + j = k + (j + 1) by omega] at this
    split at h
    · cases h
    · rename_i hx2 hd
      cases j with
      | zero => simpa using hd
      | succ j =>
        have := rightFrom_deep t r _ _ _ h j (by simpa using hj) (by simpa using hx)
        rwa [show k + 1 + j = k + (j + 1) by omega] at this
theorem count_one {x : Int} : ∀ (l : List Int), l.count x ≤ 1 → ∀ i j (hi : i < l.length) (hj : j < l.length), l[i] = x → l[j] = x → i = j
  | [], _, i, _, hi, _, _, _ => by simp at hi
  | y :: r, h, i, j, hi, hj, e1, e2 => by
    have pos : ∀ k (hk : k < r.length), r[k] = x → 1 ≤ r.count x := fun k hk e => by
      have : x ∈ r := by rw [← e]; exact List.getElem_mem hk
      exact List.count_pos_iff.2 this
    cases i with
    | zero =>
      cases j with
      | zero => rfl
      | succ j =>
        simp at e1 e2
        subst e1
        rw [List.count_cons_self] at h
        have := pos j (by simpa using hj) e2
        omega
    | succ i =>
      cases j with
      | zero =>
        simp at e1 e2
        subst e2
        rw [List.count_cons_self] at h
        have := pos i (by simpa using hi) e1
        omega
      | succ j =>
        have h' : r.count x ≤ 1 := by
          rw [List.count_cons] at h
          omega
        rw [count_one r h' i j (by simpa using hi) (by simpa using hj) (by simpa using e1) (by simpa using e2)]
theorem right_one {t : List Int} (h : rightS t = true) {a b : Int} (ha : 0 ≤ a ∧ a < t.length) (hb : 0 ≤ b ∧ b < t.length) (ea : tr t a = -1) (eb : tr t b = -1) : a = b := by
  have h1 : rightFrom t 0 0 t = some 1 := by simpa [rightS] using h
  have h2 := rightFrom_count t t 0 0 1 h1
  have ha' : a.toNat < t.length := by omega
  have hb' : b.toNat < t.length := by omega
  have := count_one t (x := -1) (by omega) a.toNat b.toNat ha' hb' (by simpa [tr, ha'] using ea) (by simpa [tr, hb'] using eb)
  omega
/-- The first place to which one comes from both. -/
def meetRun (t : List Int) : Nat → Int → Int → Int
  | 0, a, _ => a
  | r + 1, a, b => if a = b then a else if depthS t b ≤ depthS t a then meetRun t r (tr t a) b else meetRun t r a (tr t b)
theorem Meet_loop (t : List Int) (hl : t.length ≤ 4294967296) (hr : rightS t = true) : ∀ (d : Nat) (a b : Int) (a3 a4 a5 a6 : V), 0 ≤ depthS t a → 0 ≤ depthS t b → depthS t a + depthS t b ≤ d →
    exec T dom_Meet_l0 ⟨[vIs t, vI a, vI b, a3, a4, a5, a6], [], 0, 0⟩ = some (.exit 0, ⟨[vU, vI (meetRun t d a b), vU, vU, vU, vU, vU], [], 0, 0⟩) := by
  intro d
  induction d with
  | zero =>
    intro a b a3 a4 a5 a6 ha hb hd
    have ia := depthS_in ha
    have ib := depthS_in hb
    have e : a = b := right_one hr ia ib (depthS_zero (by omega)) (depthS_zero (by omega))
    subst e
    rw [dom_Meet_l0_eq, dom_Meet_b0]
    simp -implicitDefEqProofs only [go_sem, meetRun]
  | succ d ih =>
    intro a b a3 a4 a5 a6 ha hb hd
    obtain ⟨a0, a1⟩ := depthS_in ha
    obtain ⟨b0, b1⟩ := depthS_in hb
    have ca := depth_call t a hl
    have cb := depth_call t b hl
    simp -implicitDefEqProofs only [go_sem] at ca cb
    rw [dom_Meet_l0_eq, dom_Meet_b0, meetRun]
    by_cases c1 : a = b
    · subst c1
      simp -implicitDefEqProofs only [go_sem]
    by_cases c2 : depthS t b ≤ depthS t a
    · have hne : tr t a ≠ -1 := fun e => by
        have h1 := depthS_top a0 a1 e
        exact c1 (right_one hr ⟨a0, a1⟩ ⟨b0, b1⟩ e (depthS_zero (by omega)))
      have hs := depthS_step ha hne
      have := ih (tr t a) b vU vU vU vU (by omega) hb (by omega)
      simp -implicitDefEqProofs only [go_sem] at this
      simp -implicitDefEqProofs only [go_sem, c1, c2, ca, cb, a0, getT (t := t) (a := a) (by omega) (by omega), this]
    · have hne : tr t b ≠ -1 := fun e => by
        have h1 := depthS_top b0 b1 e
        omega
      have hs := depthS_step hb hne
      have := ih a (tr t b) vU vU vU vU ha (by omega) (by omega)
      simp -implicitDefEqProofs only [go_sem] at this
      simp -implicitDefEqProofs only [go_sem, c1, c2, ca, cb, b0, getT (t := t) (a := b) (by omega) (by omega), this]
def meetS (t : List Int) (a b : Int) : Int := if inS t [a, b] = true then meetRun t (depthS t a + depthS t b).toNat a b else -2
theorem inS_two {t : List Int} {a b : Int} (h : inS t [a, b] = true) : rightS t = true ∧ 0 ≤ depthS t a ∧ 0 ≤ depthS t b := by
  simp [inS] at h
  exact ⟨h.1, by omega, by omega⟩
@[go_sem] theorem Meet_call (t : List Int) (a b : Int) (hl : t.length ≤ 4294967296) : call T F.dom_Meet [vIs t, vI a, vI b] [] = some (vI (meetS t a b), []) := by
  rw [call_eq (fn := a_dom_Meet) rfl]
  have hi := dom_in2_call t a b hl
  cases c : inS t [a, b]
  · simp -implicitDefEqProofs only [go_sem, c] at hi
    simp -implicitDefEqProofs only [go_sem, a_dom_Meet, hi, c, meetS]
  · obtain ⟨h1, h2, h3⟩ := inS_two c
    have h := fun a3 a4 a5 a6 => Meet_loop t hl h1 (depthS t a + depthS t b).toNat a b a3 a4 a5 a6 h2 h3 (by omega)
    simp -implicitDefEqProofs only [go_sem, c] at hi h
    simp -implicitDefEqProofs only [go_sem, a_dom_Meet, hi, c, meetS, h]
def overS (t : List Int) (a b : Int) : Bool := inS t [a, b] && decide (meetS t a b = a)
@[go_sem] theorem Over_call (t : List Int) (a b : Int) (hl : t.length ≤ 4294967296) : call T F.dom_Over [vIs t, vI a, vI b] [] = some (vB (overS t a b), []) := by
  rw [call_eq (fn := a_dom_Over) rfl]
  have hi := dom_in2_call t a b hl
  have hm := Meet_call t a b hl
  simp -implicitDefEqProofs only [go_sem] at hm
  cases c : inS t [a, b] <;> simp -implicitDefEqProofs only [go_sem, c] at hi <;> simp -implicitDefEqProofs only [go_sem, a_dom_Over, hi, hm, c, overS]
end AC

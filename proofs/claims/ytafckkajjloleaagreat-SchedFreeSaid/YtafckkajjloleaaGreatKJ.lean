import Derived.Test.YtafckkajjloleaaGreatKI
set_option linter.unusedVariables false
set_option linter.unusedSimpArgs false
set_option linter.unusedSectionVars false
set_option linter.unusedSectionVars false
namespace AC
open Go Go.A Go.A.Lex
theorem ints_l0 (l : List Int) (hl : l.length ≤ 4294967296) : ∀ (d k : Nat) (a2 a4 a5 a6 : V), l.length - k = d → k ≤ l.length →
    exec T lockstepref02_Ints_l0 ⟨[vIs l, vIs l, a2, vI k, a4, a5, a6], [], 0, 0⟩ = some (.exit 0, ⟨[vU, vU, vU, vU, vU, vU, vU], [], 0, 0⟩) := by
  intro d
  induction d with
  | zero =>
    intro k a2 a4 a5 a6 h1 h2
    have hk : k = l.length := by omega
    subst hk
    rw [lockstepref02_Ints_l0_eq, lockstepref02_Ints_b0]
    simp -implicitDefEqProofs only [go_sem, Int.lt_irrefl, List.length_map]
  | succ d ih =>
    intro k a2 a4 a5 a6 h1 h2
    have hk : k < l.length := by omega
    have := ih (k + 1) vU vU vU vU (by omega) (by omega)
    rw [lockstepref02_Ints_l0_eq, lockstepref02_Ints_b0]
    simp -implicitDefEqProofs only [go_sem] at this
    simp -implicitDefEqProofs only [go_sem, ilt hk, getr hk, ri, List.length_map, wrap_succ hk hl, this]
theorem Ints_same (l : List Int) (hl : l.length ≤ 4294967296) : call T F.lockstepref02_Ints [vIs l, vIs l] [] = some (vB true, []) := by
  rw [call_eq (fn := a_lockstepref02_Ints) rfl]
  have h := fun a2 a4 a5 a6 => ints_l0 l hl l.length 0 a2 a4 a5 a6 (by omega) (by omega)
  simp only [Int.natCast_zero] at h
  simp -implicitDefEqProofs only [go_sem] at h
  simp -implicitDefEqProofs only [go_sem, a_lockstepref02_Ints, h]
def fop (i : Nat) : POp := ⟨0, 8, 1, 2 + (i : Int), [], (i : Int)⟩
def freeOps (n : Nat) : List POp := (List.range n).map fop
theorem freeOps_succ (n : Nat) : freeOps (n + 1) = freeOps n ++ [fop n] := by simp [freeOps, List.range_succ]
theorem freeOps_length (n : Nat) : (freeOps n).length = n := by simp [freeOps]
abbrev bSt (k : Nat) : Store := [.cells 0 3 [[.f (.sl [[.lit (.int .i64 8)]]), .f (.lit (.int .i64 8)), .f (.sl [])]], .tok 4 [0], .tok 6 [k], .tok 1 [0],
  .cells 0 5 [[.ap 1 0 [], .ap 2 0 ((freeOps k).map ro), .f (.lit (.int .i64 0)), .f (.lit (.int .i64 0)), .ap 3 0 []]]]
theorem free_l0 (v : V) (n : Nat) (hn : n ≤ 60) : ∀ (d k : Nat) (a1 a6 a7 a8 a9 a10 a11 a12 a13 a14 a15 a16 a17 a18 a19 a20 a21 : V), n - k = d → k ≤ n →
    exec T locksteplaw19_SchedFree_l0 ⟨[v, a1, vI n, .one (.ptr 0 0 0 0), .one (.ptr 4 0 0 0), vI k, a6, a7, a8, a9, a10, a11, a12, a13, a14, a15, a16, a17, a18, a19, a20, a21], bSt k, 0, 0⟩ =
      some (.exit 0, ⟨[v, vU, vI n, .one (.ptr 0 0 0 0), .one (.ptr 4 0 0 0), vU, vU, vU, vU, vU, vU, vU, vU, vU, vU, vU, vU, vU, vU, vU, vU, vU], bSt n, 0, 0⟩) := by
  intro d
  induction d with
  | zero =>
    intro k a1 a6 a7 a8 a9 a10 a11 a12 a13 a14 a15 a16 a17 a18 a19 a20 a21 h1 h2
    have hk : k = n := by omega
    subst hk
    rw [locksteplaw19_SchedFree_l0_eq, locksteplaw19_SchedFree_b0]
    simp -implicitDefEqProofs only [go_sem, bSt, Int.lt_irrefl]
  | succ d ih =>
    intro k a1 a6 a7 a8 a9 a10 a11 a12 a13 a14 a15 a16 a17 a18 a19 a20 a21 h1 h2
    have hlk : ((k : Int) < (n : Int)) = True := by simp; omega
    have hw : Go.IntKind.i64.wrap ((k : Int) + 1) = ((k + 1 : Nat) : Int) := by rw [wrap_i64] <;> omega
    have hw2 : Go.IntKind.i64.wrap (2 + (k : Int)) = 2 + (k : Int) := by rw [wrap_i64] <;> omega
    have hw3 : Go.IntKind.u64.wrap (k : Int) = k := by rw [wrap_u64']; omega
    have hlim : k + 1 ≤ LIM := by unfold LIM; omega
    have e : (freeOps k).map ro ++ [ro (fop k)] = (freeOps (k + 1)).map ro := by rw [freeOps_succ]; simp
    have := ih (k + 1) vU vU vU vU vU vU vU vU vU vU vU vU vU vU vU vU vU (by omega) (by omega)
    rw [locksteplaw19_SchedFree_l0_eq, locksteplaw19_SchedFree_b0]
    simp only [bSt, ← e] at this
    simp -implicitDefEqProofs only [go_sem, fop, ro, ei, eu, eI, List.map_nil] at this
    simp -implicitDefEqProofs only [go_sem, bSt, hlk, hw, hw2, hw3, hlim, List.length_map, freeOps_length, this]
end AC

set_option linter.unusedSectionVars false
namespace AC
open Go Go.A Go.A.Lex
theorem least {P : Nat → Prop} : ∀ m, P m → ∃ k, P k ∧ ∀ t, t < k → ¬ P t := by
  intro m
  induction m using Nat.strongRecOn with
  | ind m ih =>
    intro h
    by_cases c : ∃ t, t < m ∧ P t
    · obtain ⟨t, ht, hp⟩ := c
      exact ih t ht hp
    · exact ⟨m, h, fun t ht hp => c ⟨t, ht, hp⟩⟩
theorem free_some (used : List Bool) (h : used.count true < used.length) : ∃ j, j < used.length ∧ used[j]? = some false := by
  by_cases c : ∃ b ∈ used, b = false
  · obtain ⟨b, hb, rfl⟩ := c
    obtain ⟨j, hj, he⟩ := List.getElem_of_mem hb
    exact ⟨j, hj, by rw [List.getElem?_eq_getElem hj, he]⟩
  · have : used.count true = used.length := List.count_eq_length.2 fun b hb => by
      cases b
      · exact absurd ⟨false, hb, rfl⟩ c
      · rfl
    omega
theorem probe_ex (used : List Bool) (n k : Nat) (hu : used.length = n) (hk : k < n) (h : used.count true < n) : ∃ m, (∀ t, t < m → used[(k + t) % n]? = some true) ∧ used[(k + m) % n]? = some false := by
  obtain ⟨j, hj, hf⟩ := free_some used (by omega)
  have hm : ∃ m, used[(k + m) % n]? = some false := by
    by_cases c : k ≤ j
    · refine ⟨j - k, ?_⟩
      rw [show k + (j - k) = j from by omega, Nat.mod_eq_of_lt (by omega)]
      exact hf
    · refine ⟨j + n - k, ?_⟩
      rw [show k + (j + n - k) = j + n from by omega, Nat.add_mod_right, Nat.mod_eq_of_lt (by omega)]
      exact hf
  obtain ⟨m0, h0⟩ := hm
  obtain ⟨m, h1, h2⟩ := least (P := fun m => used[(k + m) % n]? = some false) m0 h0
  refine ⟨m, fun t ht => ?_, h1⟩
  have hlt : (k + t) % n < used.length := by rw [hu]; exact Nat.mod_lt _ (by omega)
  have := h2 t ht
  rw [List.getElem?_eq_getElem hlt] at this ⊢
  cases e : used[(k + t) % n]
  · rw [e] at this; exact absurd rfl this
  · rfl
def iL (L : List Nat) : List Int := L.map fun x : Nat => (x : Int)
def rB (b : Bool) : List C := [.f (.lit (.bool b))]
abbrev gF (n : Nat) : PFunc := oneF [8] 8 (freeOps n) 1
abbrev wSt (n p : Nat) (L : List Nat) (used : List Bool) : Store := [.cells 0 3 [cFunc (gF n)], .tok 4 [0], .tok 6 [n], .tok 1 [0],
  .cells 0 5 [[.ap 1 0 [], .ap 2 0 ((freeOps n).map ro), .f (.lit (.int .i64 0)), .f (.lit (.int .i64 1)), .f (.sl [])]], .tok 1 [p], .tok 1 [L.length], .cells 0 1 (used.map rB)]
section
variable (v : V) (n : Nat) (hn : n ≤ 60)
include hn
theorem free_l1 (p : Nat) (L : List Nat) (used : List Bool) (hu : used.length = n) (i : Nat) : ∀ (m k : Nat) (a1 a4 a5 a11 a12 a13 a14 a15 a16 a17 a18 a19 a20 a21 : V), k < n → (∀ t, t < m → used[(k + t) % n]? = some true) → used[(k + m) % n]? = some false →
    exec T locksteplaw19_SchedFree_l1 ⟨[v, a1, vI n, .one (.ptr 0 0 0 0), a4, a5, .one (.ap 5 0 ((upI p).map ri)), .one (.ap 6 0 ((iL L).map ri)), .one (.own 7 0 0 n), vI i, vI k, a11, a12, a13, a14, a15, a16, a17, a18, a19, a20, a21], wSt n p L used, 0, 0⟩ =
      some (.exit 4, ⟨[v, vU, vI n, .one (.ptr 0 0 0 0), vU, vU, .one (.ap 5 0 ((upI p).map ri)), .one (.ap 6 0 ((iL L).map ri)), .one (.own 7 0 0 n), vI i, vI (((k + m) % n : Nat) : Int), vU, vU, vU, vU, vU, vU, vU, vU, vU, vU, vU], wSt n p L used, 0, 0⟩) := by
  intro m
  induction m with
  | zero =>
    intro k a1 a4 a5 a11 a12 a13 a14 a15 a16 a17 a18 a19 a20 a21 hk h1 h2
    rw [Nat.add_zero, Nat.mod_eq_of_lt hk] at h2 ⊢
    have hg : (used.map rB)[k]? = some [.f (.lit (.bool false))] := by rw [List.getElem?_map, h2]; rfl
    have hlk : ((k : Int) < (n : Int)) = True := by simp; omega
    rw [locksteplaw19_SchedFree_l1_eq, locksteplaw19_SchedFree_b1]
    simp -implicitDefEqProofs only [go_sem, wSt, hg, hlk, Int.natCast_nonneg, Int.toNat_natCast, Nat.zero_add]
  | succ m ih =>
    intro k a1 a4 a5 a11 a12 a13 a14 a15 a16 a17 a18 a19 a20 a21 hk h1 h2
    have h0 := h1 0 (by omega)
    rw [Nat.add_zero, Nat.mod_eq_of_lt hk] at h0
    have hg : (used.map rB)[k]? = some [.f (.lit (.bool true))] := by rw [List.getElem?_map, h0]; rfl
    have hlk : ((k : Int) < (n : Int)) = True := by simp; omega
    have hw : Go.IntKind.i64.wrap ((k : Int) + 1) = ((k + 1 : Nat) : Int) := by rw [wrap_i64] <;> omega
    have hm : ((k + 1 : Nat) : Int).tmod (n : Int) = (((k + 1) % n : Nat) : Int) := by
      rw [Int.tmod_eq_emod_of_nonneg (by omega)]
      exact (Int.natCast_emod _ _).symm
    have hw2 : Go.IntKind.i64.wrap ((((k + 1) % n : Nat)) : Int) = (((k + 1) % n : Nat) : Int) := by
      have := Nat.mod_lt (k + 1) (show 0 < n by omega)
      rw [wrap_i64] <;> omega
    have hn0 : ¬ (n : Int) = 0 := by omega
    have e : ∀ t, ((k + 1) % n + t) % n = (k + (t + 1)) % n := fun t => by rw [Nat.mod_add_mod]; congr 1; omega
    have := ih ((k + 1) % n) vU vU vU vU vU vU vU vU vU vU vU vU vU vU (Nat.mod_lt _ (by omega)) (fun t ht => by rw [e]; exact h1 (t + 1) (by omega)) (by rw [e]; exact h2)
    rw [e] at this
    rw [locksteplaw19_SchedFree_l1_eq, locksteplaw19_SchedFree_b1]
    simp -implicitDefEqProofs only [go_sem, wSt] at this
    simp -implicitDefEqProofs only [go_sem, wSt, hg, hlk, Int.natCast_nonneg, Int.toNat_natCast, Nat.zero_add, hw, hm, hw2, hn0, this]
end
end AC

set_option linter.unusedSectionVars false
namespace AC
open Go Go.A Go.A.Lex
theorem count_set_true (used : List Bool) (k : Nat) (h : used[k]? = some false) : (used.set k true).count true = used.count true + 1 := by
  obtain ⟨hk, hv⟩ := List.getElem?_eq_some_iff.1 h
  rw [List.count_set hk, hv]
  simp
structure LInv (n i : Nat) (L : List Nat) (used : List Bool) : Prop where
  len : L.length = i
  ulen : used.length = n
  cnt : used.count true = i
  mem : ∀ x ∈ L, x < n ∧ used[x]? = some true
  nodup : L.Nodup
theorem LInv.step {n i : Nat} {L : List Nat} {used : List Bool} (h : LInv n i L used) {k : Nat} (hk : k < n) (hf : used[k]? = some false) : LInv n (i + 1) (L ++ [k]) (used.set k true) := by
  refine ⟨by simp [h.len], by rw [List.length_set]; exact h.ulen, by rw [count_set_true _ _ hf, h.cnt], fun x hx => ?_, ?_⟩
  · rw [List.mem_append, List.mem_singleton] at hx
    rcases hx with hx | rfl
    · obtain ⟨a, b⟩ := h.mem x hx
      refine ⟨a, ?_⟩
      rw [List.getElem?_set_ne (fun e => by rw [e, b] at hf; cases hf)]
      exact b
    · exact ⟨hk, by rw [List.getElem?_set_self (by rw [h.ulen]; exact hk)]⟩
  · rw [List.nodup_append]
    refine ⟨h.nodup, by simp, fun x hx y hy => ?_⟩
    rw [List.mem_singleton] at hy
    subst hy
    intro e
    subst e
    rw [(h.mem x hx).2] at hf
    cases hf

def ru8 (x : Int) : List Fz := [.lit (.int .u8 x)]
theorem iL_app (L : List Nat) (k : Nat) : iL (L ++ [k]) = iL L ++ [(k : Int)] := by simp [iL]
theorem iL_length (L : List Nat) : (iL L).length = L.length := by simp [iL]
section
variable (order : List Int) (hor : ∀ x ∈ order, 0 ≤ x ∧ x < 256) (n : Nat) (hon : order.length = n) (hn : n ≤ 60)
include hor hon hn
theorem free_l2 : ∀ (d i : Nat) (L : List Nat) (used : List Bool) (a1 a4 a5 a10 a11 a12 a13 a14 a15 a16 a17 a18 a19 a20 a21 : V), n - i = d → i ≤ n → LInv n i L used →
    ∃ L' used', LInv n n L' used' ∧ exec T locksteplaw19_SchedFree_l2 ⟨[vL (order.map ru8), a1, vI n, .one (.ptr 0 0 0 0), a4, a5, .one (.ap 5 0 ((upI i).map ri)), .one (.ap 6 0 ((iL L).map ri)), .one (.own 7 0 0 n), vI i, a10, a11, a12, a13, a14, a15, a16, a17, a18, a19, a20, a21], wSt n i L used, 0, 0⟩ =
      some (.exit 2, ⟨[vU, vU, vI n, .one (.ptr 0 0 0 0), vU, vU, .one (.ap 5 0 ((upI n).map ri)), .one (.ap 6 0 ((iL L').map ri)), vU, vU, vU, vU, vU, vU, vU, vU, vU, vU, vU, vU, vU, vU], wSt n n L' used', 0, 0⟩) := by
  intro d
  induction d with
  | zero =>
    intro i L used a1 a4 a5 a10 a11 a12 a13 a14 a15 a16 a17 a18 a19 a20 a21 h1 h2 hI
    have hk : i = n := by omega
    subst hk
    refine ⟨L, used, hI, ?_⟩
    rw [locksteplaw19_SchedFree_l2_eq, locksteplaw19_SchedFree_b2]
    simp -implicitDefEqProofs only [go_sem, wSt, Int.lt_irrefl]
  | succ d ih =>
    intro i L used a1 a4 a5 a10 a11 a12 a13 a14 a15 a16 a17 a18 a19 a20 a21 h1 h2 hI
    have hk : i < order.length := by omega
    obtain ⟨x0, x1⟩ := hor _ (List.getElem_mem hk)
    obtain ⟨k0, hk0⟩ : ∃ k0 : Nat, order[i] % (n : Int) = k0 := ⟨(order[i] % (n : Int)).toNat, by have := Int.emod_nonneg order[i] (show (n : Int) ≠ 0 by omega); omega⟩
    have hk0n : k0 < n := by have := Int.emod_lt_of_pos order[i] (show (0 : Int) < n by omega); omega
    obtain ⟨m, p1, p2⟩ := probe_ex used n k0 hI.ulen hk0n (by rw [hI.cnt]; omega)
    have hkn : (k0 + m) % n < n := Nat.mod_lt _ (by omega)
    have hS := hI.step hkn p2
    have hlk : ((i : Int) < (n : Int)) = True := by simp; omega
    have hw : Go.IntKind.i64.wrap ((i : Int) + 1) = ((i + 1 : Nat) : Int) := by rw [wrap_i64] <;> omega
    have hwx : Go.IntKind.i64.wrap order[i] = order[i] := by rw [wrap_i64] <;> omega
    have hm : order[i].tmod (n : Int) = (k0 : Int) := by rw [Int.tmod_eq_emod_of_nonneg x0]; exact hk0
    have hwk : Go.IntKind.i64.wrap (k0 : Int) = k0 := by rw [wrap_i64] <;> omega
    have hn0 : ¬ (n : Int) = 0 := by omega
    have hl := fun a1 a4 a5 a11 a12 a13 a14 a15 a16 a17 a18 a19 a20 a21 => free_l1 (vL (order.map ru8)) n hn (i + 1) L used hI.ulen i m k0 a1 a4 a5 a11 a12 a13 a14 a15 a16 a17 a18 a19 a20 a21 hk0n p1 p2
    have hlim : i + 1 ≤ LIM := by unfold LIM; omega
    have e1 : (upI i).map ri ++ [[.lit (.int .i64 (i : Int))]] = (upI (i + 1)).map ri := by rw [upI_succ]; simp [ri, ei]
    have e2 : (iL L).map ri ++ [[.lit (.int .i64 (((k0 + m) % n : Nat) : Int))]] = (iL (L ++ [(k0 + m) % n])).map ri := by rw [iL_app]; simp [ri, ei]
    have hset : (used.map rB).set ((k0 + m) % n) [.f (.lit (.bool true))] = (used.set ((k0 + m) % n) true).map rB := by rw [List.map_set]; rfl
    have hget : (used.map rB)[(k0 + m) % n]? = some [.f (.lit (.bool false))] := by rw [List.getElem?_map, p2]; rfl
    have hul : (used.map rB).length = n := by rw [List.length_map]; exact hI.ulen
    have hkl : (((((k0 + m) % n : Nat)) : Int) < (n : Int)) = True := eq_true (Int.ofNat_lt.2 hkn)
    have hkl2 : (k0 + m) % n + 1 ≤ n := by omega
    have hLl : L.length = i := hI.len
    obtain ⟨L', used', hI', he⟩ := ih (i + 1) (L ++ [(k0 + m) % n]) (used.set ((k0 + m) % n) true) vU vU vU vU vU vU vU vU vU vU vU vU vU vU vU (by omega) (by omega) hS
    refine ⟨L', used', hI', ?_⟩
    rw [← he]
    have hll : (L ++ [(k0 + m) % n]).length = i + 1 := by simp [hLl]
    rw [locksteplaw19_SchedFree_l2_eq, locksteplaw19_SchedFree_b2]
    simp -implicitDefEqProofs only [go_sem, wSt, ← e1, hLl] at hl
    simp -implicitDefEqProofs only [go_sem, wSt, hlk, getr hk, ru8, hw, hwx, hm, hwk, hn0, hl, hlim, hLl, hll, upI_length, iL_length, List.length_map, hget, hset, hul, hkl, hkl2, ← e1, ← e2, Int.natCast_nonneg, Int.toNat_natCast, Nat.zero_add]
end
end AC

set_option linter.unusedSectionVars false
namespace AC
open Go Go.A Go.A.Lex
theorem line_cst8 (d n : Int) (h1 : 1 ≤ d) (h2 : d ≤ 1023) (h3 : 0 ≤ n) (h4 : n < 256) : LineOp (8, 1) ⟨0, 8, 1, d, [], n⟩ d := by
  have hc : cutW n 8 = n := by
    unfold cutW
    rw [if_pos (show mayW 8 = true from rfl)]
    exact Int.emod_eq_of_lt h3 h4
  have h7 : stores 0 = false := rfl
  have hm : mayO ⟨0, 8, 1, d, [], n⟩ = true := by
    have h5 : value d = true := by simp [value, h1, h2]
    have h6 : shapeS 8 1 = true := rfl
    simp [mayO, takesS, hc, h5, h6, h7]
  refine ⟨hm, ?_, rfl, ?_, ?_, by simp, ⟨⟨h3, by show n < 18446744073709551616; omega⟩, by simp⟩⟩
  · have : num d = true := by simp only [num, Bool.and_eq_true, decide_eq_true_eq]; omega
    have n0 : num 0 = true := rfl
    have n1 : num 1 = true := rfl
    have n8 : num 8 = true := rfl
    simp [mayOp, this, n0, n1, n8, listS]
  · rw [givesO, hm]
    simp [h7]
  · rw [takesO, if_pos hm]
    simp [takesS]
theorem line_free : ∀ (m j : Nat), m + j ≤ 60 → Line (8, 1) (2 + j) ((List.range' j m).map fop)
  | 0, _, _ => trivial
  | m + 1, j, h => by
    have e : (2 : Int) + j + 1 = 2 + ((j + 1 : Nat) : Int) := by omega
    refine ⟨line_cst8 _ _ (by omega) (by omega) (by omega) (by omega), ?_⟩
    rw [e]
    exact line_free m (j + 1) (by omega)
abbrev fB (n : Nat) : PBlock := ⟨[], freeOps n, 0, 1, []⟩
theorem free_right (n : Nat) (hn : n ≤ 60) : okF (gF n) ∧ lookS (gF n) 2 [-1] = 0 := by
  have hl : Line (8, 1) 2 (freeOps n) := by
    have := line_free n 0 (by omega)
    rw [← List.range_eq_range'] at this
    exact this
  obtain ⟨a, b, _⟩ := line_right 8 rfl (freeOps n) 1 hl (by rw [freeOps_length]; omega) (by omega) (by omega)
  exact ⟨a, b⟩
theorem free_quiet (n : Nat) : ∀ o ∈ (fB n).ops, quiet o := fun o ho => by
  obtain ⟨i, _, rfl⟩ := List.mem_map.1 ho
  exact ⟨rfl, rfl, by simp only [fop]; omega⟩
theorem pick_free (n : Nat) (x : Nat) (hx : x < n) : pickO (freeOps n) (x : Int) = fop x := by
  simp [pickO, freeOps, hx]
abbrev gOut (n : Nat) (L : List Nat) : PFunc := ⟨[8], 8, [⟨[], (iL L).map (pickO (freeOps n)), 0, 1, []⟩]⟩
section
variable (n : Nat) (hn : n ≤ 60) (L : List Nat) (used : List Bool) (hI : LInv n n L used)
include hn hI
theorem free_l3 : ∀ (d i : Nat) (a0 a1 a4 a5 a6 a8 a9 a10 a12 a14 a15 a16 a17 a18 a19 a20 a21 : V), n - i = d → i ≤ n →
    exec T locksteplaw19_SchedFree_l3 ⟨[a0, a1, vI n, .one (.ptr 0 0 0 0), a4, a5, a6, .one (.ap 6 0 ((iL L).map ri)), a8, a9, a10, .one (.ptr 8 0 0 0), a12, vI i, a14, a15, a16, a17, a18, a19, a20, a21], wSt n n L used ++ [.cells 0 3 [cFunc (gOut n L)]], 0, 0⟩ =
      some (.exit 6, ⟨[vU, vU, vU, vU, vU, vU, vU, vU, vU, vU, vU, vU, vU, vU, vU, vU, vU, vU, vU, vU, vU, vU], wSt n n L used ++ [.cells 0 3 [cFunc (gOut n L)]], 0, 0⟩) := by
  intro d
  obtain ⟨r1, r2⟩ := free_right n hn
  have hb : okB (fB n) := r1.block _ (by simp [oneF])
  have hT := tree_one [8] 8 (freeOps n) 1
  have hnl : n = (fB n).ops.length := (freeOps_length n).symm
  have hD := Depth_call (fB n) hb (free_quiet n) n hnl (by omega) [8] 8 [-1] r1 hT r2
  induction d with
  | zero =>
    intro i a0 a1 a4 a5 a6 a8 a9 a10 a12 a14 a15 a16 a17 a18 a19 a20 a21 h1 h2
    have hk : i = n := by omega
    subst hk
    rw [locksteplaw19_SchedFree_l3_eq, locksteplaw19_SchedFree_b3]
    simp -implicitDefEqProofs only [go_sem, wSt, Int.lt_irrefl]
  | succ d ih =>
    intro i a0 a1 a4 a5 a6 a8 a9 a10 a12 a14 a15 a16 a17 a18 a19 a20 a21 h1 h2
    have hL := hI.len
    have hk : i < L.length := by omega
    obtain ⟨m1, _⟩ := hI.mem _ (List.getElem_mem hk)
    have hH := Hangs_call (fB n) hb (free_quiet n) n hnl (by omega) [8] 8 [-1] r1 hT r2 i (by omega)
    have g1 : ((iL L).map ri)[i]? = some [.lit (.int .i64 (L[i] : Int))] := by simp [iL, hk, ri, ei]
    have g2 : (((iL L).map (pickO (freeOps n))).map ro)[i]? = some (ro (fop L[i])) := by
      simp only [iL, List.map_map, List.getElem?_map, List.getElem?_eq_getElem hk, Option.map_some, Function.comp]
      rw [pick_free n _ m1]
    have g3 : ((List.replicate n (0 : Int)).map ri)[i]? = some [.lit (.int .i64 0)] := by
      rw [List.getElem?_map, List.getElem?_replicate, if_pos (by omega)]
      rfl
    have hlk : ((i : Int) < (n : Int)) = True := by simp; omega
    have hw : Go.IntKind.i64.wrap ((i : Int) + 1) = ((i + 1 : Nat) : Int) := by rw [wrap_i64] <;> omega
    have hw2 : Go.IntKind.i64.wrap (2 + (L[i] : Int)) = 2 + (L[i] : Int) := by rw [wrap_i64] <;> omega
    have := ih (i + 1) vU vU vU vU vU vU vU vU vU vU vU vU vU vU vU vU vU (by omega) (by omega)
    rw [locksteplaw19_SchedFree_l3_eq, locksteplaw19_SchedFree_b3]
    simp -implicitDefEqProofs only [go_sem, wSt, oneF, List.map_cons, List.map_nil, rb, ei, eI] at this hH hD
    simp -implicitDefEqProofs only [go_sem, ro, fop, ei, eu, eI, List.map_nil] at g2
    simp -implicitDefEqProofs only [go_sem, wSt, oneF, List.map_cons, List.map_nil, rb, ei, eI, hlk, hw, hw2, g1, g2, g3, hH, hD, Int.natCast_nonneg, Int.toNat_natCast, this]
end
end AC

set_option linter.unusedSectionVars false
namespace AC
open Go Go.A Go.A.Lex
set_option maxRecDepth 10000 in
theorem Free_call (hA : call T F.locksteplaw19_awake [] [] = some (vB true, [])) (order : List Int) (hor : ∀ x ∈ order, 0 ≤ x ∧ x < 256) (hl : order.length ≤ 9223372036854775807) :
    call T F.locksteplaw19_SchedFree [vL (order.map ru8)] [] = some (vB true, []) := by
  rw [call_eq (fn := a_locksteplaw19_SchedFree) rfl]
  obtain ⟨n, hon⟩ : ∃ n, order.length = n := ⟨_, rfl⟩
  have hol : (order.length : Int) = n := by rw [hon]
  by_cases hn60 : (60 : Int) < (n : Int)
  · simp -implicitDefEqProofs only [go_sem, a_locksteplaw19_SchedFree, hA, List.length_map, hol, hn60]
  have hn : n ≤ 60 := by omega
  obtain ⟨r1, r2⟩ := free_right n hn
  have hb : okB (fB n) := r1.block _ (by simp [oneF])
  have hT := tree_one [8] 8 (freeOps n) 1
  have hnl : n = (fB n).ops.length := (freeOps_length n).symm
  have q0 := fun a1 a6 a7 a8 a9 a10 a11 a12 a13 a14 a15 a16 a17 a18 a19 a20 a21 => free_l0 (vL (order.map ru8)) n hn n 0 a1 a6 a7 a8 a9 a10 a11 a12 a13 a14 a15 a16 a17 a18 a19 a20 a21 (by omega) (by omega)
  have hI0 : LInv n 0 [] (List.replicate n false) := ⟨rfl, by simp, by simp [List.count_replicate], fun x hx => by simp at hx, by simp⟩
  obtain ⟨L, used, hI, q2⟩ := free_l2 order hor n hon hn n 0 [] (List.replicate n false) vU (.one (.ptr 4 0 0 0)) vU vU vU vU vU vU vU vU vU vU vU vU vU (by omega) (by omega) hI0
  have hLl : (iL L).length = n := by rw [iL_length]; exact hI.len
  have hLr : ∀ x ∈ iL L, 0 ≤ x ∧ x < (n : Int) := fun x hx => by
    obtain ⟨y, hy, rfl⟩ := List.mem_map.1 hx
    have := (hI.mem y hy).1
    omega
  have hLd : (iL L).Nodup := by
    exact List.pairwise_map.2 (List.Pairwise.imp (fun {a b} h e => h (by omega)) hI.nodup)
  have hP := Put_call (fB n) hb (free_quiet n) n hnl (by omega) [8] 8 [-1] r1 hT r2 (iL L) hLl hLr hLd
  have hD := Depth_call (fB n) hb (free_quiet n) n hnl (by omega) [8] 8 [-1] r1 hT r2
  have hFl := Flat_call (fB n) hb (free_quiet n) n hnl (by omega) [8] 8 [-1] r1 hT r2
  have hIn := Ints_same (upI n) (by rw [upI_length]; omega)
  have q3 := fun a0 a1 a4 a5 a6 a8 a9 a10 a12 a14 a15 a16 a17 a18 a19 a20 a21 => free_l3 n hn L used hI n 0 a0 a1 a4 a5 a6 a8 a9 a10 a12 a14 a15 a16 a17 a18 a19 a20 a21 (by omega) (by omega)
  have f0 : freeOps 0 = [] := rfl
  have u0 : upI 0 = [] := rfl
  have i0 : iL [] = [] := rfl
  have b0 : (List.replicate n false).map rB = List.replicate n [.f (.lit (.bool false))] := by rw [List.map_replicate]; rfl
  have hOl : ((iL L).map (pickO (freeOps n))).length = n := by rw [List.length_map, hLl]
  have hlim2 : n ≤ LIM := by unfold LIM; omega
  simp only [Int.natCast_zero] at q0 q2 q3
  have hlim : ((n : Int) ≤ (LIM : Int)) = True := eq_true (by unfold LIM; omega)
  simp -implicitDefEqProofs only [go_sem, bSt, wSt, oneF, List.map_cons, List.map_nil, rb, ri, ei, eI, f0, u0, i0, b0] at q0 q2 q3 hP hD hFl hIn
  simp -implicitDefEqProofs only [go_sem, a_locksteplaw19_SchedFree, hA, List.length_map, hol, hn60, q0, bSt, wSt, oneF, List.map_cons, List.map_nil, rb, ri, ei, eI, show ((1 : Nat) : Int) = 1 from rfl, hlim, hlim2, hP, hD, hFl, hIn, q2, q3, hLl, hOl, List.length_replicate, Int.natCast_nonneg, Int.toNat_natCast]
end AC

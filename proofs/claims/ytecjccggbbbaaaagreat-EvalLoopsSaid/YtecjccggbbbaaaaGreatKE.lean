import Derived.Test.YtecjccggbbbaaaaGreatKD
import Derived.Test.YtecjccggbbbaaaaGreatData
set_option linter.unusedVariables false
set_option linter.unusedSimpArgs false
set_option linter.unusedSectionVars false
namespace AC
open Go Go.A Go.A.Lex
/-! slices.Reverse of a row. -/
def rvK (l : List Int) (k : Nat) : List Int := (List.range l.length).map fun j => if j < k ∨ l.length - k ≤ j then l.getD (l.length - 1 - j) 0 else l.getD j 0
theorem rvK_length (l : List Int) (k : Nat) : (rvK l k).length = l.length := by simp [rvK]
theorem rvK_get (l : List Int) (k j : Nat) (h : j < l.length) : (rvK l k)[j]? = some (if j < k ∨ l.length - k ≤ j then l.getD (l.length - 1 - j) 0 else l.getD j 0) := by simp [rvK, h]
theorem rvK_zero (l : List Int) : rvK l 0 = l := by
  apply List.ext_getElem?
  intro j
  by_cases h : j < l.length
  · rw [rvK_get l 0 j h, if_neg (by omega)]
    simp [h]
  · rw [List.getElem?_eq_none (by rw [rvK_length]; omega), List.getElem?_eq_none (by omega)]
theorem rvK_end (l : List Int) (k : Nat) (h : l.length ≤ 2 * k + 1) : rvK l k = l.reverse := by
  apply List.ext_getElem?
  intro j
  by_cases hj : j < l.length
  · rw [rvK_get l k j hj, List.getElem?_reverse hj]
    have h2 : l.length - 1 - j < l.length := by omega
    by_cases c : j < k ∨ l.length - k ≤ j
    · rw [if_pos c]
      simp [h2]
    · rw [if_neg c]
      have : l.length - 1 - j = j := by omega
      rw [this]
      simp [hj]
  · rw [List.getElem?_eq_none (by rw [rvK_length]; omega), List.getElem?_eq_none (by simp; omega)]
theorem rvK_step (l : List Int) (k : Nat) (h : 2 * k + 1 < l.length) : ((rvK l k).set k (l.getD (l.length - 1 - k) 0)).set (l.length - 1 - k) (l.getD k 0) = rvK l (k + 1) := by
  apply List.ext_getElem?
  intro j
  by_cases hj : j < l.length
  · rw [rvK_get l (k + 1) j hj, List.getElem?_set, List.getElem?_set, rvK_get l k j hj]
    simp only [List.length_set, rvK_length]
    by_cases c1 : l.length - 1 - k = j
    · rw [if_pos c1, if_pos (by omega), if_pos (by omega)]
      have : l.length - 1 - j = k := by omega
      rw [this]
    · rw [if_neg c1]
      by_cases c2 : k = j
      · rw [if_pos c2, if_pos (by omega), if_pos (by omega), c2]
      · rw [if_neg c2]
        by_cases c3 : j < k ∨ l.length - k ≤ j
        · rw [if_pos c3, if_pos (by omega)]
        · rw [if_neg c3, if_neg (by omega)]
  · rw [List.getElem?_eq_none (by simp [rvK_length]; omega), List.getElem?_eq_none (by rw [rvK_length]; omega)]
theorem cell_get {l : List Int} {j : Nat} {x : Int} (h : l[j]? = some x) : (l.map cellI)[j]? = some [.f (.lit (.int .i64 x))] := by simp [h, cellI]
theorem Reverse_loop (σ : Store) (id ver : Nat) (l : List Int) (hl : l.length ≤ 4294967296) (hid : id < σ.length) : ∀ (d k : Nat) (a3 : V), l.length - 2 * k ≤ d → 2 * k ≤ l.length →
    exec T slices_Reverse_int_l0 ⟨[.one (.own id ver 0 l.length), vI k, vI ((l.length : Int) - 1 - k), a3], σ.set id (.cells ver 1 ((rvK l k).map cellI)), σ.length, σ.length⟩ =
      some (.exit 0, ⟨[vU, vU, vU, vU], σ.set id (.cells ver 1 (l.reverse.map cellI)), σ.length, σ.length⟩) := by
  have hend : ∀ k : Nat, ¬ ((k : Int) < (l.length : Int) - 1 - k) → 2 * k ≤ l.length → ∀ (a3 : V),
    exec T slices_Reverse_int_l0 ⟨[.one (.own id ver 0 l.length), vI k, vI ((l.length : Int) - 1 - k), a3], σ.set id (.cells ver 1 ((rvK l k).map cellI)), σ.length, σ.length⟩ =
      some (.exit 0, ⟨[vU, vU, vU, vU], σ.set id (.cells ver 1 (l.reverse.map cellI)), σ.length, σ.length⟩) := by
    intro k hc hk a3
    rw [slices_Reverse_int_l0_eq, slices_Reverse_int_b0, rvK_end l k (by omega)]
    simp -implicitDefEqProofs only [go_sem, hc, List.length_set]
  intro d
  induction d with
  | zero =>
    intro k a3 h1 h2
    exact hend k (by omega) h2 _
  | succ d ih =>
    intro k a3 h1 h2
    by_cases hc : (k : Int) < (l.length : Int) - 1 - k
    · have hk : k < l.length := by omega
      have hk2 : l.length - 1 - k < l.length := by omega
      have g1 := cell_get (rvK_get l k k hk)
      have g2 := cell_get (rvK_get l k (l.length - 1 - k) hk2)
      rw [if_neg (by omega)] at g1 g2
      have e1 : ((l.length : Int) - 1 - k).toNat = l.length - 1 - k := by omega
      have e2 : (0 : Int) ≤ (l.length : Int) - 1 - k := by omega
      have e3 : ((l.length : Int) - 1 - k < (l.length : Int)) = True := by simp; omega
      have w1 : Go.IntKind.i64.wrap ((k : Int) + 1) = ((k + 1 : Nat) : Int) := by rw [wrap_i64] <;> omega
      have w2 : Go.IntKind.i64.wrap ((l.length : Int) - 1 - k - 1) = (l.length : Int) - 1 - ((k + 1 : Nat) : Int) := by rw [wrap_i64] <;> omega
      have hs : ((l.map cellI).length) = l.length := by simp
      have st := congrArg (List.map cellI) (rvK_step l k (by omega))
      rw [List.map_set, List.map_set] at st
      have := ih (k + 1) vU (by omega) (by omega)
      rw [← st] at this
      have hne : ¬ l.length - 1 - k = k := by omega
      have g2' : ((List.map cellI (rvK l k)).set k (cellI (l.getD (l.length - 1 - k) 0)))[l.length - 1 - k]? = some [.f (.lit (.int .i64 (l.getD (l.length - 1 - k) 0)))] := by
        rw [List.getElem?_set_ne (by omega)]
        exact g2
      rw [slices_Reverse_int_l0_eq, slices_Reverse_int_b0]
      simp -implicitDefEqProofs only [go_sem, cellI] at this g2'
      simp -implicitDefEqProofs only [go_sem, hc, e1, e2, e3, ilt hk, Int.natCast_nonneg, Int.toNat_natCast, List.getElem?_set_self hid, g1, g2, g2', List.set_set, List.length_set, w1, w2, this]
    · exact hend k hc h2 _
theorem Reverse_call (σ : Store) (id ver : Nat) (l : List Int) (hl : l.length ≤ 4294967296) (hσ : σ[id]? = some (.cells ver 1 (l.map cellI))) (n : Nat) (hn : n = l.length) :
    call T F.slices_Reverse_int [.one (.own id ver 0 n)] σ = some (.tup [], σ.set id (.cells ver 1 (l.reverse.map cellI))) := by
  subst hn
  rw [call_eq (fn := a_slices_Reverse_int) rfl]
  have hid : id < σ.length := (List.getElem?_eq_some_iff.1 hσ).1
  have h := fun a3 => Reverse_loop σ id ver l hl hid l.length 0 a3 (by omega) (by omega)
  have hs : σ.set id (.cells ver 1 (l.map cellI)) = σ := by
    apply List.ext_getElem?
    intro j
    rw [List.getElem?_set]
    by_cases e : id = j
    · subst e; rw [if_pos rfl, if_pos hid, hσ]
    · rw [if_neg e]
  rw [rvK_zero, hs] at h
  simp only [Int.natCast_zero, Int.sub_zero] at h
  have w : Go.IntKind.i64.wrap ((l.length : Int) - 1) = (l.length : Int) - 1 := by rw [wrap_i64] <;> omega
  simp -implicitDefEqProofs only [go_sem] at h
  simp -implicitDefEqProofs only [go_sem, a_slices_Reverse_int, w, h, List.length_set]
end AC

namespace AC
open Go Go.A Go.A.Lex
theorem n64 : ((64 : Nat) : Int) = 64 := rfl
attribute [go_sem] n64
def cB (b : Bool) : C := .f (.lit (.bool b))
def cN (n : Nat) : C := .f (.lit (.int .i64 n))
/-- From a place in a block's ways on: the first that was not seen, and how far one came. -/
def scan (seen : List Bool) : List Int → Nat → Option (Int × Nat)
  | [], _ => none
  | y :: r, j => if seen.getD y.toNat false = true then scan seen r (j + 1) else some (y, j + 1)
section
variable (succ pred : List (List Int)) (hn : succ.length ≤ 64) (hs : ∀ l ∈ succ, l.length ≤ 4294967296) (hr : ∀ l ∈ succ, ∀ y ∈ l, 0 ≤ y ∧ y < (succ.length : Int))
abbrev obG : Ob := .cells 0 2 [[.f (.sl (succ.map rl)), .f (.sl (pred.map rl))]]
abbrev stO (seen : List Bool) (next : List Nat) (vo : Nat) (out : List Int) (vs : Nat) (row : List Int) : Store :=
  [obG succ pred, .cells 0 64 [seen.map cB], .cells 0 64 [next.map cN], .cells vo 1 (out.map cellI), .cells vs 1 (row.map cellI)]
include hn hs hr
theorem scan_l0 (X : Nat) (hX : X < succ.length) (seen : List Bool) (hseen : seen.length = 64) (vo : Nat) (out : List Int) (vs : Nat) (row : List Int) (m : Nat) (hm : m ≤ row.length) (hm1 : m + 1 ≤ 4294967296) : ∀ (d nx : Nat) (next : List Nat) (a0 a1 a3 a9 a10 a11 a12 a13 : V), next.length = 64 → next[X]? = some nx → succ[X].length - nx = d → nx ≤ succ[X].length →
    exec T graph_Order_l0 ⟨[a0, a1, .one (.ptr 0 0 0 0), a3, .one (.ptr 1 0 0 0), .one (.ptr 2 0 0 0), .one (.own 3 vo 0 out.length), .one (.own 4 vs 0 m), vI X, a9, a10, a11, a12, a13], stO succ pred seen next vo out vs row, 0, 0⟩ =
      some (match scan seen (succ[X].drop nx) nx with
        | none => (.exit 0, ⟨[vU, vU, .one (.ptr 0 0 0 0), vU, .one (.ptr 1 0 0 0), .one (.ptr 2 0 0 0), .one (.own 3 vo 0 out.length), .one (.own 4 vs 0 m), vI X, vU, vU, vU, vU, vU], stO succ pred seen (next.set X succ[X].length) vo out vs row, 0, 0⟩)
        | some (y, j) => (.goto 0, ⟨[vU, vU, .one (.ptr 0 0 0 0), vU, .one (.ptr 1 0 0 0), .one (.ptr 2 0 0 0), .one (.own 3 vo 0 out.length), .one (.own 4 (vs + 1) 0 (m + 1)), vU, vU, vU, vU, vU, vU], stO succ pred (seen.set y.toNat true) (next.set X j) vo out (vs + 1) (row.take m ++ [y]), 0, 0⟩)) := by
  intro d
  have hX64 : X < 64 := by omega
  have hXi : ((X : Int) < 64) = True := by simp; omega
  have hsX := hs _ (List.getElem_mem hX)
  induction d with
  | zero =>
    intro nx next a0 a1 a3 a9 a10 a11 a12 a13 hnl hnx h1 h2
    have hk : nx = succ[X].length := by omega
    subst hk
    have hg : (next.map cN)[X]? = some (cN succ[X].length) := by simp [hnx]
    have hset : next.set X succ[X].length = next := by
      apply List.ext_getElem?
      intro j
      rw [List.getElem?_set]
      by_cases e : X = j
      · subst e; rw [if_pos rfl, if_pos (by omega), hnx]
      · rw [if_neg e]
    rw [graph_Order_l0_eq, graph_Order_b0, hset]
    simp -implicitDefEqProofs only [go_sem, stO, obG, getr hX, rl, hXi, Int.natCast_nonneg, Int.toNat_natCast, Nat.mul_one, hg, cN, Int.lt_irrefl, List.drop_length, scan]
  | succ d ih =>
    intro nx next a0 a1 a3 a9 a10 a11 a12 a13 hnl hnx h1 h2
    have hk : nx < succ[X].length := by omega
    have hd : succ[X].drop nx = succ[X][nx] :: succ[X].drop (nx + 1) := List.drop_eq_getElem_cons hk
    obtain ⟨y0, y1⟩ := hr _ (List.getElem_mem hX) _ (List.getElem_mem hk)
    have hgy : (succ[X].map ri)[nx]? = some (ri succ[X][nx]) := getr hk
    generalize succ[X][nx] = y at *
    obtain ⟨Y, rfl⟩ : ∃ Y : Nat, y = Y := ⟨y.toNat, by omega⟩
    have hY64 : Y < 64 := by omega
    have hYi : ((Y : Int) < 64) = True := by simp; omega
    have hg : (next.map cN)[X]? = some (cN nx) := by simp [hnx]
    have hov := put_set (e := next.map cN) (k := X) (.f (.lit (.int .i64 ((nx + 1 : Nat) : Int)))) (by simp; omega)
    have hcs : C.f (.lit (.int .i64 ((nx + 1 : Nat) : Int))) = cN (nx + 1) := rfl
    have hov2 : (next.map cN).set X (C.f (.lit (.int .i64 ((nx + 1 : Nat) : Int)))) = (next.set X (nx + 1)).map cN := by rw [hcs, List.map_set]
    rw [hov2] at hov
    have hle := lt_leT (show X < next.length by omega)
    have hsy : (seen.map cB)[Y]? = some (cB (seen.getD Y false)) := by
      have : Y < seen.length := by omega
      simp [this]
    have hovs := put_set (e := seen.map cB) (k := Y) (.f (.lit (.bool true))) (by simp; omega)
    have hovs2 : (seen.map cB).set Y (C.f (.lit (.bool true))) = (seen.set Y true).map cB := by rw [List.map_set]; rfl
    rw [hovs2] at hovs
    have hles := lt_leT (show Y < seen.length by omega)
    have hw : Go.IntKind.i64.wrap ((nx : Int) + 1) = ((nx + 1 : Nat) : Int) := wrap_succ hk hsX
    have hg2 : ((next.set X (nx + 1)).map cN)[X]? = some (cN (nx + 1)) := by simp [hnl, hX64]
    have hlim : 0 < m + 1 ∧ m + 1 ≤ LIM := ⟨by omega, by unfold LIM; omega⟩
    rw [graph_Order_l0_eq, graph_Order_b0, hd, scan]
    rw [Int.toNat_natCast]
    cases e : seen.getD Y false
    · rw [e] at hsy
      have er : (row.map cellI).take m ++ [[C.f (.lit (.int .i64 (Y : Int)))]] = (row.take m ++ [(Y : Int)]).map cellI := by simp [cellI, List.map_take]
      simp -implicitDefEqProofs only [go_sem, stO, obG, getr hX, rl, hXi, Int.natCast_nonneg, Int.toNat_natCast, Nat.mul_one, hg, cN, ilt hk, hgy, ri, hYi, hw, hov, hle, hg2, hsy, cB, hovs, hles, hlim, er]
    · rw [e] at hsy
      have := ih (nx + 1) (next.set X (nx + 1)) vU vU vU vU vU vU vU vU (by simpa using hnl) (by simp [hnl, hX64]) (by omega) (by omega)
      simp -implicitDefEqProofs only [go_sem, stO, obG, List.set_set] at this
      simp -implicitDefEqProofs only [go_sem, stO, obG, getr hX, rl, hXi, Int.natCast_nonneg, Int.toNat_natCast, Nat.mul_one, hg, cN, ilt hk, hgy, ri, hYi, hw, hov, hle, hg2, hsy, cB, this]
end
end AC

namespace AC
open Go Go.A Go.A.Lex
/-- A walk's state: what was seen, how far each block's ways on were gone through, what was left, and the way to where one is (the last one first). -/
structure DF where
  seen : List Bool
  next : List Nat
  out : List Int
  stk : List Int
def lenAt (succ : List (List Int)) (x : Int) : Nat := (succ.getD x.toNat []).length
def scanAt (succ : List (List Int)) (d : DF) (x : Int) : Option (Int × Nat) := scan d.seen ((succ.getD x.toNat []).drop (d.next.getD x.toNat 0)) (d.next.getD x.toNat 0)
def dfs (succ : List (List Int)) : Nat → DF → Option (List Int)
  | 0, _ => none
  | k + 1, d => match d.stk with
    | [] => none
    | x :: s => match scanAt succ d x with
      | some (y, j) => dfs succ k ⟨d.seen.set y.toNat true, d.next.set x.toNat j, d.out, y :: x :: s⟩
      | none => match s with
        | [] => some (d.out ++ [x])
        | _ :: _ => dfs succ k ⟨d.seen, d.next.set x.toNat (lenAt succ x), d.out ++ [x], s⟩
structure DInv (succ : List (List Int)) (d : DF) : Prop where
  seen : d.seen.length = 64
  next : d.next.length = 64
  le : ∀ X, X < succ.length → d.next.getD X 0 ≤ (succ.getD X []).length
  stk : ∀ x ∈ d.stk, 0 ≤ x ∧ x < (succ.length : Int)
theorem scan_le {seen : List Bool} : ∀ {l : List Int} {k : Nat} {y : Int} {j : Nat}, scan seen l k = some (y, j) → k < j ∧ j ≤ k + l.length ∧ y ∈ l
  | [], _, _, _, h => by simp [scan] at h
  | z :: r, k, y, j, h => by
    simp only [scan] at h
    split at h
    · have := scan_le h
      simp only [List.length_cons, List.mem_cons]
      exact ⟨by omega, by omega, .inr this.2.2⟩
    · simp only [Option.some.injEq, Prod.mk.injEq] at h
      obtain ⟨rfl, rfl⟩ := h
      simp
attribute [go_sem] Option.any_some
def ordRest : Go.A.Code := graph_Order_s1.p2.p2.p2.p2.p2.p2.p2
theorem ord_r1 : graph_Order_r1 = .seq .skip ordRest := rfl
theorem getD_set_self {α : Type} {l : List α} {i : Nat} (v d : α) (h : i < l.length) : (l.set i v).getD i d = v := by simp [h]
theorem getD_set_ne {α : Type} {l : List α} {i j : Nat} (v d : α) (h : i ≠ j) : (l.set i v).getD j d = l.getD j d := by simp [List.getElem?_set_ne h]
section
variable (succ pred : List (List Int)) (hn : succ.length ≤ 64) (hs : ∀ l ∈ succ, l.length ≤ 4294967296) (hr : ∀ l ∈ succ, ∀ y ∈ l, 0 ≤ y ∧ y < (succ.length : Int))
include hn hs hr
theorem DInv_set {d : DF} (hd : DInv succ d) {x : Int} (hx : 0 ≤ x ∧ x < (succ.length : Int)) {j : Nat} (hj : j ≤ (succ.getD x.toNat []).length) : ∀ X, X < succ.length → (d.next.set x.toNat j).getD X 0 ≤ (succ.getD X []).length := by
  intro X hX
  have h64 := hd.next
  by_cases e : x.toNat = X
  · subst e
    rw [getD_set_self _ _ (by omega)]
    exact hj
  · rw [getD_set_ne _ _ e]
    exact hd.le X hX
theorem round_push (d : DF) (stale : List Int) (vo vs : Nat) (X : Nat) (s : List Int) (y : Int) (j : Nat) (a0 a1 a3 a8 a9 a10 a11 a12 a13 : V) (hd : DInv succ d) (hX : X < succ.length) (hb1 : s.length + 2 ≤ 4294967296) (hb2 : d.out.length + 1 ≤ 4294967296) (hscan : scanAt succ d X = some (y, j)) :
    exec T ordRest ⟨[a0, a1, .one (.ptr 0 0 0 0), a3, .one (.ptr 1 0 0 0), .one (.ptr 2 0 0 0), .one (.own 3 vo 0 d.out.length), .one (.own 4 vs 0 (s.length + 1)), a8, a9, a10, a11, a12, a13], stO succ pred d.seen d.next vo d.out vs (((X : Int) :: s).reverse ++ stale), 0, 0⟩ =
      some (.goto 0, ⟨[vU, vU, .one (.ptr 0 0 0 0), vU, .one (.ptr 1 0 0 0), .one (.ptr 2 0 0 0), .one (.own 3 vo 0 d.out.length), .one (.own 4 (vs + 1) 0 (s.length + 2)), vU, vU, vU, vU, vU, vU], stO succ pred (d.seen.set y.toNat true) (d.next.set X j) vo d.out (vs + 1) ((y :: (X : Int) :: s).reverse ++ []), 0, 0⟩) := by
  have hnl := hd.next
  have hgX : succ.getD X [] = succ[X] := by simp [hX]
  have hnx : d.next[X]? = some (d.next.getD X 0) := by
    have : X < d.next.length := by omega
    simp [this]
  have hle := hd.le X hX
  rw [hgX] at hle
  have hl0 := fun a0 a1 a3 a9 a10 a11 a12 a13 => scan_l0 succ pred hn hs hr X hX d.seen hd.seen vo d.out vs (((X : Int) :: s).reverse ++ stale) (s.length + 1) (by simp only [List.length_append, List.length_reverse, List.length_cons, List.length_nil]; omega) (by first | omega | (simp only [List.length_cons, List.length_nil] at hb1 ⊢; omega)) _ (d.next.getD X 0) d.next a0 a1 a3 a9 a10 a11 a12 a13 hnl hnx rfl hle
  have hsc : scanAt succ d (X : Int) = scan d.seen (succ[X].drop (d.next.getD X 0)) (d.next.getD X 0) := by
    unfold scanAt
    rw [Int.toNat_natCast, hgX]
  rw [hsc] at hscan
  have hw : Go.IntKind.i64.wrap (((s.length + 1 : Nat) : Int) - 1) = (s.length : Int) := by rw [wrap_i64] <;> first | omega | (simp only [List.length_cons, List.length_nil] at hb1 ⊢; omega)
  have hi1 : ((s.length : Int) < ((s.length + 1 : Nat) : Int)) = True := by first | (simp; done) | (simp; omega)
  have hgrow : ((((X : Int) :: s).reverse ++ stale).map cellI)[s.length]? = some [.f (.lit (.int .i64 (X : Int)))] := by
    apply cell_get
    simp
  have hrt : (((X : Int) :: s).reverse ++ stale).take (s.length + 1) = ((X : Int) :: s).reverse := List.take_left' (by simp)
  have hlim : 0 < d.out.length + 1 ∧ d.out.length + 1 ≤ LIM := ⟨by omega, by unfold LIM; omega⟩
  have eo : (d.out.map cellI).take d.out.length ++ [[C.f (.lit (.int .i64 (X : Int)))]] = (d.out ++ [(X : Int)]).map cellI := by
    rw [List.take_of_length_le (by simp), List.map_append]
    rfl
  generalize hrow : ((X : Int) :: s).reverse ++ stale = row at *
  rw [hscan] at hl0
  have e : (y :: (X : Int) :: s).reverse ++ [] = row.take (s.length + 1) ++ [y] := by rw [hrt]; simp
  have hp1 : 0 < s.length + 2 ∧ s.length + 2 ≤ LIM := ⟨by omega, by unfold LIM; omega⟩
  rw [e]
  simp -implicitDefEqProofs only [go_sem, stO, obG] at hl0
  simp -implicitDefEqProofs only [go_sem, ordRest, graph_Order_s1, Code.p2, stO, obG, hw, hi1, Int.natCast_nonneg, Int.toNat_natCast, hgrow, hl0]
theorem round_end (d : DF) (stale : List Int) (vo vs : Nat) (X : Nat)  (a0 a1 a3 a8 a9 a10 a11 a12 a13 : V) (hd : DInv succ d) (hX : X < succ.length) (hb1 : ([] : List Int).length + 2 ≤ 4294967296) (hb2 : d.out.length + 1 ≤ 4294967296) (hscan : scanAt succ d X = none) :
    exec T ordRest ⟨[a0, a1, .one (.ptr 0 0 0 0), a3, .one (.ptr 1 0 0 0), .one (.ptr 2 0 0 0), .one (.own 3 vo 0 d.out.length), .one (.own 4 vs 0 (([] : List Int).length + 1)), a8, a9, a10, a11, a12, a13], stO succ pred d.seen d.next vo d.out vs (((X : Int) :: ([] : List Int)).reverse ++ stale), 0, 0⟩ =
      some (.ret, ⟨[vU, vU, vU, .one (.own 3 (vo + 1) 0 (d.out.length + 1)), vU, vU, vU, vU, vU, vU, vU, vU, vU, vU], stO succ pred d.seen (d.next.set X succ[X].length) (vo + 1) (d.out ++ [(X : Int)]).reverse vs (((X : Int) :: []).reverse ++ stale), 0, 0⟩) := by
  have hnl := hd.next
  have hgX : succ.getD X [] = succ[X] := by simp [hX]
  have hnx : d.next[X]? = some (d.next.getD X 0) := by
    have : X < d.next.length := by omega
    simp [this]
  have hle := hd.le X hX
  rw [hgX] at hle
  have hl0 := fun a0 a1 a3 a9 a10 a11 a12 a13 => scan_l0 succ pred hn hs hr X hX d.seen hd.seen vo d.out vs (((X : Int) :: ([] : List Int)).reverse ++ stale) (([] : List Int).length + 1) (by simp only [List.length_append, List.length_reverse, List.length_cons, List.length_nil]; omega) (by first | omega | (simp only [List.length_cons, List.length_nil] at hb1 ⊢; omega)) _ (d.next.getD X 0) d.next a0 a1 a3 a9 a10 a11 a12 a13 hnl hnx rfl hle
  have hsc : scanAt succ d (X : Int) = scan d.seen (succ[X].drop (d.next.getD X 0)) (d.next.getD X 0) := by
    unfold scanAt
    rw [Int.toNat_natCast, hgX]
  rw [hsc] at hscan
  have hw : Go.IntKind.i64.wrap (((([] : List Int).length + 1 : Nat) : Int) - 1) = (([] : List Int).length : Int) := by rw [wrap_i64] <;> first | omega | (simp only [List.length_cons, List.length_nil] at hb1 ⊢; omega)
  have hi1 : ((([] : List Int).length : Int) < ((([] : List Int).length + 1 : Nat) : Int)) = True := by first | (simp; done) | (simp; omega)
  have hgrow : ((((X : Int) :: ([] : List Int)).reverse ++ stale).map cellI)[([] : List Int).length]? = some [.f (.lit (.int .i64 (X : Int)))] := by
    apply cell_get
    simp
  have hrt : (((X : Int) :: ([] : List Int)).reverse ++ stale).take (([] : List Int).length + 1) = ((X : Int) :: ([] : List Int)).reverse := List.take_left' (by simp)
  have hlim : 0 < d.out.length + 1 ∧ d.out.length + 1 ≤ LIM := ⟨by omega, by unfold LIM; omega⟩
  have eo : (d.out.map cellI).take d.out.length ++ [[C.f (.lit (.int .i64 (X : Int)))]] = (d.out ++ [(X : Int)]).map cellI := by
    rw [List.take_of_length_le (by simp), List.map_append]
    rfl
  generalize hrow : ((X : Int) :: ([] : List Int)).reverse ++ stale = row at *
  rw [hscan] at hl0
  have hrv := Reverse_call (stO succ pred d.seen (d.next.set X succ[X].length) (vo + 1) (d.out ++ [(X : Int)]) vs row) 3 (vo + 1) (d.out ++ [(X : Int)]) (by simp; omega) rfl (d.out.length + 1) (by simp)
  simp -implicitDefEqProofs only [go_sem, stO, obG] at hl0 hrv hw hi1 hgrow
  simp -implicitDefEqProofs only [go_sem, ordRest, graph_Order_s1, Code.p2, stO, obG, hw, hi1, Int.natCast_nonneg, Int.toNat_natCast, hgrow, hl0, hlim, eo, hrv]
theorem round_pop (d : DF) (stale : List Int) (vo vs : Nat) (X : Nat) (z : Int) (s' : List Int) (a0 a1 a3 a8 a9 a10 a11 a12 a13 : V) (hd : DInv succ d) (hX : X < succ.length) (hb1 : (z :: s').length + 2 ≤ 4294967296) (hb2 : d.out.length + 1 ≤ 4294967296) (hscan : scanAt succ d X = none) :
    exec T ordRest ⟨[a0, a1, .one (.ptr 0 0 0 0), a3, .one (.ptr 1 0 0 0), .one (.ptr 2 0 0 0), .one (.own 3 vo 0 d.out.length), .one (.own 4 vs 0 ((z :: s').length + 1)), a8, a9, a10, a11, a12, a13], stO succ pred d.seen d.next vo d.out vs (((X : Int) :: (z :: s')).reverse ++ stale), 0, 0⟩ =
      some (.goto 0, ⟨[vU, vU, .one (.ptr 0 0 0 0), vU, .one (.ptr 1 0 0 0), .one (.ptr 2 0 0 0), .one (.own 3 (vo + 1) 0 (d.out.length + 1)), .one (.own 4 vs 0 (s'.length + 1)), vU, vU, vU, vU, vU, vU], stO succ pred d.seen (d.next.set X succ[X].length) (vo + 1) (d.out ++ [(X : Int)]) vs ((z :: s').reverse ++ ((X : Int) :: stale)), 0, 0⟩) := by
  have hnl := hd.next
  have hgX : succ.getD X [] = succ[X] := by simp [hX]
  have hnx : d.next[X]? = some (d.next.getD X 0) := by
    have : X < d.next.length := by omega
    simp [this]
  have hle := hd.le X hX
  rw [hgX] at hle
  have hl0 := fun a0 a1 a3 a9 a10 a11 a12 a13 => scan_l0 succ pred hn hs hr X hX d.seen hd.seen vo d.out vs (((X : Int) :: z :: s').reverse ++ stale) ((z :: s').length + 1) (by simp only [List.length_append, List.length_reverse, List.length_cons, List.length_nil]; omega) (by first | omega | (simp only [List.length_cons, List.length_nil] at hb1 ⊢; omega)) _ (d.next.getD X 0) d.next a0 a1 a3 a9 a10 a11 a12 a13 hnl hnx rfl hle
  have hsc : scanAt succ d (X : Int) = scan d.seen (succ[X].drop (d.next.getD X 0)) (d.next.getD X 0) := by
    unfold scanAt
    rw [Int.toNat_natCast, hgX]
  rw [hsc] at hscan
  have hw : Go.IntKind.i64.wrap ((((z :: s').length + 1 : Nat) : Int) - 1) = ((z :: s').length : Int) := by rw [wrap_i64] <;> first | omega | (simp only [List.length_cons, List.length_nil] at hb1 ⊢; omega)
  have hi1 : (((z :: s').length : Int) < (((z :: s').length + 1 : Nat) : Int)) = True := by first | (simp; done) | (simp; omega)
  have hgrow : ((((X : Int) :: z :: s').reverse ++ stale).map cellI)[(z :: s').length]? = some [.f (.lit (.int .i64 (X : Int)))] := by
    apply cell_get
    simp
  have hrt : (((X : Int) :: z :: s').reverse ++ stale).take ((z :: s').length + 1) = ((X : Int) :: z :: s').reverse := List.take_left' (by simp)
  have hlim : 0 < d.out.length + 1 ∧ d.out.length + 1 ≤ LIM := ⟨by omega, by unfold LIM; omega⟩
  have eo : (d.out.map cellI).take d.out.length ++ [[C.f (.lit (.int .i64 (X : Int)))]] = (d.out ++ [(X : Int)]).map cellI := by
    rw [List.take_of_length_le (by simp), List.map_append]
    rfl
  generalize hrow : ((X : Int) :: z :: s').reverse ++ stale = row at *
  rw [hscan] at hl0
  have e : (z :: s').reverse ++ ((X : Int) :: stale) = row := by rw [← hrow]; simp
  have hle2 : (s'.length ≤ s'.length + 1) = True := by simp
  have hp : ((0 : Int) < ((s'.length + 1 : Nat) : Int)) = True := by first | (simp; done) | (simp; omega)
  rw [e]
  simp -implicitDefEqProofs only [go_sem, stO, obG] at hl0 hw hi1 hgrow
  simp -implicitDefEqProofs only [go_sem, ordRest, graph_Order_s1, Code.p2, stO, obG, hw, hi1, Int.natCast_nonneg, Int.toNat_natCast, hgrow, hl0, hlim, eo, hp, hle2, Nat.sub_zero]
theorem dfs_run : ∀ (k : Nat) (d : DF) (stale : List Int) (vo vs : Nat) (o : List Int) (a0 a1 a3 a8 a9 a10 a11 a12 a13 : V), DInv succ d → d.stk.length + k ≤ 4294967296 → d.out.length + k ≤ 4294967296 → dfs succ k d = some o →
    ∃ seen' next' vo' vs' row', exec T (.sc graph_Order_s1 graph_Order_r1) ⟨[a0, a1, .one (.ptr 0 0 0 0), a3, .one (.ptr 1 0 0 0), .one (.ptr 2 0 0 0), .one (.own 3 vo 0 d.out.length), .one (.own 4 vs 0 d.stk.length), a8, a9, a10, a11, a12, a13], stO succ pred d.seen d.next vo d.out vs (d.stk.reverse ++ stale), 0, 0⟩ =
      some (.ret, ⟨[vU, vU, vU, .one (.own 3 vo' 0 o.length), vU, vU, vU, vU, vU, vU, vU, vU, vU, vU], stO succ pred seen' next' vo' o.reverse vs' row', 0, 0⟩) := by
  intro k
  induction k with
  | zero => intro d stale vo vs o _ _ _ _ _ _ _ _ _ _ _ _ h; simp [dfs] at h
  | succ k ih =>
    intro d stale vo vs o a0 a1 a3 a8 a9 a10 a11 a12 a13 hd hb1 hb2 h
    simp only [dfs] at h
    cases hstk : d.stk with
    | nil => rw [hstk] at h; cases h
    | cons x s =>
      rw [hstk] at h hb1
      simp only at h
      simp only [List.length_cons] at hb1
      obtain ⟨x0, x1⟩ := hd.stk x (by rw [hstk]; simp)
      obtain ⟨X, rfl⟩ : ∃ X : Nat, x = X := ⟨x.toNat, by omega⟩
      have hX : X < succ.length := by omega
      have hgX : succ.getD X [] = succ[X] := by simp [hX]
      have hlX : lenAt succ (X : Int) = succ[X].length := by unfold lenAt; rw [Int.toNat_natCast, hgX]
      cases hscan : scanAt succ d (X : Int) with
      | some yj =>
        obtain ⟨y, j⟩ := yj
        rw [hscan] at h
        simp only [Int.toNat_natCast] at h
        have hsc := hscan
        unfold scanAt at hsc
        rw [Int.toNat_natCast, hgX] at hsc
        obtain ⟨q1, q2, q3⟩ := scan_le hsc
        have hle := hd.le X hX
        rw [hgX] at hle
        have hy := hr _ (List.getElem_mem hX) y (List.mem_of_mem_drop q3)
        have hd' : DInv succ ⟨d.seen.set y.toNat true, d.next.set X j, d.out, y :: (X : Int) :: s⟩ := ⟨by simpa using hd.seen, by simpa using hd.next, by
            have := DInv_set succ hn hs hr hd ⟨x0, x1⟩ (j := j) (by rw [Int.toNat_natCast, hgX]; rw [List.length_drop] at q2; omega)
            rwa [Int.toNat_natCast] at this, fun z hz => by
          rcases List.mem_cons.1 hz with rfl | hz
          · exact hy
          · exact hd.stk z (by rw [hstk]; exact hz)⟩
        obtain ⟨seen', next', vo', vs', row', hx⟩ := ih _ [] vo (vs + 1) o vU vU vU vU vU vU vU vU vU hd' (by simp only [List.length_cons]; omega) (by simp only; omega) h
        refine ⟨seen', next', vo', vs', row', ?_⟩
        rw [← hx, exec_sc, ord_r1, exec_seq, exec_skip]
        simp only [Option.bind_some, seqK]
        have hrd := round_push succ pred hn hs hr d stale vo vs X s y j a0 a1 a3 a8 a9 a10 a11 a12 a13 hd hX (by omega) (by omega) hscan
        simp only [List.length_cons] at hrd ⊢
        rw [hrd]
        simp only [Option.bind_some, scK, graph_Order_r1_eq]
        rw [← ord_r1]
      | none =>
        rw [hscan] at h
        simp only at h
        cases s with
        | nil =>
          simp only [Option.some.injEq] at h
          subst h
          have hrd := round_end succ pred hn hs hr d stale vo vs X a0 a1 a3 a8 a9 a10 a11 a12 a13 hd hX (by simp) (by omega) hscan
          refine ⟨d.seen, d.next.set X succ[X].length, vo + 1, vs, (((X : Int) :: []).reverse ++ stale), ?_⟩
          rw [exec_sc, ord_r1, exec_seq, exec_skip]
          simp only [Option.bind_some, seqK]
          simp only [List.length_cons, List.length_nil] at hrd ⊢
          rw [hrd]
          simp only [Option.bind_some, scK]
          rw [show (d.out ++ [(X : Int)]).length = d.out.length + 1 by simp]
        | cons z s' =>
          simp only [Int.toNat_natCast] at h
          have hrd := round_pop succ pred hn hs hr d stale vo vs X z s' a0 a1 a3 a8 a9 a10 a11 a12 a13 hd hX (by simp only [List.length_cons] at hb1 ⊢; omega) (by omega) hscan
          have hd' : DInv succ ⟨d.seen, d.next.set X (lenAt succ X), d.out ++ [(X : Int)], z :: s'⟩ := ⟨hd.seen, by simpa using hd.next, by
              have := DInv_set succ hn hs hr hd ⟨x0, x1⟩ (j := lenAt succ X) (by rw [Int.toNat_natCast, hgX, hlX]; exact Nat.le_refl _)
              rwa [Int.toNat_natCast] at this, fun w hw => hd.stk w (by rw [hstk]; exact List.mem_cons_of_mem _ hw)⟩
          obtain ⟨seen', next', vo', vs', row', hx⟩ := ih _ ((X : Int) :: stale) (vo + 1) vs o vU vU vU vU vU vU vU vU vU hd' (by simp only [List.length_cons] at hb1 ⊢; omega) (by simp only [List.length_append, List.length_cons, List.length_nil]; omega) h
          refine ⟨seen', next', vo', vs', row', ?_⟩
          rw [← hx, exec_sc, ord_r1, exec_seq, exec_skip]
          simp only [Option.bind_some, seqK]
          simp only [List.length_cons, List.length_append, List.length_nil, hlX] at hrd ⊢
          rw [hrd]
          simp only [Option.bind_some, scK, graph_Order_r1_eq]
          rw [← ord_r1]
end
end AC

namespace AC
open Go Go.A Go.A.Lex
def mayG (succ pred : List (List Int)) : Bool := makeOk succ && decide (predsS succ = pred)
@[go_sem] theorem graph_May_call (succ pred : List (List Int)) (hs : okSucc succ) : call T F.graph_May [.agg [.f (.sl (succ.map rl)), .f (.sl (pred.map rl))]] [] = some (vB (mayG succ pred), []) := by
  rw [call_eq (fn := a_graph_May) rfl]
  have hm := graph_Make_call succ hs
  cases e : makeOk succ
  · simp -implicitDefEqProofs only [go_sem, vMake, e] at hm
    simp -implicitDefEqProofs only [go_sem, a_graph_May, hm, mayG, e]
  · have hq := EqualFunc_sint_call (predsS succ) pred [.cells 0 2 [[.f (.sl (succ.map rl)), .f (.sl (pred.map rl))]], .cells 0 2 [[.f (.sl (succ.map rl)), .f (.sl ((predsS succ).map rl))]]] (by rw [predsS_length]; exact hs.1) (predsS_le succ hs (makeOk_sum e))
    simp -implicitDefEqProofs only [go_sem, vMake, e] at hm hq
    simp -implicitDefEqProofs only [go_sem, a_graph_May, hm, hq, mayG, e]
def seen0 : List Bool := List.replicate 64 false
def next0 : List Nat := List.replicate 64 0
theorem seen0_eq : (List.replicate 64 [C.f (.lit (.bool false))]).flatten = seen0.map cB := by rfl
theorem next0_eq : (List.replicate 64 [C.f (.lit (.int .i64 0))]).flatten = next0.map cN := by rfl
theorem seen0_length : seen0.length = 64 := rfl
theorem next0_length : next0.length = 64 := rfl
/-- Where the walk begins. -/
def dfs0 (root : Int) : DF := ⟨seen0.set root.toNat true, next0, [], [root]⟩
def ordA : Go.A.Code := graph_Order_s1.p1
def ordB : Go.A.Code := graph_Order_s1.p2.p1
def ordC : Go.A.Code := graph_Order_s1.p2.p2.p1
def ordD : Go.A.Code := graph_Order_s1.p2.p2.p2.p1
def ordE : Go.A.Code := graph_Order_s1.p2.p2.p2.p2.p1
def ordF : Go.A.Code := graph_Order_s1.p2.p2.p2.p2.p2.p1
theorem s1_eq : graph_Order_s1 = .seq ordA (.seq ordB (.seq ordC (.seq ordD (.seq ordE (.seq ordF (.seq (.label 0) ordRest)))))) := rfl
theorem ordA_go (succ pred : List (List Int)) (hs : okSucc succ) (hm : mayG succ pred = true) (root : Nat) (hr : root < succ.length) : exec T ordA ⟨[.agg [.f (.sl (succ.map rl)), .f (.sl (pred.map rl))], vI root, .one (.ptr 0 0 0 0), vL [], vU, vU, vU, vU, vU, vU, vU, vU, vU, vU], [obG succ pred], 0, 0⟩ =
    some (.normal, ⟨[.agg [.f (.sl (succ.map rl)), .f (.sl (pred.map rl))], vI root, .one (.ptr 0 0 0 0), vL [], vU, vU, vU, vU, vU, vU, vB false, vU, vU, vU], [obG succ pred], 0, 0⟩) := by
  have h := graph_May_call succ pred hs
  rw [hm] at h
  have h1 : ¬ (root : Int) < 0 := by omega
  have h2 : ¬ (succ.length : Int) ≤ (root : Int) := by omega
  simp -implicitDefEqProofs only [go_sem] at h
  simp -implicitDefEqProofs only [go_sem, ordA, graph_Order_s1, Code.p1, obG, h, h1, h2]
theorem ordBF_go (succ pred : List (List Int)) (root : Nat) (hr : root < 64) (c : Go.A.Code) (a0 a3 a10 : V) : exec T (.seq ordB (.seq ordC (.seq ordD (.seq ordE (.seq ordF c))))) ⟨[a0, vI root, .one (.ptr 0 0 0 0), a3, vU, vU, vU, vU, vU, vU, a10, vU, vU, vU], [obG succ pred], 0, 0⟩ =
    exec T c ⟨[a0, vI root, .one (.ptr 0 0 0 0), a3, .one (.ptr 1 0 0 0), .one (.ptr 2 0 0 0), .one (.own 3 0 0 0), .one (.own 4 0 0 1), vU, vU, a10, vU, vU, vU], stO succ pred (seen0.set root true) next0 0 [] 0 [(root : Int)], 0, 0⟩ := by
  have hi : ((root : Int) < 64) = True := by simp; omega
  have hov := put_set (e := seen0.map cB) (k := root) (.f (.lit (.bool true))) (by rw [List.length_map, seen0_length]; exact hr)
  have h2 : (seen0.map cB).set root (C.f (.lit (.bool true))) = (seen0.set root true).map cB := by rw [List.map_set]; rfl
  rw [h2] at hov
  have hle := lt_leT (show root < 64 by omega)
  have hB : ordB = .reg [w 4 (.al (seen0.map cB) [])] := rfl
  have hC : ordC = .reg [w 5 (.al (next0.map cN) [])] := rfl
  rw [hB, hC]
  simp -implicitDefEqProofs only [go_sem, ordD, ordE, ordF, graph_Order_s1, Code.p1, Code.p2, obG, stO, seen0_length, next0_length, hi, Int.natCast_nonneg, Int.toNat_natCast, Nat.mul_one, hov, hle, cellI]
@[go_sem] theorem Order_call (succ pred : List (List Int)) (hs : okSucc succ) (hm : mayG succ pred = true) (root : Nat) (hr : root < succ.length) (k : Nat) (hk : k ≤ 4294967295) (o : List Int) (ho : dfs succ k (dfs0 root) = some o) :
    call T F.graph_Order [.agg [.f (.sl (succ.map rl)), .f (.sl (pred.map rl))], vI root] [] = some (vIs o.reverse, []) := by
  rw [call_eq (fn := a_graph_Order) rfl]
  have hmk : makeOk succ = true := by simp only [mayG, Bool.and_eq_true] at hm; exact hm.1
  obtain ⟨q1, q2, q3⟩ := makeOk_facts hmk
  have hrr : ∀ l ∈ succ, ∀ y ∈ l, 0 ≤ y ∧ y < (succ.length : Int) := fun l hl y hy => by have := rising_mem _ _ _ (q3 l hl) y hy; omega
  have hd : DInv succ (dfs0 root) := ⟨by simp [dfs0, seen0_length], next0_length, fun X hX => by
      have : next0.getD X 0 = 0 := by
        have h64 : X < 64 := by omega
        have h : next0[X]? = some 0 := by
          unfold next0
          rw [List.getElem?_replicate, if_pos h64]
        rw [List.getD_eq_getElem?_getD, h]
        rfl
      simp only [dfs0]
      omega, fun x hx => by simp [dfs0] at hx; omega⟩
  obtain ⟨seen', next', vo', vs', row', h⟩ := dfs_run succ pred q2 hs.2 hrr k (dfs0 root) [] 0 0 o (.agg [.f (.sl (succ.map rl)), .f (.sl (pred.map rl))]) (vI root) (vL []) vU vU (vB false) vU vU vU hd (by simp [dfs0]; omega) (by simp [dfs0]; omega) ho
  have e1 : exec T (.scope graph_Order_s1) ⟨[.agg [.f (.sl (succ.map rl)), .f (.sl (pred.map rl))], vI root, .one (.ptr 0 0 0 0), vL [], vU, vU, vU, vU, vU, vU, vU, vU, vU, vU], [obG succ pred], 0, 0⟩ = some (.ret, ⟨[vU, vU, vU, .one (.own 3 vo' 0 o.length), vU, vU, vU, vU, vU, vU, vU, vU, vU, vU], stO succ pred seen' next' vo' o.reverse vs' row', 0, 0⟩) := by
    rw [← h, exec_scope, exec_sc, exec_sc]
    congr 1
    rw [ord_r1, exec_seq, exec_skip]
    simp only [Option.bind_some, seqK]
    rw [s1_eq, exec_seq, ordA_go succ pred hs hm root hr]
    simp only [Option.bind_some, seqK]
    rw [ordBF_go succ pred root (by omega), exec_seq, exec_label]
    rfl
  have htk : (o.reverse.map cellI).take o.length = o.reverse.map cellI := List.take_of_length_le (by simp)
  simp -implicitDefEqProofs only [go_sem, obG, stO] at e1
  simp -implicitDefEqProofs only [go_sem, a_graph_Order, e1, htk, frzRows_cellI]
end AC

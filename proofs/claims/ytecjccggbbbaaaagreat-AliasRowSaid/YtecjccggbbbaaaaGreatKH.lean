import Derived.Test.YtecjccggbbbaaaaGreatKG
import Derived.Test.YtecjccggbbbaaaaGreatKF
import Derived.Test.YtecjccggbbbaaaaGreatCon
import Derived.Test.YtecjccggbbbaaaaGreatLaw
set_option linter.unusedVariables false
set_option linter.unusedSimpArgs false
set_option linter.unusedSectionVars false
namespace AC
open Go Go.A Go.A.Lex
/-- A function of one block that returns. -/
def oneF (params : List Int) (ret : Int) (ops : List POp) (arg : Int) : PFunc := ⟨params, ret, [⟨[], ops, 0, arg, []⟩]⟩
section
variable (params : List Int) (ret : Int) (ops : List POp) (arg : Int)
theorem norm_nil : normS [] = [] := by simp [normS, sortI, compactI]
theorem succ_one : succS (oneF params ret ops arg) = [[]] := by simp [succS, oneF, norm_nil]
theorem pred_one : predsS [[]] = [[]] := rfl
theorem graph_one : graphOk (oneF params ret ops arg) = true := by
  rw [graphOk, succ_one]
  rfl
theorem tree_one : TreeIs (oneF params ret ops arg) [-1] := by
  refine ⟨by simp, fun _ => ?_⟩
  rw [succ_one, pred_one]
  exact Tree_call [[]] [[]] ⟨by simp, by simp⟩ rfl 0 (by simp) 5 (by omega) [0] rfl 0 [] rfl (by simp) (by simp) 5 5 [0] rfl
theorem shape_one : shapeOk (oneF params ret ops arg) [-1] = true := by
  rw [shapeOk, graph_one, succ_one, pred_one]
  rfl
theorem uses_one : usesS (oneF params ret ops arg) = opsUsesFrom 0 0 ops ++ (if ret = 0 then [] else [⟨arg, (ret, 1), 0, mostAt⟩]) := by
  simp [usesS, oneF, usesFrom, blockUses, phisUses, endUses, endBits]
theorem dmap_one : dmapS (oneF params ret ops arg) = match putOps 0 0 (putParams 0 [] params) ops with
      | (D2, some o) => (D2, some [.cells 0 5 [cBlock ⟨[], ops, 0, arg, []⟩], .cells 0 6 [cOp o]])
      | (D2, none) => (D2, none) := by
  simp only [dmapS, oneF, putBlocks, putPhis]
  rfl
end
end AC

namespace AC
open Go Go.A Go.A.Lex
/-- An operation of a straight line: the one that defines d, of values that were. -/
structure LineOp (w : Int × Int) (o : POp) (d : Int) : Prop where
  may : mayO o = true
  mayOp : mayOp o = true
  dst : o.dst = d
  gives : givesO o = w
  takes : takesO o = o.args.map fun _ => w
  args : ∀ a ∈ o.args, 1 ≤ a ∧ a < d
  ok : okOpL o
def Line (w : Int × Int) : Int → List POp → Prop
  | _, [] => True
  | d, o :: r => LineOp w o d ∧ Line w (d + 1) r
theorem putOps_line (w : Int × Int) (hw : 0 < w.1) : ∀ (ops : List POp) (k : Nat) (D : DMap), Line w (k + 2) ops → (∀ v : Int, k + 2 ≤ v → getM v D = none) →
    ∃ D', putOps 0 k D ops = (D', none) ∧ ∀ v : Int, getM v D' = if k + 2 ≤ v ∧ v < k + 2 + ops.length then some ⟨0, v - 2, w⟩ else getM v D
  | [], k, D, _, _ => ⟨D, rfl, fun v => by rw [if_neg (by simp only [List.length_nil]; omega)]⟩
  | o :: r, k, D, hl, hD => by
    obtain ⟨ho, hr⟩ := hl
    have hn : (getM o.dst D).isNone = true := by rw [ho.dst, hD _ (by omega)]; rfl
    have e : (k : Int) + 2 + 1 = ((k + 1 : Nat) : Int) + 2 := by omega
    rw [e] at hr
    obtain ⟨D', h1, h2⟩ := putOps_line w hw r (k + 1) (putM o.dst ⟨0, k, givesO o⟩ D) hr (fun v hv => by rw [get_putM, if_neg (by rw [ho.dst]; omega)]; exact hD v (by omega))
    refine ⟨D', ?_, fun v => ?_⟩
    · rw [putOps, if_neg (by rw [ho.gives]; omega), if_pos hn, h1]
    · rw [h2 v, get_putM, ho.dst, ho.gives, List.length_cons]
      by_cases c1 : ((k + 1 : Nat) : Int) + 2 ≤ v ∧ v < ((k + 1 : Nat) : Int) + 2 + r.length
      · rw [if_pos c1, if_pos (by omega)]
      · rw [if_neg c1]
        by_cases c2 : (k : Int) + 2 = v
        · rw [if_pos c2, if_pos (by omega)]
          have : v - 2 = k := by omega
          rw [this]
        · rw [if_neg c2, if_neg (by omega)]
theorem uses_of_op (o : POp) (i at' : Int) : ∀ (l : List (Int × Int)) (k : Nat), ∀ u ∈ opUsesFrom o i at' k l, ∃ q, ∃ h : q < l.length, u = ⟨o.args.getD (k + q) 0, l[q], i, at'⟩
  | [], _, u, h => by simp [opUsesFrom] at h
  | s :: r, k, u, h => by
    rw [opUsesFrom, List.mem_cons] at h
    rcases h with rfl | h
    · exact ⟨0, by simp, rfl⟩
    · obtain ⟨q, hq, rfl⟩ := uses_of_op o i at' r (k + 1) u h
      refine ⟨q + 1, by simpa using hq, ?_⟩
      have : k + (q + 1) = k + 1 + q := by omega
      rw [this]
      rfl
theorem uses_line (w : Int × Int) : ∀ (ops : List POp) (k : Nat), Line w (k + 2) ops → ∀ u ∈ opsUsesFrom 0 k ops, u.shape = w ∧ u.block = 0 ∧ 1 ≤ u.v ∧ u.v < u.at' + 2 ∧ u.at' < k + ops.length
  | [], _, _, u, h => by simp [opsUsesFrom] at h
  | o :: r, k, hl, u, h => by
    obtain ⟨ho, hr⟩ := hl
    have e : (k : Int) + 2 + 1 = ((k + 1 : Nat) : Int) + 2 := by omega
    rw [e] at hr
    rw [opsUsesFrom, List.mem_append] at h
    rcases h with h | h
    · obtain ⟨q, hq, rfl⟩ := uses_of_op o 0 k (takesO o) 0 u h
      have hlen : (takesO o).length = o.args.length := by rw [ho.takes, List.length_map]
      have hq' : q < o.args.length := by omega
      have hm := ho.args o.args[q] (List.getElem_mem hq')
      have hs : (takesO o)[q] = w := by simp [ho.takes]
      have hg : o.args.getD (0 + q) 0 = o.args[q] := by simp [hq']
      simp only [hg, hs, List.length_cons]
      refine ⟨trivial, trivial, hm.1, by omega, by omega⟩
    · obtain ⟨a, b, c, d, e⟩ := uses_line w r (k + 1) hr u h
      rw [List.length_cons]
      exact ⟨a, b, c, d, by omega⟩
theorem firstE_zero (ask : Use → Int) : ∀ l : List Use, (∀ u ∈ l, ask u = 0) → firstE ask l = 0
  | [], _ => rfl
  | u :: r, h => by rw [firstE, if_pos (h u List.mem_cons_self)]; exact firstE_zero ask r fun x hx => h x (List.mem_cons_of_mem _ hx)
theorem line_mem (w : Int × Int) {P : POp → Prop} (hP : ∀ o d, LineOp w o d → P o) : ∀ (ops : List POp) (d : Int), Line w d ops → ∀ o ∈ ops, P o
  | [], _, _, o, h => by simp at h
  | x :: r, d, hl, o, h => by
    rcases List.mem_cons.1 h with rfl | h
    · exact hP _ _ hl.1
    · exact line_mem w hP r _ hl.2 o h
/-- A straight line of one width and one lane, of one parameter: it is right. -/
theorem line_right (b : Int) (hb : mayW b = true) (ops : List POp) (arg : Int) (hl : Line (b, 1) 2 ops) (hlen : ops.length ≤ 500) (ha : 1 ≤ arg) (ha' : arg < ops.length + 2) :
    okF (oneF [b] b ops arg) ∧ lookS (oneF [b] b ops arg) 2 [-1] = 0 ∧ ∀ v : Int, 1 ≤ v → v < ops.length + 2 → getM v (shapesS (oneF [b] b ops arg)) = some (b, 1) := by
  have hb0 : 0 < b := by rcases mayW_cases hb with h | h | h | h | h <;> omega
  have hbn : num b = true := by simp only [num, Bool.and_eq_true, decide_eq_true_eq]; rcases mayW_cases hb with h | h | h | h | h <;> omega
  have hF : okF (oneF [b] b ops arg) := by
    refine ⟨by simp [oneF], by simp [oneF], fun x hx => ?_, by simp [oneF]; omega⟩
    simp only [oneF, List.mem_singleton] at hx
    subst hx
    exact ⟨by simp, by simpa using (by omega : ops.length ≤ 4294967296), by simp, line_mem _ (fun o d h => h.ok) ops 2 hl, by simp⟩
  have hM : mayF (oneF [b] b ops arg) = true := by
    have hs : sizeF (oneF [b] b ops arg) = 1 + ops.length := by simp [sizeF, oneF]
    have ho : ops.all mayOp = true := List.all_eq_true.2 (line_mem _ (fun o d h => h.mayOp) ops 2 hl)
    have hn : num arg = true := by simp only [num, Bool.and_eq_true, decide_eq_true_eq]; omega
    have hn0 : num 0 = true := rfl
    unfold mayF
    rw [hs]
    have hd : ¬ 512 < 1 + ops.length := by omega
    simp [oneF, mayB, mayEnd, ho, hn, hn0, hbn, listS, hd]
  have hT : typedS (oneF [b] b ops arg) 2 = true := by
    have ho : ops.all (ofS 2) = true := List.all_eq_true.2 (line_mem _ (fun o d h => by simp [ofS, h.may]) ops 2 hl)
    simp [typedS, oneF, typedB, hb, ho]
  obtain ⟨D', h1, h2⟩ := putOps_line (b, 1) hb0 ops 0 (putParams 0 [] [b]) hl (fun v hv => by
    simp only [putParams, putM, getM]
    rw [if_neg (by omega)])
  have hdm : dmapS (oneF [b] b ops arg) = (D', none) := by rw [dmap_one, h1]
  have hp1 : getM 1 D' = some ⟨-1, 0, (b, 1)⟩ := by
    rw [h2, if_neg (by omega)]
    rfl
  have hv2 : ∀ v : Int, 2 ≤ v → v < ops.length + 2 → getM v D' = some ⟨0, v - 2, (b, 1)⟩ := fun v hv hv' => by
    rw [h2, if_pos (by omega)]
  have hU : ∀ u ∈ usesS (oneF [b] b ops arg), u.shape = (b, 1) ∧ u.block = 0 ∧ 1 ≤ u.v ∧ u.v < u.at' + 2 ∧ u.v < ops.length + 2 := fun u hu => by
    rw [uses_one, List.mem_append] at hu
    rcases hu with hu | hu
    · obtain ⟨a1, a2, a3, a4, a5⟩ := uses_line (b, 1) ops 0 hl u hu
      exact ⟨a1, a2, a3, a4, by omega⟩
    · rw [if_neg (by omega), List.mem_singleton] at hu
      subst hu
      exact ⟨rfl, rfl, ha, by simp only [mostAt]; omega, ha'⟩
  have hG : ∀ u ∈ usesS (oneF [b] b ops arg), (u.v = 1 ∧ getM u.v D' = some ⟨-1, 0, (b, 1)⟩) ∨ getM u.v D' = some ⟨0, u.v - 2, (b, 1)⟩ := fun u hu => by
    obtain ⟨_, _, a3, _, a5⟩ := hU u hu
    by_cases c : u.v = 1
    · exact .inl ⟨c, by rw [c]; exact hp1⟩
    · exact .inr (hv2 u.v (by omega) a5)
  refine ⟨hF, ?_, fun v hv hv' => ?_⟩
  · have e1 : firstE (askDef D') (usesS (oneF [b] b ops arg)) = 0 := firstE_zero _ _ fun u hu => by
      rcases hG u hu with ⟨_, h⟩ | h <;> simp [askDef, h]
    have e2 : firstE (askShape D') (usesS (oneF [b] b ops arg)) = 0 := firstE_zero _ _ fun u hu => by
      have := (hU u hu).1
      rcases hG u hu with ⟨_, h⟩ | h <;> simp [askShape, defAt, h, this]
    have e3 : firstE (askPlace D' [-1]) (usesS (oneF [b] b ops arg)) = 0 := firstE_zero _ _ fun u hu => by
      obtain ⟨_, a2, _, a4, _⟩ := hU u hu
      rcases hG u hu with ⟨_, h⟩ | h
      · simp [askPlace, defAt, h]
      · have : u.v - 2 < u.at' := by omega
        simp [askPlace, defAt, h, a2, this]
    rw [lookS, hM, shape_one, hT, hdm]
    simp [e1, e2, e3]
  · have := get_putAll v (dmapS (oneF [b] b ops arg)).1 [] (nodup_dmap _)
    rw [shapesS, this, hdm]
    by_cases c : v = 1
    · rw [c, hp1]
    · rw [hv2 v (by omega) hv']
end AC

namespace AC
open Go Go.A Go.A.Lex
def cstO (d n : Int) : POp := ⟨0, 64, 1, d, [], n⟩
def binO (k d a b : Int) : POp := ⟨k, 64, 1, d, [a, b], 0⟩
theorem line_cst (d n : Int) (h1 : 1 ≤ d) (h2 : d ≤ 1023) (h3 : 0 ≤ n) (h4 : n < 18446744073709551616) : LineOp (64, 1) (cstO d n) d := by
  have hc : cutW n 64 = n := by
    unfold cutW
    rw [if_pos (show mayW 64 = true from rfl)]
    exact Int.emod_eq_of_lt h3 h4
  have hm : mayO (cstO d n) = true := by
    have h5 : value d = true := by simp [value, h1, h2]
    have h6 : shapeS 64 1 = true := rfl
    have h7 : stores 0 = false := rfl
    simp [mayO, cstO, takesS, hc, h5, h6, h7]
  refine ⟨hm, ?_, rfl, ?_, ?_, by simp [cstO], ⟨⟨h3, h4⟩, by simp [cstO]⟩⟩
  · have : num d = true := by simp only [num, Bool.and_eq_true, decide_eq_true_eq]; omega
    have n0 : num 0 = true := rfl
    have n1 : num 1 = true := rfl
    have n64 : num 64 = true := rfl
    simp [mayOp, cstO, this, n0, n1, n64, listS]
  · have h7 : stores 0 = false := rfl
    rw [givesO, hm]
    simp [cstO, h7]
  · rw [takesO, if_pos hm]
    simp [cstO, takesS]
theorem line_bin (k d a b : Int) (hk : arith k = true) (hk0 : 1 ≤ k) (hk1 : k ≤ 9) (hs : stores k = false) (h1 : 1 ≤ d) (h2 : d ≤ 1023) (ha : 1 ≤ a) (ha' : a < d) (hb : 1 ≤ b) (hb' : b < d) : LineOp (64, 1) (binO k d a b) d := by
  have k0 : ¬ k = 0 := by omega
  have hm : mayO (binO k d a b) = true := by
    have h5 : value d = true := by simp [value, h1, h2]
    have h6 : shapeS 64 1 = true := rfl
    have h8 : value a = true := by simp only [value, Bool.and_eq_true, decide_eq_true_eq]; omega
    have h9 : value b = true := by simp only [value, Bool.and_eq_true, decide_eq_true_eq]; omega
    simp [mayO, binO, takesS, hk, h5, h6, h8, h9, hs, k0]
  refine ⟨hm, ?_, rfl, ?_, ?_, ?_, ⟨⟨by simp [binO], by simp [binO]⟩, by simp [binO]⟩⟩
  · have : num d = true := by simp only [num, Bool.and_eq_true, decide_eq_true_eq]; omega
    have nk : num k = true := by simp only [num, Bool.and_eq_true, decide_eq_true_eq]; omega
    have na : num a = true := by simp only [num, Bool.and_eq_true, decide_eq_true_eq]; omega
    have nb : num b = true := by simp only [num, Bool.and_eq_true, decide_eq_true_eq]; omega
    have n1 : num 1 = true := rfl
    have n64 : num 64 = true := rfl
    simp [mayOp, binO, this, nk, na, nb, n1, n64, listS]
  · have c1 : ¬ 10 ≤ k := by omega
    have c2 : ¬ k = 22 := by omega
    rw [givesO, hm]
    simp [binO, hs, c1, c2]
  · rw [takesO, if_pos hm]
    simp [binO, takesS, hk, k0]
  · intro x hx
    simp only [binO, List.mem_cons, List.not_mem_nil, or_false] at hx
    rcases hx with rfl | rfl
    · exact ⟨ha, ha'⟩
    · exact ⟨hb, hb'⟩
def scOps (n by' : Int) : List POp := [cstO 2 n, cstO 3 by', binO 1 4 1 2, binO 3 5 4 3, binO 3 6 3 4, binO 8 7 4 3]
theorem scLine (n by' : Int) (h3 : 0 ≤ n) (h4 : n < 18446744073709551616) (h5 : 0 ≤ by') (h6 : by' < 18446744073709551616) : Line (64, 1) 2 (scOps n by') :=
  ⟨line_cst 2 n (by omega) (by omega) h3 h4, line_cst 3 by' (by omega) (by omega) h5 h6, line_bin 1 4 1 2 rfl (by omega) (by omega) rfl (by omega) (by omega) (by omega) (by omega) (by omega) (by omega),
   line_bin 3 5 4 3 rfl (by omega) (by omega) rfl (by omega) (by omega) (by omega) (by omega) (by omega) (by omega), line_bin 3 6 3 4 rfl (by omega) (by omega) rfl (by omega) (by omega) (by omega) (by omega) (by omega) (by omega),
   line_bin 8 7 4 3 rfl (by omega) (by omega) rfl (by omega) (by omega) (by omega) (by omega) (by omega) (by omega), trivial⟩
end AC

namespace AC
open Go Go.A Go.A.Lex
/-- An operation of a straight line of whatever shapes: it defines d, or nothing. -/
structure MOp (sh : Int → Int × Int) (o : POp) (d : Int) : Prop where
  may : mayO o = true
  mayOp : mayOp o = true
  gives : (o.dst = d ∧ givesO o = sh d ∧ 0 < (sh d).1) ∨ givesO o = (0, 0)
  takes : takesO o = o.args.map sh
  args : ∀ a ∈ o.args, 1 ≤ a ∧ a < d
  ok : okOpL o
def nxt (d : Int) (o : POp) : Int := if (givesO o).1 ≤ 0 then d else d + 1
def MLine (sh : Int → Int × Int) : Int → List POp → Prop
  | _, [] => True
  | d, o :: r => MOp sh o d ∧ MLine sh (nxt d o) r
def lastD : Int → List POp → Int
  | d, [] => d
  | d, o :: r => lastD (nxt d o) r
theorem nxt_le (d : Int) (o : POp) : d ≤ nxt d o := by unfold nxt; split <;> omega
theorem lastD_le : ∀ (ops : List POp) (d : Int), d ≤ lastD d ops
  | [], _ => Int.le_refl _
  | o :: r, d => Int.le_trans (nxt_le d o) (lastD_le r _)
def Def0 (x : PDef) (at' : Int) : Prop := x.block = -1 ∨ (x.block = 0 ∧ x.at' < at')
structure LnInv (sh : Int → Int × Int) (k : Int) (d : Int) (D : DMap) : Prop where
  there : ∀ v, 1 ≤ v → v < d → ∃ x, getM v D = some x ∧ x.shape = sh v ∧ Def0 x k
  none' : ∀ v, d ≤ v → getM v D = none
def GoodU (D : DMap) (u : Use) : Prop := u.block = 0 ∧ ∃ x, getM u.v D = some x ∧ x.shape = u.shape ∧ Def0 x u.at'
theorem mline_puts (sh : Int → Int × Int) : ∀ (ops : List POp) (k : Nat) (d : Int) (D : DMap), 1 ≤ d → MLine sh d ops → LnInv sh k d D →
    ∃ D', putOps 0 k D ops = (D', none) ∧ LnInv sh (k + ops.length : Nat) (lastD d ops) D' ∧ (∀ v, v < d → getM v D' = getM v D) ∧ ∀ u ∈ opsUsesFrom 0 k ops, GoodU D' u
  | [], k, d, D, _, _, hD => ⟨D, rfl, hD, fun _ _ => rfl, fun u h => by simp [opsUsesFrom] at h⟩
  | o :: r, k, d, D, hd, hl, hD => by
    obtain ⟨ho, hr⟩ := hl
    have hwhole : ∃ D1, LnInv sh (k + 1 : Nat) (nxt d o) D1 ∧ (∀ v, v < d → getM v D1 = getM v D) ∧ putOps 0 k D (o :: r) = putOps 0 (k + 1) D1 r := by
      rcases ho.gives with ⟨h1, h2, h3⟩ | h0
      · have hn : (getM o.dst D).isNone = true := by rw [h1, hD.none' _ (by omega)]; rfl
        have hx : nxt d o = d + 1 := by unfold nxt; rw [h2, if_neg (by omega)]
        refine ⟨putM o.dst ⟨0, k, givesO o⟩ D, ⟨fun v hv hv' => ?_, fun v hv => ?_⟩, fun v hv => ?_, ?_⟩
        · rw [get_putM, h1]
          by_cases c : d = v
          · rw [if_pos c]
            exact ⟨_, rfl, by rw [h2, c], .inr ⟨rfl, by simp only []; omega⟩⟩
          · rw [if_neg c]
            obtain ⟨x, e1, e2, e3⟩ := hD.there v hv (by omega)
            exact ⟨x, e1, e2, e3.imp id fun e => ⟨e.1, by omega⟩⟩
        · rw [get_putM, h1, if_neg (by omega)]
          exact hD.none' v (by omega)
        · rw [get_putM, h1, if_neg (by omega)]
        · rw [putOps, if_neg (by rw [h2]; omega), if_pos hn]
      · have hx : nxt d o = d := by unfold nxt; rw [h0, if_pos (by simp)]
        refine ⟨D, ⟨fun v hv hv' => ?_, fun v hv => ?_⟩, fun v _ => rfl, ?_⟩
        · obtain ⟨x, e1, e2, e3⟩ := hD.there v hv (by omega)
          exact ⟨x, e1, e2, e3.imp id fun e => ⟨e.1, by omega⟩⟩
        · exact hD.none' v (by omega)
        · rw [putOps, if_pos (by rw [h0]; simp)]
    obtain ⟨D1, g1, g2, g3⟩ := hwhole
    have hn := nxt_le d o
    obtain ⟨D', i1, i2, i3, i4⟩ := mline_puts sh r (k + 1) (nxt d o) D1 (by omega) hr g1
    refine ⟨D', by rw [g3, i1], ?_, fun v hv => by rw [i3 v (by omega), g2 v hv], fun u hu => ?_⟩
    · rw [List.length_cons, show k + (r.length + 1) = k + 1 + r.length from by omega]
      exact i2
    · rw [opsUsesFrom, List.mem_append] at hu
      rcases hu with hu | hu
      · obtain ⟨q, hq, rfl⟩ := uses_of_op o 0 k (takesO o) 0 u hu
        have hlen : (takesO o).length = o.args.length := by rw [ho.takes, List.length_map]
        have hq' : q < o.args.length := by omega
        have hm := ho.args o.args[q] (List.getElem_mem hq')
        have hs : (takesO o)[q] = sh o.args[q] := by simp [ho.takes]
        have hg : o.args.getD (0 + q) 0 = o.args[q] := by simp [hq']
        obtain ⟨x, e1, e2, e3⟩ := hD.there _ hm.1 hm.2
        refine ⟨rfl, x, ?_, ?_, e3⟩
        · simp only [hg]
          rw [i3 _ (by omega), g2 _ hm.2]
          exact e1
        · simp only [hs]
          exact e2
      · exact i4 u hu
theorem mline_mem (sh : Int → Int × Int) {P : POp → Prop} (hP : ∀ o d, MOp sh o d → P o) : ∀ (ops : List POp) (d : Int), MLine sh d ops → ∀ o ∈ ops, P o
  | [], _, _, o, h => by simp at h
  | x :: r, d, hl, o, h => by
    rcases List.mem_cons.1 h with rfl | h
    · exact hP _ _ hl.1
    · exact mline_mem sh hP r _ hl.2 o h
theorem params_inv (sh : Int → Int × Int) : ∀ (ps : List Int) (i : Nat) (D : DMap), (∀ q, ∀ h : q < ps.length, sh ((i + q : Nat) + 1) = (ps[q], 1)) → LnInv sh 0 (i + 1) D → LnInv sh 0 ((i + ps.length : Nat) + 1) (putParams i D ps)
  | [], i, D, _, h => h
  | b :: r, i, D, hs, h => by
    have h0 := hs 0 (by simp)
    have := params_inv sh r (i + 1) (putM ((i : Int) + 1) ⟨-1, 0, (b, 1)⟩ D) (fun q hq => by
      have := hs (q + 1) (by simpa using hq)
      rw [show i + 1 + q = i + (q + 1) from by omega]
      simpa using this) ⟨fun v hv hv' => by
        rw [get_putM]
        by_cases c : (i : Int) + 1 = v
        · rw [if_pos c]
          refine ⟨_, rfl, ?_, .inl rfl⟩
          rw [← c]
          simpa using h0.symm
        · rw [if_neg c]
          exact h.there v hv (by omega), fun v hv => by
        rw [get_putM, if_neg (by omega)]
        exact h.none' v (by omega)⟩
    rw [List.length_cons, show i + (r.length + 1) = i + 1 + r.length from by omega]
    exact this
/-- A straight line of one block, of whatever shapes: it is right. -/
theorem mline_right (sh : Int → Int × Int) (ps : List Int) (ret : Int) (ops : List POp) (arg : Int) (hps : ps.all mayW = true) (hpl : ps.length ≤ 16) (hret : mayW ret = true)
    (hsh : ∀ q, ∀ h : q < ps.length, sh ((q : Nat) + 1) = (ps[q], 1)) (hl : MLine sh (ps.length + 1) ops) (hlen : ops.length ≤ 500) (ha : 1 ≤ arg) (ha' : arg < lastD (ps.length + 1) ops) (hn : num arg = true) (har : sh arg = (ret, 1)) :
    okF (oneF ps ret ops arg) ∧ lookS (oneF ps ret ops arg) 2 [-1] = 0 ∧ ∀ v : Int, 1 ≤ v → v < lastD (ps.length + 1) ops → getM v (shapesS (oneF ps ret ops arg)) = some (sh v) := by
  have numW : ∀ b, mayW b = true → num b = true := fun b hb => by simp only [num, Bool.and_eq_true, decide_eq_true_eq]; rcases mayW_cases hb with h | h | h | h | h <;> omega
  have hr0 : ¬ ret = 0 := by rcases mayW_cases hret with h | h | h | h | h <;> omega
  have hF : okF (oneF ps ret ops arg) := by
    refine ⟨by simp [oneF]; omega, by simp [oneF], fun x hx => ?_, by simp [oneF]; omega⟩
    simp only [oneF, List.mem_singleton] at hx
    subst hx
    exact ⟨by simp, by simpa using (by omega : ops.length ≤ 4294967296), by simp, mline_mem sh (fun o d h => h.ok) ops _ hl, by simp⟩
  have hM : mayF (oneF ps ret ops arg) = true := by
    have hs : sizeF (oneF ps ret ops arg) = 1 + ops.length := by simp [sizeF, oneF]
    have ho : ops.all mayOp = true := List.all_eq_true.2 (mline_mem sh (fun o d h => h.mayOp) ops _ hl)
    have hn0 : num 0 = true := rfl
    have hpn : ps.all num = true := List.all_eq_true.2 fun b hb => numW b (List.all_eq_true.1 hps b hb)
    unfold mayF
    rw [hs]
    have hd : ¬ 512 < 1 + ops.length := by omega
    have hd2 : ¬ 16 < ps.length := by omega
    simp only [oneF, mayB, mayEnd, ho, hn, hn0, numW ret hret, hpn, listS, hd, hd2, List.length_cons, List.length_nil, List.all_cons, List.all_nil]
    rfl
  have hT : typedS (oneF ps ret ops arg) 2 = true := by
    have ho : ops.all (ofS 2) = true := List.all_eq_true.2 (mline_mem sh (fun o d h => by simp [ofS, h.may]) ops _ hl)
    simp [typedS, oneF, typedB, hret, ho]
    exact fun x hx => List.all_eq_true.1 hps x hx
  have hp := params_inv sh ps 0 [] (fun q h => by simpa using hsh q h) ⟨fun v h1 h2 => by omega, fun _ _ => rfl⟩
  rw [Nat.zero_add] at hp
  obtain ⟨D', h1, h2, _, h4⟩ := mline_puts sh ops 0 (ps.length + 1) (putParams 0 [] ps) (by omega) hl hp
  have hdm : dmapS (oneF ps ret ops arg) = (D', none) := by rw [dmap_one, h1]
  have hG : ∀ u ∈ usesS (oneF ps ret ops arg), GoodU D' u := fun u hu => by
    rw [uses_one, List.mem_append] at hu
    rcases hu with hu | hu
    · exact h4 u hu
    · rw [if_neg hr0, List.mem_singleton] at hu
      subst hu
      obtain ⟨x, e1, e2, e3⟩ := h2.there arg ha ha'
      exact ⟨rfl, x, e1, by rw [e2, har], e3.imp id fun e => ⟨e.1, by simp only [mostAt]; omega⟩⟩
  refine ⟨hF, ?_, fun v hv hv' => ?_⟩
  · have e1 : firstE (askDef D') (usesS (oneF ps ret ops arg)) = 0 := firstE_zero _ _ fun u hu => by
      obtain ⟨_, x, h, _⟩ := hG u hu
      simp [askDef, h]
    have e2 : firstE (askShape D') (usesS (oneF ps ret ops arg)) = 0 := firstE_zero _ _ fun u hu => by
      obtain ⟨_, x, h, hs, _⟩ := hG u hu
      simp [askShape, defAt, h, hs]
    have e3 : firstE (askPlace D' [-1]) (usesS (oneF ps ret ops arg)) = 0 := firstE_zero _ _ fun u hu => by
      obtain ⟨hb, x, h, _, hd⟩ := hG u hu
      rcases hd with hd | ⟨hd, hd'⟩
      · simp [askPlace, defAt, h, hd]
      · simp [askPlace, defAt, h, hb, hd, hd']
    rw [lookS, hM, shape_one, hT, hdm]
    simp [e1, e2, e3]
  · obtain ⟨x, e1, e2, _⟩ := h2.there v hv hv'
    rw [shapesS, get_putAll v (dmapS (oneF ps ret ops arg)).1 [] (nodup_dmap _), hdm]
    simp only [e1, e2]
end AC

namespace AC
open Go Go.A Go.A.Lex
theorem num_value {v : Int} (h1 : 1 ≤ v) (h2 : v ≤ 1023) : num v = true := by simp only [num, Bool.and_eq_true, decide_eq_true_eq]; omega
theorem value_of {v : Int} (h1 : 1 ≤ v) (h2 : v ≤ 1023) : value v = true := by simp only [value, Bool.and_eq_true, decide_eq_true_eq]; omega
theorem num_w {b : Int} (h : mayW b = true) : num b = true := by simp only [num, Bool.and_eq_true, decide_eq_true_eq]; rcases mayW_cases h with h | h | h | h | h <;> omega
theorem pos_w {b : Int} (h : mayW b = true) : 0 < b := by rcases mayW_cases h with h | h | h | h | h <;> omega
theorem shape_one_lane {b : Int} (h : mayW b = true) : shapeS b 1 = true := by simp [shapeS, h]
section
variable (sh : Int → Int × Int)
theorem mop_cst (w d n : Int) (hw : mayW w = true) (h1 : 1 ≤ d) (h2 : d ≤ 1023) (h3 : 0 ≤ n) (h4 : n < 18446744073709551616) (hc : cutW n w = n) (sd : sh d = (w, 1)) : MOp sh ⟨0, w, 1, d, [], n⟩ d := by
  have h7 : stores 0 = false := rfl
  have hm : mayO ⟨0, w, 1, d, [], n⟩ = true := by simp [mayO, takesS, hc, value_of h1 h2, shape_one_lane hw, h7]
  refine ⟨hm, ?_, .inl ⟨rfl, ?_, by rw [sd]; exact pos_w hw⟩, ?_, by simp, ⟨⟨h3, h4⟩, by simp⟩⟩
  · have n0 : num 0 = true := rfl
    have n1 : num 1 = true := rfl
    simp [mayOp, num_value h1 h2, n0, n1, num_w hw, listS]
  · rw [givesO, hm, sd]
    simp [h7]
  · rw [takesO, if_pos hm]
    simp [takesS]
theorem mop_bin (k w d a b : Int) (hk : (arith k || asks k) = true) (hw : mayW w = true) (h1 : 1 ≤ d) (h2 : d ≤ 1023) (ha : 1 ≤ a) (ha' : a < d) (hb : 1 ≤ b) (hb' : b < d)
    (sa : sh a = (w, 1)) (sb : sh b = (w, 1)) (sd : sh d = if 10 ≤ k then (1, 1) else (w, 1)) : MOp sh ⟨k, w, 1, d, [a, b], 0⟩ d := by
  have hk1 : 1 ≤ k ∧ k ≤ 12 := by
    simp only [arith, asks, Bool.or_eq_true, decide_eq_true_eq] at hk
    omega
  have k0 : ¬ k = 0 := by omega
  have hs : stores k = false := by simp only [stores, Bool.or_eq_false_iff, decide_eq_false_iff_not]; omega
  have ht : takesS ⟨k, w, 1, d, [a, b], 0⟩ = ([(w, 1), (w, 1)], true) := by
    cases c : arith k
    · rw [c, Bool.false_or] at hk
      simp [takesS, k0, c, hk]
    · simp [takesS, k0, c]
  have hm : mayO ⟨k, w, 1, d, [a, b], 0⟩ = true := by simp [mayO, ht, value_of h1 h2, shape_one_lane hw, hs, value_of ha (by omega), value_of hb (by omega)]
  refine ⟨hm, ?_, .inl ⟨rfl, ?_, ?_⟩, ?_, ?_, ⟨⟨by simp, by simp⟩, by simp⟩⟩
  · have n1 : num 1 = true := rfl
    have nk : num k = true := by simp only [num, Bool.and_eq_true, decide_eq_true_eq]; omega
    simp [mayOp, num_value h1 h2, nk, num_value ha (by omega), num_value hb (by omega), n1, num_w hw, listS]
  · have c22 : ¬ k = 22 := by omega
    rw [givesO, hm, sd]
    by_cases c : 10 ≤ k
    · simp [hs, c, hk1.2]
    · simp [hs, c, c22]
  · rw [sd]
    split
    · simp
    · exact pos_w hw
  · rw [takesO, if_pos hm, ht]
    simp [sa, sb]
  · intro x hx
    simp only [List.mem_cons, List.not_mem_nil, or_false] at hx
    rcases hx with rfl | rfl
    · exact ⟨ha, ha'⟩
    · exact ⟨hb, hb'⟩
theorem mop_load (w d a : Int) (hw : mayW w = true) (hw8 : 8 ≤ w) (h1 : 1 ≤ d) (h2 : d ≤ 1023) (ha : 1 ≤ a) (ha' : a < d) (sa : sh a = (64, 1)) (sd : sh d = (w, 1)) : MOp sh ⟨16, w, 1, d, [a], 0⟩ d := by
  have h7 : stores 16 = false := rfl
  have ht : takesS ⟨16, w, 1, d, [a], 0⟩ = ([(64, 1)], true) := by simp [takesS, arith, asks, hw8]
  have hm : mayO ⟨16, w, 1, d, [a], 0⟩ = true := by simp [mayO, ht, value_of h1 h2, shape_one_lane hw, h7, value_of ha (by omega)]
  refine ⟨hm, ?_, .inl ⟨rfl, ?_, by rw [sd]; exact pos_w hw⟩, ?_, ?_, ⟨⟨by simp, by simp⟩, by simp⟩⟩
  · have n1 : num 1 = true := rfl
    have nk : num 16 = true := rfl
    simp [mayOp, num_value h1 h2, nk, num_value ha (by omega), n1, num_w hw, listS]
  · rw [givesO, hm, sd]
    simp [h7]
  · rw [takesO, if_pos hm, ht]
    simp [sa]
  · intro x hx
    simp only [List.mem_cons, List.not_mem_nil, or_false] at hx
    subst hx
    exact ⟨ha, ha'⟩
theorem mop_store (w d a b : Int) (hw : mayW w = true) (hw8 : 8 ≤ w) (h2 : d ≤ 1024) (ha : 1 ≤ a) (ha' : a < d) (hb : 1 ≤ b) (hb' : b < d) (sa : sh a = (64, 1)) (sb : sh b = (w, 1)) : MOp sh ⟨17, w, 1, 0, [a, b], 0⟩ d := by
  have h7 : stores 17 = true := rfl
  have ht : takesS ⟨17, w, 1, 0, [a, b], 0⟩ = ([(64, 1), (w, 1)], true) := by simp [takesS, arith, asks, hw8]
  have hm : mayO ⟨17, w, 1, 0, [a, b], 0⟩ = true := by simp [mayO, ht, shape_one_lane hw, h7, value_of ha (by omega), value_of hb (by omega)]
  refine ⟨hm, ?_, .inr ?_, ?_, ?_, ⟨⟨by simp, by simp⟩, by simp⟩⟩
  · have n1 : num 1 = true := rfl
    have n0 : num 0 = true := rfl
    have nk : num 17 = true := rfl
    simp [mayOp, n0, nk, num_value ha (by omega), num_value hb (by omega), n1, num_w hw, listS]
  · rw [givesO, hm]
    simp [h7]
  · rw [takesO, if_pos hm, ht]
    simp [sa, sb]
  · intro x hx
    simp only [List.mem_cons, List.not_mem_nil, or_false] at hx
    rcases hx with rfl | rfl
    · exact ⟨ha, ha'⟩
    · exact ⟨hb, hb'⟩
theorem nxt_store (w d a b : Int) : nxt d ⟨17, w, 1, 0, [a, b], 0⟩ = d := by
  have h7 : stores 17 = true := rfl
  have : givesO ⟨17, w, 1, 0, [a, b], 0⟩ = (0, 0) := by rw [givesO, if_pos (.inr h7)]
  rw [nxt, this, if_pos (by simp)]
theorem nxt_of {o : POp} {d : Int} (h : MOp sh o d) (hd : o.dst = d) (h0 : d ≠ 0) (hs : stores o.kind = false) : nxt d o = d + 1 := by
  rcases h.gives with ⟨_, g, g3⟩ | g
  · rw [nxt, g, if_neg (by omega)]
  · exfalso
    have hb : 0 < o.bits := by
      have := h.may
      simp only [mayO, Bool.and_eq_true] at this
      exact pos_w (shapeS_lanes this.1).1
    rw [givesO, h.may, hs] at g
    simp only [Bool.true_eq_false, Bool.false_eq_true, or_self, if_false] at g
    split at g
    · simp at g
    · split at g
      · have := congrArg Prod.fst g
        simp only [] at this
        omega
      · have := congrArg Prod.fst g
        simp only [] at this
        omega
end
end AC

namespace AC
open Go Go.A Go.A.Lex
/-- A function that is right. -/
structure RightF (f : PFunc) (tree : List Int) : Prop where
  ok : okF f
  isT : TreeIs f tree
  look : lookS f 2 tree = 0
def touchK (k : Int) : Int := if k = 16 ∨ k = 17 then 0 else if k = 18 ∨ k = 19 then 1 else -1
theorem alias_touch_call (k : Int) : call T F.alias_touch [vI k] [] = some (vI (touchK k), []) := by
  rw [call_eq (fn := a_alias_touch) rfl]
  by_cases c1 : k = 16
  · simp -implicitDefEqProofs only [go_sem, a_alias_touch, touchK, c1]
  by_cases c2 : k = 17
  · simp -implicitDefEqProofs only [go_sem, a_alias_touch, touchK, c1, c2]
  by_cases c3 : k = 18
  · simp -implicitDefEqProofs only [go_sem, a_alias_touch, touchK, c1, c2, c3]
  by_cases c4 : k = 19
  · simp -implicitDefEqProofs only [go_sem, a_alias_touch, touchK, c1, c2, c3, c4]
  simp -implicitDefEqProofs only [go_sem, a_alias_touch, touchK, c1, c2, c3, c4]
section
variable {f : PFunc} {tree : List Int} (R : RightF f tree)
include R
theorem alias_right_call (block : Nat) (hb : block < f.blocks.length) : call T F.alias_right [vFunc f, vI block] [] = some (vB true, []) := by
  rw [call_eq (fn := a_alias_right) rfl]
  have hc := Check_call f R.ok 2 tree R.isT
  have hS : checkS f 2 tree = 0 := by rw [checkS, if_neg (by omega)]; exact R.look
  rw [hS] at hc
  have h1 : ((block : Int) < (f.blocks.length : Int)) = True := by simp; omega
  simp -implicitDefEqProofs only [go_sem] at hc
  simp -implicitDefEqProofs only [go_sem, a_alias_right, hc, h1, Int.natCast_nonneg, List.length_map]
end
/-- A touch's address and length, in a block: of what has one lane. -/
theorem alias_address_call (b : PBlock) (at' : Nat) (o : POp) (ho : b.ops[at']? = some o) (hk : o.kind = 16 ∨ o.kind = 17) (hl : o.lanes = 1) (v : Int) (r : List Int) (hv : o.args = v :: r) (m : Int) (hm : o.bits = 8 * m) (h0 : 0 ≤ m) (h1 : m ≤ 1000) :
    call T F.alias_address [vBlock b, vI at'] [] = some (.tup [vI v, vI m, vB true], []) := by
  rw [call_eq (fn := a_alias_address) rfl]
  have hlt : at' < b.ops.length := (List.getElem?_eq_some_iff.1 ho).1
  have he : b.ops[at'] = o := (List.getElem?_eq_some_iff.1 ho).2
  have ht := alias_touch_call o.kind
  have htk : touchK o.kind = 0 := by unfold touchK; rw [if_pos hk]
  rw [htk] at ht
  have hw : IntKind.i64.wrap (1 * (8 * m)) = 8 * m := by rw [wrap_i64] <;> omega
  have hw2 : IntKind.i64.wrap m = m := by rw [wrap_i64] <;> omega
  have hq : (8 * m).tdiv 8 = m := by rw [Int.mul_tdiv_cancel_left _ (by decide)]
  have hnn : ((at' : Int) < 0) = False := by simp
  have hge : ((b.ops.length : Int) ≤ (at' : Int)) = False := by simp; omega
  simp -implicitDefEqProofs only [go_sem] at ht
  simp -implicitDefEqProofs only [go_sem, a_alias_address, hnn, hge, getr hlt, he, ro, ri, ht, hl, hm, hw, hw2, hq, hv, List.length_map, List.map_cons]
section
variable {f : PFunc} {tree : List Int} (R : RightF f tree)
include R
theorem alias_Address_call (block : Nat) (hb : block < f.blocks.length) (at' : Nat) (o : POp) (ho : f.blocks[block].ops[at']? = some o) (hk : o.kind = 16 ∨ o.kind = 17) (hl : o.lanes = 1) (v : Int) (r : List Int) (hv : o.args = v :: r) (m : Int) (hm : o.bits = 8 * m) (h0 : 0 ≤ m) (h1 : m ≤ 1000) :
    call T F.alias_Address [vFunc f, vI block, vI at'] [] = some (.tup [vI v, vI m, vB true], []) := by
  rw [call_eq (fn := a_alias_Address) rfl]
  have hr := alias_right_call R block hb
  have ha := alias_address_call f.blocks[block] at' o ho hk hl v r hv m hm h0 h1
  simp -implicitDefEqProofs only [go_sem] at hr ha
  simp -implicitDefEqProofs only [go_sem, a_alias_Address, hr, getr hb, rb, ha]
omit R in
theorem Distance_1_call (d m n x : Int) (o : Ob) (r : Store) : call T F.alias_Distance_1 [vU64 d, vU64 m, vU64 n, .one (.ptr 1 0 0 0)] (o :: .cells 0 1 [[.f (eu x)]] :: r) = some (vB true, o :: .cells 0 1 [[.f (eu d)]] :: r) := by
  rw [call_eq (fn := a_alias_Distance_1) rfl]
  simp -implicitDefEqProofs only [go_sem, a_alias_Distance_1]
omit R in
theorem Follows_1_call (d m n : Int) (σ : Store) : call T F.alias_Follows_1 [vU64 d, vU64 m, vU64 n] σ = some (vB (decide (d = m)), σ) := by
  rw [call_eq (fn := a_alias_Follows_1) rfl]
  simp -implicitDefEqProofs only [go_sem, a_alias_Follows_1]
omit R in
theorem Apart_1_call (d m n : Int) (σ : Store) : call T F.alias_Apart_1 [vU64 d, vU64 m, vU64 n] σ = some (vB (decide (m ≤ d) && decide (n ≤ IntKind.u64.wrap (0 - d))), σ) := by
  rw [call_eq (fn := a_alias_Apart_1) rfl]
  by_cases c : m ≤ d
  · simp -implicitDefEqProofs only [go_sem, a_alias_Apart_1, c]
  · simp -implicitDefEqProofs only [go_sem, a_alias_Apart_1, c]
/-- What is known of two touches: their addresses, lengths and forms. -/
structure TwoT (f : PFunc) (block : Int) (a b : Int) (va vb m n : Int) (ra rb' : PForm) : Prop where
  hA : call T F.alias_Address [vFunc f, vI block, vI a] [] = some (.tup [vI va, vI m, vB true], [])
  hB : call T F.alias_Address [vFunc f, vI block, vI b] [] = some (.tup [vI vb, vI n, vB true], [])
  oA : call T F.affine_Of [vFunc f, vI va] [] = some (.tup [vFm ra, vI 0], [])
  oB : call T F.affine_Of [vFunc f, vI vb] [] = some (.tup [vFm rb', vI 0], [])
  m0 : 0 ≤ m ∧ m ≤ 1000
  n0 : 0 ≤ n ∧ n ≤ 1000
  la : ra.1.length ≤ 1000
omit R in
theorem Distance_call {block a b va vb m n : Int} {ra rb' : PForm} (h : TwoT f block a b va vb m n ra rb') : call T F.alias_Distance [vFunc f, vI block, vI a, vI b] [] =
    some (.tup [vU64 (if ra.1 = rb'.1 then IntKind.u64.wrap (rb'.2 - ra.2) else 0), vB (decide (ra.1 = rb'.1))], []) := by
  rw [call_eq (fn := a_alias_Distance) rfl]
  obtain ⟨hA, hB, oA, oB, m0, n0, la⟩ := h
  have hE := Equal_call ra.1 rb'.1 (by omega)
  have w1 : IntKind.u64.wrap m = m := wrap_u64 (by omega) (by omega)
  have w2 : IntKind.u64.wrap n = n := wrap_u64 (by omega) (by omega)
  have h1 := fun r => Distance_1_call (IntKind.u64.wrap (rb'.2 - ra.2)) m n 0 (.cells 0 3 [cFunc f]) r
  have hw : ∀ σ, σ = [Ob.cells 0 3 [cFunc f], .cells 0 1 [[.f (eu 0)]]] → call T F.alias_with [vFunc f, vI block, vI a, vI b, .one (.fn F.alias_Distance_1 [] [.ptr 1 0 0 0])] σ =
      some (vB (decide (ra.1 = rb'.1)), [Ob.cells 0 3 [cFunc f], .cells 0 1 [[.f (eu (if ra.1 = rb'.1 then IntKind.u64.wrap (rb'.2 - ra.2) else 0))]]]) := by
    rintro σ rfl
    rw [call_eq (fn := a_alias_with) rfl]
    simp -implicitDefEqProofs only [go_sem, vFm, fF] at hA hB oA oB hE h1
    by_cases c : ra.1 = rb'.1
    · simp -implicitDefEqProofs only [go_sem, a_alias_with, hA, hB, oA, oB, hE, w1, w2, eq_true c, h1]
    · simp -implicitDefEqProofs only [go_sem, a_alias_with, hA, hB, oA, oB, hE, w1, w2, c]
  have hw' := hw _ rfl
  simp -implicitDefEqProofs only [go_sem] at hw'
  simp -implicitDefEqProofs only [go_sem, a_alias_Distance, hw']
omit R in
theorem with_call {block a b va vb m n : Int} {ra rb' : PForm} (h : TwoT f block a b va vb m n ra rb') (g : Nat) (p : Int → Int → Int → Bool) (hg : ∀ d m n σ, call T g [vU64 d, vU64 m, vU64 n] σ = some (vB (p d m n), σ)) :
    call T F.alias_with [vFunc f, vI block, vI a, vI b, .one (.fn g [] [])] [.cells 0 3 [cFunc f]] = some (vB (decide (ra.1 = rb'.1) && p (IntKind.u64.wrap (rb'.2 - ra.2)) m n), [.cells 0 3 [cFunc f]]) := by
  rw [call_eq (fn := a_alias_with) rfl]
  obtain ⟨hA, hB, oA, oB, m0, n0, la⟩ := h
  have hE := Equal_call ra.1 rb'.1 (by omega)
  have w1 : IntKind.u64.wrap m = m := wrap_u64 (by omega) (by omega)
  have w2 : IntKind.u64.wrap n = n := wrap_u64 (by omega) (by omega)
  simp -implicitDefEqProofs only [go_sem, vFm, fF] at hA hB oA oB hE hg
  by_cases c : ra.1 = rb'.1
  · simp -implicitDefEqProofs only [go_sem, a_alias_with, hA, hB, oA, oB, hE, w1, w2, eq_true c, hg]
  · simp -implicitDefEqProofs only [go_sem, a_alias_with, hA, hB, oA, oB, hE, w1, w2, c]
omit R in
theorem Follows_call {block a b va vb m n : Int} {ra rb' : PForm} (h : TwoT f block a b va vb m n ra rb') : call T F.alias_Follows [vFunc f, vI block, vI a, vI b] [] =
    some (vB (decide (ra.1 = rb'.1) && decide (IntKind.u64.wrap (rb'.2 - ra.2) = m)), []) := by
  rw [call_eq (fn := a_alias_Follows) rfl]
  have hw := with_call h F.alias_Follows_1 (fun d m _ => decide (d = m)) Follows_1_call
  simp -implicitDefEqProofs only [go_sem] at hw
  simp -implicitDefEqProofs only [go_sem, a_alias_Follows, hw]
omit R in
theorem Apart_call {block a b va vb m n : Int} {ra rb' : PForm} (h : TwoT f block a b va vb m n ra rb') : call T F.alias_Apart [vFunc f, vI block, vI a, vI b] [] =
    some (vB (decide (ra.1 = rb'.1) && (decide (m ≤ IntKind.u64.wrap (rb'.2 - ra.2)) && decide (n ≤ IntKind.u64.wrap (0 - IntKind.u64.wrap (rb'.2 - ra.2))))), []) := by
  rw [call_eq (fn := a_alias_Apart) rfl]
  have hw := with_call h F.alias_Apart_1 (fun d m n => decide (m ≤ d) && decide (n ≤ IntKind.u64.wrap (0 - d))) Apart_1_call
  simp -implicitDefEqProofs only [go_sem] at hw
  simp -implicitDefEqProofs only [go_sem, a_alias_Apart, hw]
end
/-- The places of a block's touches. -/
def touchesFrom : Nat → List POp → List Int
  | _, [] => []
  | k, o :: r => if 0 ≤ touchK o.kind then (k : Int) :: touchesFrom (k + 1) r else touchesFrom (k + 1) r
theorem ap_ri1 (l : List Int) (x : Int) : l.map ri ++ [[.lit (.int .i64 x)]] = (l ++ [x]).map ri := by simp [ri]
theorem touches_l0 (f : PFunc) (b : PBlock) (hb : okB b) : ∀ (d k : Nat) (acc : List Int) a0 a1 a2 a3 a5 a6 a7 a11 a12, b.ops.length - k = d → k ≤ b.ops.length → acc.length ≤ k →
    exec T alias_Touches_l0 ⟨[a0, a1, a2, a3, .one (.ap 1 0 (acc.map ri)), a5, a6, a7, vL (b.ops.map ro), vI b.ops.length, vI k, a11, a12], [.cells 0 3 [cFunc f], .tok 1 [acc.length]], 0, 0⟩ =
      some (.exit 0, ⟨[vU, vU, vU, vU, .one (.ap 1 0 ((acc ++ touchesFrom k (b.ops.drop k)).map ri)), vU, vU, vU, vU, vU, vU, vU, vU], [.cells 0 3 [cFunc f], .tok 1 [(acc ++ touchesFrom k (b.ops.drop k)).length]], 0, 0⟩) := by
  intro d
  induction d with
  | zero =>
    intro k acc a0 a1 a2 a3 a5 a6 a7 a11 a12 h1 h2 h3
    have hk : k = b.ops.length := by omega
    subst hk
    rw [alias_Touches_l0_eq, alias_Touches_b0]
    simp -implicitDefEqProofs only [go_sem, Int.lt_irrefl, List.drop_length, touchesFrom, List.append_nil]
  | succ d ih =>
    intro k acc a0 a1 a2 a3 a5 a6 a7 a11 a12 h1 h2 h3
    have hk : k < b.ops.length := by omega
    have hd : b.ops.drop k = b.ops[k] :: b.ops.drop (k + 1) := List.drop_eq_getElem_cons hk
    have ht := alias_touch_call b.ops[k].kind
    have hlim : acc.length + 1 ≤ LIM := by have := hb.ops; unfold LIM; omega
    rw [alias_Touches_l0_eq, alias_Touches_b0, hd, touchesFrom]
    simp -implicitDefEqProofs only [go_sem] at ht
    by_cases c : 0 ≤ touchK b.ops[k].kind
    · have := ih (k + 1) (acc ++ [(k : Int)]) vU vU vU vU vU vU vU vU vU (by omega) (by omega) (by simp; omega)
      rw [List.append_assoc, List.singleton_append, ← ap_ri1] at this
      simp -implicitDefEqProofs only [go_sem] at this
      simp -implicitDefEqProofs only [go_sem, ilt hk, getr hk, ro, ht, c, hlim, List.length_map, wrap_succ hk hb.ops, this]
    · have := ih (k + 1) acc vU vU vU vU vU vU vU vU vU (by omega) (by omega) (by omega)
      simp -implicitDefEqProofs only [go_sem] at this
      simp -implicitDefEqProofs only [go_sem, ilt hk, getr hk, ro, ht, c, hlim, List.length_map, wrap_succ hk hb.ops, this]
theorem Touches_call {f : PFunc} {tree : List Int} (R : RightF f tree) (block : Nat) (hb : block < f.blocks.length) : call T F.alias_Touches [vFunc f, vI block] [] = some (vIs (touchesFrom 0 f.blocks[block].ops), []) := by
  rw [call_eq (fn := a_alias_Touches) rfl]
  have hr := alias_right_call R block hb
  have q := fun a0 a1 a2 a3 a5 a6 a7 a11 a12 => touches_l0 f f.blocks[block] (R.ok.block _ (List.getElem_mem hb)) f.blocks[block].ops.length 0 [] a0 a1 a2 a3 a5 a6 a7 a11 a12 (by omega) (by omega) (by simp)
  simp only [List.drop_zero, Int.natCast_zero, List.map_nil, List.nil_append, List.length_nil] at q
  simp -implicitDefEqProofs only [go_sem] at hr q
  simp -implicitDefEqProofs only [go_sem, a_alias_Touches, hr, getr hb, rb, q, List.length_map]
end AC

namespace AC
open Go Go.A Go.A.Lex
def MTo (sh : Int → Int × Int) (d : Int) (ops : List POp) (e : Int) : Prop := MLine sh d ops ∧ lastD d ops = e
theorem MTo.nil (sh : Int → Int × Int) (d : Int) : MTo sh d [] d := ⟨trivial, rfl⟩
theorem MTo.val {sh : Int → Int × Int} {d e : Int} {o : POp} {r : List POp} (h : MOp sh o d) (hd : o.dst = d) (h0 : d ≠ 0) (hs : stores o.kind = false) (hr : MTo sh (d + 1) r e) : MTo sh d (o :: r) e := by
  have hn := nxt_of sh h hd h0 hs
  exact ⟨⟨h, by rw [hn]; exact hr.1⟩, by rw [lastD, hn]; exact hr.2⟩
theorem MTo.st {sh : Int → Int × Int} {d e w a b : Int} {r : List POp} (h : MOp sh ⟨17, w, 1, 0, [a, b], 0⟩ d) (hr : MTo sh d r e) : MTo sh d (⟨17, w, 1, 0, [a, b], 0⟩ :: r) e := by
  have hn := nxt_store d w a b
  exact ⟨⟨h, by rw [nxt_store]; exact hr.1⟩, by rw [lastD, nxt_store]; exact hr.2⟩
theorem MTo.app {sh : Int → Int × Int} : ∀ {a : List POp} {d m e : Int} {b : List POp}, MTo sh d a m → MTo sh m b e → MTo sh d (a ++ b) e
  | [], d, m, e, b, h, h' => by
    have : d = m := h.2
    subst this
    exact h'
  | o :: r, d, m, e, b, h, h' => by
    have := MTo.app (a := r) (d := nxt d o) ⟨h.1.2, h.2⟩ h'
    exact ⟨⟨h.1.1, this.1⟩, this.2⟩
theorem right_of {sh : Int → Int × Int} {ps : List Int} {ret : Int} {ops : List POp} {arg d e : Int} (hd : (ps.length : Int) + 1 = d) (hps : ps.all mayW = true) (hpl : ps.length ≤ 16) (hret : mayW ret = true)
    (hsh : ∀ q, ∀ h : q < ps.length, sh ((q : Nat) + 1) = (ps[q], 1)) (hl : MTo sh d ops e) (hlen : ops.length ≤ 500) (ha : 1 ≤ arg) (ha' : arg < e) (hn : arg ≤ 1023) (har : sh arg = (ret, 1)) :
    RightF (oneF ps ret ops arg) [-1] ∧ ∀ v : Int, 1 ≤ v → v < e → getM v (shapesS (oneF ps ret ops arg)) = some (sh v) := by
  subst hd
  obtain ⟨hl, he⟩ := hl
  subst he
  obtain ⟨h1, h2, h3⟩ := mline_right sh ps ret ops arg hps hpl hret hsh hl hlen ha ha' (num_value ha hn) har
  exact ⟨⟨h1, tree_one ps ret ops arg, h2⟩, h3⟩
theorem Of_line {f : PFunc} (R : RightF f [-1]) {v : Int} (hv : getM v (shapesS f) = some (64, 1)) {n : Nat} {r : PForm} (hr : ∃ M', formS (opsOf [] f.blocks) n [] v = some (r, M')) :
    call T F.affine_Of [vFunc f, vI v] [] = some (.tup [vFm r, vI 0], []) := by
  obtain ⟨M', h⟩ := hr
  exact Of_call f R.ok [-1] R.isT R.look v hv n r M' h
def ldO (w d a : Int) : POp := ⟨16, w, 1, d, [a], 0⟩
/-- Two touches of a function of one block. -/
theorem two_one {ps : List Int} {ret arg : Int} {ops : List POp} (R : RightF (oneF ps ret ops arg) [-1]) {a b : Nat} {oa ob : POp} (ha : ops[a]? = some oa) (hb : ops[b]? = some ob) (ka : oa.kind = 16 ∨ oa.kind = 17) (kb : ob.kind = 16 ∨ ob.kind = 17) (la : oa.lanes = 1) (lb : ob.lanes = 1)
    {va vb : Int} {ta tb : List Int} (hva : oa.args = va :: ta) (hvb : ob.args = vb :: tb) {m n : Int} (hm : oa.bits = 8 * m) (hn : ob.bits = 8 * n) (m0 : 0 ≤ m ∧ m ≤ 1000) (n0 : 0 ≤ n ∧ n ≤ 1000)
    {r1 r2 : PForm} (o1 : call T F.affine_Of [vFunc (oneF ps ret ops arg), vI va] [] = some (.tup [vFm r1, vI 0], [])) (o2 : call T F.affine_Of [vFunc (oneF ps ret ops arg), vI vb] [] = some (.tup [vFm r2, vI 0], [])) (l1 : r1.1.length ≤ 1000) :
    TwoT (oneF ps ret ops arg) 0 a b va vb m n r1 r2 :=
  ⟨alias_Address_call R 0 (by simp [oneF]) a oa ha ka la va ta hva m hm m0.1 m0.2, alias_Address_call R 0 (by simp [oneF]) b ob hb kb lb vb tb hvb n hn n0.1 n0.2, o1, o2, m0, n0, l1⟩
theorem mergeA {op : Int → Int → Int} (h0 : op 0 0 = 0) (h1 : op 1 0 = 1) : mergeT op [(1, 1)] [] = [(1, 1)] := by
  rw [mergeT, mergeT, h1]
  rfl
theorem mergeB : mergeT pl [(1, 1)] [(2, 1)] = [(1, 1), (2, 1)] := by
  simp [mergeT, consT, pl, u64w_eq]
theorem mergeC : mergeT mi [(1, 1), (2, 1)] [(2, 1)] = [(1, 1)] := by
  simp [mergeT, consT, mi, u64w_eq]
end AC

import Derived.Test.YtafckkajjloleaaGreatKG
import Derived.Test.YtafckkajjloleaaGreatKF
set_option linter.unusedVariables false
set_option linter.unusedSimpArgs false
set_option linter.unusedSectionVars false
namespace AC
open Go Go.A Go.A.Lex
/-- A function of one block that returns. -/
def oneF (params : List Int) (ret : Int) (ops : List POp) (arg : Int) : PFunc := ⟨params, ret, [⟨[], ops, 0, arg, []⟩]⟩
section
variable (params : List Int) (ret : Int) (ops : List POp) (arg : Int)
theorem norm_nil : normS [] = [] := by simp [normS, sortI, compactI]
theorem succ_one : succS (oneF params ret ops arg) = [[]] := by simp [succS, oneF, norm_nil]
theorem pred_one : predsS [[]] = [[]] := rfl
theorem graph_one : graphOk (oneF params ret ops arg) = true := by
  rw [graphOk, succ_one]
  rfl
theorem tree_one : TreeIs (oneF params ret ops arg) [-1] := by
  refine ⟨by simp, fun _ => ?_⟩
  rw [succ_one, pred_one]
  exact Tree_call [[]] [[]] ⟨by simp, by simp⟩ rfl 0 (by simp) 5 (by omega) [0] rfl 0 [] rfl (by simp) (by simp) 5 5 [0] rfl
theorem shape_one : shapeOk (oneF params ret ops arg) [-1] = true := by
  rw [shapeOk, graph_one, succ_one, pred_one]
  rfl
theorem uses_one : usesS (oneF params ret ops arg) = opsUsesFrom 0 0 ops ++ (if ret = 0 then [] else [⟨arg, (ret, 1), 0, mostAt⟩]) := by
  simp [usesS, oneF, usesFrom, blockUses, phisUses, endUses, endBits]
theorem dmap_one : dmapS (oneF params ret ops arg) = match putOps 0 0 (putParams 0 [] params) ops with
      | (D2, some o) => (D2, some [.cells 0 5 [cBlock ⟨[], ops, 0, arg, []⟩], .cells 0 6 [cOp o]])
      | (D2, none) => (D2, none) := by
  simp only [dmapS, oneF, putBlocks, putPhis]
  rfl
end
end AC

namespace AC
open Go Go.A Go.A.Lex
/-- An operation of a straight line: the one that defines d, of values that were. -/
structure LineOp (w : Int × Int) (o : POp) (d : Int) : Prop where
  may : mayO o = true
  mayOp : mayOp o = true
  dst : o.dst = d
  gives : givesO o = w
  takes : takesO o = o.args.map fun _ => w
  args : ∀ a ∈ o.args, 1 ≤ a ∧ a < d
  ok : okOpL o
def Line (w : Int × Int) : Int → List POp → Prop
  | _, [] => True
  | d, o :: r => LineOp w o d ∧ Line w (d + 1) r
theorem putOps_line (w : Int × Int) (hw : 0 < w.1) : ∀ (ops : List POp) (k : Nat) (D : DMap), Line w (k + 2) ops → (∀ v : Int, k + 2 ≤ v → getM v D = none) →
    ∃ D', putOps 0 k D ops = (D', none) ∧ ∀ v : Int, getM v D' = if k + 2 ≤ v ∧ v < k + 2 + ops.length then some ⟨0, v - 2, w⟩ else getM v D
  | [], k, D, _, _ => ⟨D, rfl, fun v => by rw [if_neg (by simp only [List.length_nil]; omega)]⟩
  | o :: r, k, D, hl, hD => by
    obtain ⟨ho, hr⟩ := hl
    have hn : (getM o.dst D).isNone = true := by rw [ho.dst, hD _ (by omega)]; rfl
    have e : (k : Int) + 2 + 1 = ((k + 1 : Nat) : Int) + 2 := by omega
    rw [e] at hr
    obtain ⟨D', h1, h2⟩ := putOps_line w hw r (k + 1) (putM o.dst ⟨0, k, givesO o⟩ D) hr (fun v hv => by rw [get_putM, if_neg (by rw [ho.dst]; omega)]; exact hD v (by omega))
    refine ⟨D', ?_, fun v => ?_⟩
    · rw [putOps, if_neg (by rw [ho.gives]; omega), if_pos hn, h1]
    · rw [h2 v, get_putM, ho.dst, ho.gives, List.length_cons]
      by_cases c1 : ((k + 1 : Nat) : Int) + 2 ≤ v ∧ v < ((k + 1 : Nat) : Int) + 2 + r.length
      · rw [if_pos c1, if_pos (by omega)]
      · rw [if_neg c1]
        by_cases c2 : (k : Int) + 2 = v
        · rw [if_pos c2, if_pos (by omega)]
          have : v - 2 = k := by omega
          rw [this]
        · rw [if_neg c2, if_neg (by omega)]
theorem uses_of_op (o : POp) (i at' : Int) : ∀ (l : List (Int × Int)) (k : Nat), ∀ u ∈ opUsesFrom o i at' k l, ∃ q, ∃ h : q < l.length, u = ⟨o.args.getD (k + q) 0, l[q], i, at'⟩
  | [], _, u, h => by simp [opUsesFrom] at h
  | s :: r, k, u, h => by
    rw [opUsesFrom, List.mem_cons] at h
    rcases h with rfl | h
    · exact ⟨0, by simp, rfl⟩
    · obtain ⟨q, hq, rfl⟩ := uses_of_op o i at' r (k + 1) u h
      refine ⟨q + 1, by simpa using hq, ?_⟩
      have : k + (q + 1) = k + 1 + q := by omega
      rw [this]
      rfl
theorem uses_line (w : Int × Int) : ∀ (ops : List POp) (k : Nat), Line w (k + 2) ops → ∀ u ∈ opsUsesFrom 0 k ops, u.shape = w ∧ u.block = 0 ∧ 1 ≤ u.v ∧ u.v < u.at' + 2 ∧ u.at' < k + ops.length
  | [], _, _, u, h => by simp [opsUsesFrom] at h
  | o :: r, k, hl, u, h => by
    obtain ⟨ho, hr⟩ := hl
    have e : (k : Int) + 2 + 1 = ((k + 1 : Nat) : Int) + 2 := by omega
    rw [e] at hr
    rw [opsUsesFrom, List.mem_append] at h
    rcases h with h | h
    · obtain ⟨q, hq, rfl⟩ := uses_of_op o 0 k (takesO o) 0 u h
      have hlen : (takesO o).length = o.args.length := by rw [ho.takes, List.length_map]
      have hq' : q < o.args.length := by omega
      have hm := ho.args o.args[q] (List.getElem_mem hq')
      have hs : (takesO o)[q] = w := by simp [ho.takes]
      have hg : o.args.getD (0 + q) 0 = o.args[q] := by simp [hq']
      simp only [hg, hs, List.length_cons]
      refine ⟨trivial, trivial, hm.1, by omega, by omega⟩
    · obtain ⟨a, b, c, d, e⟩ := uses_line w r (k + 1) hr u h
      rw [List.length_cons]
      exact ⟨a, b, c, d, by omega⟩
theorem firstE_zero (ask : Use → Int) : ∀ l : List Use, (∀ u ∈ l, ask u = 0) → firstE ask l = 0
  | [], _ => rfl
  | u :: r, h => by rw [firstE, if_pos (h u List.mem_cons_self)]; exact firstE_zero ask r fun x hx => h x (List.mem_cons_of_mem _ hx)
theorem line_mem (w : Int × Int) {P : POp → Prop} (hP : ∀ o d, LineOp w o d → P o) : ∀ (ops : List POp) (d : Int), Line w d ops → ∀ o ∈ ops, P o
  | [], _, _, o, h => by simp at h
  | x :: r, d, hl, o, h => by
    rcases List.mem_cons.1 h with rfl | h
    · exact hP _ _ hl.1
    · exact line_mem w hP r _ hl.2 o h
/-- A straight line of one width and one lane, of one parameter: it is right. -/
theorem line_right (b : Int) (hb : mayW b = true) (ops : List POp) (arg : Int) (hl : Line (b, 1) 2 ops) (hlen : ops.length ≤ 500) (ha : 1 ≤ arg) (ha' : arg < ops.length + 2) :
    okF (oneF [b] b ops arg) ∧ lookS (oneF [b] b ops arg) 2 [-1] = 0 ∧ ∀ v : Int, 1 ≤ v → v < ops.length + 2 → getM v (shapesS (oneF [b] b ops arg)) = some (b, 1) := by
  have hb0 : 0 < b := by rcases mayW_cases hb with h | h | h | h | h <;> omega
  have hbn : num b = true := by simp only [num, Bool.and_eq_true, decide_eq_true_eq]; rcases mayW_cases hb with h | h | h | h | h <;> omega
  have hF : okF (oneF [b] b ops arg) := by
    refine ⟨by simp [oneF], by simp [oneF], fun x hx => ?_, by simp [oneF]; omega⟩
    simp only [oneF, List.mem_singleton] at hx
    subst hx
    exact ⟨by simp, by simpa using (by omega : ops.length ≤ 4294967296), by simp, line_mem _ (fun o d h => h.ok) ops 2 hl, by simp⟩
  have hM : mayF (oneF [b] b ops arg) = true := by
    have hs : sizeF (oneF [b] b ops arg) = 1 + ops.length := by simp [sizeF, oneF]
    have ho : ops.all mayOp = true := List.all_eq_true.2 (line_mem _ (fun o d h => h.mayOp) ops 2 hl)
    have hn : num arg = true := by simp only [num, Bool.and_eq_true, decide_eq_true_eq]; omega
    have hn0 : num 0 = true := rfl
    unfold mayF
    rw [hs]
    have hd : ¬ 512 < 1 + ops.length := by omega
    simp [oneF, mayB, mayEnd, ho, hn, hn0, hbn, listS, hd]
  have hT : typedS (oneF [b] b ops arg) 2 = true := by
    have ho : ops.all (ofS 2) = true := List.all_eq_true.2 (line_mem _ (fun o d h => by simp [ofS, h.may]) ops 2 hl)
    simp [typedS, oneF, typedB, hb, ho]
  obtain ⟨D', h1, h2⟩ := putOps_line (b, 1) hb0 ops 0 (putParams 0 [] [b]) hl (fun v hv => by
    simp only [putParams, putM, getM]
    rw [if_neg (by omega)])
  have hdm : dmapS (oneF [b] b ops arg) = (D', none) := by rw [dmap_one, h1]
  have hp1 : getM 1 D' = some ⟨-1, 0, (b, 1)⟩ := by
    rw [h2, if_neg (by omega)]
    rfl
  have hv2 : ∀ v : Int, 2 ≤ v → v < ops.length + 2 → getM v D' = some ⟨0, v - 2, (b, 1)⟩ := fun v hv hv' => by
    rw [h2, if_pos (by omega)]
  have hU : ∀ u ∈ usesS (oneF [b] b ops arg), u.shape = (b, 1) ∧ u.block = 0 ∧ 1 ≤ u.v ∧ u.v < u.at' + 2 ∧ u.v < ops.length + 2 := fun u hu => by
    rw [uses_one, List.mem_append] at hu
    rcases hu with hu | hu
    · obtain ⟨a1, a2, a3, a4, a5⟩ := uses_line (b, 1) ops 0 hl u hu
      exact ⟨a1, a2, a3, a4, by omega⟩
    · rw [if_neg (by omega), List.mem_singleton] at hu
      subst hu
      exact ⟨rfl, rfl, ha, by simp only [mostAt]; omega, ha'⟩
  have hG : ∀ u ∈ usesS (oneF [b] b ops arg), (u.v = 1 ∧ getM u.v D' = some ⟨-1, 0, (b, 1)⟩) ∨ getM u.v D' = some ⟨0, u.v - 2, (b, 1)⟩ := fun u hu => by
    obtain ⟨_, _, a3, _, a5⟩ := hU u hu
    by_cases c : u.v = 1
    · exact .inl ⟨c, by rw [c]; exact hp1⟩
    · exact .inr (hv2 u.v (by omega) a5)
  refine ⟨hF, ?_, fun v hv hv' => ?_⟩
  · have e1 : firstE (askDef D') (usesS (oneF [b] b ops arg)) = 0 := firstE_zero _ _ fun u hu => by
      rcases hG u hu with ⟨_, h⟩ | h <;> simp [askDef, h]
    have e2 : firstE (askShape D') (usesS (oneF [b] b ops arg)) = 0 := firstE_zero _ _ fun u hu => by
      have := (hU u hu).1
      rcases hG u hu with ⟨_, h⟩ | h <;> simp [askShape, defAt, h, this]
    have e3 : firstE (askPlace D' [-1]) (usesS (oneF [b] b ops arg)) = 0 := firstE_zero _ _ fun u hu => by
      obtain ⟨_, a2, _, a4, _⟩ := hU u hu
      rcases hG u hu with ⟨_, h⟩ | h
      · simp [askPlace, defAt, h]
      · have : u.v - 2 < u.at' := by omega
        simp [askPlace, defAt, h, a2, this]
    rw [lookS, hM, shape_one, hT, hdm]
    simp [e1, e2, e3]
  · have := get_putAll v (dmapS (oneF [b] b ops arg)).1 [] (nodup_dmap _)
    rw [shapesS, this, hdm]
    by_cases c : v = 1
    · rw [c, hp1]
    · rw [hv2 v (by omega) hv']
end AC

namespace AC
open Go Go.A Go.A.Lex
def cstO (d n : Int) : POp := ⟨0, 64, 1, d, [], n⟩
def binO (k d a b : Int) : POp := ⟨k, 64, 1, d, [a, b], 0⟩
theorem line_cst (d n : Int) (h1 : 1 ≤ d) (h2 : d ≤ 1023) (h3 : 0 ≤ n) (h4 : n < 18446744073709551616) : LineOp (64, 1) (cstO d n) d := by
  have hc : cutW n 64 = n := by
    unfold cutW
    rw [if_pos (show mayW 64 = true from rfl)]
    exact Int.emod_eq_of_lt h3 h4
  have hm : mayO (cstO d n) = true := by
    have h5 : value d = true := by simp [value, h1, h2]
    have h6 : shapeS 64 1 = true := rfl
    have h7 : stores 0 = false := rfl
    simp [mayO, cstO, takesS, hc, h5, h6, h7]
  refine ⟨hm, ?_, rfl, ?_, ?_, by simp [cstO], ⟨⟨h3, h4⟩, by simp [cstO]⟩⟩
  · have : num d = true := by simp only [num, Bool.and_eq_true, decide_eq_true_eq]; omega
    have n0 : num 0 = true := rfl
    have n1 : num 1 = true := rfl
    have n64 : num 64 = true := rfl
    simp [mayOp, cstO, this, n0, n1, n64, listS]
  · have h7 : stores 0 = false := rfl
    rw [givesO, hm]
    simp [cstO, h7]
  · rw [takesO, if_pos hm]
    simp [cstO, takesS]
theorem line_bin (k d a b : Int) (hk : arith k = true) (hk0 : 1 ≤ k) (hk1 : k ≤ 9) (hs : stores k = false) (h1 : 1 ≤ d) (h2 : d ≤ 1023) (ha : 1 ≤ a) (ha' : a < d) (hb : 1 ≤ b) (hb' : b < d) : LineOp (64, 1) (binO k d a b) d := by
  have k0 : ¬ k = 0 := by omega
  have hm : mayO (binO k d a b) = true := by
    have h5 : value d = true := by simp [value, h1, h2]
    have h6 : shapeS 64 1 = true := rfl
    have h8 : value a = true := by simp only [value, Bool.and_eq_true, decide_eq_true_eq]; omega
    have h9 : value b = true := by simp only [value, Bool.and_eq_true, decide_eq_true_eq]; omega
    simp [mayO, binO, takesS, hk, h5, h6, h8, h9, hs, k0]
  refine ⟨hm, ?_, rfl, ?_, ?_, ?_, ⟨⟨by simp [binO], by simp [binO]⟩, by simp [binO]⟩⟩
  · have : num d = true := by simp only [num, Bool.and_eq_true, decide_eq_true_eq]; omega
    have nk : num k = true := by simp only [num, Bool.and_eq_true, decide_eq_true_eq]; omega
    have na : num a = true := by simp only [num, Bool.and_eq_true, decide_eq_true_eq]; omega
    have nb : num b = true := by simp only [num, Bool.and_eq_true, decide_eq_true_eq]; omega
    have n1 : num 1 = true := rfl
    have n64 : num 64 = true := rfl
    simp [mayOp, binO, this, nk, na, nb, n1, n64, listS]
  · have c1 : ¬ 10 ≤ k := by omega
    have c2 : ¬ k = 22 := by omega
    rw [givesO, hm]
    simp [binO, hs, c1, c2]
  · rw [takesO, if_pos hm]
    simp [binO, takesS, hk, k0]
  · intro x hx
    simp only [binO, List.mem_cons, List.not_mem_nil, or_false] at hx
    rcases hx with rfl | rfl
    · exact ⟨ha, ha'⟩
    · exact ⟨hb, hb'⟩
def scOps (n by' : Int) : List POp := [cstO 2 n, cstO 3 by', binO 1 4 1 2, binO 3 5 4 3, binO 3 6 3 4, binO 8 7 4 3]
theorem scLine (n by' : Int) (h3 : 0 ≤ n) (h4 : n < 18446744073709551616) (h5 : 0 ≤ by') (h6 : by' < 18446744073709551616) : Line (64, 1) 2 (scOps n by') :=
  ⟨line_cst 2 n (by omega) (by omega) h3 h4, line_cst 3 by' (by omega) (by omega) h5 h6, line_bin 1 4 1 2 rfl (by omega) (by omega) rfl (by omega) (by omega) (by omega) (by omega) (by omega) (by omega),
   line_bin 3 5 4 3 rfl (by omega) (by omega) rfl (by omega) (by omega) (by omega) (by omega) (by omega) (by omega), line_bin 3 6 3 4 rfl (by omega) (by omega) rfl (by omega) (by omega) (by omega) (by omega) (by omega) (by omega),
   line_bin 8 7 4 3 rfl (by omega) (by omega) rfl (by omega) (by omega) (by omega) (by omega) (by omega) (by omega), trivial⟩
end AC

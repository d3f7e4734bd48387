import Derived.Test.YtafckkajjloleaaGreatKG
import Derived.Test.YtafckkajjloleaaGreatKF
import Derived.Test.YtafckkajjloleaaGreatLaw
import Derived.Test.YtafckkajjloleaaGreatCon
import Derived.Test.YtafckkajjloleaaGreatAwake
set_option linter.unusedVariables false
set_option linter.unusedSimpArgs false
set_option linter.unusedSectionVars false
namespace AC
open Go Go.A Go.A.Lex
/-- A function of one block that returns. -/
def oneF (params : List Int) (ret : Int) (ops : List POp) (arg : Int) : PFunc := ⟨params, ret, [⟨[], ops, 0, arg, []⟩]⟩
section
variable (params : List Int) (ret : Int) (ops : List POp) (arg : Int)
theorem norm_nil : normS [] = [] := by simp [normS, sortI, compactI]
theorem succ_one : succS (oneF params ret ops arg) = [[]] := by simp [succS, oneF, norm_nil]
theorem pred_one : predsS [[]] = [[]] := rfl
theorem graph_one : graphOk (oneF params ret ops arg) = true := by
  rw [graphOk, succ_one]
  rfl
theorem tree_one : TreeIs (oneF params ret ops arg) [-1] := by
  refine ⟨by simp, fun _ => ?_⟩
  rw [succ_one, pred_one]
  exact Tree_call [[]] [[]] ⟨by simp, by simp⟩ rfl 0 (by simp) 5 (by omega) [0] rfl 0 [] rfl (by simp) (by simp) 5 5 [0] rfl
theorem shape_one : shapeOk (oneF params ret ops arg) [-1] = true := by
  rw [shapeOk, graph_one, succ_one, pred_one]
  rfl
theorem uses_one : usesS (oneF params ret ops arg) = opsUsesFrom 0 0 ops ++ (if ret = 0 then [] else [⟨arg, (ret, 1), 0, mostAt⟩]) := by
  simp [usesS, oneF, usesFrom, blockUses, phisUses, endUses, endBits]
theorem dmap_one : dmapS (oneF params ret ops arg) = match putOps 0 0 (putParams 0 [] params) ops with
      | (D2, some o) => (D2, some [.cells 0 5 [cBlock ⟨[], ops, 0, arg, []⟩], .cells 0 6 [cOp o]])
      | (D2, none) => (D2, none) := by
  simp only [dmapS, oneF, putBlocks, putPhis]
  rfl
end
end AC

namespace AC
open Go Go.A Go.A.Lex
/-- An operation of a straight line: the one that defines d, of values that were. -/
structure LineOp (w : Int × Int) (o : POp) (d : Int) : Prop where
  may : mayO o = true
  mayOp : mayOp o = true
  dst : o.dst = d
  gives : givesO o = w
  takes : takesO o = o.args.map fun _ => w
  args : ∀ a ∈ o.args, 1 ≤ a ∧ a < d
  ok : okOpL o
def Line (w : Int × Int) : Int → List POp → Prop
  | _, [] => True
  | d, o :: r => LineOp w o d ∧ Line w (d + 1) r
theorem putOps_line (w : Int × Int) (hw : 0 < w.1) : ∀ (ops : List POp) (k : Nat) (D : DMap), Line w (k + 2) ops → (∀ v : Int, k + 2 ≤ v → getM v D = none) →
    ∃ D', putOps 0 k D ops = (D', none) ∧ ∀ v : Int, getM v D' = if k + 2 ≤ v ∧ v < k + 2 + ops.length then some ⟨0, v - 2, w⟩ else getM v D
  | [], k, D, _, _ => ⟨D, rfl, fun v => by rw [if_neg (by simp only [List.length_nil]; omega)]⟩
  | o :: r, k, D, hl, hD => by
    obtain ⟨ho, hr⟩ := hl
    have hn : (getM o.dst D).isNone = true := by rw [ho.dst, hD _ (by omega)]; rfl
    have e : (k : Int) + 2 + 1 = ((k + 1 : Nat) : Int) + 2 := by omega
    rw [e] at hr
    obtain ⟨D', h1, h2⟩ := putOps_line w hw r (k + 1) (putM o.dst ⟨0, k, givesO o⟩ D) hr (fun v hv => by rw [get_putM, if_neg (by rw [ho.dst]; omega)]; exact hD v (by omega))
    refine ⟨D', ?_, fun v => ?_⟩
    · rw [putOps, if_neg (by rw [ho.gives]; omega), if_pos hn, h1]
    · rw [h2 v, get_putM, ho.dst, ho.gives, List.length_cons]
      by_cases c1 : ((k + 1 : Nat) : Int) + 2 ≤ v ∧ v < ((k + 1 : Nat) : Int) + 2 + r.length
      · rw [if_pos c1, if_pos (by omega)]
      · rw [if_neg c1]
        by_cases c2 : (k : Int) + 2 = v
        · rw [if_pos c2, if_pos (by omega)]
          have : v - 2 = k := by omega
          rw [this]
        · rw [if_neg c2, if_neg (by omega)]
theorem uses_of_op (o : POp) (i at' : Int) : ∀ (l : List (Int × Int)) (k : Nat), ∀ u ∈ opUsesFrom o i at' k l, ∃ q, ∃ h : q < l.length, u = ⟨o.args.getD (k + q) 0, l[q], i, at'⟩
  | [], _, u, h => by simp [opUsesFrom] at h
  | s :: r, k, u, h => by
    rw [opUsesFrom, List.mem_cons] at h
    rcases h with rfl | h
    · exact ⟨0, by simp, rfl⟩
    · obtain ⟨q, hq, rfl⟩ := uses_of_op o i at' r (k + 1) u h
      refine ⟨q + 1, by simpa using hq, ?_⟩
      have : k + (q + 1) = k + 1 + q := by omega
      rw [this]
      rfl
theorem uses_line (w : Int × Int) : ∀ (ops : List POp) (k : Nat), Line w (k + 2) ops → ∀ u ∈ opsUsesFrom 0 k ops, u.shape = w ∧ u.block = 0 ∧ 1 ≤ u.v ∧ u.v < u.at' + 2 ∧ u.at' < k + ops.length
  | [], _, _, u, h => by simp [opsUsesFrom] at h
  | o :: r, k, hl, u, h => by
    obtain ⟨ho, hr⟩ := hl
    have e : (k : Int) + 2 + 1 = ((k + 1 : Nat) : Int) + 2 := by omega
    rw [e] at hr
    rw [opsUsesFrom, List.mem_append] at h
    rcases h with h | h
    · obtain ⟨q, hq, rfl⟩ := uses_of_op o 0 k (takesO o) 0 u h
      have hlen : (takesO o).length = o.args.length := by rw [ho.takes, List.length_map]
      have hq' : q < o.args.length := by omega
      have hm := ho.args o.args[q] (List.getElem_mem hq')
      have hs : (takesO o)[q] = w := by simp [ho.takes]
      have hg : o.args.getD (0 + q) 0 = o.args[q] := by simp [hq']
      simp only [hg, hs, List.length_cons]
      refine ⟨trivial, trivial, hm.1, by omega, by omega⟩
    · obtain ⟨a, b, c, d, e⟩ := uses_line w r (k + 1) hr u h
      rw [List.length_cons]
      exact ⟨a, b, c, d, by omega⟩
theorem firstE_zero (ask : Use → Int) : ∀ l : List Use, (∀ u ∈ l, ask u = 0) → firstE ask l = 0
  | [], _ => rfl
  | u :: r, h => by rw [firstE, if_pos (h u List.mem_cons_self)]; exact firstE_zero ask r fun x hx => h x (List.mem_cons_of_mem _ hx)
theorem line_mem (w : Int × Int) {P : POp → Prop} (hP : ∀ o d, LineOp w o d → P o) : ∀ (ops : List POp) (d : Int), Line w d ops → ∀ o ∈ ops, P o
  | [], _, _, o, h => by simp at h
  | x :: r, d, hl, o, h => by
    rcases List.mem_cons.1 h with rfl | h
    · exact hP _ _ hl.1
    · exact line_mem w hP r _ hl.2 o h
/-- A straight line of one width and one lane, of one parameter: it is right. -/
theorem line_right (b : Int) (hb : mayW b = true) (ops : List POp) (arg : Int) (hl : Line (b, 1) 2 ops) (hlen : ops.length ≤ 500) (ha : 1 ≤ arg) (ha' : arg < ops.length + 2) :
    okF (oneF [b] b ops arg) ∧ lookS (oneF [b] b ops arg) 2 [-1] = 0 ∧ ∀ v : Int, 1 ≤ v → v < ops.length + 2 → getM v (shapesS (oneF [b] b ops arg)) = some (b, 1) := by
  have hb0 : 0 < b := by rcases mayW_cases hb with h | h | h | h | h <;> omega
  have hbn : num b = true := by simp only [num, Bool.and_eq_true, decide_eq_true_eq]; rcases mayW_cases hb with h | h | h | h | h <;> omega
  have hF : okF (oneF [b] b ops arg) := by
    refine ⟨by simp [oneF], by simp [oneF], fun x hx => ?_, by simp [oneF]; omega⟩
    simp only [oneF, List.mem_singleton] at hx
    subst hx
    exact ⟨by simp, by simpa using (by omega : ops.length ≤ 4294967296), by simp, line_mem _ (fun o d h => h.ok) ops 2 hl, by simp⟩
  have hM : mayF (oneF [b] b ops arg) = true := by
    have hs : sizeF (oneF [b] b ops arg) = 1 + ops.length := by simp [sizeF, oneF]
    have ho : ops.all mayOp = true := List.all_eq_true.2 (line_mem _ (fun o d h => h.mayOp) ops 2 hl)
    have hn : num arg = true := by simp only [num, Bool.and_eq_true, decide_eq_true_eq]; omega
    have hn0 : num 0 = true := rfl
    unfold mayF
    rw [hs]
    have hd : ¬ 512 < 1 + ops.length := by omega
    simp [oneF, mayB, mayEnd, ho, hn, hn0, hbn, listS, hd]
  have hT : typedS (oneF [b] b ops arg) 2 = true := by
    have ho : ops.all (ofS 2) = true := List.all_eq_true.2 (line_mem _ (fun o d h => by simp [ofS, h.may]) ops 2 hl)
    simp [typedS, oneF, typedB, hb, ho]
  obtain ⟨D', h1, h2⟩ := putOps_line (b, 1) hb0 ops 0 (putParams 0 [] [b]) hl (fun v hv => by
    simp only [putParams, putM, getM]
    rw [if_neg (by omega)])
  have hdm : dmapS (oneF [b] b ops arg) = (D', none) := by rw [dmap_one, h1]
  have hp1 : getM 1 D' = some ⟨-1, 0, (b, 1)⟩ := by
    rw [h2, if_neg (by omega)]
    rfl
  have hv2 : ∀ v : Int, 2 ≤ v → v < ops.length + 2 → getM v D' = some ⟨0, v - 2, (b, 1)⟩ := fun v hv hv' => by
    rw [h2, if_pos (by omega)]
  have hU : ∀ u ∈ usesS (oneF [b] b ops arg), u.shape = (b, 1) ∧ u.block = 0 ∧ 1 ≤ u.v ∧ u.v < u.at' + 2 ∧ u.v < ops.length + 2 := fun u hu => by
    rw [uses_one, List.mem_append] at hu
    rcases hu with hu | hu
    · obtain ⟨a1, a2, a3, a4, a5⟩ := uses_line (b, 1) ops 0 hl u hu
      exact ⟨a1, a2, a3, a4, by omega⟩
    · rw [if_neg (by omega), List.mem_singleton] at hu
      subst hu
      exact ⟨rfl, rfl, ha, by simp only [mostAt]; omega, ha'⟩
  have hG : ∀ u ∈ usesS (oneF [b] b ops arg), (u.v = 1 ∧ getM u.v D' = some ⟨-1, 0, (b, 1)⟩) ∨ getM u.v D' = some ⟨0, u.v - 2, (b, 1)⟩ := fun u hu => by
    obtain ⟨_, _, a3, _, a5⟩ := hU u hu
    by_cases c : u.v = 1
    · exact .inl ⟨c, by rw [c]; exact hp1⟩
    · exact .inr (hv2 u.v (by omega) a5)
  refine ⟨hF, ?_, fun v hv hv' => ?_⟩
  · have e1 : firstE (askDef D') (usesS (oneF [b] b ops arg)) = 0 := firstE_zero _ _ fun u hu => by
      rcases hG u hu with ⟨_, h⟩ | h <;> simp [askDef, h]
    have e2 : firstE (askShape D') (usesS (oneF [b] b ops arg)) = 0 := firstE_zero _ _ fun u hu => by
      have := (hU u hu).1
      rcases hG u hu with ⟨_, h⟩ | h <;> simp [askShape, defAt, h, this]
    have e3 : firstE (askPlace D' [-1]) (usesS (oneF [b] b ops arg)) = 0 := firstE_zero _ _ fun u hu => by
      obtain ⟨_, a2, _, a4, _⟩ := hU u hu
      rcases hG u hu with ⟨_, h⟩ | h
      · simp [askPlace, defAt, h]
      · have : u.v - 2 < u.at' := by omega
        simp [askPlace, defAt, h, a2, this]
    rw [lookS, hM, shape_one, hT, hdm]
    simp [e1, e2, e3]
  · have := get_putAll v (dmapS (oneF [b] b ops arg)).1 [] (nodup_dmap _)
    rw [shapesS, this, hdm]
    by_cases c : v = 1
    · rw [c, hp1]
    · rw [hv2 v (by omega) hv']
end AC

namespace AC
open Go Go.A Go.A.Lex
def cstO (d n : Int) : POp := ⟨0, 64, 1, d, [], n⟩
def binO (k d a b : Int) : POp := ⟨k, 64, 1, d, [a, b], 0⟩
theorem line_cst (d n : Int) (h1 : 1 ≤ d) (h2 : d ≤ 1023) (h3 : 0 ≤ n) (h4 : n < 18446744073709551616) : LineOp (64, 1) (cstO d n) d := by
  have hc : cutW n 64 = n := by
    unfold cutW
    rw [if_pos (show mayW 64 = true from rfl)]
    exact Int.emod_eq_of_lt h3 h4
  have hm : mayO (cstO d n) = true := by
    have h5 : value d = true := by simp [value, h1, h2]
    have h6 : shapeS 64 1 = true := rfl
    have h7 : stores 0 = false := rfl
    simp [mayO, cstO, takesS, hc, h5, h6, h7]
  refine ⟨hm, ?_, rfl, ?_, ?_, by simp [cstO], ⟨⟨h3, h4⟩, by simp [cstO]⟩⟩
  · have : num d = true := by simp only [num, Bool.and_eq_true, decide_eq_true_eq]; omega
    have n0 : num 0 = true := rfl
    have n1 : num 1 = true := rfl
    have n64 : num 64 = true := rfl
    simp [mayOp, cstO, this, n0, n1, n64, listS]
  · have h7 : stores 0 = false := rfl
    rw [givesO, hm]
    simp [cstO, h7]
  · rw [takesO, if_pos hm]
    simp [cstO, takesS]
theorem line_bin (k d a b : Int) (hk : arith k = true) (hk0 : 1 ≤ k) (hk1 : k ≤ 9) (hs : stores k = false) (h1 : 1 ≤ d) (h2 : d ≤ 1023) (ha : 1 ≤ a) (ha' : a < d) (hb : 1 ≤ b) (hb' : b < d) : LineOp (64, 1) (binO k d a b) d := by
  have k0 : ¬ k = 0 := by omega
  have hm : mayO (binO k d a b) = true := by
    have h5 : value d = true := by simp [value, h1, h2]
    have h6 : shapeS 64 1 = true := rfl
    have h8 : value a = true := by simp only [value, Bool.and_eq_true, decide_eq_true_eq]; omega
    have h9 : value b = true := by simp only [value, Bool.and_eq_true, decide_eq_true_eq]; omega
    simp [mayO, binO, takesS, hk, h5, h6, h8, h9, hs, k0]
  refine ⟨hm, ?_, rfl, ?_, ?_, ?_, ⟨⟨by simp [binO], by simp [binO]⟩, by simp [binO]⟩⟩
  · have : num d = true := by simp only [num, Bool.and_eq_true, decide_eq_true_eq]; omega
    have nk : num k = true := by simp only [num, Bool.and_eq_true, decide_eq_true_eq]; omega
    have na : num a = true := by simp only [num, Bool.and_eq_true, decide_eq_true_eq]; omega
    have nb : num b = true := by simp only [num, Bool.and_eq_true, decide_eq_true_eq]; omega
    have n1 : num 1 = true := rfl
    have n64 : num 64 = true := rfl
    simp [mayOp, binO, this, nk, na, nb, n1, n64, listS]
  · have c1 : ¬ 10 ≤ k := by omega
    have c2 : ¬ k = 22 := by omega
    rw [givesO, hm]
    simp [binO, hs, c1, c2]
  · rw [takesO, if_pos hm]
    simp [binO, takesS, hk, k0]
  · intro x hx
    simp only [binO, List.mem_cons, List.not_mem_nil, or_false] at hx
    rcases hx with rfl | rfl
    · exact ⟨ha, ha'⟩
    · exact ⟨hb, hb'⟩
def scOps (n by' : Int) : List POp := [cstO 2 n, cstO 3 by', binO 1 4 1 2, binO 3 5 4 3, binO 3 6 3 4, binO 8 7 4 3]
theorem scLine (n by' : Int) (h3 : 0 ≤ n) (h4 : n < 18446744073709551616) (h5 : 0 ≤ by') (h6 : by' < 18446744073709551616) : Line (64, 1) 2 (scOps n by') :=
  ⟨line_cst 2 n (by omega) (by omega) h3 h4, line_cst 3 by' (by omega) (by omega) h5 h6, line_bin 1 4 1 2 rfl (by omega) (by omega) rfl (by omega) (by omega) (by omega) (by omega) (by omega) (by omega),
   line_bin 3 5 4 3 rfl (by omega) (by omega) rfl (by omega) (by omega) (by omega) (by omega) (by omega) (by omega), line_bin 3 6 3 4 rfl (by omega) (by omega) rfl (by omega) (by omega) (by omega) (by omega) (by omega) (by omega),
   line_bin 8 7 4 3 rfl (by omega) (by omega) rfl (by omega) (by omega) (by omega) (by omega) (by omega) (by omega), trivial⟩
end AC

namespace AC
open Go Go.A Go.A.Lex
section
variable (n y : Int) (hn : u64ok n) (hy : u64ok y)
def scF : PFunc := oneF [64] 64 (scOps n y) 7
def scM : OMap := opsOf [] (scF n y).blocks
def q1 : PForm := ([(1, 1)], 0)
def r4 : PForm := plusS q1 ([], n)
def r5 : PForm := timesS (r4 n) y
def r7 : PForm := if y < 64 then timesS (r4 n) (IntKind.u64.wrap (1 * 2 ^ min y.toNat 64)) else ([(7, 1)], 0)
theorem m1 : getM 1 (scM n y) = none := rfl
theorem m2 : getM 2 (scM n y) = some (cstO 2 n) := rfl
theorem m3 : getM 3 (scM n y) = some (cstO 3 y) := rfl
theorem m4 : getM 4 (scM n y) = some (binO 1 4 1 2) := rfl
theorem m5 : getM 5 (scM n y) = some (binO 3 5 4 3) := rfl
theorem m6 : getM 6 (scM n y) = some (binO 3 6 3 4) := rfl
theorem m7 : getM 7 (scM n y) = some (binO 8 7 4 3) := rfl
theorem f1 (k : Nat) (M : FMap) (h : getM 1 M = none) : formS (scM n y) (k + 1) M 1 = some (q1, putM 1 q1 M) := by
  simp [formS, madeS, h, m1, keepS, q1]
theorem f2 (k : Nat) (M : FMap) (h : getM 2 M = none) : formS (scM n y) (k + 1) M 2 = some (([], n), putM 2 ([], n) M) := by
  simp [formS, madeS, h, m2, cstO, keepS]
theorem f3 (k : Nat) (M : FMap) (h : getM 3 M = none) : formS (scM n y) (k + 1) M 3 = some (([], y), putM 3 ([], y) M) := by
  simp [formS, madeS, h, m3, cstO, keepS]
theorem q1_may : mayFrom 0 q1.1 = true := by simp [q1, mayFrom]
theorem r4_eq : r4 n = (mergeT pl [(1, 1)] [], pl 0 n) := by
  have h : mayFrom 0 ([] : List (Int × Int)) = true := rfl
  rw [r4, plusS, if_pos ⟨q1_may, h⟩]
  rfl
theorem r4_may : mayFrom 0 (r4 n).1 = true := by
  rw [r4_eq]
  exact may_merge pl [(1, 1)] [] 0 q1_may rfl
theorem r4_len : (r4 n).1.length ≤ 1 := by
  rw [r4_eq]
  have := len_merge pl [(1, 1)] []
  simpa using this
theorem r4_cf : cf (r4 n).1 1 = 1 := by
  rw [r4_eq, cf_merge pl rfl 1 [(1, 1)] [] 0 q1_may rfl]
  rfl
theorem r4_ne : ¬ (r4 n).1 = [] := fun h => by
  have := r4_cf n
  rw [h] at this
  simp [cf] at this
theorem r4_off : 0 ≤ (r4 n).2 := by
  rw [r4_eq]
  simp only [pl, u64w_eq]
  exact Int.emod_nonneg _ (by omega)
theorem times_len (a : PForm) (x : Int) : (timesS a x).1.length ≤ a.1.length := by
  rw [timesS]
  split
  · have := len_merge (ti x) a.1 []
    simpa using this
  · simp
include hn in
theorem f4 (k : Nat) (M : FMap) (h1 : getM 1 M = none) (h2 : getM 2 M = none) (h4 : getM 4 M = none) : formS (scM n y) (k + 2) M 4 = some (r4 n, putM 4 (r4 n) (putM 2 ([], n) (putM 1 q1 M))) := by
  have e2 : getM 2 (putM 1 q1 M) = none := by rw [get_putM, if_neg (by omega)]; exact h2
  have l := r4_len n
  have l' : ¬ 16 < (r4 n).1.length := by omega
  have hn0 := hn.1
  have hq : q1.1.length ≤ 4294967296 := by simp [q1]
  have ht : tell 1 q1 ([], n) = some (r4 n) := rfl
  rw [formS, h4]
  simp only [madeS, m4, binO, f1 n y k M h1, Option.bind_some, f2 n y k _ e2]
  simp [hn0, ht, keepS, l', hq]
include hn hy in
theorem f5 : ∃ M', formS (scM n y) 4 [] 5 = some (r5 n y, M') := by
  refine ⟨putM 5 (r5 n y) (putM 3 ([], y) (putM 4 (r4 n) (putM 2 ([], n) (putM 1 q1 [])))), ?_⟩
  have l := r4_len n
  have l5 := times_len (r4 n) y
  have l' : ¬ 16 < (r5 n y).1.length := by rw [r5]; omega
  have hq : (r4 n).1.length ≤ 4294967296 := by omega
  have hy0 := hy.1
  have e3 : getM 3 (putM 4 (r4 n) (putM 2 ([], n) (putM 1 q1 []))) = none := rfl
  have ht : tell 3 (r4 n) ([], y) = some (r5 n y) := rfl
  rw [formS]
  simp only [madeS, m5, binO, f4 n y hn 1 [] rfl rfl rfl, Option.bind_some, f3 n y 2 _ e3, getM]
  simp [hy0, ht, keepS, l', hq]
include hn in
theorem f6 : ∃ M', formS (scM n y) 4 [] 6 = some (r5 n y, M') := by
  refine ⟨putM 6 (r5 n y) (putM 4 (r4 n) (putM 2 ([], n) (putM 1 q1 (putM 3 ([], y) [])))), ?_⟩
  have l := r4_len n
  have l5 := times_len (r4 n) y
  have l' : ¬ 16 < (r5 n y).1.length := by rw [r5]; omega
  have hq : (r4 n).1.length ≤ 4294967296 := by omega
  have hb := r4_off n
  have e1 : getM 1 (putM 3 (([], y) : PForm) []) = none := rfl
  have e2 : getM 2 (putM 3 (([], y) : PForm) []) = none := rfl
  have e4 : getM 4 (putM 3 (([], y) : PForm) []) = none := rfl
  have ht : tell 3 ([], y) (r4 n) = some (r5 n y) := by
    have := r4_ne n
    simp [tell, this, r5]
  rw [formS]
  simp only [madeS, m6, binO, f3 n y 2 [] rfl, Option.bind_some, f4 n y hn 1 _ e1 e2 e4, getM]
  simp [hb, ht, keepS, l', hq]
include hn hy in
theorem f7 : ∃ M', formS (scM n y) 4 [] 7 = some (r7 n y, M') := by
  refine ⟨putM 7 (r7 n y) (putM 3 ([], y) (putM 4 (r4 n) (putM 2 ([], n) (putM 1 q1 [])))), ?_⟩
  have l := r4_len n
  have hq : (r4 n).1.length ≤ 4294967296 := by omega
  have hy0 := hy.1
  have e3 : getM 3 (putM 4 (r4 n) (putM 2 ([], n) (putM 1 q1 []))) = none := rfl
  have ht : keepS 7 (tell 8 (r4 n) ([], y)) = r7 n y := by
    rw [r7]
    by_cases c : y < 64
    · have l5 := times_len (r4 n) (IntKind.u64.wrap (1 * 2 ^ min y.toNat 64))
      rw [if_pos c, tell, if_neg (by omega), if_neg (by omega), if_neg (by omega), if_neg (by omega), if_pos ⟨rfl, rfl, c⟩]
      show (if _ then _ else _) = _
      rw [if_neg (show ¬ 16 < (timesS (r4 n) (IntKind.u64.wrap (1 * 2 ^ min y.toNat 64))).1.length by omega)]
    · rw [if_neg c, tell, if_neg (by omega), if_neg (by omega), if_neg (by omega), if_neg (by omega), if_neg (fun h => c h.2.2)]
      rfl
  rw [formS]
  simp only [madeS, m7, binO, f4 n y hn 1 [] rfl rfl rfl, Option.bind_some, f3 n y 2 _ e3, getM]
  simp [hy0, ht, hq]
end
end AC

namespace AC
open Go Go.A Go.A.Lex
theorem Of_of {f : PFunc} (hf : okF f) (hT : TreeIs f [-1]) (h0 : lookS f 2 [-1] = 0) {v : Int} (hv : getM v (shapesS f) = some (64, 1)) {n : Nat} {r : PForm} (hr : ∃ M', formS (opsOf [] f.blocks) n [] v = some (r, M')) :
    call T F.affine_Of [vFunc f, vI v] [] = some (.tup [vFm r, vI 0], []) := by
  obtain ⟨M', h⟩ := hr
  exact Of_call f hf [-1] hT h0 v hv n r M' h
set_option maxRecDepth 10000 in
theorem Scales_call (hA : call T F.locksteplaw17_awake [] [] = some (vB true, [])) (n y : Int) (hn : u64ok n) (hy : 0 ≤ y ∧ y < 256) :
    call T F.locksteplaw17_AffineScales [vU64 n, .one (.f (.lit (.int .u8 y)))] [] = some (vB true, []) := by
  rw [call_eq (fn := a_locksteplaw17_AffineScales) rfl]
  have hy' : u64ok y := ⟨hy.1, by omega⟩
  obtain ⟨hF, h0, hs⟩ := line_right 64 rfl (scOps n y) 7 (scLine n y hn.1 hn.2 hy'.1 hy'.2) (by simp [scOps]) (by omega) (by simp [scOps])
  have hT := tree_one [64] 64 (scOps n y) 7
  have l : ((scOps n y).length : Int) = 6 := rfl
  have o4 := Of_of hF hT h0 (hs 4 (by omega) (by omega)) ⟨_, f4 n y hn 2 [] rfl rfl rfl⟩
  have o5 := Of_of hF hT h0 (hs 5 (by omega) (by omega)) (f5 n y hn hy')
  have o6 := Of_of hF hT h0 (hs 6 (by omega) (by omega)) (f6 n y hn)
  have o7 := Of_of hF hT h0 (hs 7 (by omega) (by omega)) (f7 n y hn hy')
  have lr := r4_len n
  have hm := rMay_call (r4 n).1 (r4 n).2 (by omega)
  rw [r4_may n] at hm
  have t1 := Times_callS (r4 n) y (by omega)
  have l5 := times_len (r4 n) y
  have e1 := Same_call (timesS (r4 n) y).1 (timesS (r4 n) y).1 (timesS (r4 n) y).2 (timesS (r4 n) y).2 (by omega)
  have hw : IntKind.u64.wrap y = y := by
    have := u64w_eq y
    rw [show IntKind.u64.wrap y = u64w y from rfl, this]
    exact Int.emod_eq_of_lt hy'.1 hy'.2
  simp -implicitDefEqProofs only [go_sem, vFm, fF, oneF, scOps, cstO, binO, List.map_cons, List.map_nil, rb, ro, ri, ei, eu, eI, r5] at o4 o5 o6 o7 hm t1 e1
  by_cases c : 64 ≤ y
  · have e2 := Same_call [(7, 1)] [(7, 1)] 0 0 (by simp)
    have e7 : r7 n y = ([(7, 1)], 0) := by rw [r7, if_neg (by omega)]
    simp -implicitDefEqProofs only [go_sem, e7, fF, rows, row, List.map_cons, List.map_nil] at e2 o7
    simp -implicitDefEqProofs only [go_sem, a_locksteplaw17_AffineScales, hA, hw, o4, o5, o6, o7, hm, t1, e1, e2, c, hn.1]
  · have c' : y < 64 := by omega
    have e7 : r7 n y = timesS (r4 n) (IntKind.u64.wrap (1 * 2 ^ min y.toNat 64)) := by rw [r7, if_pos c']
    have t2 := Times_callS (r4 n) (IntKind.u64.wrap (1 * 2 ^ min y.toNat 64)) (by omega)
    have l7 := times_len (r4 n) (IntKind.u64.wrap (1 * 2 ^ min y.toNat 64))
    have e2 := Same_call (timesS (r4 n) (IntKind.u64.wrap (1 * 2 ^ min y.toNat 64))).1 (timesS (r4 n) (IntKind.u64.wrap (1 * 2 ^ min y.toNat 64))).1 (timesS (r4 n) (IntKind.u64.wrap (1 * 2 ^ min y.toNat 64))).2 (timesS (r4 n) (IntKind.u64.wrap (1 * 2 ^ min y.toNat 64))).2 (by omega)
    simp -implicitDefEqProofs only [go_sem, e7, fF] at e2 o7 t2
    simp -implicitDefEqProofs only [go_sem, a_locksteplaw17_AffineScales, hA, hw, o4, o5, o6, o7, hm, t1, t2, e1, e2, c, eq_true hy.1]
end AC

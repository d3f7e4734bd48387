import Derived.Test.YtecjccggbbbaaaaGreatKG
import Derived.Test.YtecjccggbbbaaaaGreatKF
set_option linter.unusedVariables false
set_option linter.unusedSimpArgs false
set_option linter.unusedSectionVars false
namespace AC
open Go Go.A Go.A.Lex
/-- A function of one block that returns. -/
def oneF (params : List Int) (ret : Int) (ops : List POp) (arg : Int) : PFunc := ⟨params, ret, [⟨[], ops, 0, arg, []⟩]⟩
section
variable (params : List Int) (ret : Int) (ops : List POp) (arg : Int)
theorem norm_nil : normS [] = [] := by simp [normS, sortI, compactI]
theorem succ_one : succS (oneF params ret ops arg) = [[]] := by simp [succS, oneF, norm_nil]
theorem pred_one : predsS [[]] = [[]] := rfl
theorem graph_one : graphOk (oneF params ret ops arg) = true := by
  rw [graphOk, succ_one]
  rfl
theorem tree_one : TreeIs (oneF params ret ops arg) [-1] := by
  refine ⟨by simp, fun _ => ?_⟩
  rw [succ_one, pred_one]
  exact Tree_call [[]] [[]] ⟨by simp, by simp⟩ rfl 0 (by simp) 5 (by omega) [0] rfl 0 [] rfl (by simp) (by simp) 5 5 [0] rfl
theorem shape_one : shapeOk (oneF params ret ops arg) [-1] = true := by
  rw [shapeOk, graph_one, succ_one, pred_one]
  rfl
theorem uses_one : usesS (oneF params ret ops arg) = opsUsesFrom 0 0 ops ++ (if ret = 0 then [] else [⟨arg, (ret, 1), 0, mostAt⟩]) := by
  simp [usesS, oneF, usesFrom, blockUses, phisUses, endUses, endBits]
theorem dmap_one : dmapS (oneF params ret ops arg) = match putOps 0 0 (putParams 0 [] params) ops with
      | (D2, some o) => (D2, some [.cells 0 5 [cBlock ⟨[], ops, 0, arg, []⟩], .cells 0 6 [cOp o]])
      | (D2, none) => (D2, none) := by
  simp only [dmapS, oneF, putBlocks, putPhis]
  rfl
end
end AC

namespace AC
open Go Go.A Go.A.Lex
/-- An operation of a straight line: the one that defines d, of values that were. -/
structure LineOp (w : Int × Int) (o : POp) (d : Int) : Prop where
  may : mayO o = true
  mayOp : mayOp o = true
  dst : o.dst = d
  gives : givesO o = w
  takes : takesO o = o.args.map fun _ => w
  args : ∀ a ∈ o.args, 1 ≤ a ∧ a < d
  ok : okOpL o
def Line (w : Int × Int) : Int → List POp → Prop
  | _, [] => True
  | d, o :: r => LineOp w o d ∧ Line w (d + 1) r
theorem putOps_line (w : Int × Int) (hw : 0 < w.1) : ∀ (ops : List POp) (k : Nat) (D : DMap), Line w (k + 2) ops → (∀ v : Int, k + 2 ≤ v → getM v D = none) →
    ∃ D', putOps 0 k D ops = (D', none) ∧ ∀ v : Int, getM v D' = if k + 2 ≤ v ∧ v < k + 2 + ops.length then some ⟨0, v - 2, w⟩ else getM v D
  | [], k, D, _, _ => ⟨D, rfl, fun v => by rw [if_neg (by simp only [List.length_nil]; omega)]⟩
  | o :: r, k, D, hl, hD => by
    obtain ⟨ho, hr⟩ := hl
    have hn : (getM o.dst D).isNone = true := by rw [ho.dst, hD _ (by omega)]; rfl
    have e : (k : Int) + 2 + 1 = ((k + 1 : Nat) : Int) + 2 := by omega
    rw [e] at hr
    obtain ⟨D', h1, h2⟩ := putOps_line w hw r (k + 1) (putM o.dst ⟨0, k, givesO o⟩ D) hr (fun v hv => by rw [get_putM, if_neg (by rw [ho.dst]; omega)]; exact hD v (by omega))
    refine ⟨D', ?_, fun v => ?_⟩
    · rw [putOps, if_neg (by rw [ho.gives]; omega), if_pos hn, h1]
    · rw [h2 v, get_putM, ho.dst, ho.gives, List.length_cons]
      by_cases c1 : ((k + 1 : Nat) : Int) + 2 ≤ v ∧ v < ((k + 1 : Nat) : Int) + 2 + r.length
      · rw [if_pos c1, if_pos (by omega)]
      · rw [if_neg c1]
        by_cases c2 : (k : Int) + 2 = v
        · rw [if_pos c2, if_pos (by omega)]
          have : v - 2 = k := by omega
          rw [this]
        · rw [if_neg c2, if_neg (by omega)]
theorem uses_of_op (o : POp) (i at' : Int) : ∀ (l : List (Int × Int)) (k : Nat), ∀ u ∈ opUsesFrom o i at' k l, ∃ q, ∃ h : q < l.length, u = ⟨o.args.getD (k + q) 0, l[q], i, at'⟩
  | [], _, u, h => by simp [opUsesFrom] at h
  | s :: r, k, u, h => by
    rw [opUsesFrom, List.mem_cons] at h
    rcases h with rfl | h
    · exact ⟨0, by simp, rfl⟩
    · obtain ⟨q, hq, rfl⟩ := uses_of_op o i at' r (k + 1) u h
      refine ⟨q + 1, by simpa using hq, ?_⟩
      have : k + (q + 1) = k + 1 + q := by omega
      rw [this]
      rfl
theorem uses_line (w : Int × Int) : ∀ (ops : List POp) (k : Nat), Line w (k + 2) ops → ∀ u ∈ opsUsesFrom 0 k ops, u.shape = w ∧ u.block = 0 ∧ 1 ≤ u.v ∧ u.v < u.at' + 2 ∧ u.at' < k + ops.length
  | [], _, _, u, h => by simp [opsUsesFrom] at h
  | o :: r, k, hl, u, h => by
    obtain ⟨ho, hr⟩ := hl
    have e : (k : Int) + 2 + 1 = ((k + 1 : Nat) : Int) + 2 := by omega
    rw [e] at hr
    rw [opsUsesFrom, List.mem_append] at h
    rcases h with h | h
    · obtain ⟨q, hq, rfl⟩ := uses_of_op o 0 k (takesO o) 0 u h
      have hlen : (takesO o).length = o.args.length := by rw [ho.takes, List.length_map]
      have hq' : q < o.args.length := by omega
      have hm := ho.args o.args[q] (List.getElem_mem hq')
      have hs : (takesO o)[q] = w := by simp [ho.takes]
      have hg : o.args.getD (0 + q) 0 = o.args[q] := by simp [hq']
      simp only [hg, hs, List.length_cons]
      refine ⟨trivial, trivial, hm.1, by omega, by omega⟩
    · obtain ⟨a, b, c, d, e⟩ := uses_line w r (k + 1) hr u h
      rw [List.length_cons]
      exact ⟨a, b, c, d, by omega⟩
theorem firstE_zero (ask : Use → Int) : ∀ l : List Use, (∀ u ∈ l, ask u = 0) → firstE ask l = 0
  | [], _ => rfl
  | u :: r, h => by rw [firstE, if_pos (h u List.mem_cons_self)]; exact firstE_zero ask r fun x hx => h x (List.mem_cons_of_mem _ hx)
theorem line_mem (w : Int × Int) {P : POp → Prop} (hP : ∀ o d, LineOp w o d → P o) : ∀ (ops : List POp) (d : Int), Line w d ops → ∀ o ∈ ops, P o
  | [], _, _, o, h => by simp at h
  | x :: r, d, hl, o, h => by
    rcases List.mem_cons.1 h with rfl | h
    · exact hP _ _ hl.1
    · exact line_mem w hP r _ hl.2 o h
/-- A straight line of one width and one lane, of one parameter: it is right. -/
theorem line_right (b : Int) (hb : mayW b = true) (ops : List POp) (arg : Int) (hl : Line (b, 1) 2 ops) (hlen : ops.length ≤ 500) (ha : 1 ≤ arg) (ha' : arg < ops.length + 2) :
    okF (oneF [b] b ops arg) ∧ lookS (oneF [b] b ops arg) 2 [-1] = 0 ∧ ∀ v : Int, 1 ≤ v → v < ops.length + 2 → getM v (shapesS (oneF [b] b ops arg)) = some (b, 1) := by
  have hb0 : 0 < b := by rcases mayW_cases hb with h | h | h | h | h <;> omega
  have hbn : num b = true := by simp only [num, Bool.and_eq_true, decide_eq_true_eq]; rcases mayW_cases hb with h | h | h | h | h <;> omega
  have hF : okF (oneF [b] b ops arg) := by
    refine ⟨by simp [oneF], by simp [oneF], fun x hx => ?_, by simp [oneF]; omega⟩
    simp only [oneF, List.mem_singleton] at hx
    subst hx
    exact ⟨by simp, by simpa using (by omega : ops.length ≤ 4294967296), by simp, line_mem _ (fun o d h => h.ok) ops 2 hl, by simp⟩
  have hM : mayF (oneF [b] b ops arg) = true := by
    have hs : sizeF (oneF [b] b ops arg) = 1 + ops.length := by simp [sizeF, oneF]
    have ho : ops.all mayOp = true := List.all_eq_true.2 (line_mem _ (fun o d h => h.mayOp) ops 2 hl)
    have hn : num arg = true := by simp only [num, Bool.and_eq_true, decide_eq_true_eq]; omega
    have hn0 : num 0 = true := rfl
    unfold mayF
    rw [hs]
    have hd : ¬ 512 < 1 + ops.length := by omega
    simp [oneF, mayB, mayEnd, ho, hn, hn0, hbn, listS, hd]
  have hT : typedS (oneF [b] b ops arg) 2 = true := by
    have ho : ops.all (ofS 2) = true := List.all_eq_true.2 (line_mem _ (fun o d h => by simp [ofS, h.may]) ops 2 hl)
    simp [typedS, oneF, typedB, hb, ho]
  obtain ⟨D', h1, h2⟩ := putOps_line (b, 1) hb0 ops 0 (putParams 0 [] [b]) hl (fun v hv => by
    simp only [putParams, putM, getM]
    rw [if_neg (by omega)])
  have hdm : dmapS (oneF [b] b ops arg) = (D', none) := by rw [dmap_one, h1]
  have hp1 : getM 1 D' = some ⟨-1, 0, (b, 1)⟩ := by
    rw [h2, if_neg (by omega)]
    rfl
  have hv2 : ∀ v : Int, 2 ≤ v → v < ops.length + 2 → getM v D' = some ⟨0, v - 2, (b, 1)⟩ := fun v hv hv' => by
    rw [h2, if_pos (by omega)]
  have hU : ∀ u ∈ usesS (oneF [b] b ops arg), u.shape = (b, 1) ∧ u.block = 0 ∧ 1 ≤ u.v ∧ u.v < u.at' + 2 ∧ u.v < ops.length + 2 := fun u hu => by
    rw [uses_one, List.mem_append] at hu
    rcases hu with hu | hu
    · obtain ⟨a1, a2, a3, a4, a5⟩ := uses_line (b, 1) ops 0 hl u hu
      exact ⟨a1, a2, a3, a4, by omega⟩
    · rw [if_neg (by omega), List.mem_singleton] at hu
      subst hu
      exact ⟨rfl, rfl, ha, by simp only [mostAt]; omega, ha'⟩
  have hG : ∀ u ∈ usesS (oneF [b] b ops arg), (u.v = 1 ∧ getM u.v D' = some ⟨-1, 0, (b, 1)⟩) ∨ getM u.v D' = some ⟨0, u.v - 2, (b, 1)⟩ := fun u hu => by
    obtain ⟨_, _, a3, _, a5⟩ := hU u hu
    by_cases c : u.v = 1
    · exact .inl ⟨c, by rw [c]; exact hp1⟩
    · exact .inr (hv2 u.v (by omega) a5)
  refine ⟨hF, ?_, fun v hv hv' => ?_⟩
  · have e1 : firstE (askDef D') (usesS (oneF [b] b ops arg)) = 0 := firstE_zero _ _ fun u hu => by
      rcases hG u hu with ⟨_, h⟩ | h <;> simp [askDef, h]
    have e2 : firstE (askShape D') (usesS (oneF [b] b ops arg)) = 0 := firstE_zero _ _ fun u hu => by
      have := (hU u hu).1
      rcases hG u hu with ⟨_, h⟩ | h <;> simp [askShape, defAt, h, this]
    have e3 : firstE (askPlace D' [-1]) (usesS (oneF [b] b ops arg)) = 0 := firstE_zero _ _ fun u hu => by
      obtain ⟨_, a2, _, a4, _⟩ := hU u hu
      rcases hG u hu with ⟨_, h⟩ | h
      · simp [askPlace, defAt, h]
      · have : u.v - 2 < u.at' := by omega
        simp [askPlace, defAt, h, a2, this]
    rw [lookS, hM, shape_one, hT, hdm]
    simp [e1, e2, e3]
  · have := get_putAll v (dmapS (oneF [b] b ops arg)).1 [] (nodup_dmap _)
    rw [shapesS, this, hdm]
    by_cases c : v = 1
    · rw [c, hp1]
    · rw [hv2 v (by omega) hv']
end AC

namespace AC
open Go Go.A Go.A.Lex
/-- An operation of a straight line of whatever shapes: it defines d, or nothing. -/
structure MOp (sh : Int → Int × Int) (o : POp) (d : Int) : Prop where
  may : mayO o = true
  mayOp : mayOp o = true
  gives : (o.dst = d ∧ givesO o = sh d ∧ 0 < (sh d).1) ∨ givesO o = (0, 0)
  takes : takesO o = o.args.map sh
  args : ∀ a ∈ o.args, 1 ≤ a ∧ a < d
  ok : okOpL o
def nxt (d : Int) (o : POp) : Int := if (givesO o).1 ≤ 0 then d else d + 1
def MLine (sh : Int → Int × Int) : Int → List POp → Prop
  | _, [] => True
  | d, o :: r => MOp sh o d ∧ MLine sh (nxt d o) r
def lastD : Int → List POp → Int
  | d, [] => d
  | d, o :: r => lastD (nxt d o) r
theorem nxt_le (d : Int) (o : POp) : d ≤ nxt d o := by unfold nxt; split <;> omega
theorem lastD_le : ∀ (ops : List POp) (d : Int), d ≤ lastD d ops
  | [], _ => Int.le_refl _
  | o :: r, d => Int.le_trans (nxt_le d o) (lastD_le r _)
def Def0 (x : PDef) (at' : Int) : Prop := x.block = -1 ∨ (x.block = 0 ∧ x.at' < at')
structure LnInv (sh : Int → Int × Int) (k : Int) (d : Int) (D : DMap) : Prop where
  there : ∀ v, 1 ≤ v → v < d → ∃ x, getM v D = some x ∧ x.shape = sh v ∧ Def0 x k
  none' : ∀ v, d ≤ v → getM v D = none
def GoodU (D : DMap) (u : Use) : Prop := u.block = 0 ∧ ∃ x, getM u.v D = some x ∧ x.shape = u.shape ∧ Def0 x u.at'
theorem mline_puts (sh : Int → Int × Int) : ∀ (ops : List POp) (k : Nat) (d : Int) (D : DMap), 1 ≤ d → MLine sh d ops → LnInv sh k d D →
    ∃ D', putOps 0 k D ops = (D', none) ∧ LnInv sh (k + ops.length : Nat) (lastD d ops) D' ∧ (∀ v, v < d → getM v D' = getM v D) ∧ ∀ u ∈ opsUsesFrom 0 k ops, GoodU D' u
  | [], k, d, D, _, _, hD => ⟨D, rfl, hD, fun _ _ => rfl, fun u h => by simp [opsUsesFrom] at h⟩
  | o :: r, k, d, D, hd, hl, hD => by
    obtain ⟨ho, hr⟩ := hl
    have hwhole : ∃ D1, LnInv sh (k + 1 : Nat) (nxt d o) D1 ∧ (∀ v, v < d → getM v D1 = getM v D) ∧ putOps 0 k D (o :: r) = putOps 0 (k + 1) D1 r := by
      rcases ho.gives with ⟨h1, h2, h3⟩ | h0
      · have hn : (getM o.dst D).isNone = true := by rw [h1, hD.none' _ (by omega)]; rfl
        have hx : nxt d o = d + 1 := by unfold nxt; rw [h2, if_neg (by omega)]
        refine ⟨putM o.dst ⟨0, k, givesO o⟩ D, ⟨fun v hv hv' => ?_, fun v hv => ?_⟩, fun v hv => ?_, ?_⟩
        · rw [get_putM, h1]
          by_cases c : d = v
          · rw [if_pos c]
            exact ⟨_, rfl, by rw [h2, c], .inr ⟨rfl, by simp only []; omega⟩⟩
          · rw [if_neg c]
            obtain ⟨x, e1, e2, e3⟩ := hD.there v hv (by omega)
            exact ⟨x, e1, e2, e3.imp id fun e => ⟨e.1, by omega⟩⟩
        · rw [get_putM, h1, if_neg (by omega)]
          exact hD.none' v (by omega)
        · rw [get_putM, h1, if_neg (by omega)]
        · rw [putOps, if_neg (by rw [h2]; omega), if_pos hn]
      · have hx : nxt d o = d := by unfold nxt; rw [h0, if_pos (by simp)]
        refine ⟨D, ⟨fun v hv hv' => ?_, fun v hv => ?_⟩, fun v _ => rfl, ?_⟩
        · obtain ⟨x, e1, e2, e3⟩ := hD.there v hv (by omega)
          exact ⟨x, e1, e2, e3.imp id fun e => ⟨e.1, by omega⟩⟩
        · exact hD.none' v (by omega)
        · rw [putOps, if_pos (by rw [h0]; simp)]
    obtain ⟨D1, g1, g2, g3⟩ := hwhole
    have hn := nxt_le d o
    obtain ⟨D', i1, i2, i3, i4⟩ := mline_puts sh r (k + 1) (nxt d o) D1 (by omega) hr g1
    refine ⟨D', by rw [g3, i1], ?_, fun v hv => by rw [i3 v (by omega), g2 v hv], fun u hu => ?_⟩
    · rw [List.length_cons, show k + (r.length + 1) = k + 1 + r.length from by omega]
      exact i2
    · rw [opsUsesFrom, List.mem_append] at hu
      rcases hu with hu | hu
      · obtain ⟨q, hq, rfl⟩ := uses_of_op o 0 k (takesO o) 0 u hu
        have hlen : (takesO o).length = o.args.length := by rw [ho.takes, List.length_map]
        have hq' : q < o.args.length := by omega
        have hm := ho.args o.args[q] (List.getElem_mem hq')
        have hs : (takesO o)[q] = sh o.args[q] := by simp [ho.takes]
        have hg : o.args.getD (0 + q) 0 = o.args[q] := by simp [hq']
        obtain ⟨x, e1, e2, e3⟩ := hD.there _ hm.1 hm.2
        refine ⟨rfl, x, ?_, ?_, e3⟩
        · simp only [hg]
          rw [i3 _ (by omega), g2 _ hm.2]
          exact e1
        · simp only [hs]
          exact e2
      · exact i4 u hu
theorem mline_mem (sh : Int → Int × Int) {P : POp → Prop} (hP : ∀ o d, MOp sh o d → P o) : ∀ (ops : List POp) (d : Int), MLine sh d ops → ∀ o ∈ ops, P o
  | [], _, _, o, h => by simp at h
  | x :: r, d, hl, o, h => by
    rcases List.mem_cons.1 h with rfl | h
    · exact hP _ _ hl.1
    · exact mline_mem sh hP r _ hl.2 o h
theorem params_inv (sh : Int → Int × Int) : ∀ (ps : List Int) (i : Nat) (D : DMap), (∀ q, ∀ h : q < ps.length, sh ((i + q : Nat) + 1) = (ps[q], 1)) → LnInv sh 0 (i + 1) D → LnInv sh 0 ((i + ps.length : Nat) + 1) (putParams i D ps)
  | [], i, D, _, h => h
  | b :: r, i, D, hs, h => by
    have h0 := hs 0 (by simp)
    have := params_inv sh r (i + 1) (putM ((i : Int) + 1) ⟨-1, 0, (b, 1)⟩ D) (fun q hq => by
      have := hs (q + 1) (by simpa using hq)
      rw [show i + 1 + q = i + (q + 1) from by omega]
      simpa using this) ⟨fun v hv hv' => by
        rw [get_putM]
        by_cases c : (i : Int) + 1 = v
        · rw [if_pos c]
          refine ⟨_, rfl, ?_, .inl rfl⟩
          rw [← c]
          simpa using h0.symm
        · rw [if_neg c]
          exact h.there v hv (by omega), fun v hv => by
        rw [get_putM, if_neg (by omega)]
        exact h.none' v (by omega)⟩
    rw [List.length_cons, show i + (r.length + 1) = i + 1 + r.length from by omega]
    exact this
/-- A straight line of one block, of whatever shapes: it is right. -/
theorem mline_right (sh : Int → Int × Int) (ps : List Int) (ret : Int) (ops : List POp) (arg : Int) (hps : ps.all mayW = true) (hpl : ps.length ≤ 16) (hret : mayW ret = true)
    (hsh : ∀ q, ∀ h : q < ps.length, sh ((q : Nat) + 1) = (ps[q], 1)) (hl : MLine sh (ps.length + 1) ops) (hlen : ops.length ≤ 500) (ha : 1 ≤ arg) (ha' : arg < lastD (ps.length + 1) ops) (hn : num arg = true) (har : sh arg = (ret, 1)) :
    okF (oneF ps ret ops arg) ∧ lookS (oneF ps ret ops arg) 2 [-1] = 0 ∧ ∀ v : Int, 1 ≤ v → v < lastD (ps.length + 1) ops → getM v (shapesS (oneF ps ret ops arg)) = some (sh v) := by
  have numW : ∀ b, mayW b = true → num b = true := fun b hb => by simp only [num, Bool.and_eq_true, decide_eq_true_eq]; rcases mayW_cases hb with h | h | h | h | h <;> omega
  have hr0 : ¬ ret = 0 := by rcases mayW_cases hret with h | h | h | h | h <;> omega
  have hF : okF (oneF ps ret ops arg) := by
    refine ⟨by simp [oneF]; omega, by simp [oneF], fun x hx => ?_, by simp [oneF]; omega⟩
    simp only [oneF, List.mem_singleton] at hx
    subst hx
    exact ⟨by simp, by simpa using (by omega : ops.length ≤ 4294967296), by simp, mline_mem sh (fun o d h => h.ok) ops _ hl, by simp⟩
  have hM : mayF (oneF ps ret ops arg) = true := by
    have hs : sizeF (oneF ps ret ops arg) = 1 + ops.length := by simp [sizeF, oneF]
    have ho : ops.all mayOp = true := List.all_eq_true.2 (mline_mem sh (fun o d h => h.mayOp) ops _ hl)
    have hn0 : num 0 = true := rfl
    have hpn : ps.all num = true := List.all_eq_true.2 fun b hb => numW b (List.all_eq_true.1 hps b hb)
    unfold mayF
    rw [hs]
    have hd : ¬ 512 < 1 + ops.length := by omega
    have hd2 : ¬ 16 < ps.length := by omega
    simp only [oneF, mayB, mayEnd, ho, hn, hn0, numW ret hret, hpn, listS, hd, hd2, List.length_cons, List.length_nil, List.all_cons, List.all_nil]
    rfl
  have hT : typedS (oneF ps ret ops arg) 2 = true := by
    have ho : ops.all (ofS 2) = true := List.all_eq_true.2 (mline_mem sh (fun o d h => by simp [ofS, h.may]) ops _ hl)
    simp [typedS, oneF, typedB, hret, ho]
    exact fun x hx => List.all_eq_true.1 hps x hx
  have hp := params_inv sh ps 0 [] (fun q h => by simpa using hsh q h) ⟨fun v h1 h2 => by omega, fun _ _ => rfl⟩
  rw [Nat.zero_add] at hp
  obtain ⟨D', h1, h2, _, h4⟩ := mline_puts sh ops 0 (ps.length + 1) (putParams 0 [] ps) (by omega) hl hp
  have hdm : dmapS (oneF ps ret ops arg) = (D', none) := by rw [dmap_one, h1]
  have hG : ∀ u ∈ usesS (oneF ps ret ops arg), GoodU D' u := fun u hu => by
    rw [uses_one, List.mem_append] at hu
    rcases hu with hu | hu
    · exact h4 u hu
    · rw [if_neg hr0, List.mem_singleton] at hu
      subst hu
      obtain ⟨x, e1, e2, e3⟩ := h2.there arg ha ha'
      exact ⟨rfl, x, e1, by rw [e2, har], e3.imp id fun e => ⟨e.1, by simp only [mostAt]; omega⟩⟩
  refine ⟨hF, ?_, fun v hv hv' => ?_⟩
  · have e1 : firstE (askDef D') (usesS (oneF ps ret ops arg)) = 0 := firstE_zero _ _ fun u hu => by
      obtain ⟨_, x, h, _⟩ := hG u hu
      simp [askDef, h]
    have e2 : firstE (askShape D') (usesS (oneF ps ret ops arg)) = 0 := firstE_zero _ _ fun u hu => by
      obtain ⟨_, x, h, hs, _⟩ := hG u hu
      simp [askShape, defAt, h, hs]
    have e3 : firstE (askPlace D' [-1]) (usesS (oneF ps ret ops arg)) = 0 := firstE_zero _ _ fun u hu => by
      obtain ⟨hb, x, h, _, hd⟩ := hG u hu
      rcases hd with hd | ⟨hd, hd'⟩
      · simp [askPlace, defAt, h, hd]
      · simp [askPlace, defAt, h, hb, hd, hd']
    rw [lookS, hM, shape_one, hT, hdm]
    simp [e1, e2, e3]
  · obtain ⟨x, e1, e2, _⟩ := h2.there v hv hv'
    rw [shapesS, get_putAll v (dmapS (oneF ps ret ops arg)).1 [] (nodup_dmap _), hdm]
    simp only [e1, e2]
end AC

namespace AC
open Go Go.A Go.A.Lex
theorem num_value {v : Int} (h1 : 1 ≤ v) (h2 : v ≤ 1023) : num v = true := by simp only [num, Bool.and_eq_true, decide_eq_true_eq]; omega
theorem value_of {v : Int} (h1 : 1 ≤ v) (h2 : v ≤ 1023) : value v = true := by simp only [value, Bool.and_eq_true, decide_eq_true_eq]; omega
theorem num_w {b : Int} (h : mayW b = true) : num b = true := by simp only [num, Bool.and_eq_true, decide_eq_true_eq]; rcases mayW_cases h with h | h | h | h | h <;> omega
theorem pos_w {b : Int} (h : mayW b = true) : 0 < b := by rcases mayW_cases h with h | h | h | h | h <;> omega
theorem shape_one_lane {b : Int} (h : mayW b = true) : shapeS b 1 = true := by simp [shapeS, h]
section
variable (sh : Int → Int × Int)
theorem mop_cst (w d n : Int) (hw : mayW w = true) (h1 : 1 ≤ d) (h2 : d ≤ 1023) (h3 : 0 ≤ n) (h4 : n < 18446744073709551616) (hc : cutW n w = n) (sd : sh d = (w, 1)) : MOp sh ⟨0, w, 1, d, [], n⟩ d := by
  have h7 : stores 0 = false := rfl
  have hm : mayO ⟨0, w, 1, d, [], n⟩ = true := by simp [mayO, takesS, hc, value_of h1 h2, shape_one_lane hw, h7]
  refine ⟨hm, ?_, .inl ⟨rfl, ?_, by rw [sd]; exact pos_w hw⟩, ?_, by simp, ⟨⟨h3, h4⟩, by simp⟩⟩
  · have n0 : num 0 = true := rfl
    have n1 : num 1 = true := rfl
    simp [mayOp, num_value h1 h2, n0, n1, num_w hw, listS]
  · rw [givesO, hm, sd]
    simp [h7]
  · rw [takesO, if_pos hm]
    simp [takesS]
theorem mop_bin (k w d a b : Int) (hk : (arith k || asks k) = true) (hw : mayW w = true) (h1 : 1 ≤ d) (h2 : d ≤ 1023) (ha : 1 ≤ a) (ha' : a < d) (hb : 1 ≤ b) (hb' : b < d)
    (sa : sh a = (w, 1)) (sb : sh b = (w, 1)) (sd : sh d = if 10 ≤ k then (1, 1) else (w, 1)) : MOp sh ⟨k, w, 1, d, [a, b], 0⟩ d := by
  have hk1 : 1 ≤ k ∧ k ≤ 12 := by
    simp only [arith, asks, Bool.or_eq_true, decide_eq_true_eq] at hk
    omega
  have k0 : ¬ k = 0 := by omega
  have hs : stores k = false := by simp only [stores, Bool.or_eq_false_iff, decide_eq_false_iff_not]; omega
  have ht : takesS ⟨k, w, 1, d, [a, b], 0⟩ = ([(w, 1), (w, 1)], true) := by
    cases c : arith k
    · rw [c, Bool.false_or] at hk
      simp [takesS, k0, c, hk]
    · simp [takesS, k0, c]
  have hm : mayO ⟨k, w, 1, d, [a, b], 0⟩ = true := by simp [mayO, ht, value_of h1 h2, shape_one_lane hw, hs, value_of ha (by omega), value_of hb (by omega)]
  refine ⟨hm, ?_, .inl ⟨rfl, ?_, ?_⟩, ?_, ?_, ⟨⟨by simp, by simp⟩, by simp⟩⟩
  · have n1 : num 1 = true := rfl
    have nk : num k = true := by simp only [num, Bool.and_eq_true, decide_eq_true_eq]; omega
    simp [mayOp, num_value h1 h2, nk, num_value ha (by omega), num_value hb (by omega), n1, num_w hw, listS]
  · have c22 : ¬ k = 22 := by omega
    rw [givesO, hm, sd]
    by_cases c : 10 ≤ k
    · simp [hs, c, hk1.2]
    · simp [hs, c, c22]
  · rw [sd]
    split
    · simp
    · exact pos_w hw
  · rw [takesO, if_pos hm, ht]
    simp [sa, sb]
  · intro x hx
    simp only [List.mem_cons, List.not_mem_nil, or_false] at hx
    rcases hx with rfl | rfl
    · exact ⟨ha, ha'⟩
    · exact ⟨hb, hb'⟩
theorem mop_load (w d a : Int) (hw : mayW w = true) (hw8 : 8 ≤ w) (h1 : 1 ≤ d) (h2 : d ≤ 1023) (ha : 1 ≤ a) (ha' : a < d) (sa : sh a = (64, 1)) (sd : sh d = (w, 1)) : MOp sh ⟨16, w, 1, d, [a], 0⟩ d := by
  have h7 : stores 16 = false := rfl
  have ht : takesS ⟨16, w, 1, d, [a], 0⟩ = ([(64, 1)], true) := by simp [takesS, arith, asks, hw8]
  have hm : mayO ⟨16, w, 1, d, [a], 0⟩ = true := by simp [mayO, ht, value_of h1 h2, shape_one_lane hw, h7, value_of ha (by omega)]
  refine ⟨hm, ?_, .inl ⟨rfl, ?_, by rw [sd]; exact pos_w hw⟩, ?_, ?_, ⟨⟨by simp, by simp⟩, by simp⟩⟩
  · have n1 : num 1 = true := rfl
    have nk : num 16 = true := rfl
    simp [mayOp, num_value h1 h2, nk, num_value ha (by omega), n1, num_w hw, listS]
  · rw [givesO, hm, sd]
    simp [h7]
  · rw [takesO, if_pos hm, ht]
    simp [sa]
  · intro x hx
    simp only [List.mem_cons, List.not_mem_nil, or_false] at hx
    subst hx
    exact ⟨ha, ha'⟩
theorem mop_store (w d a b : Int) (hw : mayW w = true) (hw8 : 8 ≤ w) (h2 : d ≤ 1024) (ha : 1 ≤ a) (ha' : a < d) (hb : 1 ≤ b) (hb' : b < d) (sa : sh a = (64, 1)) (sb : sh b = (w, 1)) : MOp sh ⟨17, w, 1, 0, [a, b], 0⟩ d := by
  have h7 : stores 17 = true := rfl
  have ht : takesS ⟨17, w, 1, 0, [a, b], 0⟩ = ([(64, 1), (w, 1)], true) := by simp [takesS, arith, asks, hw8]
  have hm : mayO ⟨17, w, 1, 0, [a, b], 0⟩ = true := by simp [mayO, ht, shape_one_lane hw, h7, value_of ha (by omega), value_of hb (by omega)]
  refine ⟨hm, ?_, .inr ?_, ?_, ?_, ⟨⟨by simp, by simp⟩, by simp⟩⟩
  · have n1 : num 1 = true := rfl
    have n0 : num 0 = true := rfl
    have nk : num 17 = true := rfl
    simp [mayOp, n0, nk, num_value ha (by omega), num_value hb (by omega), n1, num_w hw, listS]
  · rw [givesO, hm]
    simp [h7]
  · rw [takesO, if_pos hm, ht]
    simp [sa, sb]
  · intro x hx
    simp only [List.mem_cons, List.not_mem_nil, or_false] at hx
    rcases hx with rfl | rfl
    · exact ⟨ha, ha'⟩
    · exact ⟨hb, hb'⟩
theorem nxt_store (w d a b : Int) : nxt d ⟨17, w, 1, 0, [a, b], 0⟩ = d := by
  have h7 : stores 17 = true := rfl
  have : givesO ⟨17, w, 1, 0, [a, b], 0⟩ = (0, 0) := by rw [givesO, if_pos (.inr h7)]
  rw [nxt, this, if_pos (by simp)]
theorem nxt_of {o : POp} {d : Int} (h : MOp sh o d) (hd : o.dst = d) (h0 : d ≠ 0) (hs : stores o.kind = false) : nxt d o = d + 1 := by
  rcases h.gives with ⟨_, g, g3⟩ | g
  · rw [nxt, g, if_neg (by omega)]
  · exfalso
    have hb : 0 < o.bits := by
      have := h.may
      simp only [mayO, Bool.and_eq_true] at this
      exact pos_w (shapeS_lanes this.1).1
    rw [givesO, h.may, hs] at g
    simp only [Bool.true_eq_false, Bool.false_eq_true, or_self, if_false] at g
    split at g
    · simp at g
    · split at g
      · have := congrArg Prod.fst g
        simp only [] at this
        omega
      · have := congrArg Prod.fst g
        simp only [] at this
        omega
end
end AC

namespace AC
open Go Go.A Go.A.Lex
/-- A function that is right. -/
structure RightF (f : PFunc) (tree : List Int) : Prop where
  ok : okF f
  isT : TreeIs f tree
  look : lookS f 2 tree = 0
def MTo (sh : Int → Int × Int) (d : Int) (ops : List POp) (e : Int) : Prop := MLine sh d ops ∧ lastD d ops = e
theorem MTo.nil (sh : Int → Int × Int) (d : Int) : MTo sh d [] d := ⟨trivial, rfl⟩
theorem MTo.val {sh : Int → Int × Int} {d e : Int} {o : POp} {r : List POp} (h : MOp sh o d) (hd : o.dst = d) (h0 : d ≠ 0) (hs : stores o.kind = false) (hr : MTo sh (d + 1) r e) : MTo sh d (o :: r) e := by
  have hn := nxt_of sh h hd h0 hs
  exact ⟨⟨h, by rw [hn]; exact hr.1⟩, by rw [lastD, hn]; exact hr.2⟩
theorem MTo.st {sh : Int → Int × Int} {d e w a b : Int} {r : List POp} (h : MOp sh ⟨17, w, 1, 0, [a, b], 0⟩ d) (hr : MTo sh d r e) : MTo sh d (⟨17, w, 1, 0, [a, b], 0⟩ :: r) e := by
  have hn := nxt_store d w a b
  exact ⟨⟨h, by rw [nxt_store]; exact hr.1⟩, by rw [lastD, nxt_store]; exact hr.2⟩
theorem MTo.app {sh : Int → Int × Int} : ∀ {a : List POp} {d m e : Int} {b : List POp}, MTo sh d a m → MTo sh m b e → MTo sh d (a ++ b) e
  | [], d, m, e, b, h, h' => by
    have : d = m := h.2
    subst this
    exact h'
  | o :: r, d, m, e, b, h, h' => by
    have := MTo.app (a := r) (d := nxt d o) ⟨h.1.2, h.2⟩ h'
    exact ⟨⟨h.1.1, this.1⟩, this.2⟩
theorem right_of {sh : Int → Int × Int} {ps : List Int} {ret : Int} {ops : List POp} {arg d e : Int} (hd : (ps.length : Int) + 1 = d) (hps : ps.all mayW = true) (hpl : ps.length ≤ 16) (hret : mayW ret = true)
    (hsh : ∀ q, ∀ h : q < ps.length, sh ((q : Nat) + 1) = (ps[q], 1)) (hl : MTo sh d ops e) (hlen : ops.length ≤ 500) (ha : 1 ≤ arg) (ha' : arg < e) (hn : arg ≤ 1023) (har : sh arg = (ret, 1)) :
    RightF (oneF ps ret ops arg) [-1] ∧ ∀ v : Int, 1 ≤ v → v < e → getM v (shapesS (oneF ps ret ops arg)) = some (sh v) := by
  subst hd
  obtain ⟨hl, he⟩ := hl
  subst he
  obtain ⟨h1, h2, h3⟩ := mline_right sh ps ret ops arg hps hpl hret hsh hl hlen ha ha' (num_value ha hn) har
  exact ⟨⟨h1, tree_one ps ret ops arg, h2⟩, h3⟩
end AC

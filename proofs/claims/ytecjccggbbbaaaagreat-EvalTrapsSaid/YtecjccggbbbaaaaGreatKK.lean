import Derived.Test.YtecjccggbbbaaaaGreatKJ
set_option linter.unusedVariables false
set_option linter.unusedSimpArgs false
set_option linter.unusedSectionVars false
namespace AC
open Go Go.A Go.A.Lex
section
variable {σ : Store} {x m : Nat} {f : PFunc} {cm : C} {fuel : Int} {V : UMap} {s : Int} (h : Mach σ x m f cm fuel V s) (b : PBlock) (hb : okB b) (fr : Int) (hph : b.phis.length ≤ 1000) (hsrc : ∀ p ∈ b.phis, p.src.length ≤ 1000)
include h hb hph hsrc
theorem phis_l1 : ∀ (d j : Nat) (acc l : List Int) a1 a5 a6 a7 a8 a9 a13 a14 a15 a16 a17 a18 a19 a20 a21 a22, b.phis.length - j = d → j ≤ b.phis.length → acc.length ≤ 1000 * j → allPicks V fr (b.phis.drop j) = some l →
    exec T eval_machine_phis_l1 ⟨[.one (cP x), a1, vI fr, .one (cP σ.length), .one (.ap (σ.length + 1) 0 (acc.map rv)), a5, a6, a7, a8, a9, vL (b.phis.map rp), vI b.phis.length, vI j, a13, a14, a15, a16, a17, a18, a19, a20, a21, a22],
        σ ++ [.cells 0 5 [cBlock b], .tok 1 [acc.length]], σ.length, σ.length⟩ =
      some (.exit 0, ⟨[.one (cP x), vU, vU, .one (cP σ.length), .one (.ap (σ.length + 1) 0 ((acc ++ l).map rv)), vU, vU, vU, vU, vU, vU, vU, vU, vU, vU, vU, vU, vU, vU, vU, vU, vU, vU],
        σ ++ [.cells 0 5 [cBlock b], .tok 1 [(acc ++ l).length]], σ.length, σ.length⟩) := by
  have hx := h.lx
  have hx1 : ∀ k, (x < σ.length + k) = True := fun k => by simp; omega
  have gk := fun l k => get_k (rfl : σ.length = σ.length) l k
  have gk0 := fun l => get_k0 (rfl : σ.length = σ.length) l
  have sk := fun l k o => set_k (rfl : σ.length = σ.length) l k o
  have tk := fun l k => take_k (rfl : σ.length = σ.length) l k
  have ok := fun k => Ok.up h.ok k
  have n2 : (σ.length + 2 ≤ σ.length + 2) = True := by simp
  have n3 : (σ.length + 3 ≤ σ.length + 2) = False := by simp
  have q1 : (σ.length + 1 < σ.length + 2) = True := by simp
  have q0 : (σ.length < σ.length + 2) = True := by simp
  intro d
  induction d with
  | zero =>
    intro j acc l a1 a5 a6 a7 a8 a9 a13 a14 a15 a16 a17 a18 a19 a20 a21 a22 h1 h2 h3 hl
    have hj : j = b.phis.length := by omega
    subst hj
    rw [List.drop_length, allPicks] at hl
    injection hl with hl
    subst hl
    rw [eval_machine_phis_l1_eq, eval_machine_phis_b1]
    simp -implicitDefEqProofs only [go_sem, Int.lt_irrefl, List.append_nil, n2]
  | succ d ih =>
    intro j acc l a1 a5 a6 a7 a8 a9 a13 a14 a15 a16 a17 a18 a19 a20 a21 a22 h1 h2 h3 hl
    have hj : j < b.phis.length := by omega
    have hd : b.phis.drop j = b.phis[j] :: b.phis.drop (j + 1) := List.drop_eq_getElem_cons hj
    rw [hd, allPicks, Option.bind_eq_some_iff] at hl
    obtain ⟨l1, hl1, hl⟩ := hl
    rw [Option.map_eq_some_iff] at hl
    obtain ⟨l2, hl2, rfl⟩ := hl
    have hp := hb.phi b.phis[j] (List.getElem_mem hj)
    have hs := hsrc b.phis[j] (List.getElem_mem hj)
    have hlen := picks_length hl1
    have q := fun a1 a6 a7 a8 a9 a13 a17 a18 a19 a20 a21 a22 => phis_l0 h b hb fr b.phis[j] hp j (1000 * j) (by omega) b.phis[j].src.length 0 acc l1 a1 a6 a7 a8 a9 a13 a17 a18 a19 a20 a21 a22 (by omega) (by omega) (by omega) (by simpa using hl1)
    simp only [Int.natCast_zero] at q
    have := ih (j + 1) (acc ++ l1) l2 vU vU vU vU vU vU vU vU vU vU vU vU vU vU vU vU (by omega) (by omega) (by simp; omega) hl2
    rw [List.append_assoc] at this
    rw [eval_machine_phis_l1_eq, eval_machine_phis_b1]
    simp -implicitDefEqProofs only [go_sem] at this q
    simp -implicitDefEqProofs only [go_sem, ilt hj, getr hj, rp, gk, gk0, sk, tk, q, n2, n3, hx1, ok, q0, q1, wrap_succ hj hb.phis, this]
theorem phis_l2 (L : List Int) : ∀ (d j : Nat) (V1 V' : UMap) a1 a2 a3 a5 a6 a7 a8 a9 a10 a11 a12 a13 a14 a15 a16 a17 a18 a22, b.phis.length - j = d → j ≤ b.phis.length → putPhiV V1 (b.phis.drop j) (L.drop j) = some V' →
    exec T eval_machine_phis_l2 ⟨[.one (cP x), a1, a2, a3, .one (.ap (σ.length + 1) 0 (L.map rv)), a5, a6, a7, a8, a9, a10, a11, a12, a13, a14, a15, a16, a17, a18, vL (b.phis.map rp), vI b.phis.length, vI j, a22],
        stE σ x m f cm fuel V1 s ++ [.cells 0 5 [cBlock b], .tok 1 [L.length]], σ.length, σ.length⟩ =
      some (.exit 4, ⟨[vU, vU, vU, vU, vU, vU, vU, vU, vU, vU, vU, vU, vU, vU, vU, vU, vU, vU, vU, vU, vU, vU, vU], stE σ x m f cm fuel V' s ++ [.cells 0 5 [cBlock b], .tok 1 [L.length]], σ.length, σ.length⟩) := by
  have hx := h.lx
  have hx1 : ∀ k, (x < σ.length + k) = True := fun k => by simp; omega
  have gk := fun V s l k => get_k (stE_length (σ := σ) (x := x) (m := m) (f := f) (cm := cm) (fuel := fuel) V s) l k
  have sk := fun V s l k o => set_k (stE_length (σ := σ) (x := x) (m := m) (f := f) (cm := cm) (fuel := fuel) V s) l k o
  have tk := fun V s l k => take_k (stE_length (σ := σ) (x := x) (m := m) (f := f) (cm := cm) (fuel := fuel) V s) l k
  have gx := fun V s r => get_low (h.to V s).hx r
  have gm := fun V s r => get_low (h.to V s).hm r
  have okS : ∀ V s k, Obs.lt (σ.length + k) (stE σ x m f cm fuel V s) = true := fun V s k => by
    have := Ok.up (h.to V s).ok k
    rwa [stE_length] at this
  have hset : ∀ V1 V' l, (stE σ x m f cm fuel V1 s ++ l).set m (.mp (encM vU1 V')) = stE σ x m f cm fuel V' s ++ l := fun V1 V' l => by
    rw [setApp (h.to V1 s).hm, (h.to V1 s).setm, stE_stE h]
  have n2 : (σ.length + 2 ≤ σ.length + 2) = True := by simp
  have n3 : (σ.length + 3 ≤ σ.length + 2) = False := by simp
  have q1 : (σ.length + 1 < σ.length + 2) = True := by simp
  intro d
  induction d with
  | zero =>
    intro j V1 V' a1 a2 a3 a5 a6 a7 a8 a9 a10 a11 a12 a13 a14 a15 a16 a17 a18 a22 h1 h2 hl
    have hj : j = b.phis.length := by omega
    subst hj
    rw [List.drop_length, putPhiV] at hl
    injection hl with hl
    subst hl
    rw [eval_machine_phis_l2_eq, eval_machine_phis_b2]
    simp -implicitDefEqProofs only [go_sem, Int.lt_irrefl, n2, stE_length]
  | succ d ih =>
    intro j V1 V' a1 a2 a3 a5 a6 a7 a8 a9 a10 a11 a12 a13 a14 a15 a16 a17 a18 a22 h1 h2 hl
    have hj : j < b.phis.length := by omega
    have hd : b.phis.drop j = b.phis[j] :: b.phis.drop (j + 1) := List.drop_eq_getElem_cons hj
    rw [hd] at hl
    cases el : L.drop j with
    | nil => rw [el, putPhiV] at hl; cases hl
    | cons v vs =>
      have hj2 : j < L.length := by
        have := congrArg List.length el
        simp at this
        omega
      have el2 := List.drop_eq_getElem_cons hj2
      rw [el] at el2
      injection el2 with e1 e2
      subst e1 e2
      rw [el, putPhiV] at hl
      have := ih (j + 1) _ V' vU vU vU vU vU vU vU vU vU vU vU vU vU vU vU vU vU vU (by omega) (by omega) hl
      rw [eval_machine_phis_l2_eq, eval_machine_phis_b2]
      simp -implicitDefEqProofs only [go_sem] at this
      simp -implicitDefEqProofs only [go_sem, ilt hj, getr hj, getr hj2, rp, rv, gk, sk, tk, gx, gm, mput_u, hset, okS, n2, n3, hx1, q1, stE_length, wrap_succ hj hb.phis, this]
theorem em_phis_call (V' : UMap) (hV : phisV V fr b = some V') : call T F.eval_machine_phis [.one (cP x), vBlock b, vI fr] σ = some (.tup [], stE σ x m f cm fuel V' s) := by
  rw [call_eq (fn := a_eval_machine_phis) rfl]
  rw [phisV, Option.bind_eq_some_iff] at hV
  obtain ⟨L, hL, hP⟩ := hV
  have q1 := fun a1 a5 a6 a7 a8 a9 a13 a14 a15 a16 a17 a18 a19 a20 a21 a22 => phis_l1 h b hb fr hph hsrc b.phis.length 0 [] L a1 a5 a6 a7 a8 a9 a13 a14 a15 a16 a17 a18 a19 a20 a21 a22 (by omega) (by omega) (by simp) (by simpa using hL)
  have q2 := fun a1 a2 a3 a5 a6 a7 a8 a9 a10 a11 a12 a13 a14 a15 a16 a17 a18 a22 => phis_l2 h b hb hph hsrc L b.phis.length 0 V V' a1 a2 a3 a5 a6 a7 a8 a9 a10 a11 a12 a13 a14 a15 a16 a17 a18 a22 (by omega) (by omega) (by simpa using hP)
  rw [h.same] at q2
  have gk := fun l k => get_k (rfl : σ.length = σ.length) l k
  have gk0 := fun l => get_k0 (rfl : σ.length = σ.length) l
  have okS : Obs.lt σ.length (stE σ x m f cm fuel V' s) = true := by
    have := Ok.at (h.to V' s).ok
    rwa [stE_length] at this
  have tk0 := fun l => take_k (stE_length (σ := σ) (x := x) (m := m) (f := f) (cm := cm) (fuel := fuel) V' s) l 0
  simp only [Int.natCast_zero, List.map_nil, List.nil_append, List.length_nil, Nat.add_zero, List.take_zero, List.append_nil] at q1 q2 tk0
  have n2 : (σ.length + 2 ≤ σ.length) = False := by simp
  simp -implicitDefEqProofs only [go_sem] at q1 q2
  simp -implicitDefEqProofs only [go_sem, a_eval_machine_phis, gk, gk0, q1, q2, n2, okS, tk0, stE_length]
end
end AC

namespace AC
open Go Go.A Go.A.Lex
def nextS (V : UMap) (kind arg : Int) (to : List Int) : Option Int :=
  if kind = 2 then (getM arg V).bind fun v => if v = 1 then to[0]? else to[1]? else to[0]?
def runS (fuel : Int) (f : PFunc) : Nat → Nat → Nat → UMap → Int → Option (Int × Int × UMap × Int)
  | 0, _, _, _, _ => none
  | n + 1, at', fr, V, s => match f.blocks[at']? with
    | none => none
    | some b => match phisV V fr b with
      | none => none
      | some V1 => match opsS fuel b.ops V1 s with
        | none => none
        | some (.stop V' c s' _) => some (c, 0, V', s')
        | some (.go V2 s2) => if s2 = fuel then some (9, 0, V2, s2) else if b.kind = 3 then some (8, 0, V2, s2 + 1) else if b.kind = 0 then (getM b.arg V2).map fun v => (0, v, V2, s2 + 1)
          else match nextS V2 b.kind b.arg b.to with
            | none => none
            | some t => if 0 ≤ t then runS fuel f n t.toNat at' V2 (s2 + 1) else none
theorem ops_le {fuel : Int} : ∀ {ops : List POp} {V : UMap} {s : Int} {r : RR}, s ≤ fuel → opsS fuel ops V s = some r → match r with
    | .stop _ _ s' _ => s ≤ s' ∧ s' ≤ fuel
    | .go _ s' => s ≤ s' ∧ s' ≤ fuel
  | [], V, s, r, h, e => by
    rw [opsS] at e
    injection e with e
    subst e
    exact ⟨by omega, h⟩
  | o :: ops, V, s, r, h, e => by
    rw [opsS] at e
    split at e
    · injection e with e
      subst e
      exact ⟨by omega, h⟩
    · split at e
      · cases e
      · injection e with e
        subst e
        exact ⟨by omega, by omega⟩
      · have := ops_le (by omega) e
        split at this
        · exact ⟨by omega, by omega⟩
        · exact ⟨by omega, by omega⟩
def runRest : Go.A.Code := eval_machine_run_s1.p2.p2.p2
theorem run_r1 : eval_machine_run_r1 = .seq .skip runRest := rfl
abbrev vEnd (kind arg : Int) (to : List Int) : V := .agg [.f (ei kind), .f (ei arg), .f (eI to)]
section
variable {σ : Store} {x m : Nat} {f : PFunc} {cm : C} {fuel : Int}
theorem em_next_call {V : UMap} {s : Int} (h : Mach σ x m f cm fuel V s) (kind arg t : Int) (to : List Int) (ht : nextS V kind arg to = some t) : call T F.eval_machine_next [.one (cP x), vEnd kind arg to] σ = some (vI t, σ) := by
  rw [call_eq (fn := a_eval_machine_next) rfl]
  have hx := h.lx
  have gx := fun r => get_low h.hx r
  have gm := fun r => get_low h.hm r
  have ok0 := Ok.at h.ok
  have gk0 := fun l => get_k0 (rfl : σ.length = σ.length) l
  have hto : ∀ i : Nat, (to.map ri)[i]? = (to[i]?).map ri := fun i => by simp
  unfold nextS at ht
  by_cases c : kind = 2
  · rw [if_pos c, Option.bind_eq_some_iff] at ht
    obtain ⟨v, hv, ht⟩ := ht
    have hg := mget_u arg V
    rw [hv] at hg
    simp -implicitDefEqProofs only [go_sem, vU1] at hg
    by_cases c1 : v = 1
    · rw [if_pos c1] at ht
      have h0 := hto 0
      rw [ht] at h0
      simp -implicitDefEqProofs only [go_sem, ri] at h0
      simp -implicitDefEqProofs only [go_sem, a_eval_machine_next, gx, gm, gk0, ok0, hg, eq_true c, eq_true c1, h0, ri]
    · rw [if_neg c1] at ht
      have h0 := hto 1
      rw [ht] at h0
      simp -implicitDefEqProofs only [go_sem, ri] at h0
      simp -implicitDefEqProofs only [go_sem, a_eval_machine_next, gx, gm, gk0, ok0, hg, eq_true c, c1, h0, ri]
  · rw [if_neg c] at ht
    have h0 := hto 0
    rw [ht] at h0
    simp -implicitDefEqProofs only [go_sem, ri] at h0
    simp -implicitDefEqProofs only [go_sem, a_eval_machine_next, gx, gm, gk0, ok0, c, h0, ri]
structure OkRun (f : PFunc) : Prop where
  ok : okF f
  phis : ∀ b ∈ f.blocks, b.phis.length ≤ 1000
  src : ∀ b ∈ f.blocks, ∀ p ∈ b.phis, p.src.length ≤ 1000
variable {V0 : UMap} {s0 : Int} (h : Mach σ x m f cm fuel V0 s0) (hf : OkRun f) (hfu : fuel < 1152921504606846976)
include h hf hfu
theorem run_stop (b : PBlock) (at' fr : Nat) (hb : f.blocks[at']? = some b) (U0 U1 U2 : UMap) (s s2 c : Int) (o : POp) (hs : 0 ≤ s ∧ s ≤ fuel) (hP : phisV U0 fr b = some U1) (hO : opsS fuel b.ops U1 s = some (.stop U2 c s2 o))
    (a1 a2 a6 a7 a8 a9 a10 a11 a12 a13 a14 a15 a16 a17 a18 a19 : A.V) :
    exec T runRest ⟨[.one (cP x), a1, a2, .one (.map σ.length), vI at', vI fr, a6, a7, a8, a9, a10, a11, a12, a13, a14, a15, a16, a17, a18, a19], stE σ x m f cm fuel U0 s ++ allO x σ.length, σ.length, σ.length⟩ =
      some (.ret, ⟨[vU, vI c, vU64 0, vU, vU, vU, vU, vU, vU, vU, vU, vU, vU, vU, vU, vU, vU, vU, vU, vU], stE σ x m f cm fuel U2 s2 ++ tailO x σ.length b [.cells 0 6 [cOp o]], σ.length, σ.length⟩) := by
  have hlt : at' < f.blocks.length := (List.getElem?_eq_some_iff.1 hb).1
  have hbm : b ∈ f.blocks := List.mem_of_getElem? hb
  have hbk : (f.blocks.map rb)[at']? = some (rb b) := by simp [hb]
  have okb := hf.ok.block b hbm
  have gk := fun V s l k => get_k (stE_length (σ := σ) (x := x) (m := m) (f := f) (cm := cm) (fuel := fuel) V s) l k
  have sk := fun V s l k o => set_k (stE_length (σ := σ) (x := x) (m := m) (f := f) (cm := cm) (fuel := fuel) V s) l k o
  have gx := fun V s r => get_low (h.to V s).hx r
  have mp := mach_tail h b [] rfl U0 s
  have hph := em_phis_call mp b okb fr (hf.phis b hbm) (hf.src b hbm) U1 hP
  rw [stF_step h] at hph
  have hl := fun a1 a2 a5 a7 a8 a9 a13 a14 a15 a16 a17 a18 a19 => run_l0 h (vI at') rfl b okb b.ops.length 0 U1 s _ a1 a2 a5 a7 a8 a9 a13 a14 a15 a16 a17 a18 a19 (by omega) (by omega) hs.1 (by have := okb.ops; omega) (by simpa using hO)
  simp only [Int.natCast_zero] at hl
  simp -implicitDefEqProofs only [go_sem] at hph hl
  simp -implicitDefEqProofs only [go_sem, runRest, eval_machine_run_s1, Code.p2, gx, hbk, rb, gk, sk, stE_length, hph, hl]
theorem run_fuel (b : PBlock) (at' fr : Nat) (hb : f.blocks[at']? = some b) (U0 U1 U2 : UMap) (s s2 : Int) (hs : 0 ≤ s ∧ s ≤ fuel) (hP : phisV U0 fr b = some U1) (hO : opsS fuel b.ops U1 s = some (.go U2 s2))
    (c1 : s2 = fuel) (a1 a2 a6 a7 a8 a9 a10 a11 a12 a13 a14 a15 a16 a17 a18 a19 : A.V) :
    exec T runRest ⟨[.one (cP x), a1, a2, .one (.map σ.length), vI at', vI fr, a6, a7, a8, a9, a10, a11, a12, a13, a14, a15, a16, a17, a18, a19], stE σ x m f cm fuel U0 s ++ allO x σ.length, σ.length, σ.length⟩ =
      some (.ret, ⟨[vU, vI 9, vU64 0, vU, vU, vU, vU, vU, vU, vU, vU, vU, vU, vU, vU, vU, vU, vU, vU, vU], stE σ x m f cm fuel U2 s2 ++ tailO x σ.length b [], σ.length, σ.length⟩) := by
  have hlt : at' < f.blocks.length := (List.getElem?_eq_some_iff.1 hb).1
  have hbm : b ∈ f.blocks := List.mem_of_getElem? hb
  have hbk : (f.blocks.map rb)[at']? = some (rb b) := by simp [hb]
  have okb := hf.ok.block b hbm
  have gk := fun V s l k => get_k (stE_length (σ := σ) (x := x) (m := m) (f := f) (cm := cm) (fuel := fuel) V s) l k
  have sk := fun V s l k o => set_k (stE_length (σ := σ) (x := x) (m := m) (f := f) (cm := cm) (fuel := fuel) V s) l k o
  have gx := fun V s r => get_low (h.to V s).hx r
  have gm := fun V s r => get_low (h.to V s).hm r
  have mp := mach_tail h b [] rfl U0 s
  have hph := em_phis_call mp b okb fr (hf.phis b hbm) (hf.src b hbm) U1 hP
  rw [stF_step h] at hph
  have hl := fun a1 a2 a5 a7 a8 a9 a13 a14 a15 a16 a17 a18 a19 => run_l0 h (vI at') rfl b okb b.ops.length 0 U1 s _ a1 a2 a5 a7 a8 a9 a13 a14 a15 a16 a17 a18 a19 (by omega) (by omega) hs.1 (by have := okb.ops; omega) (by simpa using hO)
  obtain ⟨e1, e2⟩ := ops_le hs.2 hO
  have hstep := em_step_call (mach_tail h b [] rfl U2 s2) ⟨by omega, by omega⟩
  rw [stF_step h] at hstep
  simp only [Int.natCast_zero] at hl
  rw [if_pos c1] at hstep
  simp -implicitDefEqProofs only [go_sem] at hph hl hstep
  simp -implicitDefEqProofs only [go_sem, runRest, eval_machine_run_s1, Code.p2, gx, hbk, rb, gk, sk, stE_length, hph, hl, hstep]
theorem run_trap (b : PBlock) (at' fr : Nat) (hb : f.blocks[at']? = some b) (U0 U1 U2 : UMap) (s s2 : Int) (hs : 0 ≤ s ∧ s ≤ fuel) (hP : phisV U0 fr b = some U1) (hO : opsS fuel b.ops U1 s = some (.go U2 s2))
    (c1 : ¬ s2 = fuel) (c3 : b.kind = 3) (a1 a2 a6 a7 a8 a9 a10 a11 a12 a13 a14 a15 a16 a17 a18 a19 : A.V) :
    exec T runRest ⟨[.one (cP x), a1, a2, .one (.map σ.length), vI at', vI fr, a6, a7, a8, a9, a10, a11, a12, a13, a14, a15, a16, a17, a18, a19], stE σ x m f cm fuel U0 s ++ allO x σ.length, σ.length, σ.length⟩ =
      some (.ret, ⟨[vU, vI 8, vU64 0, vU, vU, vU, vU, vU, vU, vU, vU, vU, vU, vU, vU, vU, vU, vU, vU, vU], stE σ x m f cm fuel U2 (s2 + 1) ++ tailO x σ.length b [], σ.length, σ.length⟩) := by
  have hlt : at' < f.blocks.length := (List.getElem?_eq_some_iff.1 hb).1
  have hbm : b ∈ f.blocks := List.mem_of_getElem? hb
  have hbk : (f.blocks.map rb)[at']? = some (rb b) := by simp [hb]
  have okb := hf.ok.block b hbm
  have gk := fun V s l k => get_k (stE_length (σ := σ) (x := x) (m := m) (f := f) (cm := cm) (fuel := fuel) V s) l k
  have sk := fun V s l k o => set_k (stE_length (σ := σ) (x := x) (m := m) (f := f) (cm := cm) (fuel := fuel) V s) l k o
  have gx := fun V s r => get_low (h.to V s).hx r
  have gm := fun V s r => get_low (h.to V s).hm r
  have mp := mach_tail h b [] rfl U0 s
  have hph := em_phis_call mp b okb fr (hf.phis b hbm) (hf.src b hbm) U1 hP
  rw [stF_step h] at hph
  have hl := fun a1 a2 a5 a7 a8 a9 a13 a14 a15 a16 a17 a18 a19 => run_l0 h (vI at') rfl b okb b.ops.length 0 U1 s _ a1 a2 a5 a7 a8 a9 a13 a14 a15 a16 a17 a18 a19 (by omega) (by omega) hs.1 (by have := okb.ops; omega) (by simpa using hO)
  obtain ⟨e1, e2⟩ := ops_le hs.2 hO
  have hstep := em_step_call (mach_tail h b [] rfl U2 s2) ⟨by omega, by omega⟩
  rw [stF_step h] at hstep
  simp only [Int.natCast_zero] at hl
  rw [if_neg c1] at hstep
  simp -implicitDefEqProofs only [go_sem] at hph hl hstep
  simp -implicitDefEqProofs only [go_sem, runRest, eval_machine_run_s1, Code.p2, gx, hbk, rb, gk, sk, stE_length, hph, hl, hstep, eq_true c3]
theorem run_ret (b : PBlock) (at' fr : Nat) (hb : f.blocks[at']? = some b) (U0 U1 U2 : UMap) (s s2 : Int) (hs : 0 ≤ s ∧ s ≤ fuel) (hP : phisV U0 fr b = some U1) (hO : opsS fuel b.ops U1 s = some (.go U2 s2))
    (c1 : ¬ s2 = fuel) (c0 : b.kind = 0) (v : Int) (hv : getM b.arg U2 = some v) (a1 a2 a6 a7 a8 a9 a10 a11 a12 a13 a14 a15 a16 a17 a18 a19 : A.V) :
    exec T runRest ⟨[.one (cP x), a1, a2, .one (.map σ.length), vI at', vI fr, a6, a7, a8, a9, a10, a11, a12, a13, a14, a15, a16, a17, a18, a19], stE σ x m f cm fuel U0 s ++ allO x σ.length, σ.length, σ.length⟩ =
      some (.ret, ⟨[vU, vI 0, vU64 v, vU, vU, vU, vU, vU, vU, vU, vU, vU, vU, vU, vU, vU, vU, vU, vU, vU], stE σ x m f cm fuel U2 (s2 + 1) ++ tailO x σ.length b [], σ.length, σ.length⟩) := by
  have hlt : at' < f.blocks.length := (List.getElem?_eq_some_iff.1 hb).1
  have hbm : b ∈ f.blocks := List.mem_of_getElem? hb
  have hbk : (f.blocks.map rb)[at']? = some (rb b) := by simp [hb]
  have okb := hf.ok.block b hbm
  have gk := fun V s l k => get_k (stE_length (σ := σ) (x := x) (m := m) (f := f) (cm := cm) (fuel := fuel) V s) l k
  have sk := fun V s l k o => set_k (stE_length (σ := σ) (x := x) (m := m) (f := f) (cm := cm) (fuel := fuel) V s) l k o
  have gx := fun V s r => get_low (h.to V s).hx r
  have gm := fun V s r => get_low (h.to V s).hm r
  have mp := mach_tail h b [] rfl U0 s
  have hph := em_phis_call mp b okb fr (hf.phis b hbm) (hf.src b hbm) U1 hP
  rw [stF_step h] at hph
  have hl := fun a1 a2 a5 a7 a8 a9 a13 a14 a15 a16 a17 a18 a19 => run_l0 h (vI at') rfl b okb b.ops.length 0 U1 s _ a1 a2 a5 a7 a8 a9 a13 a14 a15 a16 a17 a18 a19 (by omega) (by omega) hs.1 (by have := okb.ops; omega) (by simpa using hO)
  obtain ⟨e1, e2⟩ := ops_le hs.2 hO
  have hstep := em_step_call (mach_tail h b [] rfl U2 s2) ⟨by omega, by omega⟩
  rw [stF_step h] at hstep
  simp only [Int.natCast_zero] at hl
  rw [if_neg c1] at hstep
  have k3 : ¬ b.kind = 3 := by omega
  have hg := mget_u b.arg U2
  rw [hv] at hg
  simp -implicitDefEqProofs only [go_sem, vU1] at hph hl hstep hg
  simp -implicitDefEqProofs only [go_sem, runRest, eval_machine_run_s1, Code.p2, gx, gm, hbk, rb, gk, sk, stE_length, hph, hl, hstep, k3, eq_true c0, hg]
theorem run_next (b : PBlock) (at' fr : Nat) (hb : f.blocks[at']? = some b) (U0 U1 U2 : UMap) (s s2 : Int) (hs : 0 ≤ s ∧ s ≤ fuel) (hP : phisV U0 fr b = some U1) (hO : opsS fuel b.ops U1 s = some (.go U2 s2))
    (c1 : ¬ s2 = fuel) (c3 : ¬ b.kind = 3) (c0 : ¬ b.kind = 0) (t : Int) (ht : nextS U2 b.kind b.arg b.to = some t) (a1 a2 a6 a7 a8 a9 a10 a11 a12 a13 a14 a15 a16 a17 a18 a19 : A.V) :
    exec T runRest ⟨[.one (cP x), a1, a2, .one (.map σ.length), vI at', vI fr, a6, a7, a8, a9, a10, a11, a12, a13, a14, a15, a16, a17, a18, a19], stE σ x m f cm fuel U0 s ++ allO x σ.length, σ.length, σ.length⟩ =
      some (.goto 0, ⟨[.one (cP x), vU, vU, .one (.map σ.length), vI t, vI at', vU, vU, vU, vU, vU, vU, vU, vU, vU, vU, vU, vU, vU, vU], stE σ x m f cm fuel U2 (s2 + 1) ++ allO x σ.length, σ.length, σ.length⟩) := by
  have hlt : at' < f.blocks.length := (List.getElem?_eq_some_iff.1 hb).1
  have hbm : b ∈ f.blocks := List.mem_of_getElem? hb
  have hbk : (f.blocks.map rb)[at']? = some (rb b) := by simp [hb]
  have okb := hf.ok.block b hbm
  have gk := fun V s l k => get_k (stE_length (σ := σ) (x := x) (m := m) (f := f) (cm := cm) (fuel := fuel) V s) l k
  have sk := fun V s l k o => set_k (stE_length (σ := σ) (x := x) (m := m) (f := f) (cm := cm) (fuel := fuel) V s) l k o
  have gx := fun V s r => get_low (h.to V s).hx r
  have gm := fun V s r => get_low (h.to V s).hm r
  have mp := mach_tail h b [] rfl U0 s
  have hph := em_phis_call mp b okb fr (hf.phis b hbm) (hf.src b hbm) U1 hP
  rw [stF_step h] at hph
  have hl := fun a1 a2 a5 a7 a8 a9 a13 a14 a15 a16 a17 a18 a19 => run_l0 h (vI at') rfl b okb b.ops.length 0 U1 s _ a1 a2 a5 a7 a8 a9 a13 a14 a15 a16 a17 a18 a19 (by omega) (by omega) hs.1 (by have := okb.ops; omega) (by simpa using hO)
  obtain ⟨e1, e2⟩ := ops_le hs.2 hO
  have hstep := em_step_call (mach_tail h b [] rfl U2 s2) ⟨by omega, by omega⟩
  rw [stF_step h] at hstep
  simp only [Int.natCast_zero] at hl
  rw [if_neg c1] at hstep
  have hn := em_next_call (mach_tail h b [] rfl U2 (s2 + 1)) b.kind b.arg t b.to ht
  have hx := h.lx
  have hx1 : ∀ k, (x < σ.length + k) = True := fun k => by simp; omega
  have tk := fun V s l k => take_k (stE_length (σ := σ) (x := x) (m := m) (f := f) (cm := cm) (fuel := fuel) V s) l k
  have okS : ∀ V s k, Obs.lt (σ.length + k) (stE σ x m f cm fuel V s) = true := fun V s k => by
    have := Ok.up (h.to V s).ok k
    rwa [stE_length] at this
  have lA := allE_lt h 10 (by omega)
  have p0 : (σ.length < σ.length + 10) = True := by simp
  have n10 : (σ.length + 11 ≤ σ.length + 10) = False := by simp
  simp -implicitDefEqProofs only [go_sem] at hph hl hstep hn
  simp -implicitDefEqProofs only [go_sem, runRest, eval_machine_run_s1, Code.p2, gx, hbk, rb, gk, sk, tk, stE_length, hph, hl, hstep, c3, c0, hn, n10, hx1, okS, lA, p0]
end
end AC

namespace AC
open Go Go.A Go.A.Lex
def runA : Go.A.Code := eval_machine_run_s1.p1
def runB : Go.A.Code := eval_machine_run_s1.p2.p1
theorem run_s1 : eval_machine_run_s1 = .seq runA (.seq runB (.seq (.label 0) runRest)) := rfl
section
variable {σ : Store} {x m : Nat} {f : PFunc} {cm : C} {fuel : Int} {V0 : UMap} {s0 : Int} (h : Mach σ x m f cm fuel V0 s0) (hf : OkRun f) (hfu : fuel < 1152921504606846976)
include h hf hfu
theorem run_scope (c v s2 : Int) (U2 : UMap) : ∀ (n at' fr : Nat) (U0 : UMap) (s : Int) (a1 a2 a6 a7 a8 a9 a10 a11 a12 a13 a14 a15 a16 a17 a18 a19 : A.V), 0 ≤ s ∧ s ≤ fuel → runS fuel f n at' fr U0 s = some (c, v, U2, s2) →
    ∃ junk, exec T (.sc eval_machine_run_s1 eval_machine_run_r1) ⟨[.one (cP x), a1, a2, .one (.map σ.length), vI at', vI fr, a6, a7, a8, a9, a10, a11, a12, a13, a14, a15, a16, a17, a18, a19], stE σ x m f cm fuel U0 s ++ allO x σ.length, σ.length, σ.length⟩ =
      some (.ret, ⟨[vU, vI c, vU64 v, vU, vU, vU, vU, vU, vU, vU, vU, vU, vU, vU, vU, vU, vU, vU, vU, vU], stE σ x m f cm fuel U2 s2 ++ junk, σ.length, σ.length⟩) := by
  intro n
  induction n with
  | zero => intro at' fr U0 s _ _ _ _ _ _ _ _ _ _ _ _ _ _ _ _ hs hr; simp [runS] at hr
  | succ n ih =>
    intro at' fr U0 s a1 a2 a6 a7 a8 a9 a10 a11 a12 a13 a14 a15 a16 a17 a18 a19 hs hr
    rw [exec_sc, run_r1, exec_seq, exec_skip]
    simp only [Option.bind_some, seqK]
    rw [runS] at hr
    split at hr
    · cases hr
    · rename_i b hb
      split at hr
      · cases hr
      · rename_i U1 hP
        split at hr
        · cases hr
        · rename_i V' c' s' o hO
          simp only [Option.some.injEq, Prod.mk.injEq] at hr
          obtain ⟨rfl, rfl, rfl, rfl⟩ := hr
          rw [run_stop h hf hfu b at' fr hb U0 U1 _ s _ _ o hs hP hO]
          exact ⟨_, rfl⟩
        · rename_i V2 s2' hO
          obtain ⟨e1, e2⟩ := ops_le hs.2 hO
          by_cases c1 : s2' = fuel
          · rw [if_pos c1] at hr
            simp only [Option.some.injEq, Prod.mk.injEq] at hr
            obtain ⟨rfl, rfl, rfl, rfl⟩ := hr
            rw [run_fuel h hf hfu b at' fr hb U0 U1 _ s _ hs hP hO c1]
            exact ⟨_, rfl⟩
          · rw [if_neg c1] at hr
            by_cases c3 : b.kind = 3
            · rw [if_pos c3] at hr
              simp only [Option.some.injEq, Prod.mk.injEq] at hr
              obtain ⟨rfl, rfl, rfl, rfl⟩ := hr
              rw [run_trap h hf hfu b at' fr hb U0 U1 _ s _ hs hP hO c1 c3]
              exact ⟨_, rfl⟩
            · rw [if_neg c3] at hr
              by_cases c0 : b.kind = 0
              · rw [if_pos c0, Option.map_eq_some_iff] at hr
                obtain ⟨v', hv, hr⟩ := hr
                simp only [Prod.mk.injEq] at hr
                obtain ⟨rfl, rfl, rfl, rfl⟩ := hr
                rw [run_ret h hf hfu b at' fr hb U0 U1 _ s _ hs hP hO c1 c0 _ hv]
                exact ⟨_, rfl⟩
              · rw [if_neg c0] at hr
                split at hr
                · cases hr
                · rename_i t ht
                  split at hr
                  · rename_i ht0
                    rw [run_next h hf hfu b at' fr hb U0 U1 _ s _ hs hP hO c1 c3 c0 t ht]
                    simp only [Option.bind_some, scK, eval_machine_run_r1_eq]
                    have := ih t.toNat at' V2 (s2' + 1) vU vU vU vU vU vU vU vU vU vU vU vU vU vU vU vU ⟨by omega, by omega⟩ hr
                    rw [Int.toNat_of_nonneg ht0] at this
                    exact this
                  · cases hr
theorem em_run_call (hs : 0 ≤ s0 ∧ s0 ≤ fuel) (n : Nat) (c v s2 : Int) (U2 : UMap) (hr : runS fuel f n 0 0 V0 s0 = some (c, v, U2, s2)) : call T F.eval_machine_run [.one (cP x)] σ = some (.tup [vI c, vU64 v], stE σ x m f cm fuel U2 s2) := by
  rw [call_eq (fn := a_eval_machine_run) rfl]
  obtain ⟨junk, hq⟩ := run_scope h hf hfu c v s2 U2 n 0 0 V0 s0 (vI 0) (vU64 0) vU vU vU vU vU vU vU vU vU vU vU vU vU vU hs hr
  have hA := em_all_call h.ok x h.lx
  rw [h.same] at hq
  have e : exec T eval_machine_run_s1 ⟨[.one (cP x), vI 0, vU64 0, vU, vU, vU, vU, vU, vU, vU, vU, vU, vU, vU, vU, vU, vU, vU, vU, vU], σ, σ.length, σ.length⟩ =
      exec T runRest ⟨[.one (cP x), vI 0, vU64 0, .one (.map σ.length), vI 0, vI 0, vU, vU, vU, vU, vU, vU, vU, vU, vU, vU, vU, vU, vU, vU], σ ++ allO x σ.length, σ.length, σ.length⟩ := by
    rw [run_s1]
    simp -implicitDefEqProofs only [go_sem, runA, runB, eval_machine_run_s1, Code.p1, Code.p2, hA]
  have e2 : exec T (.scope eval_machine_run_s1) ⟨[.one (cP x), vI 0, vU64 0, vU, vU, vU, vU, vU, vU, vU, vU, vU, vU, vU, vU, vU, vU, vU, vU, vU], σ, σ.length, σ.length⟩ =
      some (.ret, ⟨[vU, vI c, vU64 v, vU, vU, vU, vU, vU, vU, vU, vU, vU, vU, vU, vU, vU, vU, vU, vU, vU], stE σ x m f cm fuel U2 s2 ++ junk, σ.length, σ.length⟩) := by
    rw [← hq, exec_scope, exec_sc, exec_sc, run_r1, exec_seq, exec_skip]
    simp only [Option.bind_some, seqK]
    rw [e]
    rfl
  have tk0 := take_k (stE_length (σ := σ) (x := x) (m := m) (f := f) (cm := cm) (fuel := fuel) U2 s2) junk 0
  have okS : Obs.lt σ.length (stE σ x m f cm fuel U2 s2) = true := by
    have := Ok.at (h.to U2 s2).ok
    rwa [stE_length] at this
  simp only [Nat.add_zero, List.take_zero, List.append_nil] at tk0
  simp -implicitDefEqProofs only [go_sem] at e2
  by_cases hj : junk = []
  · subst hj
    have n0 : (σ.length ≤ σ.length) = True := by simp
    simp -implicitDefEqProofs only [go_sem, a_eval_machine_run, e2, stE_length, n0]
  · have n0 : (σ.length + junk.length ≤ σ.length) = False := by
      have := List.length_pos_iff.2 hj
      simp
      omega
    simp -implicitDefEqProofs only [go_sem, a_eval_machine_run, e2, stE_length, n0, okS, tk0]
end
end AC

namespace AC
open Go Go.A Go.A.Lex
def ru (x : Int) : List Fz := [.lit (.int .u64 x)]
def argsV : Nat → UMap → List Int → List Int → UMap
  | i, M, p :: ps, v :: vs => argsV (i + 1) (putM ((i : Int) + 1) (cutW v p) M) ps vs
  | _, M, _, _ => M
abbrev bR (c v s : Int) : Ob := .cells 0 3 [[.f (ei c), .f (eu v), .f (ei s)]]
abbrev stR (σ : Store) (f : PFunc) (mid : Nat) (fuel : Int) (c v : Int) (rs : Int) (M : UMap) (s : Int) (r : Store) : Store := σ ++ (.cells 0 3 [cFunc f] :: bR c v rs :: .mp (encM vU1 M) :: obM f (cP mid) (σ.length + 2) fuel s :: r)
section
variable {σ : Store} (hσ : Ok σ) (f : PFunc) (hf : OkRun f) (mid : Nat) (hmid : mid < σ.length) (fuel : Int) (hfu : 0 ≤ fuel ∧ fuel < 1152921504606846976)
include hσ hf hmid
theorem Run_l0 (args : List Int) (hlen : args.length = f.params.length) (hr : ∀ v ∈ args, 0 ≤ v ∧ v < 18446744073709551616) : ∀ (d k : Nat) (M : UMap) a0 a1 a2 a3 a6 a8 a9 a10 a11 a12 a16, args.length - k = d → k ≤ args.length →
    exec T eval_Run_l0 ⟨[a0, a1, a2, a3, .one (cP σ.length), .one (cP (σ.length + 1)), a6, .one (cP (σ.length + 3)), a8, a9, a10, a11, a12, vL (args.map ru), vI args.length, vI k, a16], stR σ f mid fuel 0 0 0 M 0 [], σ.length, σ.length⟩ =
      some (.exit 0, ⟨[vU, vU, vU, vU, vU, .one (cP (σ.length + 1)), vU, .one (cP (σ.length + 3)), vU, vU, vU, vU, vU, vU, vU, vU, vU], stR σ f mid fuel 0 0 0 (argsV k M (f.params.drop k) (args.drop k)) 0 [], σ.length, σ.length⟩) := by
  have gk := fun l k => get_k (rfl : σ.length = σ.length) l k
  have gk0 := fun l => get_k0 (rfl : σ.length = σ.length) l
  have sk := fun l k o => set_k (rfl : σ.length = σ.length) l k o
  have n4 : (σ.length + 4 ≤ σ.length + 4) = True := by simp
  have hal : args.length ≤ 4294967296 := by have := hf.ok.params; omega
  intro d
  induction d with
  | zero =>
    intro k M a0 a1 a2 a3 a6 a8 a9 a10 a11 a12 a16 h1 h2
    have hk : k = args.length := by omega
    subst hk
    have e : argsV args.length M (f.params.drop args.length) (args.drop args.length) = M := by
      rw [List.drop_length]
      cases f.params.drop args.length <;> rfl
    rw [eval_Run_l0_eq, eval_Run_b0, e]
    simp -implicitDefEqProofs only [go_sem, Int.lt_irrefl, n4]
  | succ d ih =>
    intro k M a0 a1 a2 a3 a6 a8 a9 a10 a11 a12 a16 h1 h2
    have hk : k < args.length := by omega
    have hk2 : k < f.params.length := by omega
    have hd : args.drop k = args[k] :: args.drop (k + 1) := List.drop_eq_getElem_cons hk
    have hd2 : f.params.drop k = f.params[k] :: f.params.drop (k + 1) := List.drop_eq_getElem_cons hk2
    obtain ⟨r1, r2⟩ := hr args[k] (List.getElem_mem hk)
    have hc := word_Cut_call args[k] f.params[k] r1 r2
    have hw : Go.IntKind.i64.wrap ((k : Int) + 1) = (k : Int) + 1 := by rw [wrap_i64] <;> omega
    have e1 : ((k + 1 : Nat) : Int) = (k : Int) + 1 := by omega
    have := ih (k + 1) (putM ((k : Int) + 1) (cutW args[k] f.params[k]) M) vU vU vU vU vU vU vU vU vU vU vU (by omega) (by omega)
    rw [eval_Run_l0_eq, eval_Run_b0, hd, hd2, argsV]
    rw [e1] at this
    simp -implicitDefEqProofs only [go_sem] at this hc
    simp -implicitDefEqProofs only [go_sem, ilt hk, getr hk, getr hk2, ru, ri, gk, gk0, sk, hc, hw, mput_u, n4, this]
include hfu
theorem Run_call (hC : call T F.check_Check [vFunc f, vI 2] [] = some (vI 0, [])) (args : List Int) (hlen : args.length = f.params.length) (hr : ∀ v ∈ args, 0 ≤ v ∧ v < 18446744073709551616) (n : Nat) (c v s : Int) (U2 : UMap) (hrun : runS fuel f n 0 0 (argsV 0 [] f.params args) 0 = some (c, v, U2, s)) :
    call T F.eval_Run [vFunc f, vL (args.map ru), .one (cP mid), vI fuel] σ = some (.tup [.agg [.f (ei c), .f (eu v), .f (ei s)], vI 0], σ) := by
  rw [call_eq (fn := a_eval_Run) rfl]
  have gk := fun l k => get_k (rfl : σ.length = σ.length) l k
  have gk0 := fun l => get_k0 (rfl : σ.length = σ.length) l
  have sk := fun l k o => set_k (rfl : σ.length = σ.length) l k o
  have tk0 := fun l => take_k (rfl : σ.length = σ.length) l 0
  have ok := fun k => Ok.up hσ k
  have ok0 := Ok.at hσ
  have q := fun a0 a1 a2 a3 a6 a8 a9 a10 a11 a12 a16 => Run_l0 hσ f hf mid hmid fuel args hlen hr args.length 0 [] a0 a1 a2 a3 a6 a8 a9 a10 a11 a12 a16 (by omega) (by omega)
  have hm1 : ∀ k, (mid < σ.length + k) = True := fun k => by simp; omega
  have M1 : Mach (stR σ f mid fuel 0 0 0 (argsV 0 [] f.params args) 0 []) (σ.length + 3) (σ.length + 2) f (cP mid) fuel (argsV 0 [] f.params args) 0 := by
    refine ⟨by rw [gk]; rfl, by rw [gk]; rfl, hσ.app ?_, by omega⟩
    have c2 : (σ.length + 2 < σ.length + 4) = True := by simp
    simp -implicitDefEqProofs only [go_sem, hm1, c2, ltm_u]
  have hR := em_run_call M1 hf hfu.2 ⟨by omega, hfu.1⟩ n c v s U2 hrun
  have eS : stE (stR σ f mid fuel 0 0 0 (argsV 0 [] f.params args) 0 []) (σ.length + 3) (σ.length + 2) f (cP mid) fuel U2 s = stR σ f mid fuel 0 0 0 U2 s [] := by
    rw [stE, sk, sk]
    rfl
  rw [eS] at hR
  have hl : (args.length : Int) = (f.params.length : Int) := by rw [hlen]
  have hf0 : ¬ fuel < 0 := by omega
  have n0 : (σ.length + 4 ≤ σ.length) = False := by simp
  have he : encM vU1 [] = [] := rfl
  simp only [stR, List.drop_zero, Int.natCast_zero, he, Nat.add_zero, List.take_zero, List.append_nil] at q tk0
  simp -implicitDefEqProofs only [go_sem, hl] at hC q hR
  simp -implicitDefEqProofs only [go_sem, a_eval_Run, hC, hl, hf0, gk, gk0, sk, q, hR, n0, tk0, ok, ok0, hm1]
end
end AC

import Derived.Test.YtecjccggbbbaaaaGreatKL
import Derived.Test.YtecjccggbbbaaaaGreatKK
set_option linter.unusedVariables false
set_option linter.unusedSimpArgs false
namespace AC
open Go Go.A Go.A.Lex
theorem stE_memUp {σ : Store} {x m mid tk : Nat} {f : PFunc} {cm : C} {fuel : Int} (V : UMap) (s : Int) (bc : C) (tr : List (List Fz)) (n1 : x ≠ mid) (n2 : x ≠ tk) (n3 : m ≠ mid) (n4 : m ≠ tk) :
    memUp (stE σ x m f cm fuel V s) mid tk bc tr = stE (memUp σ mid tk bc tr) x m f cm fuel V s := by
  unfold memUp stE
  rw [List.set_comm (i := m) (j := tk) _ _ n4, List.set_comm (i := x) (j := tk) _ _ n2, List.set_comm (i := m) (j := mid) _ _ n3, List.set_comm (i := x) (j := mid) _ _ n1]
section
variable {σ σ' : Store} {x m : Nat} {f : PFunc} {cm : C} {fuel : Int} {V0 V1 : UMap} {s0 s1 : Int} (h : Mach σ x m f cm fuel V0 s0) (h' : Mach σ' x m f cm fuel V1 s1) (hlen : σ'.length = σ.length)
variable (o : POp) (ph : List PPhi) (kind arg : Int) (to : List Int) (hb : okB ⟨ph, [o], kind, arg, to⟩) (U : UMap) (s : Int) (hs : 0 ≤ s ∧ s < 1152921504606846976) (hsf : ¬ s = fuel) (hdst : 0 < o.dst)
variable (g : Nat) (first caps : List C) (hg : mget o.kind (allE x σ.length) = some (.one (.fn g first caps)))
include h h' hlen hb hs hsf hdst hg
theorem run_l0_val (a : A.V) (ha : A.V.lt σ.length a = true) (v : Int) (hc : call T g (first.map A.V.one ++ ([vOp o] ++ caps.map A.V.one)) (stE σ x m f cm fuel U (s + 1) ++ tailO x σ.length ⟨ph, [o], kind, arg, to⟩ [.cells 0 6 [cOp o]]) = some (vTwo (some v), stE σ' x m f cm fuel U (s + 1) ++ tailO x σ.length ⟨ph, [o], kind, arg, to⟩ [.cells 0 6 [cOp o]])) a1 a2 a5 a7 a8 a9 a13 a14 a15 a16 a17 a18 a19 :
    exec T eval_machine_run_l0 ⟨[.one (cP x), a1, a2, .one (.map σ.length), a, a5, .one (cP (σ.length + 10)), a7, a8, a9, vL [ro o], vI 1, vI 0, a13, a14, a15, a16, a17, a18, a19], stE σ x m f cm fuel U s ++ tailO x σ.length ⟨ph, [o], kind, arg, to⟩ [], σ.length, σ.length⟩ =
      some (.exit 0, ⟨[.one (cP x), vU, vU, .one (.map σ.length), a, vU, .one (cP (σ.length + 10)), vU, vU, vU, vU, vU, vU, vU, vU, vU, vU, vU, vU, vU], stE σ' x m f cm fuel (putM o.dst v U) (s + 1) ++ tailO x σ.length ⟨ph, [o], kind, arg, to⟩ [], σ.length, σ.length⟩) := by
  have hx := h.lx
  have hm := h.lm
  have hx1 : ∀ k, (x < σ.length + k) = True := fun k => by simp; omega
  have gk := fun V s l k => get_k (stE_length (σ := σ) (x := x) (m := m) (f := f) (cm := cm) (fuel := fuel) V s) l k
  have gk0 := fun V s l => get_k0 (stE_length (σ := σ) (x := x) (m := m) (f := f) (cm := cm) (fuel := fuel) V s) l
  have sk := fun V s l k o => set_k (stE_length (σ := σ) (x := x) (m := m) (f := f) (cm := cm) (fuel := fuel) V s) l k o
  have tk := fun V s l k => take_k (stE_length (σ := σ) (x := x) (m := m) (f := f) (cm := cm) (fuel := fuel) V s) l k
  have gx := fun V s r => get_low (h.to V s).hx r
  have gm := fun V s r => get_low (h.to V s).hm r
  have okS : ∀ V s k, Obs.lt (σ.length + k) (stE σ x m f cm fuel V s) = true := fun V s k => by
    have := Ok.up (h.to V s).ok k
    rwa [stE_length] at this
  have hlt : ∀ j k, j < k → (σ.length + j < σ.length + k) = True := fun j k hj => by simp; omega
  have va : ∀ k, V.lt (σ.length + k) a = true := fun k => vlt_mono (Nat.le_add_right _ _) _ ha
  have c0 : ∀ k, (σ.length < σ.length + (k + 1)) = True := fun k => by simp
  have p1 := hlt 1 11 (by omega)
  have p2 := hlt 2 11 (by omega)
  have p3 := hlt 3 11 (by omega)
  have p4 := hlt 4 11 (by omega)
  have p5 := hlt 5 11 (by omega)
  have p6 := hlt 6 11 (by omega)
  have p7 := hlt 7 11 (by omega)
  have p8 := hlt 8 11 (by omega)
  have p9 := hlt 9 11 (by omega)
  have p10 := hlt 10 11 (by omega)
  have p0 : (σ.length < σ.length + 11) = True := by simp
  have lA := allE_lt h 11 (by omega)
  have gx' := fun V s r => get_low (h'.to V s).hx r
  have gm' := fun V s r => get_low (h'.to V s).hm r
  have hl' : ∀ V s, (stE σ' x m f cm fuel V s).length = σ.length := fun V s => by rw [stE_length, hlen]
  have gk' := fun V s l k => get_k (hl' V s) l k
  have tk' := fun V s l k => take_k (hl' V s) l k
  have okS' : ∀ V s k, Obs.lt (σ.length + k) (stE σ' x m f cm fuel V s) = true := fun V s k => by
    have := Ok.up (h'.to V s).ok k
    rwa [stE_length, hlen] at this
  have hset : ∀ V' l, (stE σ' x m f cm fuel U (s + 1) ++ l).set m (.mp (encM vU1 V')) = stE σ' x m f cm fuel V' (s + 1) ++ l := fun V' l => by
    rw [setApp (h'.to U (s + 1)).hm, (h'.to U (s + 1)).setm, stE_stE h']
  have hstep := em_step_call (mach_tail h ⟨ph, [o], kind, arg, to⟩ [.cells 0 6 [cOp o]] (by simp -implicitDefEqProofs only [go_sem]) U s) ⟨hs.1, by omega⟩
  rw [stF_step h, if_neg hsf] at hstep
  have n11 : (σ.length + 12 ≤ σ.length + 11) = False := by simp
  have w1 : IntKind.i64.wrap (0 + 1) = 1 := rfl
  have w2 : IntKind.i64.wrap 1 = 1 := rfl
  rw [eval_machine_run_l0_eq, eval_machine_run_b0]
  have hq := run_l0 h' a (by rw [hlen]; exact ha) ⟨ph, [o], kind, arg, to⟩ hb 0 1 (putM o.dst v U) (s + 1) (.go (putM o.dst v U) (s + 1)) vU vU vU vU vU vU vU vU vU vU vU vU vU rfl (by simp) (by omega) (by omega) rfl
  rw [hlen] at hq
  simp only [List.map_cons, List.map_nil, List.length_cons, List.length_nil, Nat.zero_add, show ((1 : Nat) : Int) = 1 from rfl] at hq
  simp -implicitDefEqProofs only [go_sem, vTwo, vU1, ro, tailO, cBlock, List.map_cons, List.map_nil] at hstep hc hq
  simp -implicitDefEqProofs only [go_sem, ro, stE_length, gk, gk0, sk, tk, hstep, hg, hc, eq_true hdst, gx', gm', gk', tk', hl', okS', mput_u, hset, n11, hx1, va, c0, p0, p1, p2, p3, p4, p5, p6, p7, p8, p9, p10, lA, w1, w2, hq, tailO, cBlock, List.map_cons, List.map_nil]
omit hb hdst in
theorem run_l0_trap (a : A.V) (ha : A.V.lt σ.length a = true) (hc : call T g (first.map A.V.one ++ ([vOp o] ++ caps.map A.V.one)) (stE σ x m f cm fuel U (s + 1) ++ tailO x σ.length ⟨ph, [o], kind, arg, to⟩ [.cells 0 6 [cOp o]]) = some (vTwo none, stE σ' x m f cm fuel U (s + 1) ++ tailO x σ.length ⟨ph, [o], kind, arg, to⟩ [.cells 0 6 [cOp o]])) a1 a2 a5 a7 a8 a9 a13 a14 a15 a16 a17 a18 a19 :
    exec T eval_machine_run_l0 ⟨[.one (cP x), a1, a2, .one (.map σ.length), a, a5, .one (cP (σ.length + 10)), a7, a8, a9, vL [ro o], vI 1, vI 0, a13, a14, a15, a16, a17, a18, a19], stE σ x m f cm fuel U s ++ tailO x σ.length ⟨ph, [o], kind, arg, to⟩ [], σ.length, σ.length⟩ =
      some (.ret, ⟨[vU, vI 8, vU64 0, vU, vU, vU, vU, vU, vU, vU, vU, vU, vU, vU, vU, vU, vU, vU, vU, vU], stE σ' x m f cm fuel U (s + 1) ++ tailO x σ.length ⟨ph, [o], kind, arg, to⟩ [.cells 0 6 [cOp o]], σ.length, σ.length⟩) := by
  have hx := h.lx
  have hm := h.lm
  have hx1 : ∀ k, (x < σ.length + k) = True := fun k => by simp; omega
  have gk := fun V s l k => get_k (stE_length (σ := σ) (x := x) (m := m) (f := f) (cm := cm) (fuel := fuel) V s) l k
  have gk0 := fun V s l => get_k0 (stE_length (σ := σ) (x := x) (m := m) (f := f) (cm := cm) (fuel := fuel) V s) l
  have sk := fun V s l k o => set_k (stE_length (σ := σ) (x := x) (m := m) (f := f) (cm := cm) (fuel := fuel) V s) l k o
  have tk := fun V s l k => take_k (stE_length (σ := σ) (x := x) (m := m) (f := f) (cm := cm) (fuel := fuel) V s) l k
  have gx := fun V s r => get_low (h.to V s).hx r
  have gm := fun V s r => get_low (h.to V s).hm r
  have okS : ∀ V s k, Obs.lt (σ.length + k) (stE σ x m f cm fuel V s) = true := fun V s k => by
    have := Ok.up (h.to V s).ok k
    rwa [stE_length] at this
  have hlt : ∀ j k, j < k → (σ.length + j < σ.length + k) = True := fun j k hj => by simp; omega
  have va : ∀ k, V.lt (σ.length + k) a = true := fun k => vlt_mono (Nat.le_add_right _ _) _ ha
  have c0 : ∀ k, (σ.length < σ.length + (k + 1)) = True := fun k => by simp
  have p1 := hlt 1 11 (by omega)
  have p2 := hlt 2 11 (by omega)
  have p3 := hlt 3 11 (by omega)
  have p4 := hlt 4 11 (by omega)
  have p5 := hlt 5 11 (by omega)
  have p6 := hlt 6 11 (by omega)
  have p7 := hlt 7 11 (by omega)
  have p8 := hlt 8 11 (by omega)
  have p9 := hlt 9 11 (by omega)
  have p10 := hlt 10 11 (by omega)
  have p0 : (σ.length < σ.length + 11) = True := by simp
  have lA := allE_lt h 11 (by omega)
  have gx' := fun V s r => get_low (h'.to V s).hx r
  have gm' := fun V s r => get_low (h'.to V s).hm r
  have hl' : ∀ V s, (stE σ' x m f cm fuel V s).length = σ.length := fun V s => by rw [stE_length, hlen]
  have gk' := fun V s l k => get_k (hl' V s) l k
  have tk' := fun V s l k => take_k (hl' V s) l k
  have okS' : ∀ V s k, Obs.lt (σ.length + k) (stE σ' x m f cm fuel V s) = true := fun V s k => by
    have := Ok.up (h'.to V s).ok k
    rwa [stE_length, hlen] at this
  have hset : ∀ V' l, (stE σ' x m f cm fuel U (s + 1) ++ l).set m (.mp (encM vU1 V')) = stE σ' x m f cm fuel V' (s + 1) ++ l := fun V' l => by
    rw [setApp (h'.to U (s + 1)).hm, (h'.to U (s + 1)).setm, stE_stE h']
  have hstep := em_step_call (mach_tail h ⟨ph, [o], kind, arg, to⟩ [.cells 0 6 [cOp o]] (by simp -implicitDefEqProofs only [go_sem]) U s) ⟨hs.1, by omega⟩
  rw [stF_step h, if_neg hsf] at hstep
  have n11 : (σ.length + 12 ≤ σ.length + 11) = False := by simp
  have w1 : IntKind.i64.wrap (0 + 1) = 1 := rfl
  have w2 : IntKind.i64.wrap 1 = 1 := rfl
  rw [eval_machine_run_l0_eq, eval_machine_run_b0]
  simp -implicitDefEqProofs only [go_sem, vTwo, ro, tailO, cBlock, List.map_cons, List.map_nil] at hstep hc
  simp -implicitDefEqProofs only [go_sem, ro, stE_length, gk, gk0, sk, tk, hstep, hg, hc, tailO, cBlock, List.map_cons, List.map_nil]
end
end AC

namespace AC
open Go Go.A Go.A.Lex
section
variable {σ σ' : Store} {x m : Nat} {f : PFunc} {cm : C} {fuel : Int} {V0 V1 : UMap} {s0 s1 : Int} (h : Mach σ x m f cm fuel V0 s0) (h' : Mach σ' x m f cm fuel V1 s1) (hlen : σ'.length = σ.length) (hf : OkRun f) (hfu : fuel < 1152921504606846976)
include h h' hlen hf hfu
omit hfu in
theorem run_stopM (b : PBlock) (at' fr : Nat) (hb : f.blocks[at']? = some b) (U0 U1 U2 : UMap) (s s2 c : Int) (o : POp) (hs : 0 ≤ s ∧ s ≤ fuel) (hP : phisV U0 fr b = some U1) (hl : ∀ a1 a2 a5 a7 a8 a9 a13 a14 a15 a16 a17 a18 a19, exec T eval_machine_run_l0 ⟨[.one (cP x), a1, a2, .one (.map σ.length), vI at', a5, .one (cP (σ.length + 10)), a7, a8, a9, vL (b.ops.map ro), vI b.ops.length, vI 0, a13, a14, a15, a16, a17, a18, a19], stE σ x m f cm fuel U1 s ++ tailO x σ.length b [], σ.length, σ.length⟩ =
      some (.ret, ⟨[vU, vI c, vU64 0, vU, vU, vU, vU, vU, vU, vU, vU, vU, vU, vU, vU, vU, vU, vU, vU, vU], stE σ' x m f cm fuel U2 s2 ++ tailO x σ.length b [.cells 0 6 [cOp o]], σ.length, σ.length⟩))
    (a1 a2 a6 a7 a8 a9 a10 a11 a12 a13 a14 a15 a16 a17 a18 a19 : A.V) :
    exec T runRest ⟨[.one (cP x), a1, a2, .one (.map σ.length), vI at', vI fr, a6, a7, a8, a9, a10, a11, a12, a13, a14, a15, a16, a17, a18, a19], stE σ x m f cm fuel U0 s ++ allO x σ.length, σ.length, σ.length⟩ =
      some (.ret, ⟨[vU, vI c, vU64 0, vU, vU, vU, vU, vU, vU, vU, vU, vU, vU, vU, vU, vU, vU, vU, vU, vU], stE σ' x m f cm fuel U2 s2 ++ tailO x σ.length b [.cells 0 6 [cOp o]], σ.length, σ.length⟩) := by
  have hlt : at' < f.blocks.length := (List.getElem?_eq_some_iff.1 hb).1
  have hbm : b ∈ f.blocks := List.mem_of_getElem? hb
  have hbk : (f.blocks.map rb)[at']? = some (rb b) := by simp [hb]
  have okb := hf.ok.block b hbm
  have gk := fun V s l k => get_k (stE_length (σ := σ) (x := x) (m := m) (f := f) (cm := cm) (fuel := fuel) V s) l k
  have sk := fun V s l k o => set_k (stE_length (σ := σ) (x := x) (m := m) (f := f) (cm := cm) (fuel := fuel) V s) l k o
  have hl' : ∀ V s, (stE σ' x m f cm fuel V s).length = σ.length := fun V s => by rw [stE_length, hlen]
  have gk' := fun V s l k => get_k (hl' V s) l k
  have tk' := fun V s l k => take_k (hl' V s) l k
  have gx' := fun V s r => get_low (h'.to V s).hx r
  have gm' := fun V s r => get_low (h'.to V s).hm r
  have okS' : ∀ V s k, Obs.lt (σ.length + k) (stE σ' x m f cm fuel V s) = true := fun V s k => by
    have := Ok.up (h'.to V s).ok k
    rwa [stE_length, hlen] at this
  have gx := fun V s r => get_low (h.to V s).hx r
  have mp := mach_tail h b [] rfl U0 s
  have hph := em_phis_call mp b okb fr (hf.phis b hbm) (hf.src b hbm) U1 hP
  rw [stF_step h] at hph
  simp -implicitDefEqProofs only [go_sem] at hph hl
  simp -implicitDefEqProofs only [go_sem, runRest, eval_machine_run_s1, Code.p2, gx, hbk, rb, gk, sk, stE_length, gk', tk', gx', gm', hl', okS', hph, hl]
theorem run_retM (b : PBlock) (at' fr : Nat) (hb : f.blocks[at']? = some b) (U0 U1 U2 : UMap) (s s2 : Int) (hs : 0 ≤ s2 ∧ s2 ≤ fuel) (hP : phisV U0 fr b = some U1) (hl : ∀ a1 a2 a5 a7 a8 a9 a13 a14 a15 a16 a17 a18 a19, exec T eval_machine_run_l0 ⟨[.one (cP x), a1, a2, .one (.map σ.length), vI at', a5, .one (cP (σ.length + 10)), a7, a8, a9, vL (b.ops.map ro), vI b.ops.length, vI 0, a13, a14, a15, a16, a17, a18, a19], stE σ x m f cm fuel U1 s ++ tailO x σ.length b [], σ.length, σ.length⟩ =
      some (.exit 0, ⟨[.one (cP x), vU, vU, .one (.map σ.length), vI at', vU, .one (cP (σ.length + 10)), vU, vU, vU, vU, vU, vU, vU, vU, vU, vU, vU, vU, vU], stE σ' x m f cm fuel U2 s2 ++ tailO x σ.length b [], σ.length, σ.length⟩))
    (c1 : ¬ s2 = fuel) (c0 : b.kind = 0) (v : Int) (hv : getM b.arg U2 = some v) (a1 a2 a6 a7 a8 a9 a10 a11 a12 a13 a14 a15 a16 a17 a18 a19 : A.V) :
    exec T runRest ⟨[.one (cP x), a1, a2, .one (.map σ.length), vI at', vI fr, a6, a7, a8, a9, a10, a11, a12, a13, a14, a15, a16, a17, a18, a19], stE σ x m f cm fuel U0 s ++ allO x σ.length, σ.length, σ.length⟩ =
      some (.ret, ⟨[vU, vI 0, vU64 v, vU, vU, vU, vU, vU, vU, vU, vU, vU, vU, vU, vU, vU, vU, vU, vU, vU], stE σ' x m f cm fuel U2 (s2 + 1) ++ tailO x σ.length b [], σ.length, σ.length⟩) := by
  have hlt : at' < f.blocks.length := (List.getElem?_eq_some_iff.1 hb).1
  have hbm : b ∈ f.blocks := List.mem_of_getElem? hb
  have hbk : (f.blocks.map rb)[at']? = some (rb b) := by simp [hb]
  have okb := hf.ok.block b hbm
  have gk := fun V s l k => get_k (stE_length (σ := σ) (x := x) (m := m) (f := f) (cm := cm) (fuel := fuel) V s) l k
  have sk := fun V s l k o => set_k (stE_length (σ := σ) (x := x) (m := m) (f := f) (cm := cm) (fuel := fuel) V s) l k o
  have hl' : ∀ V s, (stE σ' x m f cm fuel V s).length = σ.length := fun V s => by rw [stE_length, hlen]
  have gk' := fun V s l k => get_k (hl' V s) l k
  have tk' := fun V s l k => take_k (hl' V s) l k
  have gx' := fun V s r => get_low (h'.to V s).hx r
  have gm' := fun V s r => get_low (h'.to V s).hm r
  have okS' : ∀ V s k, Obs.lt (σ.length + k) (stE σ' x m f cm fuel V s) = true := fun V s k => by
    have := Ok.up (h'.to V s).ok k
    rwa [stE_length, hlen] at this
  have gx := fun V s r => get_low (h.to V s).hx r
  have gm := fun V s r => get_low (h.to V s).hm r
  have mp := mach_tail h b [] rfl U0 s
  have hph := em_phis_call mp b okb fr (hf.phis b hbm) (hf.src b hbm) U1 hP
  rw [stF_step h] at hph
  have hstep := em_step_call (mach_tail h' b [] rfl U2 s2) ⟨by omega, by omega⟩
  rw [stF_step h'] at hstep
  rw [if_neg c1] at hstep
  have k3 : ¬ b.kind = 3 := by omega
  have hg := mget_u b.arg U2
  rw [hv] at hg
  simp only [hlen] at hstep
  simp -implicitDefEqProofs only [go_sem, vU1] at hph hl hstep hg
  simp -implicitDefEqProofs only [go_sem, runRest, eval_machine_run_s1, Code.p2, gx, gm, hbk, rb, gk, sk, stE_length, gk', tk', gx', gm', hl', okS', hph, hl, hstep, k3, eq_true c0, hg]
theorem run_nextM (b : PBlock) (at' fr : Nat) (hb : f.blocks[at']? = some b) (U0 U1 U2 : UMap) (s s2 : Int) (hs : 0 ≤ s2 ∧ s2 ≤ fuel) (hP : phisV U0 fr b = some U1) (hl : ∀ a1 a2 a5 a7 a8 a9 a13 a14 a15 a16 a17 a18 a19, exec T eval_machine_run_l0 ⟨[.one (cP x), a1, a2, .one (.map σ.length), vI at', a5, .one (cP (σ.length + 10)), a7, a8, a9, vL (b.ops.map ro), vI b.ops.length, vI 0, a13, a14, a15, a16, a17, a18, a19], stE σ x m f cm fuel U1 s ++ tailO x σ.length b [], σ.length, σ.length⟩ =
      some (.exit 0, ⟨[.one (cP x), vU, vU, .one (.map σ.length), vI at', vU, .one (cP (σ.length + 10)), vU, vU, vU, vU, vU, vU, vU, vU, vU, vU, vU, vU, vU], stE σ' x m f cm fuel U2 s2 ++ tailO x σ.length b [], σ.length, σ.length⟩))
    (c1 : ¬ s2 = fuel) (c3 : ¬ b.kind = 3) (c0 : ¬ b.kind = 0) (t : Int) (ht : nextS U2 b.kind b.arg b.to = some t) (a1 a2 a6 a7 a8 a9 a10 a11 a12 a13 a14 a15 a16 a17 a18 a19 : A.V) :
    exec T runRest ⟨[.one (cP x), a1, a2, .one (.map σ.length), vI at', vI fr, a6, a7, a8, a9, a10, a11, a12, a13, a14, a15, a16, a17, a18, a19], stE σ x m f cm fuel U0 s ++ allO x σ.length, σ.length, σ.length⟩ =
      some (.goto 0, ⟨[.one (cP x), vU, vU, .one (.map σ.length), vI t, vI at', vU, vU, vU, vU, vU, vU, vU, vU, vU, vU, vU, vU, vU, vU], stE σ' x m f cm fuel U2 (s2 + 1) ++ allO x σ.length, σ.length, σ.length⟩) := by
  have hlt : at' < f.blocks.length := (List.getElem?_eq_some_iff.1 hb).1
  have hbm : b ∈ f.blocks := List.mem_of_getElem? hb
  have hbk : (f.blocks.map rb)[at']? = some (rb b) := by simp [hb]
  have okb := hf.ok.block b hbm
  have gk := fun V s l k => get_k (stE_length (σ := σ) (x := x) (m := m) (f := f) (cm := cm) (fuel := fuel) V s) l k
  have sk := fun V s l k o => set_k (stE_length (σ := σ) (x := x) (m := m) (f := f) (cm := cm) (fuel := fuel) V s) l k o
  have hl' : ∀ V s, (stE σ' x m f cm fuel V s).length = σ.length := fun V s => by rw [stE_length, hlen]
  have gk' := fun V s l k => get_k (hl' V s) l k
  have tk' := fun V s l k => take_k (hl' V s) l k
  have gx' := fun V s r => get_low (h'.to V s).hx r
  have gm' := fun V s r => get_low (h'.to V s).hm r
  have okS' : ∀ V s k, Obs.lt (σ.length + k) (stE σ' x m f cm fuel V s) = true := fun V s k => by
    have := Ok.up (h'.to V s).ok k
    rwa [stE_length, hlen] at this
  have gx := fun V s r => get_low (h.to V s).hx r
  have gm := fun V s r => get_low (h.to V s).hm r
  have mp := mach_tail h b [] rfl U0 s
  have hph := em_phis_call mp b okb fr (hf.phis b hbm) (hf.src b hbm) U1 hP
  rw [stF_step h] at hph
  have hstep := em_step_call (mach_tail h' b [] rfl U2 s2) ⟨by omega, by omega⟩
  rw [stF_step h'] at hstep
  rw [if_neg c1] at hstep
  have hn := em_next_call (mach_tail h' b [] rfl U2 (s2 + 1)) b.kind b.arg t b.to ht
  have hx := h.lx
  have hx1 : ∀ k, (x < σ.length + k) = True := fun k => by simp; omega
  have tk := fun V s l k => take_k (stE_length (σ := σ) (x := x) (m := m) (f := f) (cm := cm) (fuel := fuel) V s) l k
  have okS : ∀ V s k, Obs.lt (σ.length + k) (stE σ x m f cm fuel V s) = true := fun V s k => by
    have := Ok.up (h.to V s).ok k
    rwa [stE_length] at this
  have lA := allE_lt h 10 (by omega)
  have p0 : (σ.length < σ.length + 10) = True := by simp
  have n10 : (σ.length + 11 ≤ σ.length + 10) = False := by simp
  simp only [hlen] at hstep hn
  simp -implicitDefEqProofs only [go_sem] at hph hl hstep hn
  simp -implicitDefEqProofs only [go_sem, runRest, eval_machine_run_s1, Code.p2, gx, hbk, rb, gk, sk, tk, stE_length, gk', tk', gx', gm', hl', okS', hph, hl, hstep, c3, c0, hn, n10, hx1, okS, lA, p0]
end
theorem scope_ret {s s' : St} (h : exec T runRest s = some (.ret, s')) : exec T (.sc eval_machine_run_s1 eval_machine_run_r1) s = some (.ret, s') := by
  rw [exec_sc, run_r1, exec_seq, exec_skip]
  simp only [Option.bind_some, seqK]
  rw [h]
  rfl
theorem scope_goto {s s' : St} (h : exec T runRest s = some (.goto 0, s')) : exec T (.sc eval_machine_run_s1 eval_machine_run_r1) s = exec T (.sc eval_machine_run_s1 eval_machine_run_r1) s' := by
  rw [exec_sc, run_r1, exec_seq, exec_skip]
  simp only [Option.bind_some, seqK]
  rw [h]
  simp only [Option.bind_some, scK, eval_machine_run_r1_eq]
  rfl
end AC

namespace AC
open Go Go.A Go.A.Lex
theorem em_run_of {σ σ' : Store} {x m : Nat} {f : PFunc} {cm : C} {fuel : Int} {V0 : UMap} {s0 : Int} (h : Mach σ x m f cm fuel V0 s0) (hlen : σ'.length = σ.length) (ok' : Ok σ') (c v : Int)
    (hr : ∃ junk, exec T (.sc eval_machine_run_s1 eval_machine_run_r1) ⟨[.one (cP x), vI 0, vU64 0, .one (.map σ.length), vI 0, vI 0, vU, vU, vU, vU, vU, vU, vU, vU, vU, vU, vU, vU, vU, vU], σ ++ allO x σ.length, σ.length, σ.length⟩ =
      some (.ret, ⟨[vU, vI c, vU64 v, vU, vU, vU, vU, vU, vU, vU, vU, vU, vU, vU, vU, vU, vU, vU, vU, vU], σ' ++ junk, σ.length, σ.length⟩)) : call T F.eval_machine_run [.one (cP x)] σ = some (.tup [vI c, vU64 v], σ') := by
  rw [call_eq (fn := a_eval_machine_run) rfl]
  obtain ⟨junk, hq⟩ := hr
  have hA := em_all_call h.ok x h.lx
  have e : exec T eval_machine_run_s1 ⟨[.one (cP x), vI 0, vU64 0, vU, vU, vU, vU, vU, vU, vU, vU, vU, vU, vU, vU, vU, vU, vU, vU, vU], σ, σ.length, σ.length⟩ =
      exec T runRest ⟨[.one (cP x), vI 0, vU64 0, .one (.map σ.length), vI 0, vI 0, vU, vU, vU, vU, vU, vU, vU, vU, vU, vU, vU, vU, vU, vU], σ ++ allO x σ.length, σ.length, σ.length⟩ := by
    rw [run_s1]
    simp -implicitDefEqProofs only [go_sem, runA, runB, eval_machine_run_s1, Code.p1, Code.p2, hA]
  have e2 : exec T (.scope eval_machine_run_s1) ⟨[.one (cP x), vI 0, vU64 0, vU, vU, vU, vU, vU, vU, vU, vU, vU, vU, vU, vU, vU, vU, vU, vU, vU], σ, σ.length, σ.length⟩ =
      some (.ret, ⟨[vU, vI c, vU64 v, vU, vU, vU, vU, vU, vU, vU, vU, vU, vU, vU, vU, vU, vU, vU, vU, vU], σ' ++ junk, σ.length, σ.length⟩) := by
    rw [← hq, exec_scope, exec_sc, exec_sc, run_r1, exec_seq, exec_skip]
    simp only [Option.bind_some, seqK]
    rw [e]
  have tk0 := take_k hlen junk 0
  have okS : Obs.lt σ.length σ' = true := by
    have := Ok.at ok'
    rwa [hlen] at this
  simp only [Nat.add_zero, List.take_zero, List.append_nil] at tk0
  simp -implicitDefEqProofs only [go_sem] at e2
  by_cases hj : junk = []
  · subst hj
    have n0 : (σ.length ≤ σ.length) = True := by simp
    simp -implicitDefEqProofs only [go_sem, a_eval_machine_run, e2, hlen, n0]
  · have n0 : (σ.length + junk.length ≤ σ.length) = False := by
      have := List.length_pos_iff.2 hj
      simp
      omega
    simp -implicitDefEqProofs only [go_sem, a_eval_machine_run, e2, hlen, n0, okS, tk0]
section
variable {σ σ' : Store} (hσ : Ok σ) (hσ' : Ok σ') (hlen : σ'.length = σ.length) (f : PFunc) (hf : OkRun f) (mid : Nat) (hmid : mid < σ.length) (fuel : Int) (hfu : 0 ≤ fuel ∧ fuel < 1152921504606846976)
include hσ hf hmid hfu
omit hf hfu in
theorem stR_mach (M : UMap) : Mach (stR σ f mid fuel 0 0 0 M 0 []) (σ.length + 3) (σ.length + 2) f (cP mid) fuel M 0 := by
  have gk := fun l k => get_k (rfl : σ.length = σ.length) l k
  have hm1 : ∀ k, (mid < σ.length + k) = True := fun k => by simp; omega
  refine ⟨by rw [gk]; rfl, by rw [gk]; rfl, hσ.app ?_, by omega⟩
  have c2 : (σ.length + 2 < σ.length + 4) = True := by simp
  simp -implicitDefEqProofs only [go_sem, hm1, c2, ltm_u]
include hσ' hlen
theorem Run_of (hC : call T F.check_Check [vFunc f, vI 2] [] = some (vI 0, [])) (args : List Int) (hal : args.length = f.params.length) (hr : ∀ v ∈ args, 0 ≤ v ∧ v < 18446744073709551616) (c v s : Int) (U2 : UMap)
    (hR : call T F.eval_machine_run [.one (cP (σ.length + 3))] (stR σ f mid fuel 0 0 0 (argsV 0 [] f.params args) 0 []) = some (.tup [vI c, vU64 v], stR σ' f mid fuel 0 0 0 U2 s [])) :
    call T F.eval_Run [vFunc f, vL (args.map ru), .one (cP mid), vI fuel] σ = some (.tup [.agg [.f (ei c), .f (eu v), .f (ei s)], vI 0], σ') := by
  rw [call_eq (fn := a_eval_Run) rfl]
  have gk := fun l k => get_k (rfl : σ.length = σ.length) l k
  have gk0 := fun l => get_k0 (rfl : σ.length = σ.length) l
  have sk := fun l k o => set_k (rfl : σ.length = σ.length) l k o
  have tk0 := fun l => take_k hlen l 0
  have gk' := fun l k => get_k hlen l k
  have gk0' := fun l => get_k0 hlen l
  have sk' := fun l k o => set_k hlen l k o
  have ok := fun k => Ok.up hσ k
  have ok0' : Obs.lt σ.length σ' = true := by
    have := Ok.at hσ'
    rwa [hlen] at this
  have q := fun a0 a1 a2 a3 a6 a8 a9 a10 a11 a12 a16 => Run_l0 hσ f hf mid hmid fuel args hal hr args.length 0 [] a0 a1 a2 a3 a6 a8 a9 a10 a11 a12 a16 (by omega) (by omega)
  have hm1 : ∀ k, (mid < σ.length + k) = True := fun k => by simp; omega
  have hl : (args.length : Int) = (f.params.length : Int) := by rw [hal]
  have hf0 : ¬ fuel < 0 := by omega
  have n0 : (σ.length + 4 ≤ σ.length) = False := by simp
  have he : encM vU1 [] = [] := rfl
  simp only [stR, List.drop_zero, Int.natCast_zero, he, Nat.add_zero, List.take_zero, List.append_nil, hlen] at q tk0 hR
  simp -implicitDefEqProofs only [go_sem, hl] at hC q hR
  simp -implicitDefEqProofs only [go_sem, a_eval_Run, hC, hl, hf0, gk, gk0, sk, gk', gk0', sk', q, hR, n0, tk0, ok, ok0', hm1, hlen]
end
end AC

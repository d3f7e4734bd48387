import Derived.Test.YtecjccggbbbaaaaGreatKC
import Derived.Test.YtecjccggbbbaaaaGreatData
set_option linter.unusedVariables false
set_option linter.unusedSimpArgs false
set_option linter.unusedSectionVars false
namespace AC
open Go Go.A Go.A.Lex
/-- An argument: the value, the shape that is taken, and where. -/
structure Use where
  v : Int
  shape : Int × Int
  block : Int
  at' : Int
abbrev mostAt : Int := 1048576
def firstE (ask : Use → Int) : List Use → Int
  | [] => 0
  | u :: r => if ask u = 0 then firstE ask r else ask u
theorem firstE_app (ask : Use → Int) : ∀ (a b : List Use), firstE ask (a ++ b) = if firstE ask a = 0 then firstE ask b else firstE ask a
  | [], b => by simp [firstE]
  | u :: r, b => by
    simp only [List.cons_append, firstE, firstE_app ask r b]
    by_cases h : ask u = 0 <;> simp [h]
def phiUsesFrom (p : PPhi) (k : Nat) : List Int → List Use
  | [] => []
  | v :: r => ⟨v, (p.bits, 1), p.src.getD k 0, mostAt⟩ :: phiUsesFrom p (k + 1) r
def phiUses (p : PPhi) : List Use := phiUsesFrom p 0 p.args
def opUsesFrom (o : POp) (i at' : Int) (k : Nat) : List (Int × Int) → List Use
  | [] => []
  | s :: r => ⟨o.args.getD k 0, s, i, at'⟩ :: opUsesFrom o i at' (k + 1) r
def opUses (o : POp) (i at' : Int) : List Use := opUsesFrom o i at' 0 (takesO o)
def opsUsesFrom (i : Int) (k : Nat) : List POp → List Use
  | [] => []
  | o :: r => opUses o i (k : Int) ++ opsUsesFrom i (k + 1) r
def phisUses (l : List PPhi) : List Use := l.flatMap phiUses
def endBits (f : PFunc) (b : PBlock) : Int := if b.kind = 0 then f.ret else if b.kind = 2 then 1 else 0
def endUses (f : PFunc) (i : Int) (b : PBlock) : List Use := if endBits f b = 0 then [] else [⟨b.arg, (endBits f b, 1), i, mostAt⟩]
def blockUses (f : PFunc) (i : Int) (b : PBlock) : List Use := phisUses b.phis ++ (opsUsesFrom i 0 b.ops ++ endUses f i b)
def usesFrom (f : PFunc) (k : Nat) : List PBlock → List Use
  | [] => []
  | b :: r => blockUses f (k : Int) b ++ usesFrom f (k + 1) r
def usesS (f : PFunc) : List Use := usesFrom f 0 f.blocks
/-- A checker's object. -/
abbrev obCk (f : PFunc) (level : Int) (x y z d : C) : Ob := .cells 0 8 [[.f (eI f.params), .f (ei f.ret), .f (.sl (f.blocks.map rb)), .f (ei level), x, y, z, d]]
theorem scalar_call (b : Int) : call T F.check_scalar [vI b] [] = some (.agg [.f (ei b), .f (ei 1)], []) := by
  rw [call_eq (fn := a_check_scalar) rfl]
  simp -implicitDefEqProofs only [go_sem, a_check_scalar]
section
variable (f : PFunc) (hf : okF f) (level : Int) (x y z dd : C) (g : Nat) (caps : List C) (σ : Store) (hck : σ[1]? = some (obCk f level x y z dd)) (hσ : Ok σ) (hcaps : C.lts σ.length caps = true) (ask : Use → Int)
  (hask : ∀ (r : Store) (u : Use), Obs.lt (σ.length + r.length) r = true → call T g (vI u.v :: .agg [.f (ei u.shape.1), .f (ei u.shape.2)] :: vI u.block :: vI u.at' :: caps.map V.one) (σ ++ r) = some (vI (ask u), σ ++ r))
abbrev vAsk : V := .one (.fn g [] caps)
include hck hσ hcaps hask
theorem uses_l5 (b : PBlock) (p : PPhi) (hb : okB b) (hp : p ∈ b.phis) (hlen : p.args.length = p.src.length) (i kp : Int) : ∀ (d k : Nat) (a2 a7 a8 a9 a10 a11 a12 a13 a17 a21 a25 a26 a27 a28 a29 a30 a31 a32 a33 a34 a35 a36 a37 : V), p.args.length - k = d → k ≤ p.args.length →
    exec T check_checker_uses_l5 ⟨[.one (.ptr 1 0 0 0), vAsk g caps, a2, vI 0, vI i, .one (.ptr σ.length 0 0 0), .one (.ptr (σ.length + 1) 0 0 0), a7, a8, a9, a10, a11, a12, a13, vL (f.blocks.map rb), vI f.blocks.length, vI i, a17, vL (b.phis.map rp), vI b.phis.length, vI kp, a21, vIs p.args, vI p.args.length, vI k, a25, a26, a27, a28, a29, a30, a31, a32, a33, a34, a35, a36, a37], σ ++ [.cells 0 5 [cBlock b], .cells 0 4 [cPhi p]], σ.length, σ.length⟩ =
      some (if firstE ask (phiUsesFrom p k (p.args.drop k)) = 0 then (.exit 4, ⟨[.one (.ptr 1 0 0 0), vAsk g caps, vU, vI 0, vI i, .one (.ptr σ.length 0 0 0), vU, vU, vU, vU, vU, vU, vU, vU, vL (f.blocks.map rb), vI f.blocks.length, vI i, vU, vL (b.phis.map rp), vI b.phis.length, vI kp, vU, vU, vU, vU, vU, vU, vU, vU, vU, vU, vU, vU, vU, vU, vU, vU, vU], σ ++ [.cells 0 5 [cBlock b], .cells 0 4 [cPhi p]], σ.length, σ.length⟩)
        else (.goto 0, ⟨[vU, vU, vU, vI (firstE ask (phiUsesFrom p k (p.args.drop k))), vU, vU, vU, vU, vU, vU, vU, vU, vU, vU, vU, vU, vU, vU, vU, vU, vU, vU, vU, vU, vU, vU, vU, vU, vU, vU, vU, vU, vU, vU, vU, vU, vU, vU], σ, σ.length, σ.length⟩)) := by
  intro d
  have hcap := fun k => clts_mono (Nat.le_add_right σ.length k) caps hcaps
  have hl : p.args.length ≤ 4294967296 := (hb.phi p hp).2
  induction d with
  | zero =>
    intro k a2 a7 a8 a9 a10 a11 a12 a13 a17 a21 a25 a26 a27 a28 a29 a30 a31 a32 a33 a34 a35 a36 a37 h1 h2
    have hk : k = p.args.length := by omega
    subst hk
    rw [check_checker_uses_l5_eq, check_checker_uses_b5]
    simp -implicitDefEqProofs only [go_sem, Int.lt_irrefl, List.drop_length, phiUsesFrom, firstE]
  | succ d ih =>
    intro k a2 a7 a8 a9 a10 a11 a12 a13 a17 a21 a25 a26 a27 a28 a29 a30 a31 a32 a33 a34 a35 a36 a37 h1 h2
    have hk : k < p.args.length := by omega
    have hk2 : k < p.src.length := by omega
    have hd : p.args.drop k = p.args[k] :: p.args.drop (k + 1) := List.drop_eq_getElem_cons hk
    have hsc := scalar_call p.bits
    have ha := hask [.cells 0 5 [cBlock b], .cells 0 4 [cPhi p]] ⟨p.args[k], (p.bits, 1), p.src[k], mostAt⟩ (by simp -implicitDefEqProofs only [go_sem])
    have hg : p.src.getD k 0 = p.src[k] := by simp [hk2]
    rw [check_checker_uses_l5_eq, check_checker_uses_b5, hd, phiUsesFrom, firstE, hg]
    simp -implicitDefEqProofs only [go_sem, mostAt] at hsc ha
    by_cases c : ask ⟨p.args[k], (p.bits, 1), p.src[k], mostAt⟩ = 0
    · have c' : ask { v := p.args[k], shape := (p.bits, 1), block := p.src[k], at' := 1048576 } = 0 := c
      have := ih (k + 1) vU vU vU vU vU vU vU vU vU vU vU vU vU vU vU vU vU vU vU vU vU vU vU (by omega) (by omega)
      simp -implicitDefEqProofs only [go_sem] at this
      simp -implicitDefEqProofs only [go_sem, ilt hk, getr hk, getr hk2, ri, hsc, ha, c', wrap_succ hk hl, mostAt, hcap, Ok.up hσ, lt_low hck, Ok.at hσ, lt_low0 hck, this]
    · have c' : ¬ ask { v := p.args[k], shape := (p.bits, 1), block := p.src[k], at' := 1048576 } = 0 := c
      simp -implicitDefEqProofs only [go_sem, ilt hk, getr hk, getr hk2, ri, hsc, ha, c', mostAt, Ok.at hσ]
/-- A function's phis as they must be. -/
def argsOk (b : PBlock) : Prop := (∀ p ∈ b.phis, p.args.length = p.src.length) ∧ ∀ o ∈ b.ops, (takesO o).length ≤ o.args.length
theorem uses_l6 (b : PBlock) (hb : okB b) (hab : argsOk b) (i : Int) : ∀ (d k : Nat) (a2 a6 a7 a8 a9 a10 a11 a12 a13 a17 a21 a22 a23 a24 a25 a26 a27 a28 a29 a30 a31 a32 a33 a34 a35 a36 a37 : V), b.phis.length - k = d → k ≤ b.phis.length →
    exec T check_checker_uses_l6 ⟨[.one (.ptr 1 0 0 0), vAsk g caps, a2, vI 0, vI i, .one (.ptr σ.length 0 0 0), a6, a7, a8, a9, a10, a11, a12, a13, vL (f.blocks.map rb), vI f.blocks.length, vI i, a17, vL (b.phis.map rp), vI b.phis.length, vI k, a21, a22, a23, a24, a25, a26, a27, a28, a29, a30, a31, a32, a33, a34, a35, a36, a37], σ ++ [.cells 0 5 [cBlock b]], σ.length, σ.length⟩ =
      some (if firstE ask (phisUses (b.phis.drop k)) = 0 then (.exit 2, ⟨[.one (.ptr 1 0 0 0), vAsk g caps, vU, vI 0, vI i, .one (.ptr σ.length 0 0 0), vU, vU, vU, vU, vU, vU, vU, vU, vL (f.blocks.map rb), vI f.blocks.length, vI i, vU, vU, vU, vU, vU, vU, vU, vU, vU, vU, vU, vU, vU, vU, vU, vU, vU, vU, vU, vU, vU], σ ++ [.cells 0 5 [cBlock b]], σ.length, σ.length⟩)
        else (.goto 0, ⟨[vU, vU, vU, vI (firstE ask (phisUses (b.phis.drop k))), vU, vU, vU, vU, vU, vU, vU, vU, vU, vU, vU, vU, vU, vU, vU, vU, vU, vU, vU, vU, vU, vU, vU, vU, vU, vU, vU, vU, vU, vU, vU, vU, vU, vU], σ, σ.length, σ.length⟩)) := by
  intro d
  have hcap := fun k => clts_mono (Nat.le_add_right σ.length k) caps hcaps
  induction d with
  | zero =>
    intro k a2 a6 a7 a8 a9 a10 a11 a12 a13 a17 a21 a22 a23 a24 a25 a26 a27 a28 a29 a30 a31 a32 a33 a34 a35 a36 a37 h1 h2
    have hk : k = b.phis.length := by omega
    subst hk
    rw [check_checker_uses_l6_eq, check_checker_uses_b6]
    simp -implicitDefEqProofs only [go_sem, Int.lt_irrefl, List.drop_length, phisUses, List.flatMap_nil, firstE]
  | succ d ih =>
    intro k a2 a6 a7 a8 a9 a10 a11 a12 a13 a17 a21 a22 a23 a24 a25 a26 a27 a28 a29 a30 a31 a32 a33 a34 a35 a36 a37 h1 h2
    have hk : k < b.phis.length := by omega
    have hd : b.phis.drop k = b.phis[k] :: b.phis.drop (k + 1) := List.drop_eq_getElem_cons hk
    have hm := List.getElem_mem hk
    have h5 := fun a2 a7 a8 a9 a10 a11 a12 a13 a17 a21 a25 a26 a27 a28 a29 a30 a31 a32 a33 a34 a35 a36 a37 => uses_l5 f level x y z dd g caps σ hck hσ hcaps ask hask b b.phis[k] hb hm (hab.1 _ hm) i k b.phis[k].args.length 0 a2 a7 a8 a9 a10 a11 a12 a13 a17 a21 a25 a26 a27 a28 a29 a30 a31 a32 a33 a34 a35 a36 a37 (by omega) (by omega)
    have e : phisUses (b.phis[k] :: b.phis.drop (k + 1)) = phiUses b.phis[k] ++ phisUses (b.phis.drop (k + 1)) := by rw [phisUses, List.flatMap_cons]; rfl
    rw [check_checker_uses_l6_eq, check_checker_uses_b6, hd, e, firstE_app]
    simp only [List.drop_zero, Int.natCast_zero] at h5
    have e2 : phiUsesFrom b.phis[k] 0 b.phis[k].args = phiUses b.phis[k] := rfl
    rw [e2] at h5
    by_cases c : firstE ask (phiUses b.phis[k]) = 0
    · have := ih (k + 1) vU vU vU vU vU vU vU vU vU vU vU vU vU vU vU vU vU vU vU vU vU vU vU vU vU vU vU (by omega) (by omega)
      simp -implicitDefEqProofs only [go_sem, c] at this h5
      simp -implicitDefEqProofs only [go_sem, ilt hk, getr hk, rp, h5, c, wrap_succ hk hb.phis, hcap, Ok.up hσ, lt_low hck, Ok.at hσ, lt_low0 hck, this]
    · simp -implicitDefEqProofs only [go_sem, c] at h5
      simp -implicitDefEqProofs only [go_sem, ilt hk, getr hk, rp, h5, c]
theorem uses_l7 (b : PBlock) (o : POp) (hb : okB b) (ho : o ∈ b.ops) (hlen : (takesO o).length ≤ o.args.length) (i ko : Int) : ∀ (d k : Nat) (a2 a6 a7 a8 a11 a12 a13 a17 a18 a19 a20 a21 a22 a23 a24 a25 a26 a30 a34 a35 a36 a37 : V), (takesO o).length - k = d → k ≤ (takesO o).length →
    exec T check_checker_uses_l7 ⟨[.one (.ptr 1 0 0 0), vAsk g caps, a2, vI 0, vI i, .one (.ptr σ.length 0 0 0), a6, a7, a8, vI ko, .one (.ptr (σ.length + 1) 0 0 0), a11, a12, a13, vL (f.blocks.map rb), vI f.blocks.length, vI i, a17, a18, a19, a20, a21, a22, a23, a24, a25, a26, vL (b.ops.map ro), vI b.ops.length, vI ko, a30, vSs (takesO o), vI (takesO o).length, vI k, a34, a35, a36, a37], σ ++ [.cells 0 5 [cBlock b], .cells 0 6 [cOp o]], σ.length, σ.length⟩ =
      some (if firstE ask (opUsesFrom o i ko k ((takesO o).drop k)) = 0 then (.exit 8, ⟨[.one (.ptr 1 0 0 0), vAsk g caps, vU, vI 0, vI i, .one (.ptr σ.length 0 0 0), vU, vU, vU, vU, vU, vU, vU, vU, vL (f.blocks.map rb), vI f.blocks.length, vI i, vU, vU, vU, vU, vU, vU, vU, vU, vU, vU, vL (b.ops.map ro), vI b.ops.length, vI ko, vU, vU, vU, vU, vU, vU, vU, vU], σ ++ [.cells 0 5 [cBlock b], .cells 0 6 [cOp o]], σ.length, σ.length⟩)
        else (.goto 0, ⟨[vU, vU, vU, vI (firstE ask (opUsesFrom o i ko k ((takesO o).drop k))), vU, vU, vU, vU, vU, vU, vU, vU, vU, vU, vU, vU, vU, vU, vU, vU, vU, vU, vU, vU, vU, vU, vU, vU, vU, vU, vU, vU, vU, vU, vU, vU, vU, vU], σ, σ.length, σ.length⟩)) := by
  intro d
  have hcap := fun k => clts_mono (Nat.le_add_right σ.length k) caps hcaps
  have hl : (takesO o).length ≤ 4294967296 := by have := (hb.op o ho).2; omega
  induction d with
  | zero =>
    intro k a2 a6 a7 a8 a11 a12 a13 a17 a18 a19 a20 a21 a22 a23 a24 a25 a26 a30 a34 a35 a36 a37 h1 h2
    have hk : k = (takesO o).length := by omega
    subst hk
    rw [check_checker_uses_l7_eq, check_checker_uses_b7]
    simp -implicitDefEqProofs only [go_sem, Int.lt_irrefl, List.drop_length, opUsesFrom, firstE]
  | succ d ih =>
    intro k a2 a6 a7 a8 a11 a12 a13 a17 a18 a19 a20 a21 a22 a23 a24 a25 a26 a30 a34 a35 a36 a37 h1 h2
    have hk : k < (takesO o).length := by omega
    have hk2 : k < o.args.length := by omega
    have hd : (takesO o).drop k = (takesO o)[k] :: (takesO o).drop (k + 1) := List.drop_eq_getElem_cons hk
    have ha := hask [.cells 0 5 [cBlock b], .cells 0 6 [cOp o], .cells 0 2 [[.f (ei (takesO o)[k].1), .f (ei (takesO o)[k].2)]]] ⟨o.args[k], (takesO o)[k], i, ko⟩ (by simp -implicitDefEqProofs only [go_sem])
    have hg : o.args.getD k 0 = o.args[k] := by simp [hk2]
    rw [check_checker_uses_l7_eq, check_checker_uses_b7, hd, opUsesFrom, firstE, hg]
    simp -implicitDefEqProofs only [go_sem] at ha
    by_cases c : ask ⟨o.args[k], (takesO o)[k], i, ko⟩ = 0
    · have := ih (k + 1) vU vU vU vU vU vU vU vU vU vU vU vU vU vU vU vU vU vU vU vU vU vU (by omega) (by omega)
      simp -implicitDefEqProofs only [go_sem, c] at this ha
      simp -implicitDefEqProofs only [go_sem, ilt hk, getr hk, getr hk2, ri, rs, ha, c, wrap_succ hk hl, hcap, Ok.up hσ, lt_low hck, Ok.at hσ, lt_low0 hck, this]
    · simp -implicitDefEqProofs only [go_sem, ilt hk, getr hk, getr hk2, ri, rs, ha, c, Ok.at hσ]
theorem uses_l8 (b : PBlock) (hb : okB b) (hab : argsOk b) (i : Int) : ∀ (d k : Nat) (a2 a6 a7 a8 a9 a10 a11 a12 a13 a17 a18 a19 a20 a21 a22 a23 a24 a25 a26 a30 a31 a32 a33 a34 a35 a36 a37 : V), b.ops.length - k = d → k ≤ b.ops.length →
    exec T check_checker_uses_l8 ⟨[.one (.ptr 1 0 0 0), vAsk g caps, a2, vI 0, vI i, .one (.ptr σ.length 0 0 0), a6, a7, a8, a9, a10, a11, a12, a13, vL (f.blocks.map rb), vI f.blocks.length, vI i, a17, a18, a19, a20, a21, a22, a23, a24, a25, a26, vL (b.ops.map ro), vI b.ops.length, vI k, a30, a31, a32, a33, a34, a35, a36, a37], σ ++ [.cells 0 5 [cBlock b]], σ.length, σ.length⟩ =
      some (if firstE ask (opsUsesFrom i k (b.ops.drop k)) = 0 then (.exit 6, ⟨[.one (.ptr 1 0 0 0), vAsk g caps, vU, vI 0, vI i, .one (.ptr σ.length 0 0 0), vU, vU, vU, vU, vU, vU, vU, vU, vL (f.blocks.map rb), vI f.blocks.length, vI i, vU, vU, vU, vU, vU, vU, vU, vU, vU, vU, vU, vU, vU, vU, vU, vU, vU, vU, vU, vU, vU], σ ++ [.cells 0 5 [cBlock b]], σ.length, σ.length⟩)
        else (.goto 0, ⟨[vU, vU, vU, vI (firstE ask (opsUsesFrom i k (b.ops.drop k))), vU, vU, vU, vU, vU, vU, vU, vU, vU, vU, vU, vU, vU, vU, vU, vU, vU, vU, vU, vU, vU, vU, vU, vU, vU, vU, vU, vU, vU, vU, vU, vU, vU, vU], σ, σ.length, σ.length⟩)) := by
  intro d
  have hcap := fun k => clts_mono (Nat.le_add_right σ.length k) caps hcaps
  induction d with
  | zero =>
    intro k a2 a6 a7 a8 a9 a10 a11 a12 a13 a17 a18 a19 a20 a21 a22 a23 a24 a25 a26 a30 a31 a32 a33 a34 a35 a36 a37 h1 h2
    have hk : k = b.ops.length := by omega
    subst hk
    rw [check_checker_uses_l8_eq, check_checker_uses_b8]
    simp -implicitDefEqProofs only [go_sem, Int.lt_irrefl, List.drop_length, opsUsesFrom, firstE]
  | succ d ih =>
    intro k a2 a6 a7 a8 a9 a10 a11 a12 a13 a17 a18 a19 a20 a21 a22 a23 a24 a25 a26 a30 a31 a32 a33 a34 a35 a36 a37 h1 h2
    have hk : k < b.ops.length := by omega
    have hd : b.ops.drop k = b.ops[k] :: b.ops.drop (k + 1) := List.drop_eq_getElem_cons hk
    have hm := List.getElem_mem hk
    have ht := kind_Takes_call b.ops[k] (hb.op _ hm).1 (hb.op _ hm).2
    have h7 := fun a2 a6 a7 a8 a11 a12 a13 a17 a18 a19 a20 a21 a22 a23 a24 a25 a26 a30 a34 a35 a36 a37 => uses_l7 f level x y z dd g caps σ hck hσ hcaps ask hask b b.ops[k] hb hm (hab.2 _ hm) i k (takesO b.ops[k]).length 0 a2 a6 a7 a8 a11 a12 a13 a17 a18 a19 a20 a21 a22 a23 a24 a25 a26 a30 a34 a35 a36 a37 (by omega) (by omega)
    rw [check_checker_uses_l8_eq, check_checker_uses_b8, hd, opsUsesFrom, firstE_app]
    simp only [List.drop_zero, Int.natCast_zero] at h7
    have e2 : opUsesFrom b.ops[k] i k 0 (takesO b.ops[k]) = opUses b.ops[k] i k := rfl
    rw [e2] at h7
    simp -implicitDefEqProofs only [go_sem] at ht
    by_cases c : firstE ask (opUses b.ops[k] i k) = 0
    · have := ih (k + 1) vU vU vU vU vU vU vU vU vU vU vU vU vU vU vU vU vU vU vU vU vU vU vU vU vU vU vU (by omega) (by omega)
      simp -implicitDefEqProofs only [go_sem, c] at this h7
      simp -implicitDefEqProofs only [go_sem, ilt hk, getr hk, ro, ht, h7, c, wrap_succ hk hb.ops, hcap, Ok.up hσ, lt_low hck, Ok.at hσ, lt_low0 hck, this]
    · simp -implicitDefEqProofs only [go_sem, c] at h7
      simp -implicitDefEqProofs only [go_sem, ilt hk, getr hk, ro, ht, h7, c]
theorem uses_l9 (hf : okF f) (hab : ∀ b ∈ f.blocks, argsOk b) : ∀ (d k : Nat) (a2 a4 a5 a6 a7 a8 a9 a10 a11 a12 a13 a17 a18 a19 a20 a21 a22 a23 a24 a25 a26 a27 a28 a29 a30 a31 a32 a33 a34 a35 a36 a37 : V), f.blocks.length - k = d → k ≤ f.blocks.length →
    exec T check_checker_uses_l9 ⟨[.one (.ptr 1 0 0 0), vAsk g caps, a2, vI 0, a4, a5, a6, a7, a8, a9, a10, a11, a12, a13, vL (f.blocks.map rb), vI f.blocks.length, vI k, a17, a18, a19, a20, a21, a22, a23, a24, a25, a26, a27, a28, a29, a30, a31, a32, a33, a34, a35, a36, a37], σ, σ.length, σ.length⟩ =
      some (if firstE ask (usesFrom f k (f.blocks.drop k)) = 0 then (.exit 0, ⟨[vU, vU, vU, vI 0, vU, vU, vU, vU, vU, vU, vU, vU, vU, vU, vU, vU, vU, vU, vU, vU, vU, vU, vU, vU, vU, vU, vU, vU, vU, vU, vU, vU, vU, vU, vU, vU, vU, vU], σ, σ.length, σ.length⟩)
        else (.goto 0, ⟨[vU, vU, vU, vI (firstE ask (usesFrom f k (f.blocks.drop k))), vU, vU, vU, vU, vU, vU, vU, vU, vU, vU, vU, vU, vU, vU, vU, vU, vU, vU, vU, vU, vU, vU, vU, vU, vU, vU, vU, vU, vU, vU, vU, vU, vU, vU], σ, σ.length, σ.length⟩)) := by
  intro d
  have hcap := fun k => clts_mono (Nat.le_add_right σ.length k) caps hcaps
  have hlow := get_low hck
  induction d with
  | zero =>
    intro k a2 a4 a5 a6 a7 a8 a9 a10 a11 a12 a13 a17 a18 a19 a20 a21 a22 a23 a24 a25 a26 a27 a28 a29 a30 a31 a32 a33 a34 a35 a36 a37 h1 h2
    have hk : k = f.blocks.length := by omega
    subst hk
    rw [check_checker_uses_l9_eq, check_checker_uses_b9]
    simp -implicitDefEqProofs only [go_sem, Int.lt_irrefl, List.drop_length, usesFrom, firstE]
  | succ d ih =>
    intro k a2 a4 a5 a6 a7 a8 a9 a10 a11 a12 a13 a17 a18 a19 a20 a21 a22 a23 a24 a25 a26 a27 a28 a29 a30 a31 a32 a33 a34 a35 a36 a37 h1 h2
    have hk : k < f.blocks.length := by omega
    have hd : f.blocks.drop k = f.blocks[k] :: f.blocks.drop (k + 1) := List.drop_eq_getElem_cons hk
    have hm := List.getElem_mem hk
    have hb := hf.block _ hm
    have h6 := fun a2 a6 a7 a8 a9 a10 a11 a12 a13 a17 a21 a22 a23 a24 a25 a26 a27 a28 a29 a30 a31 a32 a33 a34 a35 a36 a37 => uses_l6 f level x y z dd g caps σ hck hσ hcaps ask hask f.blocks[k] hb (hab _ hm) k f.blocks[k].phis.length 0 a2 a6 a7 a8 a9 a10 a11 a12 a13 a17 a21 a22 a23 a24 a25 a26 a27 a28 a29 a30 a31 a32 a33 a34 a35 a36 a37 (by omega) (by omega)
    have h8 := fun a2 a6 a7 a8 a9 a10 a11 a12 a13 a17 a18 a19 a20 a21 a22 a23 a24 a25 a26 a30 a31 a32 a33 a34 a35 a36 a37 => uses_l8 f level x y z dd g caps σ hck hσ hcaps ask hask f.blocks[k] hb (hab _ hm) k f.blocks[k].ops.length 0 a2 a6 a7 a8 a9 a10 a11 a12 a13 a17 a18 a19 a20 a21 a22 a23 a24 a25 a26 a30 a31 a32 a33 a34 a35 a36 a37 (by omega) (by omega)
    rw [check_checker_uses_l9_eq, check_checker_uses_b9, hd, usesFrom, firstE_app, blockUses, firstE_app, firstE_app]
    simp only [List.drop_zero, Int.natCast_zero] at h6 h8
    by_cases c6 : firstE ask (phisUses f.blocks[k].phis) = 0
    · by_cases c8 : firstE ask (opsUsesFrom k 0 f.blocks[k].ops) = 0
      · have := ih (k + 1) vU vU vU vU vU vU vU vU vU vU vU vU vU vU vU vU vU vU vU vU vU vU vU vU vU vU vU vU vU vU vU vU (by omega) (by omega)
        simp -implicitDefEqProofs only [go_sem, c6, c8] at this h6 h8
        have ha := fun u => hask [.cells 0 5 [cBlock f.blocks[k]], .mp [(0, V.one (.f (.lit (.int .i64 f.ret)))), (2, V.one (.f (.lit (.int .i64 1))))]] ⟨f.blocks[k].arg, (u, 1), k, mostAt⟩ (by simp -implicitDefEqProofs only [go_sem])
        have hsc := fun u => scalar_call u
        simp -implicitDefEqProofs only [go_sem, mostAt] at ha hsc
        by_cases k0 : f.blocks[k].kind = 0
        · have k0' : (0 : Int) = f.blocks[k].kind := k0.symm
          by_cases r0 : f.ret = 0
          · have eu : endUses f k f.blocks[k] = [] := by simp [endUses, endBits, k0, r0]
            simp -implicitDefEqProofs only [go_sem, ilt hk, getr hk, rb, h6, h8, c6, c8, eu, firstE, hlow, hck, eq_true k0', eq_true r0, r0, wrap_succ hk hf.blocks, hcap, Ok.up hσ, lt_low hck, Ok.at hσ, lt_low0 hck, hcaps, this]
          · have eu : endUses f k f.blocks[k] = [⟨f.blocks[k].arg, (f.ret, 1), k, 1048576⟩] := by simp [endUses, endBits, k0, r0]
            by_cases c : ask ⟨f.blocks[k].arg, (f.ret, 1), k, 1048576⟩ = 0
            · simp -implicitDefEqProofs only [go_sem, ilt hk, getr hk, rb, h6, h8, c6, c8, eu, firstE, hlow, hck, eq_true k0', r0, hsc, ha, c, wrap_succ hk hf.blocks, hcap, Ok.up hσ, lt_low hck, Ok.at hσ, lt_low0 hck, hcaps, this]
            · simp -implicitDefEqProofs only [go_sem, ilt hk, getr hk, rb, h6, h8, c6, c8, eu, firstE, hlow, hck, eq_true k0', r0, hsc, ha, c, hcap, Ok.up hσ, lt_low hck, Ok.at hσ, lt_low0 hck, hcaps]
        · have k0' : ¬ (0 : Int) = f.blocks[k].kind := fun e => k0 e.symm
          by_cases k2 : f.blocks[k].kind = 2
          · have k2' : (2 : Int) = f.blocks[k].kind := k2.symm
            have eu : endUses f k f.blocks[k] = [⟨f.blocks[k].arg, (1, 1), k, 1048576⟩] := by simp [endUses, endBits, k0, k2]
            by_cases c : ask ⟨f.blocks[k].arg, (1, 1), k, 1048576⟩ = 0
            · simp -implicitDefEqProofs only [go_sem, ilt hk, getr hk, rb, h6, h8, c6, c8, eu, firstE, hlow, hck, k0', eq_true k2', hsc, ha, c, wrap_succ hk hf.blocks, hcap, Ok.up hσ, lt_low hck, Ok.at hσ, lt_low0 hck, hcaps, this]
            · simp -implicitDefEqProofs only [go_sem, ilt hk, getr hk, rb, h6, h8, c6, c8, eu, firstE, hlow, hck, k0', eq_true k2', hsc, ha, c, hcap, Ok.up hσ, lt_low hck, Ok.at hσ, lt_low0 hck, hcaps]
          · have k2' : ¬ (2 : Int) = f.blocks[k].kind := fun e => k2 e.symm
            have eu : endUses f k f.blocks[k] = [] := by simp [endUses, endBits, k0, k2]
            simp -implicitDefEqProofs only [go_sem, ilt hk, getr hk, rb, h6, h8, c6, c8, eu, firstE, hlow, hck, k0', k2', wrap_succ hk hf.blocks, hcap, Ok.up hσ, lt_low hck, Ok.at hσ, lt_low0 hck, hcaps, this]
      · simp -implicitDefEqProofs only [go_sem, c6, c8] at h6 h8
        simp -implicitDefEqProofs only [go_sem, ilt hk, getr hk, rb, h6, h8, c6, c8]
    · simp -implicitDefEqProofs only [go_sem, c6] at h6
      simp -implicitDefEqProofs only [go_sem, ilt hk, getr hk, rb, h6, c6]
theorem uses_call (hf : okF f) (hab : ∀ b ∈ f.blocks, argsOk b) : call T F.check_checker_uses [.one (.ptr 1 0 0 0), vAsk g caps] σ = some (vI (firstE ask (usesS f)), σ) := by
  rw [call_eq (fn := a_check_checker_uses) rfl]
  have h := fun a2 a4 a5 a6 a7 a8 a9 a10 a11 a12 a13 a17 a18 a19 a20 a21 a22 a23 a24 a25 a26 a27 a28 a29 a30 a31 a32 a33 a34 a35 a36 a37 => uses_l9 f level x y z dd g caps σ hck hσ hcaps ask hask hf hab f.blocks.length 0 a2 a4 a5 a6 a7 a8 a9 a10 a11 a12 a13 a17 a18 a19 a20 a21 a22 a23 a24 a25 a26 a27 a28 a29 a30 a31 a32 a33 a34 a35 a36 a37 (by omega) (by omega)
  simp only [List.drop_zero, Int.natCast_zero] at h
  have hlow := get_low hck []
  have e : usesFrom f 0 f.blocks = usesS f := rfl
  rw [e] at h
  by_cases c : firstE ask (usesS f) = 0
  · simp -implicitDefEqProofs only [go_sem, c] at h
    simp -implicitDefEqProofs only [go_sem, a_check_checker_uses, check_checker_uses_s10, exec_sc, hck, h, c]
  · simp -implicitDefEqProofs only [go_sem, c] at h
    simp -implicitDefEqProofs only [go_sem, a_check_checker_uses, exec_sc]
    rw [check_checker_uses_s10]
    simp -implicitDefEqProofs only [go_sem, hck, h, exec_sc]
end
end AC

namespace AC
open Go Go.A Go.A.Lex
def ofS (level : Int) (o : POp) : Bool :=
  !(decide (level < 2) && (decide (1 < o.lanes) || decide (20 < o.kind))) && (!(decide (level < 1) && decide (17 < o.kind)) && mayO o)
section
variable (f : PFunc) (hf : okF f) (level : Int) (x y z dd : C) (σ : Store) (hck : σ[1]? = some (obCk f level x y z dd)) (hσ : Ok σ)
include hck hσ
theorem of_call (o : POp) (ho : okOpL o) : call T F.check_checker_of [.one (.ptr 1 0 0 0), vOp o] σ = some (vB (ofS level o), σ) := by
  rw [call_eq (fn := a_check_checker_of) rfl]
  have hm := kind_May_call o ho.1 ho.2
  have hlow := get_low hck
  simp -implicitDefEqProofs only [go_sem] at hm
  by_cases c1 : level < 2
  · by_cases c2 : 1 < o.lanes
    · simp -implicitDefEqProofs only [go_sem, a_check_checker_of, hlow, c1, c2, ofS, Ok.at hσ]
    · by_cases c3 : 20 < o.kind
      · simp -implicitDefEqProofs only [go_sem, a_check_checker_of, hlow, c1, c2, c3, ofS, Ok.at hσ]
      · by_cases c4 : level < 1
        · by_cases c5 : 17 < o.kind
          · simp -implicitDefEqProofs only [go_sem, a_check_checker_of, hlow, c1, c2, c3, c4, c5, ofS, Ok.at hσ]
          · simp -implicitDefEqProofs only [go_sem, a_check_checker_of, hlow, c1, c2, c3, c4, c5, ofS, Ok.at hσ, hm]
        · simp -implicitDefEqProofs only [go_sem, a_check_checker_of, hlow, c1, c2, c3, c4, ofS, Ok.at hσ, hm]
  · have c4 : ¬ level < 1 := by omega
    simp -implicitDefEqProofs only [go_sem, a_check_checker_of, hlow, c1, c4, ofS, Ok.at hσ, hm]
end
def typedB (level : Int) (b : PBlock) : Bool := b.phis.all (fun p => mayW p.bits) && b.ops.all (ofS level)
def firstUntyped (level : Int) : List PBlock → Option PBlock
  | [] => none
  | b :: r => if typedB level b = true then firstUntyped level r else some b
def typedS (f : PFunc) (level : Int) : Bool := mayW f.ret && (f.params.all mayW && f.blocks.all (typedB level))
theorem firstUntyped_all (level : Int) : ∀ l : List PBlock, (firstUntyped level l).isNone = l.all (typedB level)
  | [] => rfl
  | b :: r => by
    simp only [firstUntyped, List.all_cons]
    cases h : typedB level b
    · simp
    · simpa using firstUntyped_all level r
theorem typed_1_call (b : Int) (σ : Store) : call T F.check_checker_typed_1 [vI b] σ = some (vB (!mayW b), σ) := by
  rw [call_eq (fn := a_check_checker_typed_1) rfl]
  simp -implicitDefEqProofs only [go_sem, a_check_checker_typed_1]
theorem typed_2_call (p : PPhi) (σ : Store) (hσ : Ok σ) : call T F.check_checker_typed_2 [vPhi p] σ = some (vB (!mayW p.bits), σ) := by
  rw [call_eq (fn := a_check_checker_typed_2) rfl]
  simp -implicitDefEqProofs only [go_sem, a_check_checker_typed_2, Ok.at hσ]
section
variable (f : PFunc) (hf : okF f) (level : Int) (x y z dd : C) (σ : Store) (hck : σ[1]? = some (obCk f level x y z dd)) (hσ : Ok σ)
include hck hσ
theorem typed_3_call (o : POp) (ho : okOpL o) (r : Store) (hr : Obs.lt (σ.length + 1 + r.length) r = true) : call T F.check_checker_typed_3 [vOp o, .one (.ptr σ.length 0 0 0)] (σ ++ .cells 0 1 [[.ptr 1 0 0 0]] :: r) = some (vB (!ofS level o), σ ++ .cells 0 1 [[.ptr 1 0 0 0]] :: r) := by
  rw [call_eq (fn := a_check_checker_typed_3) rfl]
  have hσ1 : Ok (σ ++ .cells 0 1 [[.ptr 1 0 0 0]] :: r) := Ok.app hσ (by
    have h1 := olts_mono (show σ.length + 1 + r.length ≤ σ.length + (r.length + 1) by omega) r hr
    have h2 := lt_low hck (r.length + 1)
    simp -implicitDefEqProofs only [go_sem, h1, h2])
  have hσ2 : Ok (σ ++ .cells 0 1 [[.ptr 1 0 0 0]] :: r ++ [.cells 0 6 [cOp o]]) := Ok.app hσ1 (by simp -implicitDefEqProofs only [go_sem])
  have hc := of_call f level x y z dd (σ ++ .cells 0 1 [[.ptr 1 0 0 0]] :: r ++ [.cells 0 6 [cOp o]]) (by rw [List.append_assoc]; exact get_low hck _) hσ2 o ho
  generalize hτ : σ ++ .cells 0 1 [[.ptr 1 0 0 0]] :: r = τ at *
  have hg : τ[σ.length]? = some (.cells 0 1 [[.ptr 1 0 0 0]]) := by rw [← hτ]; simp
  have hg2 := get_low hg
  simp -implicitDefEqProofs only [go_sem] at hc
  simp -implicitDefEqProofs only [go_sem, a_check_checker_typed_3, hg2, hc, Ok.at hσ1]
theorem typed_l0 (hf : okF f) : ∀ (d k : Nat) (a0 a2 a3 a4 a5 a9 a10 : V), f.blocks.length - k = d → k ≤ f.blocks.length →
    exec T check_checker_typed_l0 ⟨[a0, .one (.ptr σ.length 0 0 0), a2, a3, a4, a5, vL (f.blocks.map rb), vI f.blocks.length, vI k, a9, a10], σ ++ [.cells 0 1 [[.ptr 1 0 0 0]]], σ.length, σ.length⟩ =
      some (match firstUntyped level (f.blocks.drop k) with
        | none => (.exit 0, ⟨[vU, vU, vU, vU, vU, vU, vU, vU, vU, vU, vU], σ ++ [.cells 0 1 [[.ptr 1 0 0 0]]], σ.length, σ.length⟩)
        | some b => (.ret, ⟨[vU, vU, vI 6, vU, vU, vU, vU, vU, vU, vU, vU], σ ++ [.cells 0 1 [[.ptr 1 0 0 0]], .cells 0 5 [cBlock b]], σ.length, σ.length⟩)) := by
  intro d
  induction d with
  | zero =>
    intro k a0 a2 a3 a4 a5 a9 a10 h1 h2
    have hk : k = f.blocks.length := by omega
    subst hk
    rw [check_checker_typed_l0_eq, check_checker_typed_b0]
    simp -implicitDefEqProofs only [go_sem, Int.lt_irrefl, List.drop_length, firstUntyped]
  | succ d ih =>
    intro k a0 a2 a3 a4 a5 a9 a10 h1 h2
    have hk : k < f.blocks.length := by omega
    have hd : f.blocks.drop k = f.blocks[k] :: f.blocks.drop (k + 1) := List.drop_eq_getElem_cons hk
    have hb := hf.block _ (List.getElem_mem hk)
    have hlow := get_low hck
    have hσ1 : Ok (σ ++ [.cells 0 1 [[.ptr 1 0 0 0]], .cells 0 5 [cBlock f.blocks[k]]]) := Ok.app hσ (by
      have h2 := lt_low hck 2
      simp -implicitDefEqProofs only [go_sem, h2])
    have hp := ContainsFunc_Phi_call f.blocks[k].phis (fun p => !mayW p.bits) F.check_checker_typed_2 [] [] (σ ++ [.cells 0 1 [[.ptr 1 0 0 0]], .cells 0 5 [cBlock f.blocks[k]]]) hb.phis (fun p _ => typed_2_call p _ hσ1)
    have ho := ContainsFunc_Op_call f.blocks[k].ops (fun o => !ofS level o) F.check_checker_typed_3 [] [.ptr σ.length 0 0 0] (σ ++ [.cells 0 1 [[.ptr 1 0 0 0]], .cells 0 5 [cBlock f.blocks[k]]]) hb.ops (fun o ho => by
      have := typed_3_call f level x y z dd σ hck hσ o (hb.op o ho) [.cells 0 5 [cBlock f.blocks[k]]] (by simp -implicitDefEqProofs only [go_sem])
      exact this)
    have hap : (f.blocks[k].phis.any fun p => !mayW p.bits) = !f.blocks[k].phis.all (fun p => mayW p.bits) := by rw [← any_not, Bool.not_not]
    have hao : (f.blocks[k].ops.any fun p => !ofS level p) = !f.blocks[k].ops.all (ofS level) := by rw [← any_not, Bool.not_not]
    rw [hap] at hp
    rw [hao] at ho
    rw [check_checker_typed_l0_eq, check_checker_typed_b0, hd, firstUntyped]
    cases e1 : f.blocks[k].phis.all (fun p => mayW p.bits)
    · simp -implicitDefEqProofs only [go_sem, e1] at hp
      simp -implicitDefEqProofs only [go_sem, ilt hk, getr hk, rb, hp, typedB, e1]
    · cases e2 : f.blocks[k].ops.all (ofS level)
      · simp -implicitDefEqProofs only [go_sem, e1, e2] at hp ho
        simp -implicitDefEqProofs only [go_sem, ilt hk, getr hk, rb, hp, ho, typedB, e1, e2]
      · have := ih (k + 1) vU vU vU vU vU vU vU (by omega) (by omega)
        simp -implicitDefEqProofs only [go_sem, e1, e2] at hp ho this
        simp -implicitDefEqProofs only [go_sem, ilt hk, getr hk, rb, hp, ho, typedB, e1, e2, wrap_succ hk hf.blocks, Ok.up hσ, lt_low hck, this]
theorem typed_call (hf : okF f) : call T F.check_checker_typed [.one (.ptr 1 0 0 0)] σ = some (vI (if typedS f level = true then 0 else 6), σ) := by
  rw [call_eq (fn := a_check_checker_typed) rfl]
  have hlow := get_low hck
  have hap : (f.params.any fun p => !mayW p) = !f.params.all mayW := by rw [← any_not, Bool.not_not]
  have hp := ContainsFunc_int_call f.params (fun p => !mayW p) F.check_checker_typed_1 [] [] (σ ++ [.cells 0 1 [[.ptr 1 0 0 0]]]) hf.params (fun p _ => typed_1_call p _)
  rw [hap] at hp
  have h := fun a0 a2 a3 a4 a5 a9 a10 => typed_l0 f level x y z dd σ hck hσ hf f.blocks.length 0 a0 a2 a3 a4 a5 a9 a10 (by omega) (by omega)
  simp only [List.drop_zero, Int.natCast_zero] at h
  have ha := firstUntyped_all level f.blocks
  cases e1 : mayW f.ret
  · simp -implicitDefEqProofs only [go_sem, a_check_checker_typed, hlow, e1, typedS, Ok.at hσ]
  cases e2 : f.params.all mayW
  · simp -implicitDefEqProofs only [go_sem, e2] at hp
    simp -implicitDefEqProofs only [go_sem, a_check_checker_typed, hlow, e1, e2, hp, typedS, Ok.at hσ]
  cases e3 : firstUntyped level f.blocks with
  | none =>
    rw [e3] at ha
    simp only [Option.isNone_none] at ha
    simp -implicitDefEqProofs only [go_sem, e2, e3] at hp h
    simp -implicitDefEqProofs only [go_sem, a_check_checker_typed, hlow, e1, e2, hp, h, typedS, ← ha, Ok.at hσ]
  | some b =>
    rw [e3] at ha
    simp only [Option.isNone_some] at ha
    simp -implicitDefEqProofs only [go_sem, e2, e3] at hp h
    simp -implicitDefEqProofs only [go_sem, a_check_checker_typed, hlow, e1, e2, hp, h, typedS, ← ha, Ok.at hσ]
end
end AC

namespace AC
open Go Go.A Go.A.Lex
abbrev O0 (f : PFunc) : Ob := .cells 0 3 [cFunc f]
abbrev cM (g : Nat) : C := .fn g [.ptr 1 0 0 0] []
abbrev O2 : Ob := .cells 0 1 [[cM F.check_checker_shape], [cM F.check_checker_typed], [cM F.check_checker_defined], [cM F.check_checker_shapes], [cM F.check_checker_places]]
def phiOk (pi : List Int) (p : PPhi) : Bool := decide (p.src = pi) && decide (p.args.length = p.src.length)
def endArgOk (b : PBlock) : Bool := !((decide (b.kind = 1) || decide (b.kind = 3)) && !decide (b.arg = 0))
def shapeB (pred : List (List Int)) (tree : List Int) (i : Nat) (b : PBlock) : Bool := overS tree i i && (b.phis.all (phiOk (pred.getD i [])) && endArgOk b)
def badB (pred : List (List Int)) (tree : List Int) (i : Nat) (b : PBlock) : Option (List Ob) :=
  if overS tree i i = false then some [.cells 0 5 [cBlock b]] else
  match b.phis.find? fun p => !phiOk (pred.getD i []) p with
  | some p => some [.cells 0 5 [cBlock b], .cells 0 4 [cPhi p]]
  | none => if endArgOk b = false then some [.cells 0 5 [cBlock b]] else none
def firstBadB (pred : List (List Int)) (tree : List Int) : Nat → List PBlock → Option (List Ob)
  | _, [] => none
  | i, b :: r => match badB pred tree i b with
    | some G => some G
    | none => firstBadB pred tree (i + 1) r
theorem badB_none (pred : List (List Int)) (tree : List Int) (i : Nat) (b : PBlock) : (badB pred tree i b).isNone = shapeB pred tree i b := by
  unfold badB shapeB
  cases h1 : overS tree i i
  · simp
  · simp only [Bool.true_eq_false, if_false, Bool.true_and]
    cases h2 : b.phis.find? fun p => !phiOk (pred.getD i []) p with
    | some p =>
      rw [show b.phis.all (phiOk (pred.getD i [])) = false from find_some h2]
      rfl
    | none =>
      rw [find_none h2]
      cases h3 : endArgOk b <;> simp
def shapeFrom (pred : List (List Int)) (tree : List Int) : Nat → List PBlock → Bool
  | _, [] => true
  | i, b :: r => shapeB pred tree i b && shapeFrom pred tree (i + 1) r
theorem firstBadB_none (pred : List (List Int)) (tree : List Int) : ∀ (l : List PBlock) (i : Nat), (firstBadB pred tree i l).isNone = shapeFrom pred tree i l
  | [], _ => rfl
  | b :: r, i => by
    have h := badB_none pred tree i b
    simp only [firstBadB, shapeFrom]
    cases e : badB pred tree i b with
    | some G =>
      rw [e] at h
      simp only [Option.isNone_some] at h
      simp [← h]
    | none =>
      rw [e] at h
      simp only [Option.isNone_none] at h
      rw [← h, Bool.true_and]
      exact firstBadB_none pred tree r (i + 1)
section
variable (f : PFunc) (hf : okF f) (level : Int) (dd : C) (hdd : dd = .f (.lit (.map none))) (pred : List (List Int)) (hpl : pred.length = f.blocks.length) (hpp : ∀ l ∈ pred, l.length ≤ 4294967296) (tree : List Int) (htl : tree.length ≤ 4294967296) (x y : C) (hx : ∃ a, x = .f a) (hy : ∃ a, y = .f a)
abbrev stSh (f : PFunc) (level : Int) (pred : List (List Int)) (tree : List Int) : Store := [O0 f, obCk f level (.f (.sl ((succS f).map rl))) (.f (.sl (pred.map rl))) (.f (eI tree)) (.f (.lit (.map none))), O2, .cells 0 2 [[.f (.sl ((succS f).map rl)), .f (.sl (pred.map rl))]]]
include hf hpl hpp htl
theorem shape_l0 (b : PBlock) (hb : okB b) (i : Nat) (hi : i < f.blocks.length) : ∀ (d k : Nat) (a1 a3 a6 a7 a11 a12 a16 a17 a18 : V), b.phis.length - k = d → k ≤ b.phis.length →
    exec T check_checker_shape_l0 ⟨[.one (.ptr 1 0 0 0), a1, .one (.ptr 3 0 0 0), a3, vI i, .one (.ptr 4 0 0 0), a6, a7, vL (f.blocks.map rb), vI f.blocks.length, vI i, a11, a12, vL (b.phis.map rp), vI b.phis.length, vI k, a16, a17, a18], stSh f level pred tree ++ [.cells 0 5 [cBlock b]], 3, 3⟩ =
      some (match (b.phis.drop k).find? (fun p => !phiOk (pred.getD i []) p) with
        | none => (.exit 2, ⟨[.one (.ptr 1 0 0 0), vU, .one (.ptr 3 0 0 0), vU, vU, .one (.ptr 4 0 0 0), vU, vU, vL (f.blocks.map rb), vI f.blocks.length, vI i, vU, vU, vU, vU, vU, vU, vU, vU], stSh f level pred tree ++ [.cells 0 5 [cBlock b]], 3, 3⟩)
        | some p => (.ret, ⟨[vU, vI 5, vU, vU, vU, vU, vU, vU, vU, vU, vU, vU, vU, vU, vU, vU, vU, vU, vU], stSh f level pred tree ++ [.cells 0 5 [cBlock b], .cells 0 4 [cPhi p]], 3, 3⟩)) := by
  intro d
  induction d with
  | zero =>
    intro k a1 a3 a6 a7 a11 a12 a16 a17 a18 h1 h2
    have hk : k = b.phis.length := by omega
    subst hk
    rw [check_checker_shape_l0_eq, check_checker_shape_b0]
    simp -implicitDefEqProofs only [go_sem, stSh, Int.lt_irrefl, List.drop_length, List.find?_nil]
  | succ d ih =>
    intro k a1 a3 a6 a7 a11 a12 a16 a17 a18 h1 h2
    have hk : k < b.phis.length := by omega
    have hd : b.phis.drop k = b.phis[k] :: b.phis.drop (k + 1) := List.drop_eq_getElem_cons hk
    have hi2 : i < pred.length := by omega
    have hg : pred.getD i [] = pred[i] := by simp [hi2]
    have he := Equal_int_call b.phis[k].src pred[i] [] (hb.phi _ (List.getElem_mem hk)).1
    rw [check_checker_shape_l0_eq, check_checker_shape_b0, hd, List.find?_cons, hg]
    rw [hg] at ih
    by_cases c1 : b.phis[k].src = pred[i]
    · by_cases c2 : b.phis[k].args.length = b.phis[k].src.length
      · have c2' : ((b.phis[k].args.length : Int) = (b.phis[k].src.length : Int)) = True := by simp [c2]
        have := ih (k + 1) vU vU vU vU vU vU vU vU vU (by omega) (by omega)
        simp -implicitDefEqProofs only [go_sem, stSh, eq_true c1] at he this
        simp -implicitDefEqProofs only [go_sem, stSh, ilt hk, getr hk, getr hi2, rp, rl, he, eq_true c1, c2', eq_true c2, phiOk, wrap_succ hk hb.phis, this]
      · have c2' : ¬ (b.phis[k].args.length : Int) = (b.phis[k].src.length : Int) := by omega
        simp -implicitDefEqProofs only [go_sem, stSh, eq_true c1] at he
        simp -implicitDefEqProofs only [go_sem, stSh, ilt hk, getr hk, getr hi2, rp, rl, he, eq_true c1, c2', c2, phiOk]
    · simp -implicitDefEqProofs only [go_sem, stSh, c1] at he
      simp -implicitDefEqProofs only [go_sem, stSh, ilt hk, getr hk, getr hi2, rp, rl, he, c1, phiOk]
theorem shape_l1 : ∀ (d k : Nat) (a1 a3 a4 a5 a6 a7 a11 a12 a13 a14 a15 a16 a17 a18 : V), f.blocks.length - k = d → k ≤ f.blocks.length →
    exec T check_checker_shape_l1 ⟨[.one (.ptr 1 0 0 0), a1, .one (.ptr 3 0 0 0), a3, a4, a5, a6, a7, vL (f.blocks.map rb), vI f.blocks.length, vI k, a11, a12, a13, a14, a15, a16, a17, a18], stSh f level pred tree, 3, 3⟩ =
      some (match firstBadB pred tree k (f.blocks.drop k) with
        | none => (.exit 0, ⟨[vU, vU, vU, vU, vU, vU, vU, vU, vU, vU, vU, vU, vU, vU, vU, vU, vU, vU, vU], stSh f level pred tree, 3, 3⟩)
        | some G => (.ret, ⟨[vU, vI 5, vU, vU, vU, vU, vU, vU, vU, vU, vU, vU, vU, vU, vU, vU, vU, vU, vU], stSh f level pred tree ++ G, 3, 3⟩)) := by
  intro d
  induction d with
  | zero =>
    intro k a1 a3 a4 a5 a6 a7 a11 a12 a13 a14 a15 a16 a17 a18 h1 h2
    have hk : k = f.blocks.length := by omega
    subst hk
    rw [check_checker_shape_l1_eq, check_checker_shape_b1]
    simp -implicitDefEqProofs only [go_sem, stSh, Int.lt_irrefl, List.drop_length, firstBadB]
  | succ d ih =>
    intro k a1 a3 a4 a5 a6 a7 a11 a12 a13 a14 a15 a16 a17 a18 h1 h2
    have hk : k < f.blocks.length := by omega
    have hd : f.blocks.drop k = f.blocks[k] :: f.blocks.drop (k + 1) := List.drop_eq_getElem_cons hk
    have hb := hf.block _ (List.getElem_mem hk)
    have ho := Over_call tree k k htl
    have h0 := fun a1 a3 a6 a7 a11 a12 a16 a17 a18 => shape_l0 f hf level pred hpl hpp tree htl f.blocks[k] hb k hk f.blocks[k].phis.length 0 a1 a3 a6 a7 a11 a12 a16 a17 a18 (by omega) (by omega)
    simp only [List.drop_zero, Int.natCast_zero] at h0
    rw [check_checker_shape_l1_eq, check_checker_shape_b1, hd, firstBadB, badB]
    cases e1 : overS tree k k
    · simp -implicitDefEqProofs only [go_sem, e1] at ho
      simp -implicitDefEqProofs only [go_sem, stSh, ilt hk, getr hk, rb, ho]
    · cases e2 : f.blocks[k].phis.find? (fun p => !phiOk (pred.getD k []) p) with
      | some p =>
        simp -implicitDefEqProofs only [go_sem, stSh, e1, e2] at ho h0
        simp -implicitDefEqProofs only [go_sem, stSh, ilt hk, getr hk, rb, ho, h0]
      | none =>
        have := ih (k + 1) vU vU vU vU vU vU vU vU vU vU vU vU vU vU (by omega) (by omega)
        simp -implicitDefEqProofs only [go_sem, stSh, e1, e2] at ho h0 this
        by_cases k1 : f.blocks[k].kind = 1
        · by_cases k3 : f.blocks[k].arg = 0
          · simp -implicitDefEqProofs only [go_sem, stSh, ilt hk, getr hk, rb, ho, h0, endArgOk, eq_true k1, eq_true k3, wrap_succ hk hf.blocks, this]
          · simp -implicitDefEqProofs only [go_sem, stSh, ilt hk, getr hk, rb, ho, h0, endArgOk, eq_true k1, k3]
        · by_cases k2 : f.blocks[k].kind = 3
          · by_cases k3 : f.blocks[k].arg = 0
            · simp -implicitDefEqProofs only [go_sem, stSh, ilt hk, getr hk, rb, ho, h0, endArgOk, k1, eq_true k2, eq_true k3, wrap_succ hk hf.blocks, this]
            · simp -implicitDefEqProofs only [go_sem, stSh, ilt hk, getr hk, rb, ho, h0, endArgOk, k1, eq_true k2, k3]
          · simp -implicitDefEqProofs only [go_sem, stSh, ilt hk, getr hk, rb, ho, h0, endArgOk, k1, k2, wrap_succ hk hf.blocks, this]
end
theorem g4_3 (n : Nat) : (n + 1 + 1 + 1 + 1 ≤ 3) = False := by simp
theorem shape_call_bad (f : PFunc) (hf : okF f) (level : Int) (hg : graphOk f = false) : call T F.check_checker_shape [.one (.ptr 1 0 0 0)] [O0 f, obCk f level (.f (.sl [])) (.f (.sl [])) (.f (.sl [])) (.f (.lit (.map none))), O2] = some (vI 5, [O0 f, obCk f level (.f (.sl [])) (.f (.sl [])) (.f (.sl [])) (.f (.lit (.map none))), O2]) := by
  rw [call_eq (fn := a_check_checker_shape) rfl]
  have h := graph_Of_call f hf
  simp -implicitDefEqProofs only [go_sem, vGraph, hg] at h
  simp -implicitDefEqProofs only [go_sem, a_check_checker_shape, h]
def shapeOk (f : PFunc) (tree : List Int) : Bool := graphOk f && shapeFrom (predsS (succS f)) tree 0 f.blocks
theorem predsS_length (succ : List (List Int)) : (predsS succ).length = succ.length := by rw [predsS, predsFrom_length]; simp
theorem predsS_le (succ : List (List Int)) (hs : okSucc succ) (ht : (succ.map List.length).sum ≤ 4294967296) : ∀ l ∈ predsS succ, l.length ≤ 4294967296 := by
  have h : ∀ (l : List (List Int)) (i : Nat) (out : List (List Int)) (B : Nat), (∀ y ∈ out, y.length ≤ B) → ∀ y ∈ predsFrom i l out, y.length ≤ B + (l.map List.length).sum := by
    intro l
    induction l with
    | nil => intro i out B h y hy; exact h y hy
    | cons x r ih =>
      intro i out B h y hy
      have := ih (i + 1) (x.foldl (addP i) out) (B + x.length) (foldP_le _ _ _ _ h) y hy
      simp only [List.map_cons, List.sum_cons]
      omega
  intro l hl
  have := h succ 0 (List.replicate succ.length []) 0 (fun y hy => by rw [(List.mem_replicate.1 hy).2]; simp) l hl
  omega
theorem graphOk_make {f : PFunc} (h : graphOk f = true) : makeOk (succS f) = true := by
  simp only [graphOk, Bool.and_eq_true] at h
  exact h.2.2
theorem shape_call_ok (f : PFunc) (hf : okF f) (level : Int) (hg : graphOk f = true) (tree : List Int) (htl : tree.length ≤ 4294967296)
    (hT : call T F.dom_Tree [.agg [.f (.sl ((succS f).map rl)), .f (.sl ((predsS (succS f)).map rl))], vI 0] [] = some (vIs tree, [])) :
    call T F.check_checker_shape [.one (.ptr 1 0 0 0)] [O0 f, obCk f level (.f (.sl [])) (.f (.sl [])) (.f (.sl [])) (.f (.lit (.map none))), O2] =
      some (vI (if shapeFrom (predsS (succS f)) tree 0 f.blocks = true then 0 else 5), [O0 f, obCk f level (.f (.sl ((succS f).map rl))) (.f (.sl ((predsS (succS f)).map rl))) (.f (eI tree)) (.f (.lit (.map none))), O2]) := by
  rw [call_eq (fn := a_check_checker_shape) rfl]
  have h := graph_Of_call f hf
  have hl := fun a1 a3 a4 a5 a6 a7 a11 a12 a13 a14 a15 a16 a17 a18 => shape_l1 f hf level (predsS (succS f)) (by rw [predsS_length]; simp [succS]) (predsS_le _ (okSucc_of hf) (makeOk_sum (graphOk_make hg))) tree htl f.blocks.length 0 a1 a3 a4 a5 a6 a7 a11 a12 a13 a14 a15 a16 a17 a18 (by omega) (by omega)
  simp only [List.drop_zero, Int.natCast_zero] at hl
  have hn := firstBadB_none (predsS (succS f)) tree f.blocks 0
  simp -implicitDefEqProofs only [go_sem, vGraph, hg] at h hT
  cases e : firstBadB (predsS (succS f)) tree 0 f.blocks with
  | none =>
    rw [e] at hn
    simp only [Option.isNone_none] at hn
    simp -implicitDefEqProofs only [go_sem, stSh, e] at hl
    simp -implicitDefEqProofs only [go_sem, a_check_checker_shape, h, hT, hl, ← hn]
  | some G =>
    rw [e] at hn
    simp only [Option.isNone_some] at hn
    simp -implicitDefEqProofs only [go_sem, stSh, e] at hl
    simp -implicitDefEqProofs only [go_sem, a_check_checker_shape, h, hT, hl, ← hn, g4_3]
end AC

namespace AC
open Go Go.A Go.A.Lex
theorem lt_1_5 (n : Nat) : (1 < n + 5) = True := by (first | (simp; omega) | simp)
theorem lt_3_5 (n : Nat) : (3 < n + 5) = True := by (first | (simp; omega) | simp)
theorem lt_4_5 (n : Nat) : (4 < n + 5) = True := by (first | (simp; omega) | simp)
theorem lt_1_6 (n : Nat) : (1 < n + 6) = True := by (first | (simp; omega) | simp)
theorem lt_3_6 (n : Nat) : (3 < n + 6) = True := by (first | (simp; omega) | simp)
theorem lt_4_6 (n : Nat) : (4 < n + 6) = True := by (first | (simp; omega) | simp)
theorem lt_1_7 (n : Nat) : (1 < n + 7) = True := by (first | (simp; omega) | simp)
theorem lt_3_7 (n : Nat) : (3 < n + 7) = True := by (first | (simp; omega) | simp)
theorem lt_4_7 (n : Nat) : (4 < n + 7) = True := by (first | (simp; omega) | simp)
theorem lt_1_8 (n : Nat) : (1 < n + 8) = True := by (first | (simp; omega) | simp)
theorem lt_3_8 (n : Nat) : (3 < n + 8) = True := by (first | (simp; omega) | simp)
theorem lt_4_8 (n : Nat) : (4 < n + 8) = True := by (first | (simp; omega) | simp)
attribute [go_sem] lt_1_5 lt_3_5 lt_4_5 lt_1_6 lt_3_6 lt_4_6 lt_1_7 lt_3_7 lt_4_7 lt_1_8 lt_3_8 lt_4_8
/-! Maps with whole numbers as keys. -/
def getM {α : Type} (k : Int) : List (Int × α) → Option α
  | [] => none
  | e :: es => if e.1 = k then some e.2 else getM k es
def putM {α : Type} (k : Int) (v : α) : List (Int × α) → List (Int × α)
  | [] => [(k, v)]
  | e :: es => if e.1 = k then (k, v) :: es else e :: putM k v es
def encM {α : Type} (enc : α → V) (D : List (Int × α)) : List (Int × V) := D.map fun e => (e.1, enc e.2)
theorem mget_enc {α : Type} (enc : α → V) (k : Int) : ∀ D : List (Int × α), mget k (encM enc D) = (getM k D).map enc
  | [] => rfl
  | e :: es => by
    have ih := mget_enc enc k es
    unfold encM at ih ⊢
    simp only [List.map_cons, mget, getM]
    by_cases h : e.1 = k
    · rw [if_pos h, if_pos h]; rfl
    · rw [if_neg h, if_neg h, ih]
theorem mput_enc {α : Type} (enc : α → V) (k : Int) (v : α) : ∀ D : List (Int × α), mput k (enc v) (encM enc D) = encM enc (putM k v D)
  | [] => rfl
  | e :: es => by
    have ih := mput_enc enc k v es
    unfold encM at ih ⊢
    simp only [List.map_cons, mput, putM]
    by_cases h : e.1 = k
    · rw [if_pos h, if_pos h]; rfl
    · rw [if_neg h, if_neg h, ih]; rfl
theorem ltm_enc {α : Type} (enc : α → V) (n : Nat) (h : ∀ a, (enc a).lt n = true) : ∀ D : List (Int × α), C.ltm n (encM enc D) = true
  | [] => rfl
  | e :: es => by
    have ih := ltm_enc enc n h es
    unfold encM at ih ⊢
    simp only [List.map_cons, C.ltm, h, ih, Bool.and_self]
/-- Where a value is defined, and its shape. -/
structure PDef where
  block : Int
  at' : Int
  shape : Int × Int
abbrev DMap := List (Int × PDef)
def vDef (d : PDef) : V := .agg [.f (ei d.block), .f (ei d.at'), .f (ei d.shape.1), .f (ei d.shape.2)]
theorem ltm_def (n : Nat) (D : DMap) : C.ltm n (encM vDef D) = true := ltm_enc vDef n (fun a => by simp [vDef, V.lt, C.lts, C.lt]) D
theorem mget_def (k : Int) (D : DMap) : mget k (encM vDef D) = (getM k D).map vDef := mget_enc vDef k D
theorem mput_def (k : Int) (d : PDef) (D : DMap) : mput k (V.agg [.f (.lit (.int .i64 d.block)), .f (.lit (.int .i64 d.at')), .f (.lit (.int .i64 d.shape.1)), .f (.lit (.int .i64 d.shape.2))]) (encM vDef D) = encM vDef (putM k d D) := mput_enc vDef k d D
abbrev P1 : Ob := .cells 0 1 [[.ptr 1 0 0 0]]
abbrev stD (f : PFunc) (level : Int) (x y z : C) (D : DMap) (r : Store) : Store := O0 f :: obCk f level x y z (.map 4) :: O2 :: P1 :: .mp (encM vDef D) :: r
section
variable (f : PFunc) (level : Int) (succ pred : List (List Int)) (tree : List Int) (D : DMap) (r : Store) (hr : Obs.lt (r.length + 5) r = true)
abbrev xS (l : List (List Int)) : C := .f (.sl (l.map rl))
abbrev zS (l : List Int) : C := .f (eI l)
include hr
theorem put_call (v : Int) (d : PDef) : call T F.check_checker_put [.one (.ptr 1 0 0 0), vI v, vDef d] (stD f level (xS succ) (xS pred) (zS tree) D r) = some (vB (getM v D).isNone, stD f level (xS succ) (xS pred) (zS tree) (putM v d D) r) := by
  rw [call_eq (fn := a_check_checker_put) rfl]
  have hp := mput_def v d D
  cases e : getM v D with
  | none => simp -implicitDefEqProofs only [go_sem, a_check_checker_put, stD, vDef, mget_def, e, hp, hr, ltm_def, Nat.add_le_add_iff_right, Option.isNone_none]
  | some d0 => simp -implicitDefEqProofs only [go_sem, a_check_checker_put, stD, vDef, mget_def, e, hp, hr, ltm_def, Nat.add_le_add_iff_right, Option.isNone_some]
theorem defined_1_call (u : Use) : call T F.check_checker_defined_1 [vI u.v, .agg [.f (ei u.shape.1), .f (ei u.shape.2)], vI u.block, vI u.at', .one (.ptr 3 0 0 0)] (stD f level (xS succ) (xS pred) (zS tree) D r) =
    some (vI (if (getM u.v D).isNone then 7 else 0), stD f level (xS succ) (xS pred) (zS tree) D r) := by
  rw [call_eq (fn := a_check_checker_defined_1) rfl]
  cases e : getM u.v D with
  | none => simp -implicitDefEqProofs only [go_sem, a_check_checker_defined_1, stD, vDef, mget_def, e, hr, ltm_def, Nat.add_le_add_iff_right, Option.isNone_none]
  | some d0 => simp -implicitDefEqProofs only [go_sem, a_check_checker_defined_1, stD, vDef, mget_def, e, hr, ltm_def, Nat.add_le_add_iff_right, Option.isNone_some]
end
def defAt (D : DMap) (v : Int) : PDef := (getM v D).getD ⟨0, 0, (0, 0)⟩
def askDef (D : DMap) (u : Use) : Int := if (getM u.v D).isNone = true then 7 else 0
def askShape (D : DMap) (u : Use) : Int := if (defAt D u.v).shape = u.shape then 0 else 6
def askPlace (D : DMap) (tree : List Int) (u : Use) : Int :=
  let d := defAt D u.v
  if d.block < 0 then 0 else if (d.block = u.block ∧ d.at' < u.at') ∨ (d.block ≠ u.block ∧ overS tree d.block u.block = true) then 0 else 7
section
variable (f : PFunc) (level : Int) (succ pred : List (List Int)) (tree : List Int) (D : DMap) (r : Store) (hr : Obs.lt (r.length + 6) r = true)
include hr
theorem shapes_1_call (u : Use) : call T F.check_checker_shapes_1 [vI u.v, .agg [.f (ei u.shape.1), .f (ei u.shape.2)], vI u.block, vI u.at', .one (.ptr 5 0 0 0)] (stD f level (xS succ) (xS pred) (zS tree) D (P1 :: r)) =
    some (vI (askShape D u), stD f level (xS succ) (xS pred) (zS tree) D (P1 :: r)) := by
  rw [call_eq (fn := a_check_checker_shapes_1) rfl]
  have hp : ∀ a b : Int × Int, (a = b) = (a.1 = b.1 ∧ a.2 = b.2) := fun a b => by rw [Prod.ext_iff]
  have key : ∀ d : PDef, defAt D u.v = d → mget u.v (encM vDef D) = some (vDef d) ∨ (mget u.v (encM vDef D) = none ∧ d = ⟨0, 0, (0, 0)⟩) := fun d hd => by
    rw [mget_def]
    unfold defAt at hd
    cases e : getM u.v D with
    | none => rw [e] at hd; exact .inr ⟨rfl, hd.symm⟩
    | some d0 => rw [e] at hd; simp at hd; subst hd; exact .inl rfl
  by_cases c1 : (defAt D u.v).shape.1 = u.shape.1
  · by_cases c2 : (defAt D u.v).shape.2 = u.shape.2
    · rcases key _ rfl with h | ⟨h, h2⟩
      · simp -implicitDefEqProofs only [go_sem, a_check_checker_shapes_1, stD, vDef, h, hr, ltm_def, Nat.add_le_add_iff_right, askShape, hp, eq_true c1, eq_true c2]
      · rw [h2] at c1 c2
        simp -implicitDefEqProofs only [go_sem, a_check_checker_shapes_1, stD, vDef, h, hr, ltm_def, Nat.add_le_add_iff_right, askShape, hp, h2, eq_true c1, eq_true c2]
    · rcases key _ rfl with h | ⟨h, h2⟩
      · simp -implicitDefEqProofs only [go_sem, a_check_checker_shapes_1, stD, vDef, h, hr, ltm_def, Nat.add_le_add_iff_right, askShape, hp, eq_true c1, c2, and_false]
      · rw [h2] at c1 c2
        simp -implicitDefEqProofs only [go_sem, a_check_checker_shapes_1, stD, vDef, h, hr, ltm_def, Nat.add_le_add_iff_right, askShape, hp, h2, eq_true c1, c2, and_false]
  · rcases key _ rfl with h | ⟨h, h2⟩
    · simp -implicitDefEqProofs only [go_sem, a_check_checker_shapes_1, stD, vDef, h, hr, ltm_def, Nat.add_le_add_iff_right, askShape, hp, c1, false_and]
    · rw [h2] at c1
      simp -implicitDefEqProofs only [go_sem, a_check_checker_shapes_1, stD, vDef, h, hr, ltm_def, Nat.add_le_add_iff_right, askShape, hp, h2, c1, false_and]
theorem places_1_call (htl : tree.length ≤ 4294967296) (u : Use) : call T F.check_checker_places_1 [vI u.v, .agg [.f (ei u.shape.1), .f (ei u.shape.2)], vI u.block, vI u.at', .one (.ptr 5 0 0 0)] (stD f level (xS succ) (xS pred) (zS tree) D (P1 :: r)) =
    some (vI (askPlace D tree u), stD f level (xS succ) (xS pred) (zS tree) D (P1 :: r)) := by
  rw [call_eq (fn := a_check_checker_places_1) rfl]
  have key : ∀ d : PDef, defAt D u.v = d → mget u.v (encM vDef D) = some (vDef d) ∨ (mget u.v (encM vDef D) = none ∧ d = ⟨0, 0, (0, 0)⟩) := fun d hd => by
    rw [mget_def]
    unfold defAt at hd
    cases e : getM u.v D with
    | none => rw [e] at hd; exact .inr ⟨rfl, hd.symm⟩
    | some d0 => rw [e] at hd; simp at hd; subst hd; exact .inl rfl
  rcases key _ rfl with h | ⟨h, h2⟩
  · have ho := Over_call tree (defAt D u.v).block u.block htl
    simp -implicitDefEqProofs only [go_sem] at ho
    by_cases c1 : (defAt D u.v).block < 0
    · simp -implicitDefEqProofs only [go_sem, a_check_checker_places_1, stD, vDef, h, hr, ltm_def, Nat.add_le_add_iff_right, askPlace, c1]
    by_cases c2 : (defAt D u.v).block = u.block
    · by_cases c3 : (defAt D u.v).at' < u.at'
      · simp -implicitDefEqProofs only [go_sem, a_check_checker_places_1, stD, vDef, h, hr, ltm_def, Nat.add_le_add_iff_right, askPlace, c1, eq_true c2, c3, true_and, true_or]
      · simp -implicitDefEqProofs only [go_sem, a_check_checker_places_1, stD, vDef, h, hr, ltm_def, Nat.add_le_add_iff_right, askPlace, c1, eq_true c2, c3, and_false, false_and, or_self, ne_eq]
    · cases c4 : overS tree (defAt D u.v).block u.block
      · rw [c4] at ho
        simp -implicitDefEqProofs only [go_sem, a_check_checker_places_1, stD, vDef, h, hr, ltm_def, Nat.add_le_add_iff_right, askPlace, c1, c2, ho, c4, and_false, false_and, or_self, ne_eq]
      · rw [c4] at ho
        simp -implicitDefEqProofs only [go_sem, a_check_checker_places_1, stD, vDef, h, hr, ltm_def, Nat.add_le_add_iff_right, askPlace, c1, c2, ho, c4, and_self, false_and, false_or, ne_eq]
  · have ho := Over_call tree (0 : Int) u.block htl
    simp -implicitDefEqProofs only [go_sem] at ho
    by_cases c1 : (0 : Int) < 0
    · simp -implicitDefEqProofs only [go_sem, a_check_checker_places_1, stD, vDef, h, hr, ltm_def, Nat.add_le_add_iff_right, askPlace, h2, c1]
    by_cases c2 : (0 : Int) = u.block
    · by_cases c3 : (0 : Int) < u.at'
      · simp -implicitDefEqProofs only [go_sem, a_check_checker_places_1, stD, vDef, h, hr, ltm_def, Nat.add_le_add_iff_right, askPlace, h2, c1, eq_true c2, c3, true_and, true_or]
      · simp -implicitDefEqProofs only [go_sem, a_check_checker_places_1, stD, vDef, h, hr, ltm_def, Nat.add_le_add_iff_right, askPlace, h2, c1, eq_true c2, c3, and_false, false_and, or_self, ne_eq]
    · cases c4 : overS tree (0 : Int) u.block
      · rw [c4] at ho
        simp -implicitDefEqProofs only [go_sem, a_check_checker_places_1, stD, vDef, h, hr, ltm_def, Nat.add_le_add_iff_right, askPlace, h2, c1, c2, ho, c4, and_false, false_and, or_self, ne_eq]
      · rw [c4] at ho
        simp -implicitDefEqProofs only [go_sem, a_check_checker_places_1, stD, vDef, h, hr, ltm_def, Nat.add_le_add_iff_right, askPlace, h2, c1, c2, ho, c4, and_self, false_and, false_or, ne_eq]
end
end AC

namespace AC
open Go Go.A Go.A.Lex
def putParams : Nat → DMap → List Int → DMap
  | _, D, [] => D
  | i, D, b :: r => putParams (i + 1) (putM ((i : Int) + 1) ⟨-1, 0, (b, 1)⟩ D) r
/-- Phis are put: which one may not be (with what was put), or what was put. -/
def putPhis (i : Int) : DMap → List PPhi → DMap × Option PPhi
  | D, [] => (D, none)
  | D, p :: r => if p.dst < 1 ∨ 1023 < p.dst then (D, some p) else if (getM p.dst D).isNone = true then putPhis i (putM p.dst ⟨i, -1, (p.bits, 1)⟩ D) r else (putM p.dst ⟨i, -1, (p.bits, 1)⟩ D, some p)
def putOps (i : Int) : Nat → DMap → List POp → DMap × Option POp
  | _, D, [] => (D, none)
  | k, D, o :: r => if (givesO o).1 ≤ 0 then putOps i (k + 1) D r else if (getM o.dst D).isNone = true then putOps i (k + 1) (putM o.dst ⟨i, k, givesO o⟩ D) r else (putM o.dst ⟨i, k, givesO o⟩ D, some o)
/-- Blocks: what was put, and what may not be (what lies behind the map then). -/
def putBlocks : Nat → DMap → List PBlock → DMap × Option (List Ob)
  | _, D, [] => (D, none)
  | i, D, b :: r => match putPhis i D b.phis with
    | (D1, some p) => (D1, some [.cells 0 5 [cBlock b], .cells 0 4 [cPhi p]])
    | (D1, none) => match putOps i 0 D1 b.ops with
      | (D2, some o) => (D2, some [.cells 0 5 [cBlock b], .cells 0 6 [cOp o]])
      | (D2, none) => putBlocks (i + 1) D2 r
section
variable (f : PFunc) (hf : okF f) (level : Int) (succ pred : List (List Int)) (tree : List Int)
abbrev sD (f : PFunc) (level : Int) (succ pred : List (List Int)) (tree : List Int) (D : DMap) (r : Store) : Store := stD f level (xS succ) (xS pred) (zS tree) D r
include hf
theorem defined_l0 : ∀ (d k : Nat) (D : DMap) (a0 a2 a3 a4 a5 a6 a7 a8 a9 a10 a11 a15 a16 a17 a18 a19 a20 a21 a22 a23 a24 a25 a26 a27 a28 a29 : V), f.params.length - k = d → k ≤ f.params.length →
    exec T check_checker_defined_l0 ⟨[a0, .one (.ptr 3 0 0 0), a2, a3, a4, a5, a6, a7, a8, a9, a10, a11, vIs f.params, vI f.params.length, vI k, a15, a16, a17, a18, a19, a20, a21, a22, a23, a24, a25, a26, a27, a28, a29], sD f level succ pred tree D [], 3, 5⟩ =
      some (.exit 0, ⟨[vU, .one (.ptr 3 0 0 0), vU, vU, vU, vU, vU, vU, vU, vU, vU, vU, vU, vU, vU, vU, vU, vU, vU, vU, vU, vU, vU, vU, vU, vU, vU, vU, vU, vU], sD f level succ pred tree (putParams k D (f.params.drop k)) [], 3, 5⟩) := by
  intro d
  induction d with
  | zero =>
    intro k D a0 a2 a3 a4 a5 a6 a7 a8 a9 a10 a11 a15 a16 a17 a18 a19 a20 a21 a22 a23 a24 a25 a26 a27 a28 a29 h1 h2
    have hk : k = f.params.length := by omega
    subst hk
    rw [check_checker_defined_l0_eq, check_checker_defined_b0]
    simp -implicitDefEqProofs only [go_sem, stD, Int.lt_irrefl, List.drop_length, putParams]
  | succ d ih =>
    intro k D a0 a2 a3 a4 a5 a6 a7 a8 a9 a10 a11 a15 a16 a17 a18 a19 a20 a21 a22 a23 a24 a25 a26 a27 a28 a29 h1 h2
    have hk : k < f.params.length := by omega
    have hd : f.params.drop k = f.params[k] :: f.params.drop (k + 1) := List.drop_eq_getElem_cons hk
    have hsc := scalar_call f.params[k]
    have hp := put_call f level succ pred tree D [] rfl ((k : Int) + 1) ⟨-1, 0, (f.params[k], 1)⟩
    have hw := wrap_succ hk hf.params
    have hc : ((k + 1 : Nat) : Int) = (k : Int) + 1 := by omega
    have := ih (k + 1) (putM ((k : Int) + 1) ⟨-1, 0, (f.params[k], 1)⟩ D) vU vU vU vU vU vU vU vU vU vU vU vU vU vU vU vU vU vU vU vU vU vU vU vU vU vU (by omega) (by omega)
    rw [check_checker_defined_l0_eq, check_checker_defined_b0, hd, putParams]
    rw [hc] at hw this
    simp -implicitDefEqProofs only [go_sem, stD, vDef] at hp hsc this
    simp -implicitDefEqProofs only [go_sem, stD, ilt hk, getr hk, ri, hsc, hp, hw, this]
theorem defined_l1 (b : PBlock) (hb : okB b) (i : Int) : ∀ (d k : Nat) (D : DMap) (a0 a2 a3 a4 a7 a8 a9 a10 a11 a12 a13 a14 a15 a19 a23 a24 a25 a26 a27 a28 a29 : V), b.phis.length - k = d → k ≤ b.phis.length →
    exec T check_checker_defined_l1 ⟨[a0, .one (.ptr 3 0 0 0), a2, a3, a4, vI i, .one (.ptr 5 0 0 0), a7, a8, a9, a10, a11, a12, a13, a14, a15, vL (f.blocks.map rb), vI f.blocks.length, vI i, a19, vL (b.phis.map rp), vI b.phis.length, vI k, a23, a24, a25, a26, a27, a28, a29], sD f level succ pred tree D [.cells 0 5 [cBlock b]], 3, 5⟩ =
      some (match putPhis i D (b.phis.drop k) with
        | (D1, none) => (.exit 4, ⟨[vU, .one (.ptr 3 0 0 0), vU, vU, vU, vI i, .one (.ptr 5 0 0 0), vU, vU, vU, vU, vU, vU, vU, vU, vU, vL (f.blocks.map rb), vI f.blocks.length, vI i, vU, vU, vU, vU, vU, vU, vU, vU, vU, vU, vU], sD f level succ pred tree D1 [.cells 0 5 [cBlock b]], 3, 5⟩)
        | (D1, some p) => (.ret, ⟨[vU, vU, vI 7, vU, vU, vU, vU, vU, vU, vU, vU, vU, vU, vU, vU, vU, vU, vU, vU, vU, vU, vU, vU, vU, vU, vU, vU, vU, vU, vU], sD f level succ pred tree D1 [.cells 0 5 [cBlock b], .cells 0 4 [cPhi p]], 3, 5⟩)) := by
  intro d
  induction d with
  | zero =>
    intro k D a0 a2 a3 a4 a7 a8 a9 a10 a11 a12 a13 a14 a15 a19 a23 a24 a25 a26 a27 a28 a29 h1 h2
    have hk : k = b.phis.length := by omega
    subst hk
    rw [check_checker_defined_l1_eq, check_checker_defined_b1]
    simp -implicitDefEqProofs only [go_sem, stD, Int.lt_irrefl, List.drop_length, putPhis]
  | succ d ih =>
    intro k D a0 a2 a3 a4 a7 a8 a9 a10 a11 a12 a13 a14 a15 a19 a23 a24 a25 a26 a27 a28 a29 h1 h2
    have hk : k < b.phis.length := by omega
    have hd : b.phis.drop k = b.phis[k] :: b.phis.drop (k + 1) := List.drop_eq_getElem_cons hk
    have hsc := scalar_call b.phis[k].bits
    have hp := put_call f level succ pred tree D [.cells 0 5 [cBlock b], .cells 0 4 [cPhi b.phis[k]]] (by simp -implicitDefEqProofs only [go_sem]) b.phis[k].dst ⟨i, -1, (b.phis[k].bits, 1)⟩
    rw [check_checker_defined_l1_eq, check_checker_defined_b1, hd, putPhis]
    simp -implicitDefEqProofs only [go_sem, stD, vDef] at hp hsc
    by_cases c1 : b.phis[k].dst < 1
    · simp -implicitDefEqProofs only [go_sem, stD, ilt hk, getr hk, rp, c1]
    by_cases c2 : 1023 < b.phis[k].dst
    · simp -implicitDefEqProofs only [go_sem, stD, ilt hk, getr hk, rp, c1, c2]
    cases c3 : (getM b.phis[k].dst D).isNone
    · rw [c3] at hp
      simp -implicitDefEqProofs only [go_sem, stD, ilt hk, getr hk, rp, c1, c2, hsc, hp]
    · have := ih (k + 1) (putM b.phis[k].dst ⟨i, -1, (b.phis[k].bits, 1)⟩ D) vU vU vU vU vU vU vU vU vU vU vU vU vU vU vU vU vU vU vU vU vU (by omega) (by omega)
      rw [c3] at hp
      simp -implicitDefEqProofs only [go_sem, stD] at this
      simp -implicitDefEqProofs only [go_sem, stD, ilt hk, getr hk, rp, c1, c2, hsc, hp, ltm_def, wrap_succ hk hb.phis, this]
theorem defined_l2 (b : PBlock) (hb : okB b) (i : Int) : ∀ (d k : Nat) (D : DMap) (a0 a2 a3 a4 a6 a7 a8 a9 a10 a11 a12 a13 a14 a15 a19 a20 a21 a22 a23 a24 a28 a29 : V), b.ops.length - k = d → k ≤ b.ops.length →
    exec T check_checker_defined_l2 ⟨[a0, .one (.ptr 3 0 0 0), a2, a3, a4, vI i, a6, a7, a8, a9, a10, a11, a12, a13, a14, a15, vL (f.blocks.map rb), vI f.blocks.length, vI i, a19, a20, a21, a22, a23, a24, vL (b.ops.map ro), vI b.ops.length, vI k, a28, a29], sD f level succ pred tree D [.cells 0 5 [cBlock b]], 3, 5⟩ =
      some (match putOps i k D (b.ops.drop k) with
        | (D1, none) => (.exit 6, ⟨[vU, .one (.ptr 3 0 0 0), vU, vU, vU, vU, vU, vU, vU, vU, vU, vU, vU, vU, vU, vU, vL (f.blocks.map rb), vI f.blocks.length, vI i, vU, vU, vU, vU, vU, vU, vU, vU, vU, vU, vU], sD f level succ pred tree D1 [.cells 0 5 [cBlock b]], 3, 5⟩)
        | (D1, some o) => (.ret, ⟨[vU, vU, vI 7, vU, vU, vU, vU, vU, vU, vU, vU, vU, vU, vU, vU, vU, vU, vU, vU, vU, vU, vU, vU, vU, vU, vU, vU, vU, vU, vU], sD f level succ pred tree D1 [.cells 0 5 [cBlock b], .cells 0 6 [cOp o]], 3, 5⟩)) := by
  intro d
  induction d with
  | zero =>
    intro k D a0 a2 a3 a4 a6 a7 a8 a9 a10 a11 a12 a13 a14 a15 a19 a20 a21 a22 a23 a24 a28 a29 h1 h2
    have hk : k = b.ops.length := by omega
    subst hk
    rw [check_checker_defined_l2_eq, check_checker_defined_b2]
    simp -implicitDefEqProofs only [go_sem, stD, Int.lt_irrefl, List.drop_length, putOps]
  | succ d ih =>
    intro k D a0 a2 a3 a4 a6 a7 a8 a9 a10 a11 a12 a13 a14 a15 a19 a20 a21 a22 a23 a24 a28 a29 h1 h2
    have hk : k < b.ops.length := by omega
    have hd : b.ops.drop k = b.ops[k] :: b.ops.drop (k + 1) := List.drop_eq_getElem_cons hk
    have ho := hb.op _ (List.getElem_mem hk)
    have hgv := kind_Gives_call b.ops[k] ho.1 ho.2
    have hp := put_call f level succ pred tree D [.cells 0 5 [cBlock b], .cells 0 6 [cOp b.ops[k]]] (by simp -implicitDefEqProofs only [go_sem]) b.ops[k].dst ⟨i, k, givesO b.ops[k]⟩
    rw [check_checker_defined_l2_eq, check_checker_defined_b2, hd, putOps]
    simp -implicitDefEqProofs only [go_sem, stD, vDef] at hp hgv
    by_cases c1 : (givesO b.ops[k]).1 ≤ 0
    · have c1' : ¬ 0 < (givesO b.ops[k]).1 := by omega
      have := ih (k + 1) D vU vU vU vU vU vU vU vU vU vU vU vU vU vU vU vU vU vU vU vU vU vU (by omega) (by omega)
      simp -implicitDefEqProofs only [go_sem, stD] at this
      simp -implicitDefEqProofs only [go_sem, stD, ilt hk, getr hk, ro, hgv, c1, c1', ltm_def, wrap_succ hk hb.ops, this]
    have c1' : 0 < (givesO b.ops[k]).1 := by omega
    cases c3 : (getM b.ops[k].dst D).isNone
    · rw [c3] at hp
      simp -implicitDefEqProofs only [go_sem, stD, ilt hk, getr hk, ro, hgv, c1, c1', hp]
    · have := ih (k + 1) (putM b.ops[k].dst ⟨i, k, givesO b.ops[k]⟩ D) vU vU vU vU vU vU vU vU vU vU vU vU vU vU vU vU vU vU vU vU vU vU (by omega) (by omega)
      rw [c3] at hp
      simp -implicitDefEqProofs only [go_sem, stD] at this
      simp -implicitDefEqProofs only [go_sem, stD, ilt hk, getr hk, ro, hgv, c1, c1', hp, ltm_def, wrap_succ hk hb.ops, this]
theorem defined_l3 : ∀ (d k : Nat) (D : DMap) (a0 a2 a3 a4 a5 a6 a7 a8 a9 a10 a11 a12 a13 a14 a15 a19 a20 a21 a22 a23 a24 a25 a26 a27 a28 a29 : V), f.blocks.length - k = d → k ≤ f.blocks.length →
    exec T check_checker_defined_l3 ⟨[a0, .one (.ptr 3 0 0 0), a2, a3, a4, a5, a6, a7, a8, a9, a10, a11, a12, a13, a14, a15, vL (f.blocks.map rb), vI f.blocks.length, vI k, a19, a20, a21, a22, a23, a24, a25, a26, a27, a28, a29], sD f level succ pred tree D [], 3, 5⟩ =
      some (match putBlocks k D (f.blocks.drop k) with
        | (D1, none) => (.exit 2, ⟨[vU, .one (.ptr 3 0 0 0), vU, vU, vU, vU, vU, vU, vU, vU, vU, vU, vU, vU, vU, vU, vU, vU, vU, vU, vU, vU, vU, vU, vU, vU, vU, vU, vU, vU], sD f level succ pred tree D1 [], 3, 5⟩)
        | (D1, some G) => (.ret, ⟨[vU, vU, vI 7, vU, vU, vU, vU, vU, vU, vU, vU, vU, vU, vU, vU, vU, vU, vU, vU, vU, vU, vU, vU, vU, vU, vU, vU, vU, vU, vU], sD f level succ pred tree D1 G, 3, 5⟩)) := by
  intro d
  induction d with
  | zero =>
    intro k D a0 a2 a3 a4 a5 a6 a7 a8 a9 a10 a11 a12 a13 a14 a15 a19 a20 a21 a22 a23 a24 a25 a26 a27 a28 a29 h1 h2
    have hk : k = f.blocks.length := by omega
    subst hk
    rw [check_checker_defined_l3_eq, check_checker_defined_b3]
    simp -implicitDefEqProofs only [go_sem, stD, Int.lt_irrefl, List.drop_length, putBlocks]
  | succ d ih =>
    intro k D a0 a2 a3 a4 a5 a6 a7 a8 a9 a10 a11 a12 a13 a14 a15 a19 a20 a21 a22 a23 a24 a25 a26 a27 a28 a29 h1 h2
    have hk : k < f.blocks.length := by omega
    have hd : f.blocks.drop k = f.blocks[k] :: f.blocks.drop (k + 1) := List.drop_eq_getElem_cons hk
    have hb := hf.block _ (List.getElem_mem hk)
    have q1 := fun a0 a2 a3 a4 a7 a8 a9 a10 a11 a12 a13 a14 a15 a19 a23 a24 a25 a26 a27 a28 a29 => defined_l1 f hf level succ pred tree f.blocks[k] hb k f.blocks[k].phis.length 0 D a0 a2 a3 a4 a7 a8 a9 a10 a11 a12 a13 a14 a15 a19 a23 a24 a25 a26 a27 a28 a29 (by omega) (by omega)
    simp only [List.drop_zero, Int.natCast_zero] at q1
    rw [check_checker_defined_l3_eq, check_checker_defined_b3, hd, putBlocks]
    rcases e1 : putPhis k D f.blocks[k].phis with ⟨D1, _ | p⟩
    · have q2 := fun a0 a2 a3 a4 a6 a7 a8 a9 a10 a11 a12 a13 a14 a15 a19 a20 a21 a22 a23 a24 a28 a29 => defined_l2 f hf level succ pred tree f.blocks[k] hb k f.blocks[k].ops.length 0 D1 a0 a2 a3 a4 a6 a7 a8 a9 a10 a11 a12 a13 a14 a15 a19 a20 a21 a22 a23 a24 a28 a29 (by omega) (by omega)
      simp only [List.drop_zero, Int.natCast_zero] at q2
      rcases e2 : putOps k 0 D1 f.blocks[k].ops with ⟨D2, _ | o⟩
      · have := ih (k + 1) D2 vU vU vU vU vU vU vU vU vU vU vU vU vU vU vU vU vU vU vU vU vU vU vU vU vU vU (by omega) (by omega)
        simp -implicitDefEqProofs only [go_sem, stD, e1, e2] at q1 q2 this
        simp -implicitDefEqProofs only [go_sem, stD, ilt hk, getr hk, rb, q1, q2, e2, ltm_def, wrap_succ hk hf.blocks, this]
      · simp -implicitDefEqProofs only [go_sem, stD, e1, e2] at q1 q2
        simp -implicitDefEqProofs only [go_sem, stD, ilt hk, getr hk, rb, q1, q2, e2]
    · simp -implicitDefEqProofs only [go_sem, stD, e1] at q1
      simp -implicitDefEqProofs only [go_sem, stD, ilt hk, getr hk, rb, q1]
end
end AC

namespace AC
open Go Go.A Go.A.Lex
attribute [go_sem] obCk O0 O2 P1 xS zS sD stD cM
def dmapS (f : PFunc) : DMap × Option (List Ob) := putBlocks 0 (putParams 0 [] f.params) f.blocks
theorem takesO_len (o : POp) : (takesO o).length ≤ o.args.length := by
  unfold takesO
  split
  · rename_i h
    simp only [mayO, Bool.and_eq_true, decide_eq_true_eq] at h
    omega
  · simp
theorem shapeFrom_mem (pred : List (List Int)) (tree : List Int) : ∀ (l : List PBlock) (i : Nat), shapeFrom pred tree i l = true → ∀ k (hk : k < l.length), shapeB pred tree (i + k) l[k] = true
  | [], _, _, k, hk => by simp at hk
  | b :: r, i, h, k, hk => by
    simp only [shapeFrom, Bool.and_eq_true] at h
    cases k with
    | zero => exact h.1
    | succ k =>
      have := shapeFrom_mem pred tree r (i + 1) h.2 k (by simpa using hk)
      simpa [Nat.add_assoc, Nat.add_comm 1 k] using this
theorem argsOk_of {f : PFunc} {pred : List (List Int)} {tree : List Int} (h : shapeFrom pred tree 0 f.blocks = true) : ∀ b ∈ f.blocks, argsOk b := fun b hb => by
  obtain ⟨k, hk, rfl⟩ := List.getElem_of_mem hb
  have := shapeFrom_mem pred tree f.blocks 0 h k hk
  simp only [shapeB, Bool.and_eq_true, List.all_eq_true] at this
  refine ⟨fun p hp => ?_, fun o _ => takesO_len o⟩
  have := this.2.1 p hp
  simp only [phiOk, Bool.and_eq_true, decide_eq_true_eq] at this
  exact this.2
theorem ok_stD (f : PFunc) (level : Int) (succ pred : List (List Int)) (tree : List Int) (D : DMap) : Ok (sD f level succ pred tree D []) := by
  unfold Ok
  simp -implicitDefEqProofs only [go_sem, stD, ltm_def]
theorem ok_stD1 (f : PFunc) (level : Int) (succ pred : List (List Int)) (tree : List Int) (D : DMap) : Ok (sD f level succ pred tree D [P1]) := by
  unfold Ok
  simp -implicitDefEqProofs only [go_sem, stD, ltm_def]
section
variable (f : PFunc) (hf : okF f) (level : Int) (succ pred : List (List Int)) (tree : List Int) (hab : ∀ b ∈ f.blocks, argsOk b)
include hf hab
theorem defined_call : call T F.check_checker_defined [.one (.ptr 1 0 0 0)] [O0 f, obCk f level (xS succ) (xS pred) (zS tree) (.f (.lit (.map none))), O2] =
    some (vI (match dmapS f with | (D, none) => firstE (askDef D) (usesS f) | (_, some _) => 7), sD f level succ pred tree (dmapS f).1 []) := by
  rw [call_eq (fn := a_check_checker_defined) rfl]
  have q0 := fun a0 a2 a3 a4 a5 a6 a7 a8 a9 a10 a11 a15 a16 a17 a18 a19 a20 a21 a22 a23 a24 a25 a26 a27 a28 a29 => defined_l0 f hf level succ pred tree f.params.length 0 [] a0 a2 a3 a4 a5 a6 a7 a8 a9 a10 a11 a15 a16 a17 a18 a19 a20 a21 a22 a23 a24 a25 a26 a27 a28 a29 (by omega) (by omega)
  have q3 := fun a0 a2 a3 a4 a5 a6 a7 a8 a9 a10 a11 a12 a13 a14 a15 a19 a20 a21 a22 a23 a24 a25 a26 a27 a28 a29 => defined_l3 f hf level succ pred tree f.blocks.length 0 (putParams 0 [] f.params) a0 a2 a3 a4 a5 a6 a7 a8 a9 a10 a11 a12 a13 a14 a15 a19 a20 a21 a22 a23 a24 a25 a26 a27 a28 a29 (by omega) (by omega)
  have en : encM vDef [] = [] := rfl
  simp only [List.drop_zero, Int.natCast_zero] at q0 q3
  have ed : dmapS f = putBlocks 0 (putParams 0 [] f.params) f.blocks := rfl
  rw [ed]
  rcases e : putBlocks 0 (putParams 0 [] f.params) f.blocks with ⟨D, _ | G⟩
  · have hu := uses_call f level (xS succ) (xS pred) (zS tree) (.map 4) F.check_checker_defined_1 [.ptr 3 0 0 0] (sD f level succ pred tree D []) rfl (ok_stD _ _ _ _ _ _) rfl (askDef D)
      (fun r u hr => defined_1_call f level succ pred tree D r (by simpa [Nat.add_comm] using hr) u) hf hab
    simp -implicitDefEqProofs only [go_sem, stD, e, en] at q0 q3 hu
    simp -implicitDefEqProofs only [go_sem, a_check_checker_defined, q0, q3, hu, ltm_def, e]
  · simp -implicitDefEqProofs only [go_sem, stD, e, en] at q0 q3
    simp -implicitDefEqProofs only [go_sem, a_check_checker_defined, q0, q3, ltm_def, e, Nat.add_le_add_iff_right]
    by_cases hG : G.length ≤ 0
    · have : G = [] := List.eq_nil_of_length_eq_zero (by omega)
      subst this
      rfl
    · rw [if_neg hG]
      rfl
theorem shapes_call (D : DMap) : call T F.check_checker_shapes [.one (.ptr 1 0 0 0)] (sD f level succ pred tree D []) = some (vI (firstE (askShape D) (usesS f)), sD f level succ pred tree D []) := by
  rw [call_eq (fn := a_check_checker_shapes) rfl]
  have hu := uses_call f level (xS succ) (xS pred) (zS tree) (.map 4) F.check_checker_shapes_1 [.ptr 5 0 0 0] (sD f level succ pred tree D [P1]) rfl (ok_stD1 _ _ _ _ _ _) rfl (askShape D)
    (fun r u hr => shapes_1_call f level succ pred tree D r (by simpa [Nat.add_comm] using hr) u) hf hab
  simp -implicitDefEqProofs only [go_sem, stD] at hu
  simp -implicitDefEqProofs only [go_sem, a_check_checker_shapes, stD, hu, ltm_def]
theorem places_call (htl : tree.length ≤ 4294967296) (D : DMap) : call T F.check_checker_places [.one (.ptr 1 0 0 0)] (sD f level succ pred tree D []) = some (vI (firstE (askPlace D tree) (usesS f)), sD f level succ pred tree D []) := by
  rw [call_eq (fn := a_check_checker_places) rfl]
  have hu := uses_call f level (xS succ) (xS pred) (zS tree) (.map 4) F.check_checker_places_1 [.ptr 5 0 0 0] (sD f level succ pred tree D [P1]) rfl (ok_stD1 _ _ _ _ _ _) rfl (askPlace D tree)
    (fun r u hr => places_1_call f level succ pred tree D r (by simpa [Nat.add_comm] using hr) htl u) hf hab
  simp -implicitDefEqProofs only [go_sem, stD] at hu
  simp -implicitDefEqProofs only [go_sem, a_check_checker_places, stD, hu, ltm_def]
end
/-- What is wrong with a function, of which the tree is known. -/
def lookS (f : PFunc) (level : Int) (tree : List Int) : Int :=
  if mayF f = false then 4 else if shapeOk f tree = false then 5 else if typedS f level = false then 6 else
  match dmapS f with
  | (_, some _) => 7
  | (D, none) => if firstE (askDef D) (usesS f) ≠ 0 then firstE (askDef D) (usesS f) else if firstE (askShape D) (usesS f) ≠ 0 then firstE (askShape D) (usesS f) else firstE (askPlace D tree) (usesS f)
def TreeIs (f : PFunc) (tree : List Int) : Prop := tree.length ≤ 4294967296 ∧ (graphOk f = true → call T F.dom_Tree [.agg [.f (.sl ((succS f).map rl)), .f (.sl ((predsS (succS f)).map rl))], vI 0] [] = some (vIs tree, []))
theorem n5 : ((5 : Nat) : Int) = 5 := rfl
theorem wr1 : Go.IntKind.i64.wrap 1 = 1 := by decide
theorem wr2 : Go.IntKind.i64.wrap 2 = 2 := by decide
theorem wr3 : Go.IntKind.i64.wrap 3 = 3 := by decide
theorem wr4 : Go.IntKind.i64.wrap 4 = 4 := by decide
theorem wr5 : Go.IntKind.i64.wrap 5 = 5 := by decide
attribute [go_sem] n5 wr1 wr2 wr3 wr4 wr5
set_option maxRecDepth 10000 in
theorem look_call (f : PFunc) (hf : okF f) (level : Int) (tree : List Int) (hT : TreeIs f tree) : ∃ σ', call T F.check_look [vFunc f, vI level] [] = some (.tup [.one (.ptr 1 0 0 0), vI (lookS f level tree)], σ') ∧ (lookS f level tree = 0 → σ' = sD f level (succS f) (predsS (succS f)) tree (dmapS f).1 []) := by
  rw [call_eq (fn := a_check_look) rfl]
  have hm := code_May_call f hf
  cases e0 : mayF f
  · rw [e0] at hm
    simp -implicitDefEqProofs only [go_sem] at hm
    simp -implicitDefEqProofs only [go_sem, a_check_look, hm, lookS, e0]
    exact ⟨_, rfl, fun h => by first | exact h.elim | simp at h⟩
  rw [e0] at hm
  cases e1 : graphOk f
  · have hs := shape_call_bad f hf level e1
    have e2 : shapeOk f tree = false := by simp [shapeOk, e1]
    simp -implicitDefEqProofs only [go_sem] at hm hs
    simp -implicitDefEqProofs only [go_sem, a_check_look, hm, lookS, e0, e2, check_look_l0_eq, check_look_b0, hs]
    exact ⟨_, rfl, fun h => by first | exact h.elim | simp at h⟩
  have hs := shape_call_ok f hf level e1 tree hT.1 (hT.2 e1)
  cases e2 : shapeFrom (predsS (succS f)) tree 0 f.blocks
  · have e2' : shapeOk f tree = false := by simp [shapeOk, e2]
    rw [e2] at hs
    simp -implicitDefEqProofs only [go_sem] at hm hs
    simp -implicitDefEqProofs only [go_sem, a_check_look, hm, lookS, e0, e2', check_look_l0_eq, check_look_b0, hs]
    exact ⟨_, rfl, fun h => by first | exact h.elim | simp at h⟩
  have e2' : shapeOk f tree = true := by simp [shapeOk, e1, e2]
  have hab := argsOk_of e2
  have ht := typed_call f level (xS (succS f)) (xS (predsS (succS f))) (zS tree) (.f (.lit (.map none))) [O0 f, obCk f level (xS (succS f)) (xS (predsS (succS f))) (zS tree) (.f (.lit (.map none))), O2] rfl (by unfold Ok; simp -implicitDefEqProofs only [go_sem]) hf
  rw [e2] at hs
  cases e3 : typedS f level
  · rw [e3] at ht
    simp -implicitDefEqProofs only [go_sem] at hm hs ht
    simp -implicitDefEqProofs only [go_sem, a_check_look, hm, lookS, e0, e2', e3, check_look_l0_eq, check_look_b0, hs, ht]
    exact ⟨_, rfl, fun h => by first | exact h.elim | simp at h⟩
  rw [e3] at ht
  have hd := defined_call f hf level (succS f) (predsS (succS f)) tree hab
  rcases e4 : dmapS f with ⟨D, _ | G⟩
  · rw [e4] at hd
    by_cases e5 : firstE (askDef D) (usesS f) = 0
    · have hsh := shapes_call f hf level (succS f) (predsS (succS f)) tree hab D
      by_cases e6 : firstE (askShape D) (usesS f) = 0
      · have hpl := places_call f hf level (succS f) (predsS (succS f)) tree hab hT.1 D
        by_cases e7 : firstE (askPlace D tree) (usesS f) = 0
        · simp -implicitDefEqProofs only [go_sem, e5, e6, e7] at hm hs ht hd hsh hpl
          simp -implicitDefEqProofs only [go_sem, a_check_look, hm, lookS, e0, e2', e3, e4, e5, e6, e7, check_look_l0_eq, check_look_b0, hs, ht, hd, hsh, hpl, ltm_def, ne_eq]
          exact ⟨_, rfl, fun _ => rfl⟩
        · simp -implicitDefEqProofs only [go_sem, e5, e6] at hm hs ht hd hsh hpl
          simp -implicitDefEqProofs only [go_sem, a_check_look, hm, lookS, e0, e2', e3, e4, e5, e6, e7, check_look_l0_eq, check_look_b0, hs, ht, hd, hsh, hpl, ltm_def, ne_eq]
          exact ⟨_, rfl, fun h => by first | exact absurd h e7 | exact h.elim⟩
      · simp -implicitDefEqProofs only [go_sem, e5] at hm hs ht hd hsh
        simp -implicitDefEqProofs only [go_sem, a_check_look, hm, lookS, e0, e2', e3, e4, e5, e6, check_look_l0_eq, check_look_b0, hs, ht, hd, hsh, ltm_def, ne_eq]
        exact ⟨_, rfl, fun h => by first | exact absurd h e6 | exact h.elim⟩
    · simp -implicitDefEqProofs only [go_sem] at hm hs ht hd
      simp -implicitDefEqProofs only [go_sem, a_check_look, hm, lookS, e0, e2', e3, e4, e5, check_look_l0_eq, check_look_b0, hs, ht, hd, ltm_def, ne_eq]
      exact ⟨_, rfl, fun h => by first | exact absurd h e5 | exact h.elim⟩
  · rw [e4] at hd
    simp -implicitDefEqProofs only [go_sem] at hm hs ht hd
    simp -implicitDefEqProofs only [go_sem, a_check_look, hm, lookS, e0, e2', e3, e4, check_look_l0_eq, check_look_b0, hs, ht, hd, ltm_def, ne_eq]
    exact ⟨_, rfl, fun h => by first | exact h.elim | simp at h⟩
end AC

namespace AC
open Go Go.A Go.A.Lex
def checkS (f : PFunc) (level : Int) (tree : List Int) : Int := if level < 0 ∨ 2 < level then 1 else lookS f level tree
@[go_sem] theorem Check_call (f : PFunc) (hf : okF f) (level : Int) (tree : List Int) (hT : TreeIs f tree) : call T F.check_Check [vFunc f, vI level] [] = some (vI (checkS f level tree), []) := by
  rw [call_eq (fn := a_check_Check) rfl]
  by_cases c1 : level < 0
  · simp -implicitDefEqProofs only [go_sem, a_check_Check, checkS, c1]
  by_cases c2 : 2 < level
  · simp -implicitDefEqProofs only [go_sem, a_check_Check, checkS, c1, c2]
  obtain ⟨σ', h, _⟩ := look_call f hf level tree hT
  simp -implicitDefEqProofs only [go_sem] at h
  simp -implicitDefEqProofs only [go_sem, a_check_Check, checkS, c1, c2, h]
end AC

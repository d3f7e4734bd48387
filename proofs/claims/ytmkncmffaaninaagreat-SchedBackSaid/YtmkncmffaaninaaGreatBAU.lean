/- A part of the proof of SchedBack. Conditions: none. -/
import Derived.Test.YtmkncmffaaninaaGreatBAT
import Derived.Test.YtmkncmffaaninaaGreatBAS
set_option linter.unusedVariables false
set_option linter.unusedSimpArgs false
set_option linter.unusedSectionVars false
open List renaming drop_eq_getElem_cons → ya,getD_eq_getElem?_getD → yb,drop_length → yd,mem_singleton → yg,drop_zero → yh,getElem_mem → yi,mem_cons → yk,replicate → yl
open Nat renaming le_add_right → yc,le_refl → yj
open Int renaming natCast_zero → ye,lt_irrefl → yf
namespace AC
open Go Go.A Go.A.Lex
structure Use where
 v : Int
 shape : Int × Int
 block : Int
 at' : Int
abbrev zjq : Int:=1048576
def zG (ask : Use → Int) : List Use → Int
 | [] => 0
 | u :: r => if ask u = 0 then zG ask r else ask u
theorem zd6 (ask : Use → Int) : ∀ (a b : List Use),zG ask (a ++ b) = if zG ask a = 0 then zG ask b else zG ask a
 | [],b => by simp [zG]
 | u :: r,b => by
   simp only [List.cons_append,zG,zd6 ask r b]
   by_cases h : ask u = 0 <;> simp [h]
def zac (p : PPhi) (k : Nat) : List Int → List Use
 | [] => []
 | v :: r => ⟨v,(p.bits,1),p.src.getD k 0,zjq⟩ :: zac p (k + 1) r
def zph (p : PPhi) : List Use:=zac p 0 p.args
def zM (o : POp) (i at' : Int) (k : Nat) : List (Int × Int) → List Use
 | [] => []
 | s :: r => ⟨o.args.getD k 0,s,i,at'⟩ :: zM o i at' (k + 1) r
def zqs (o : POp) (i at' : Int) : List Use:=zM o i at' 0 (zbd o)
def zad (i : Int) (k : Nat) : List POp → List Use
 | [] => []
 | o :: r => zqs o i (k : Int) ++ zad i (k + 1) r
def zdn (l : List PPhi) : List Use:=l.flatMap zph
def ziI (f : PFunc) (b : PBlock) : Int:=if b.kind = 0 then f.ret else if b.kind = 2 then 1 else 0
def zc3 (f : PFunc) (i : Int) (b : PBlock) : List Use:=if ziI f b = 0 then [] else [⟨b.arg,(ziI f b,1),i,zjq⟩]
def zfu (f : PFunc) (i : Int) (b : PBlock) : List Use:=zdn b.phis ++ (zad i 0 b.ops ++ zc3 f i b)
def zcF (f : PFunc) (k : Nat) : List PBlock → List Use
 | [] => []
 | b :: r => zfu f (k : Int) b ++ zcF f (k + 1) r
def zdd (f : PFunc) : List Use:=zcF f 0 f.blocks
abbrev zur (f : PFunc) (level : Int) (x y z d : C) : Ob:=.cells 0 8 [[.f (eI f.params),.f (ei f.ret),.f (.sl (f.blocks.map rb)),.f (ei level),x,y,z,d]]
theorem zgc (b : Int) : call T 205 [vI b] [] = some (.agg [.f (ei b),.f (ei 1)],[]):=by
 rw [ze (fn:=zfo) rfl]
 simp -implicitDefEqProofs only [go_sem,zfo]
section
variable (f : PFunc) (hf : okF f) (level : Int) (x y z dd : C) (g : Nat) (caps : List C) (σ : zb) (hck : σ[1]? = some (zur f level x y z dd)) (hσ : Ok σ) (hcaps : C.lts σ.length caps = true) (ask : Use → Int)
 (hask : ∀ (r : zb) (u : Use),Obs.lt (σ.length + r.length) r = true → call T g (vI u.v :: .agg [.f (ei u.shape.1),.f (ei u.shape.2)] :: vI u.block :: vI u.at' :: caps.map V.one) (σ ++ r) = some (vI (ask u),σ ++ r))
abbrev zwX : V:=.one (.fn g [] caps)
include hck hσ hcaps hask
theorem zyT (b : PBlock) (p : PPhi) (hb : okB b) (hp : p ∈ b.phis) (hlen : p.args.length = p.src.length) (i kp : Int) : ∀ (d k : Nat) (a2 a7 a8 a9 a10 a11 a12 a13 a17 a21 a25 a26 a27 a28 a29 a30 a31 a32 a33 a34 a35 a36 a37 : V),p.args.length - k = d → k ≤ p.args.length →
  exec T zbg ⟨[.one (.ptr 1 0 0 0),zwX g caps,a2,vI 0,vI i,.one (.ptr σ.length 0 0 0),.one (.ptr (σ.length + 1) 0 0 0),a7,a8,a9,a10,a11,a12,a13,vL (f.blocks.map rb),vI f.blocks.length,vI i,a17,vL (b.phis.map rp),vI b.phis.length,vI kp,a21,vIs p.args,vI p.args.length,vI k,a25,a26,a27,a28,a29,a30,a31,a32,a33,a34,a35,a36,a37],σ ++ [.cells 0 5 [zw b],.cells 0 4 [ztZ p]],σ.length,σ.length⟩ =
   some (if zG ask (zac p k (p.args.drop k)) = 0 then (.exit 4,⟨[.one (.ptr 1 0 0 0),zwX g caps,vU,vI 0,vI i,.one (.ptr σ.length 0 0 0),vU,vU,vU,vU,vU,vU,vU,vU,vL (f.blocks.map rb),vI f.blocks.length,vI i,vU,vL (b.phis.map rp),vI b.phis.length,vI kp,vU,vU,vU,vU,vU,vU,vU,vU,vU,vU,vU,vU,vU,vU,vU,vU,vU],σ ++ [.cells 0 5 [zw b],.cells 0 4 [ztZ p]],σ.length,σ.length⟩)
    else (.goto 0,⟨[vU,vU,vU,vI (zG ask (zac p k (p.args.drop k))),vU,vU,vU,vU,vU,vU,vU,vU,vU,vU,vU,vU,vU,vU,vU,vU,vU,vU,vU,vU,vU,vU,vU,vU,vU,vU,vU,vU,vU,vU,vU,vU,vU,vU],σ,σ.length,σ.length⟩)):=by
 intro d
 have hcap:=fun k => zcM (yc σ.length k) caps hcaps
 have hl : p.args.length ≤ 4294967296:=(hb.phi p hp).2
 induction d with
 | zero =>
   intro k a2 a7 a8 a9 a10 a11 a12 a13 a17 a21 a25 a26 a27 a28 a29 a30 a31 a32 a33 a34 a35 a36 a37 h1 h2
   have hk : k = p.args.length:=by omega
   subst hk
   rw [xl zbg rfl,zct]
   simp -implicitDefEqProofs only [go_sem,yf,yd,zac,zG]
 | succ d ih =>
   intro k a2 a7 a8 a9 a10 a11 a12 a13 a17 a21 a25 a26 a27 a28 a29 a30 a31 a32 a33 a34 a35 a36 a37 h1 h2
   have hk : k < p.args.length:=by omega
   have hk2 : k < p.src.length:=by omega
   have hd : p.args.drop k = p.args[k] :: p.args.drop (k + 1):=ya hk
   have hsc:=zgc p.bits
   have ha:=hask [.cells 0 5 [zw b],.cells 0 4 [ztZ p]] ⟨p.args[k],(p.bits,1),p.src[k],zjq⟩ (by simp -implicitDefEqProofs only [go_sem])
   have hg : p.src.getD k 0 = p.src[k]:=by simp [hk2]
   rw [xl zbg rfl,zct,hd,zac,zG,hg]
   simp -implicitDefEqProofs only [go_sem,zjq] at hsc ha
   by_cases c : ask ⟨p.args[k],(p.bits,1),p.src[k],zjq⟩ = 0
   ·have c' : ask { v:=p.args[k],shape:=(p.bits,1),block:=p.src[k],at':=1048576 } = 0:=c
    have:=ih (k + 1) vU vU vU vU vU vU vU vU vU vU vU vU vU vU vU vU vU vU vU vU vU vU vU (by omega) (by omega)
    simp -implicitDefEqProofs only [go_sem] at this
    simp -implicitDefEqProofs only [go_sem,ilt hk,zH hk,zH hk2,ri,hsc,ha,c',zd hk hl,zjq,hcap,Ok.up hσ,zeW hck,Ok.at hσ,zfk hck,this]
   ·have c' : ¬ ask { v:=p.args[k],shape:=(p.bits,1),block:=p.src[k],at':=1048576 } = 0:=c
    simp -implicitDefEqProofs only [go_sem,ilt hk,zH hk,zH hk2,ri,hsc,ha,c',zjq,Ok.at hσ]
def znL (b : PBlock) : Prop:=(∀ p ∈ b.phis,p.args.length = p.src.length) ∧ ∀ o ∈ b.ops,(zbd o).length ≤ o.args.length
theorem zz6 (b : PBlock) (hb : okB b) (hab : znL b) (i : Int) : ∀ (d k : Nat) (a2 a6 a7 a8 a9 a10 a11 a12 a13 a17 a21 a22 a23 a24 a25 a26 a27 a28 a29 a30 a31 a32 a33 a34 a35 a36 a37 : V),b.phis.length - k = d → k ≤ b.phis.length →
  exec T zbh ⟨[.one (.ptr 1 0 0 0),zwX g caps,a2,vI 0,vI i,.one (.ptr σ.length 0 0 0),a6,a7,a8,a9,a10,a11,a12,a13,vL (f.blocks.map rb),vI f.blocks.length,vI i,a17,vL (b.phis.map rp),vI b.phis.length,vI k,a21,a22,a23,a24,a25,a26,a27,a28,a29,a30,a31,a32,a33,a34,a35,a36,a37],σ ++ [.cells 0 5 [zw b]],σ.length,σ.length⟩ =
   some (if zG ask (zdn (b.phis.drop k)) = 0 then (.exit 2,⟨[.one (.ptr 1 0 0 0),zwX g caps,vU,vI 0,vI i,.one (.ptr σ.length 0 0 0),vU,vU,vU,vU,vU,vU,vU,vU,vL (f.blocks.map rb),vI f.blocks.length,vI i,vU,vU,vU,vU,vU,vU,vU,vU,vU,vU,vU,vU,vU,vU,vU,vU,vU,vU,vU,vU,vU],σ ++ [.cells 0 5 [zw b]],σ.length,σ.length⟩)
    else (.goto 0,⟨[vU,vU,vU,vI (zG ask (zdn (b.phis.drop k))),vU,vU,vU,vU,vU,vU,vU,vU,vU,vU,vU,vU,vU,vU,vU,vU,vU,vU,vU,vU,vU,vU,vU,vU,vU,vU,vU,vU,vU,vU,vU,vU,vU,vU],σ,σ.length,σ.length⟩)):=by
 intro d
 have hcap:=fun k => zcM (yc σ.length k) caps hcaps
 induction d with
 | zero =>
   intro k a2 a6 a7 a8 a9 a10 a11 a12 a13 a17 a21 a22 a23 a24 a25 a26 a27 a28 a29 a30 a31 a32 a33 a34 a35 a36 a37 h1 h2
   have hk : k = b.phis.length:=by omega
   subst hk
   rw [xl zbh rfl,zcm]
   simp -implicitDefEqProofs only [go_sem,yf,yd,zdn,List.flatMap_nil,zG]
 | succ d ih =>
   intro k a2 a6 a7 a8 a9 a10 a11 a12 a13 a17 a21 a22 a23 a24 a25 a26 a27 a28 a29 a30 a31 a32 a33 a34 a35 a36 a37 h1 h2
   have hk : k < b.phis.length:=by omega
   have hd : b.phis.drop k = b.phis[k] :: b.phis.drop (k + 1):=ya hk
   have hm:=yi hk
   have h5:=fun a2 a7 a8 a9 a10 a11 a12 a13 a17 a21 a25 a26 a27 a28 a29 a30 a31 a32 a33 a34 a35 a36 a37 => zyT f level x y z dd g caps σ hck hσ hcaps ask hask b b.phis[k] hb hm (hab.1 _ hm) i k b.phis[k].args.length 0 a2 a7 a8 a9 a10 a11 a12 a13 a17 a21 a25 a26 a27 a28 a29 a30 a31 a32 a33 a34 a35 a36 a37 (by omega) (by omega)
   have e : zdn (b.phis[k] :: b.phis.drop (k + 1)) = zph b.phis[k] ++ zdn (b.phis.drop (k + 1)):=by rw [zdn,List.flatMap_cons]; rfl
   rw [xl zbh rfl,zcm,hd,e,zd6]
   simp only [yh,ye] at h5
   have e2 : zac b.phis[k] 0 b.phis[k].args = zph b.phis[k]:=rfl
   rw [e2] at h5
   by_cases c : zG ask (zph b.phis[k]) = 0
   ·have:=ih (k + 1) vU vU vU vU vU vU vU vU vU vU vU vU vU vU vU vU vU vU vU vU vU vU vU vU vU vU vU (by omega) (by omega)
    simp -implicitDefEqProofs only [go_sem,c] at this h5
    simp -implicitDefEqProofs only [go_sem,ilt hk,zH hk,rp,h5,c,zd hk hb.phis,hcap,Ok.up hσ,zeW hck,Ok.at hσ,zfk hck,this]
   ·simp -implicitDefEqProofs only [go_sem,c] at h5
    simp -implicitDefEqProofs only [go_sem,ilt hk,zH hk,rp,h5,c]
theorem zz5 (b : PBlock) (o : POp) (hb : okB b) (ho : o ∈ b.ops) (hlen : (zbd o).length ≤ o.args.length) (i ko : Int) : ∀ (d k : Nat) (a2 a6 a7 a8 a11 a12 a13 a17 a18 a19 a20 a21 a22 a23 a24 a25 a26 a30 a34 a35 a36 a37 : V),(zbd o).length - k = d → k ≤ (zbd o).length →
  exec T zbk ⟨[.one (.ptr 1 0 0 0),zwX g caps,a2,vI 0,vI i,.one (.ptr σ.length 0 0 0),a6,a7,a8,vI ko,.one (.ptr (σ.length + 1) 0 0 0),a11,a12,a13,vL (f.blocks.map rb),vI f.blocks.length,vI i,a17,a18,a19,a20,a21,a22,a23,a24,a25,a26,vL (b.ops.map ro),vI b.ops.length,vI ko,a30,vSs (zbd o),vI (zbd o).length,vI k,a34,a35,a36,a37],σ ++ [.cells 0 5 [zw b],.cells 0 6 [cOp o]],σ.length,σ.length⟩ =
   some (if zG ask (zM o i ko k ((zbd o).drop k)) = 0 then (.exit 8,⟨[.one (.ptr 1 0 0 0),zwX g caps,vU,vI 0,vI i,.one (.ptr σ.length 0 0 0),vU,vU,vU,vU,vU,vU,vU,vU,vL (f.blocks.map rb),vI f.blocks.length,vI i,vU,vU,vU,vU,vU,vU,vU,vU,vU,vU,vL (b.ops.map ro),vI b.ops.length,vI ko,vU,vU,vU,vU,vU,vU,vU,vU],σ ++ [.cells 0 5 [zw b],.cells 0 6 [cOp o]],σ.length,σ.length⟩)
    else (.goto 0,⟨[vU,vU,vU,vI (zG ask (zM o i ko k ((zbd o).drop k))),vU,vU,vU,vU,vU,vU,vU,vU,vU,vU,vU,vU,vU,vU,vU,vU,vU,vU,vU,vU,vU,vU,vU,vU,vU,vU,vU,vU,vU,vU,vU,vU,vU,vU],σ,σ.length,σ.length⟩)):=by
 intro d
 have hcap:=fun k => zcM (yc σ.length k) caps hcaps
 have hl : (zbd o).length ≤ 4294967296:=by have:=(hb.op o ho).2; omega
 induction d with
 | zero =>
   intro k a2 a6 a7 a8 a11 a12 a13 a17 a18 a19 a20 a21 a22 a23 a24 a25 a26 a30 a34 a35 a36 a37 h1 h2
   have hk : k = (zbd o).length:=by omega
   subst hk
   rw [xl zbk rfl,zcu]
   simp -implicitDefEqProofs only [go_sem,yf,yd,zM,zG]
 | succ d ih =>
   intro k a2 a6 a7 a8 a11 a12 a13 a17 a18 a19 a20 a21 a22 a23 a24 a25 a26 a30 a34 a35 a36 a37 h1 h2
   have hk : k < (zbd o).length:=by omega
   have hk2 : k < o.args.length:=by omega
   have hd : (zbd o).drop k = (zbd o)[k] :: (zbd o).drop (k + 1):=ya hk
   have ha:=hask [.cells 0 5 [zw b],.cells 0 6 [cOp o],.cells 0 2 [[.f (ei (zbd o)[k].1),.f (ei (zbd o)[k].2)]]] ⟨o.args[k],(zbd o)[k],i,ko⟩ (by simp -implicitDefEqProofs only [go_sem])
   have hg : o.args.getD k 0 = o.args[k]:=by simp [hk2]
   rw [xl zbk rfl,zcu,hd,zM,zG,hg]
   simp -implicitDefEqProofs only [go_sem] at ha
   by_cases c : ask ⟨o.args[k],(zbd o)[k],i,ko⟩ = 0
   ·have:=ih (k + 1) vU vU vU vU vU vU vU vU vU vU vU vU vU vU vU vU vU vU vU vU vU vU (by omega) (by omega)
    simp -implicitDefEqProofs only [go_sem,c] at this ha
    simp -implicitDefEqProofs only [go_sem,ilt hk,zH hk,zH hk2,ri,rs,ha,c,zd hk hl,hcap,Ok.up hσ,zeW hck,Ok.at hσ,zfk hck,this]
   ·simp -implicitDefEqProofs only [go_sem,ilt hk,zH hk,zH hk2,ri,rs,ha,c,Ok.at hσ]
theorem zz0 (b : PBlock) (hb : okB b) (hab : znL b) (i : Int) : ∀ (d k : Nat) (a2 a6 a7 a8 a9 a10 a11 a12 a13 a17 a18 a19 a20 a21 a22 a23 a24 a25 a26 a30 a31 a32 a33 a34 a35 a36 a37 : V),b.ops.length - k = d → k ≤ b.ops.length →
  exec T za7 ⟨[.one (.ptr 1 0 0 0),zwX g caps,a2,vI 0,vI i,.one (.ptr σ.length 0 0 0),a6,a7,a8,a9,a10,a11,a12,a13,vL (f.blocks.map rb),vI f.blocks.length,vI i,a17,a18,a19,a20,a21,a22,a23,a24,a25,a26,vL (b.ops.map ro),vI b.ops.length,vI k,a30,a31,a32,a33,a34,a35,a36,a37],σ ++ [.cells 0 5 [zw b]],σ.length,σ.length⟩ =
   some (if zG ask (zad i k (b.ops.drop k)) = 0 then (.exit 6,⟨[.one (.ptr 1 0 0 0),zwX g caps,vU,vI 0,vI i,.one (.ptr σ.length 0 0 0),vU,vU,vU,vU,vU,vU,vU,vU,vL (f.blocks.map rb),vI f.blocks.length,vI i,vU,vU,vU,vU,vU,vU,vU,vU,vU,vU,vU,vU,vU,vU,vU,vU,vU,vU,vU,vU,vU],σ ++ [.cells 0 5 [zw b]],σ.length,σ.length⟩)
    else (.goto 0,⟨[vU,vU,vU,vI (zG ask (zad i k (b.ops.drop k))),vU,vU,vU,vU,vU,vU,vU,vU,vU,vU,vU,vU,vU,vU,vU,vU,vU,vU,vU,vU,vU,vU,vU,vU,vU,vU,vU,vU,vU,vU,vU,vU,vU,vU],σ,σ.length,σ.length⟩)):=by
 intro d
 have hcap:=fun k => zcM (yc σ.length k) caps hcaps
 induction d with
 | zero =>
   intro k a2 a6 a7 a8 a9 a10 a11 a12 a13 a17 a18 a19 a20 a21 a22 a23 a24 a25 a26 a30 a31 a32 a33 a34 a35 a36 a37 h1 h2
   have hk : k = b.ops.length:=by omega
   subst hk
   rw [xl za7 rfl,zcp]
   simp -implicitDefEqProofs only [go_sem,yf,yd,zad,zG]
 | succ d ih =>
   intro k a2 a6 a7 a8 a9 a10 a11 a12 a13 a17 a18 a19 a20 a21 a22 a23 a24 a25 a26 a30 a31 a32 a33 a34 a35 a36 a37 h1 h2
   have hk : k < b.ops.length:=by omega
   have hd : b.ops.drop k = b.ops[k] :: b.ops.drop (k + 1):=ya hk
   have hm:=yi hk
   have ht:=zlK b.ops[k] (hb.op _ hm).1 (hb.op _ hm).2
   have h7:=fun a2 a6 a7 a8 a11 a12 a13 a17 a18 a19 a20 a21 a22 a23 a24 a25 a26 a30 a34 a35 a36 a37 => zz5 f level x y z dd g caps σ hck hσ hcaps ask hask b b.ops[k] hb hm (hab.2 _ hm) i k (zbd b.ops[k]).length 0 a2 a6 a7 a8 a11 a12 a13 a17 a18 a19 a20 a21 a22 a23 a24 a25 a26 a30 a34 a35 a36 a37 (by omega) (by omega)
   rw [xl za7 rfl,zcp,hd,zad,zd6]
   simp only [yh,ye] at h7
   have e2 : zM b.ops[k] i k 0 (zbd b.ops[k]) = zqs b.ops[k] i k:=rfl
   rw [e2] at h7
   simp -implicitDefEqProofs only [go_sem] at ht
   by_cases c : zG ask (zqs b.ops[k] i k) = 0
   ·have:=ih (k + 1) vU vU vU vU vU vU vU vU vU vU vU vU vU vU vU vU vU vU vU vU vU vU vU vU vU vU vU (by omega) (by omega)
    simp -implicitDefEqProofs only [go_sem,c] at this h7
    simp -implicitDefEqProofs only [go_sem,ilt hk,zH hk,ro,ht,h7,c,zd hk hb.ops,hcap,Ok.up hσ,zeW hck,Ok.at hσ,zfk hck,this]
   ·simp -implicitDefEqProofs only [go_sem,c] at h7
    simp -implicitDefEqProofs only [go_sem,ilt hk,zH hk,ro,ht,h7,c]
theorem zzG (hf : okF f) (hab : ∀ b ∈ f.blocks,znL b) : ∀ (d k : Nat) (a2 a4 a5 a6 a7 a8 a9 a10 a11 a12 a13 a17 a18 a19 a20 a21 a22 a23 a24 a25 a26 a27 a28 a29 a30 a31 a32 a33 a34 a35 a36 a37 : V),f.blocks.length - k = d → k ≤ f.blocks.length →
  exec T zbn ⟨[.one (.ptr 1 0 0 0),zwX g caps,a2,vI 0,a4,a5,a6,a7,a8,a9,a10,a11,a12,a13,vL (f.blocks.map rb),vI f.blocks.length,vI k,a17,a18,a19,a20,a21,a22,a23,a24,a25,a26,a27,a28,a29,a30,a31,a32,a33,a34,a35,a36,a37],σ,σ.length,σ.length⟩ =
   some (if zG ask (zcF f k (f.blocks.drop k)) = 0 then (.exit 0,⟨[vU,vU,vU,vI 0,vU,vU,vU,vU,vU,vU,vU,vU,vU,vU,vU,vU,vU,vU,vU,vU,vU,vU,vU,vU,vU,vU,vU,vU,vU,vU,vU,vU,vU,vU,vU,vU,vU,vU],σ,σ.length,σ.length⟩)
    else (.goto 0,⟨[vU,vU,vU,vI (zG ask (zcF f k (f.blocks.drop k))),vU,vU,vU,vU,vU,vU,vU,vU,vU,vU,vU,vU,vU,vU,vU,vU,vU,vU,vU,vU,vU,vU,vU,vU,vU,vU,vU,vU,vU,vU,vU,vU,vU,vU],σ,σ.length,σ.length⟩)):=by
 intro d
 have hcap:=fun k => zcM (yc σ.length k) caps hcaps
 have hlow:=zdw hck
 induction d with
 | zero =>
   intro k a2 a4 a5 a6 a7 a8 a9 a10 a11 a12 a13 a17 a18 a19 a20 a21 a22 a23 a24 a25 a26 a27 a28 a29 a30 a31 a32 a33 a34 a35 a36 a37 h1 h2
   have hk : k = f.blocks.length:=by omega
   subst hk
   rw [xl zbn rfl,zcx]
   simp -implicitDefEqProofs only [go_sem,yf,yd,zcF,zG]
 | succ d ih =>
   intro k a2 a4 a5 a6 a7 a8 a9 a10 a11 a12 a13 a17 a18 a19 a20 a21 a22 a23 a24 a25 a26 a27 a28 a29 a30 a31 a32 a33 a34 a35 a36 a37 h1 h2
   have hk : k < f.blocks.length:=by omega
   have hd : f.blocks.drop k = f.blocks[k] :: f.blocks.drop (k + 1):=ya hk
   have hm:=yi hk
   have hb:=hf.block _ hm
   have h6:=fun a2 a6 a7 a8 a9 a10 a11 a12 a13 a17 a21 a22 a23 a24 a25 a26 a27 a28 a29 a30 a31 a32 a33 a34 a35 a36 a37 => zz6 f level x y z dd g caps σ hck hσ hcaps ask hask f.blocks[k] hb (hab _ hm) k f.blocks[k].phis.length 0 a2 a6 a7 a8 a9 a10 a11 a12 a13 a17 a21 a22 a23 a24 a25 a26 a27 a28 a29 a30 a31 a32 a33 a34 a35 a36 a37 (by omega) (by omega)
   have h8:=fun a2 a6 a7 a8 a9 a10 a11 a12 a13 a17 a18 a19 a20 a21 a22 a23 a24 a25 a26 a30 a31 a32 a33 a34 a35 a36 a37 => zz0 f level x y z dd g caps σ hck hσ hcaps ask hask f.blocks[k] hb (hab _ hm) k f.blocks[k].ops.length 0 a2 a6 a7 a8 a9 a10 a11 a12 a13 a17 a18 a19 a20 a21 a22 a23 a24 a25 a26 a30 a31 a32 a33 a34 a35 a36 a37 (by omega) (by omega)
   rw [xl zbn rfl,zcx,hd,zcF,zd6,zfu,zd6,zd6]
   simp only [yh,ye] at h6 h8
   by_cases c6 : zG ask (zdn f.blocks[k].phis) = 0
   ·by_cases c8 : zG ask (zad k 0 f.blocks[k].ops) = 0
    ·have:=ih (k + 1) vU vU vU vU vU vU vU vU vU vU vU vU vU vU vU vU vU vU vU vU vU vU vU vU vU vU vU vU vU vU vU vU (by omega) (by omega)
     simp -implicitDefEqProofs only [go_sem,c6,c8] at this h6 h8
     have ha:=fun u => hask [.cells 0 5 [zw f.blocks[k]],.mp [(0,V.one (.f (.lit (.int .i64 f.ret)))),(2,V.one (.f (.lit (.int .i64 1))))]] ⟨f.blocks[k].arg,(u,1),k,zjq⟩ (by simp -implicitDefEqProofs only [go_sem])
     have hsc:=fun u => zgc u
     simp -implicitDefEqProofs only [go_sem,zjq] at ha hsc
     by_cases k0 : f.blocks[k].kind = 0
     ·have k0' : (0 : Int) = f.blocks[k].kind:=k0.symm
      by_cases r0 : f.ret = 0
      ·have eu : zc3 f k f.blocks[k] = []:=by simp [zc3,ziI,k0,r0]
       simp -implicitDefEqProofs only [go_sem,ilt hk,zH hk,rb,h6,h8,c6,c8,eu,zG,hlow,hck,eq_true k0',eq_true r0,r0,zd hk hf.blocks,hcap,Ok.up hσ,zeW hck,Ok.at hσ,zfk hck,hcaps,this]
      ·have eu : zc3 f k f.blocks[k] = [⟨f.blocks[k].arg,(f.ret,1),k,1048576⟩]:=by simp [zc3,ziI,k0,r0]
       by_cases c : ask ⟨f.blocks[k].arg,(f.ret,1),k,1048576⟩ = 0
       ·simp -implicitDefEqProofs only [go_sem,ilt hk,zH hk,rb,h6,h8,c6,c8,eu,zG,hlow,hck,eq_true k0',r0,hsc,ha,c,zd hk hf.blocks,hcap,Ok.up hσ,zeW hck,Ok.at hσ,zfk hck,hcaps,this]
       ·simp -implicitDefEqProofs only [go_sem,ilt hk,zH hk,rb,h6,h8,c6,c8,eu,zG,hlow,hck,eq_true k0',r0,hsc,ha,c,hcap,Ok.up hσ,zeW hck,Ok.at hσ,zfk hck,hcaps]
     ·have k0' : ¬ (0 : Int) = f.blocks[k].kind:=fun e => k0 e.symm
      by_cases k2 : f.blocks[k].kind = 2
      ·have k2' : (2 : Int) = f.blocks[k].kind:=k2.symm
       have eu : zc3 f k f.blocks[k] = [⟨f.blocks[k].arg,(1,1),k,1048576⟩]:=by simp [zc3,ziI,k0,k2]
       by_cases c : ask ⟨f.blocks[k].arg,(1,1),k,1048576⟩ = 0
       ·simp -implicitDefEqProofs only [go_sem,ilt hk,zH hk,rb,h6,h8,c6,c8,eu,zG,hlow,hck,k0',eq_true k2',hsc,ha,c,zd hk hf.blocks,hcap,Ok.up hσ,zeW hck,Ok.at hσ,zfk hck,hcaps,this]
       ·simp -implicitDefEqProofs only [go_sem,ilt hk,zH hk,rb,h6,h8,c6,c8,eu,zG,hlow,hck,k0',eq_true k2',hsc,ha,c,hcap,Ok.up hσ,zeW hck,Ok.at hσ,zfk hck,hcaps]
      ·have k2' : ¬ (2 : Int) = f.blocks[k].kind:=fun e => k2 e.symm
       have eu : zc3 f k f.blocks[k] = []:=by simp [zc3,ziI,k0,k2]
       simp -implicitDefEqProofs only [go_sem,ilt hk,zH hk,rb,h6,h8,c6,c8,eu,zG,hlow,hck,k0',k2',zd hk hf.blocks,hcap,Ok.up hσ,zeW hck,Ok.at hσ,zfk hck,hcaps,this]
    ·simp -implicitDefEqProofs only [go_sem,c6,c8] at h6 h8
     simp -implicitDefEqProofs only [go_sem,ilt hk,zH hk,rb,h6,h8,c6,c8]
   ·simp -implicitDefEqProofs only [go_sem,c6] at h6
    simp -implicitDefEqProofs only [go_sem,ilt hk,zH hk,rb,h6,c6]
theorem zl6 (hf : okF f) (hab : ∀ b ∈ f.blocks,znL b) : call T 207 [.one (.ptr 1 0 0 0),zwX g caps] σ = some (vI (zG ask (zdd f)),σ):=by
 rw [ze (fn:=zbs) rfl]
 have h:=fun a2 a4 a5 a6 a7 a8 a9 a10 a11 a12 a13 a17 a18 a19 a20 a21 a22 a23 a24 a25 a26 a27 a28 a29 a30 a31 a32 a33 a34 a35 a36 a37 => zzG f level x y z dd g caps σ hck hσ hcaps ask hask hf hab f.blocks.length 0 a2 a4 a5 a6 a7 a8 a9 a10 a11 a12 a13 a17 a18 a19 a20 a21 a22 a23 a24 a25 a26 a27 a28 a29 a30 a31 a32 a33 a34 a35 a36 a37 (by omega) (by omega)
 simp only [yh,ye] at h
 have hlow:=zdw hck []
 have e : zcF f 0 f.blocks = zdd f:=rfl
 rw [e] at h
 by_cases c : zG ask (zdd f) = 0
 ·simp -implicitDefEqProofs only [go_sem,c] at h
  simp -implicitDefEqProofs only [go_sem,zbs,zb7,zeM,hck,h,c]
 ·simp -implicitDefEqProofs only [go_sem,c] at h
  simp -implicitDefEqProofs only [go_sem,zbs,zeM]
  rw [zb7]
  simp -implicitDefEqProofs only [go_sem,hck,h,zeM]
end
end AC
namespace AC
open Go Go.A Go.A.Lex
def rU (u : Use) : List Fz:=[ei u.v,ei u.block,ei u.at',ei u.shape.1,ei u.shape.2]
abbrev vUs (l : List Use) : V:=.one (.f (.sl (l.map rU)))
attribute [go_sem] vUs
def zB (v : Int) : Nat → List Use → Int
 | _,[] => -1
 | k,u :: r => if u.v = v then (k : Int) else zB v (k + 1) r
def zcQ : Nat → List Int → List Use
 | _,[] => []
 | k,b :: r => ⟨(k : Int) + 1,(b,1),-1,0⟩ :: zcQ (k + 1) r
def zeA (i : Int) (l : List PPhi) : List Use:=l.map fun p => ⟨p.dst,(p.bits,1),i,-1⟩
def zb2 (i : Int) : Nat → List POp → List Use
 | _,[] => []
 | k,o :: r => if 0 < (zY o).1 then ⟨o.dst,zY o,i,(k : Int)⟩ :: zb2 i (k + 1) r else zb2 i (k + 1) r
def zJ : Nat → List PBlock → List Use
 | _,[] => []
 | k,b :: r => zeA k b.phis ++ (zb2 k 0 b.ops ++ zJ (k + 1) r)
def zO (f : PFunc) : List Use:=zcQ 0 f.params ++ zJ 0 f.blocks
section
variable (f : PFunc) (hf : okF f)
include hf
end
end AC
namespace AC
open Go Go.A Go.A.Lex
def zey (u : Use) : Use:=⟨u.v,u.shape,u.block,if u.at' = 1048576 then 1000 else u.at'⟩
section
variable (f : PFunc) (hf : okF f) (hret : ¬ f.ret = 0)
include hf
include hret
end
end AC
namespace AC
open Go Go.A Go.A.Lex
def rbo (b : Bool) : List Fz:=[.lit (.bool b)]
abbrev vBs (l : List Bool) : V:=.one (.f (.sl (l.map rbo)))
attribute [go_sem] vBs
def mark (w : Int) (out : List Bool) (y : Int) : List Bool:=if y = w then out else out.set y.toNat true
theorem zlY (w : Int) (out : List Bool) (y : Int) : (mark w out y).length = out.length:=by unfold mark; split <;> simp
theorem zgZ (w : Int) : ∀ (l : List Int) (out : List Bool),(l.foldl (mark w) out).length = out.length
 | [],_ => rfl
 | y :: l,out => by rw [List.foldl_cons,zgZ w l,zlY]
theorem zuV {w : Int} {out : List Bool} {y : Int} {i : Nat} (h : out.getD i false = true) : (mark w out y).getD i false = true:=by
 unfold mark
 split
 ·exact h
 ·have hi : i < out.length:=by
   rcases Nat.lt_or_ge i out.length with h1 | h1
   ·exact h1
   ·rw [yb,List.getElem?_eq_none h1] at h
    cases h
  by_cases c : y.toNat = i
  ·rw [c,yb,List.getElem?_set_self hi]
   rfl
  ·rw [yb,List.getElem?_set_ne c,← yb]
   exact h
def zjX (w : Int) : Nat → List (List Int) → List Bool → List Bool
 | _,[],out => out
 | i,l :: r,out => zjX w (i + 1) r (if out.getD i false = true then l.foldl (mark w) out else out)
theorem zhb (w : Int) : ∀ (r : List (List Int)) (i : Nat) (out : List Bool),(zjX w i r out).length = out.length
 | [],_,_ => rfl
 | l :: r,i,out => by
   rw [zjX,zhb w r]
   split
   ·exact zgZ w l out
   ·rfl
def zdJ (w : Int) (succ : List (List Int)) : Nat → List Bool → List Bool
 | 0,out => out
 | r + 1,out => zdJ w succ r (zjX w 0 succ out)
theorem zjb (w : Int) (succ : List (List Int)) : ∀ (r : Nat) (out : List Bool),(zdJ w succ r out).length = out.length
 | 0,_ => rfl
 | r + 1,out => by rw [zdJ,zjb w succ r,zhb]
def zjD (succ : List (List Int)) (root w : Int) : List Bool:=if root = w then yl succ.length false else zdJ w succ succ.length ((yl succ.length false).set root.toNat true)
section
variable (succ pred : List (List Int)) (hn : succ.length ≤ 4294967296) (hl : ∀ l ∈ succ,l.length ≤ 4294967296) (hr : ∀ l ∈ succ,∀ y ∈ l,0 ≤ y ∧ y < (succ.length : Int)) (w : Int)
include hn hl hr
end
end AC
namespace Dm
section
variable (E : Int → Int → Prop) (root : Int)
inductive Way : Int → List Int → Prop
 | root : Way root [root]
 | step {p x : Int} {l : List Int} : Way p l → E p x → Way x (x :: l)
def Dom (d x : Int) : Prop:=∀ l,Way E root x l → d ∈ l
structure Ord (O : Int → Prop) (pos : Int → Nat) : Prop where
 rt : O root
 inj : ∀ a b,O a → O b → pos a = pos b → a = b
 low : ∀ a,O a → pos root ≤ pos a
 par : ∀ x,O x → x ≠ root → ∃ p,O p ∧ E p x ∧ pos p < pos x
 cl : ∀ p x,O p → E p x → O x
inductive Inc (pos : Int → Nat) : Int → Int → Prop
 | refl (a : Int) : Inc pos a a
 | step {a p x : Int} : Inc pos a p → E p x → pos p < pos x → Inc pos a x
inductive Anc (T : Int → Int) : Int → Int → Prop
 | refl (x : Int) : Anc T x x
 | step {y x : Int} : x ≠ root → Anc T y (T x) → Anc T y x
def Com (T : Int → Int) (x y : Int) : Prop:=∀ p,E p x → T p ≠ -2 → Anc root T y p
def St (T : Int → Int) (x : Int) : Prop:=T x ≠ -2 ∧ ∀ y,Anc root T y (T x) ↔ Com E root T x y
structure Inv (O : Int → Prop) (pos : Int → Nat) (T : Int → Int) : Prop where
 out : ∀ x,¬ O x → T x = -2
 rt : T root = root
 nn : ∀ x,O x → x ≠ -2
 par : ∀ x,x ≠ root → T x ≠ -2 → T (T x) ≠ -2 ∧ pos (T x) < pos x
 A : ∀ x d,x ≠ root → T x ≠ -2 → Dom E root d x → d ≠ x → Dom E root d (T x)
 P : ∀ x,x ≠ root → T x ≠ -2 → Inc E pos (T x) x
 B : ∀ x,x ≠ root → T x ≠ -2 → ∀ y,Com E root T x y → pos y ≤ pos (T x)
end
variable {E : Int → Int → Prop} {root : Int} {O : Int → Prop} {pos : Int → Nat}
section
variable (H : Ord E root O pos)
include H
theorem zse {x : Int} {l : List Int} (h : Way E root x l) : O x ∧ ∀ y ∈ l,O y:=by
 induction h with
 | root => exact ⟨H.rt,fun y hy => by rw [yg.1 hy]; exact H.rt⟩
 | step h e ih =>
   have:=H.cl _ _ ih.1 e
   refine ⟨this,fun y hy => ?_⟩
   rcases yk.1 hy with rfl | hy
   ·exact this
   ·exact ih.2 y hy
theorem zyN : ∀ (n : Nat) (x : Int),pos x ≤ n → O x → ∃ l,Way E root x l ∧ ∀ y ∈ l,y = x ∨ pos y < pos x:=by
 intro n
 induction n with
 | zero =>
   intro x hx ho
   by_cases c : x = root
   ·subst c
    exact ⟨_,.root,fun y hy => .inl (yg.1 hy)⟩
   ·obtain ⟨p,_,_,h⟩:=H.par x ho c
    omega
 | succ n ih =>
   intro x hx ho
   by_cases c : x = root
   ·subst c
    exact ⟨_,.root,fun y hy => .inl (yg.1 hy)⟩
   ·obtain ⟨p,hp,e,h⟩:=H.par x ho c
    obtain ⟨l,w,hl⟩:=ih p (by omega) hp
    refine ⟨_,.step w e,fun y hy => ?_⟩
    rcases yk.1 hy with rfl | hy
    ·exact .inl rfl
    ·rcases hl y hy with rfl | h2
     ·exact .inr h
     ·exact .inr (by omega)
theorem zoD {d x : Int} (hx : O x) (h : Dom E root d x) : d = x ∨ pos d < pos x:=by
 obtain ⟨l,w,hl⟩:=zyN H _ x (yj _) hx
 exact hl d (h l w)
theorem zBG {d x : Int} (hx : O x) (h : Dom E root d x) : O d:=by
 obtain ⟨l,w,hl⟩:=zyN H _ x (yj _) hx
 exact (zse H w).2 d (h l w)
end
theorem zsl {d p x : Int} (e : E p x) (h : Dom E root d x) (hd : d ≠ x) : Dom E root d p:=by
 intro l w
 rcases yk.1 (h _ (.step w e)) with h | h
 ·exact absurd h hd
 ·exact h
theorem zxu (x : Int) : Dom E root x x:=by
 intro l w
 cases w with
 | root => simp
 | step => simp
theorem zzt {a b : Int} (h : Inc E pos a b) : a = b ∨ pos a < pos b:=by
 induction h with
 | refl => exact .inl rfl
 | step h e l ih => rcases ih with rfl | ih <;> right <;> omega
theorem zuT {a b c : Int} (h : Inc E pos a b) (k : Inc E pos b c) : Inc E pos a c:=by
 induction k with
 | refl => exact h
 | step k e l ih => exact .step ih e l
theorem zvA {T : Int → Int} {a b c : Int} (h : Anc root T a b) (k : Anc root T b c) : Anc root T a c:=by
 induction k with
 | refl => exact h
 | step n k ih => exact .step n ih
theorem zkR {T : Int → Int} {y x : Int} (h : Anc root T y x) (hn : y ≠ x) : x ≠ root ∧ Anc root T y (T x):=by
 cases h with
 | refl => exact absurd rfl hn
 | step n h => exact ⟨n,h⟩
section
variable (H : Ord E root O pos) {T : Int → Int} (I : Inv E root O pos T)
include H I
theorem zgB {x : Int} (h : T x ≠ -2) : O x:=by
 by_cases c : O x
 ·exact c
 ·exact absurd (I.out x c) h
theorem zyC : T root ≠ -2:=by rw [I.rt]; exact I.nn _ H.rt
theorem zzB {y x : Int} (h : Anc root T y x) (hx : T x ≠ -2) : T y ≠ -2 ∧ (y = x ∨ pos y < pos x):=by
 induction h with
 | refl => exact ⟨hx,.inl rfl⟩
 | step n h ih =>
   obtain ⟨h1,h2⟩:=I.par _ n hx
   obtain ⟨h3,h4⟩:=ih h1
   refine ⟨h3,.inr ?_⟩
   rcases h4 with h4 | h4
   ·rw [h4]; exact h2
   ·omega
theorem zqz {y x : Int} (h : Anc root T y x) (hx : T x ≠ -2) : pos y ≤ pos x:=by
 rcases (zzB H I h hx).2 with rfl | h <;> omega
theorem zxx {d m x : Int} (h : Anc root T m x) (hx : T x ≠ -2) (hd : Dom E root d x) (hm : Anc root T d m) : Dom E root d m:=by
 induction h with
 | refl => exact hd
 | step n h ih =>
   rename_i x0
   obtain ⟨h1,h2⟩:=I.par _ n hx
   refine ih h1 (I.A _ _ n hx hd ?_)
   rintro rfl
   have a1:=zqz H I h h1
   have a2:=zqz H I hm (zzB H I h h1).1
   omega
theorem zwL : ∀ (n : Nat) (x d : Int),pos x ≤ n → T x ≠ -2 → Dom E root d x → Anc root T d x:=by
 intro n
 induction n with
 | zero =>
   intro x d hn hx hd
   by_cases c : d = x
   ·subst c; exact .refl _
   ·rcases zoD H (zgB H I hx) hd with h | h
    ·exact absurd h c
    ·omega
 | succ n ih =>
   intro x d hn hx hd
   by_cases c : d = x
   ·subst c; exact .refl _
   ·have hr : x ≠ root:=by
     rintro rfl
     rcases zoD H H.rt hd with h | h
     ·exact c h
     ·have:=H.low d (zBG H H.rt hd)
      omega
    obtain ⟨h1,h2⟩:=I.par _ hr hx
    exact .step hr (ih _ _ (by omega) h1 (I.A _ _ hr hx hd c))
theorem zAW {a b : Int} (h : Inc E pos a b) (ha : O a) : O b:=by
 induction h with
 | refl => exact ha
 | step h e l ih => exact H.cl _ _ ih e
theorem zzq {y x : Int} (h : Anc root T y x) (hx : T x ≠ -2) : Inc E pos y x:=by
 induction h with
 | refl => exact .refl _
 | step n h ih => exact zuT (ih (I.par _ n hx).1) (I.P _ n hx)
section
variable {z : Int} (hst : ∀ y,O y → y ≠ root → pos y < pos z → St E root T y)
include hst
theorem zo6 {y : Int} (h : O y) (hp : pos y < pos z) : T y ≠ -2:=by
 by_cases c : y = root
 ·rw [c]; exact zyC H I
 ·exact (hst y h c hp).1
theorem zAY {a v y : Int} (h : Inc E pos a v) (ha : O a) (hv : pos v < pos z) (hy : Anc root T y v) (hp : pos y ≤ pos a) : Anc root T y a:=by
 induction h with
 | refl => exact hy
 | step h e l ih =>
   rename_i p v
   have ho:=zAW H I h ha
   have hle : pos a ≤ pos p:=by rcases zzt h with rfl | h <;> omega
   have hne : y ≠ v:=by rintro rfl; omega
   obtain ⟨hr,h2⟩:=zkR hy hne
   have hs:=hst v (H.cl _ _ ho e) hr hv
   exact ih (by omega) ((hs.2 y).1 h2 p e (zo6 H I hst ho (by omega)))
theorem key {y : Int} (hr : z ≠ root) (hz : T z ≠ -2) (hy : Com E root T z y) : Anc root T y (T z):=by
 have hP:=I.P z hr hz
 have hB:=I.B z hr hz y hy
 obtain ⟨h1,h2⟩:=I.par z hr hz
 have ho:=zgB H I h1
 generalize hw : T z = w at hP hB h2 ho
 cases hP with
 | refl => omega
 | step h e l =>
   have hpo:=zAW H I h ho
   exact zAY H I hst h ho l (hy _ e (zo6 H I hst hpo l)) hB
end
end
structure Upd (E : Int → Int → Prop) (root : Int) (O : Int → Prop) (pos : Int → Nat) (T T' : Int → Int) (z m : Int) : Prop where
 at' : T' z = m
 ne : ∀ x,x ≠ z → T' x = T x
 oz : O z
 hr : z ≠ root
 st : ∀ y,O y → y ≠ root → pos y < pos z → St E root T y
 hm : T m ≠ -2
 best : ∀ y,Anc root T y m ↔ Com E root T z y
 new : m ≠ T z
section
variable (H : Ord E root O pos) {T T' : Int → Int} (I : Inv E root O pos T) {z m : Int} (U : Upd E root O pos T T' z m)
include H I U
theorem zpg : ∃ p,E p z ∧ T p ≠ -2 ∧ pos p < pos z ∧ Anc root T m p:=by
 obtain ⟨p,h1,h2,h3⟩:=H.par z U.oz U.hr
 have hp:=zo6 H I U.st h1 h3
 exact ⟨p,h2,hp,h3,(U.best m).1 (.refl _) p h2 hp⟩
theorem zzx : pos m < pos z ∧ m ≠ -2 ∧ m ≠ z:=by
 obtain ⟨p,h1,h2,h3,h4⟩:=zpg H I U
 have:=zqz H I h4 h2
 refine ⟨by omega,I.nn _ (zgB H I U.hm),?_⟩
 rintro rfl
 omega
theorem zsd {x : Int} (h : T x ≠ -2) : T' x ≠ -2:=by
 by_cases c : x = z
 ·rw [c,U.at']; exact (zzx H I U).2.1
 ·rw [U.ne x c]; exact h
theorem shrink {y x : Int} (h : Anc root T' y x) (hx : T x ≠ -2) : Anc root T y x:=by
 induction h with
 | refl => exact .refl _
 | step n h ih =>
   rename_i x
   by_cases c : x = z
   ·subst c
    rw [U.at'] at h ih
    have h1:=ih U.hm
    exact .step n (zvA h1 (key H I U.st n hx ((U.best m).1 (.refl _))))
   ·rw [U.ne x c] at h ih
    exact .step n (ih (I.par _ n hx).1)
theorem zu4 (hz : T z ≠ -2) : pos m < pos (T z):=by
 have h:=key H I U.st U.hr hz ((U.best m).1 (.refl _))
 have h1:=(I.par z U.hr hz).1
 rcases (zzB H I h h1).2 with h | h
 ·exact absurd h U.new
 ·exact h
theorem zy5 : Inv E root O pos T':=by
 obtain ⟨m1,m2,m3⟩:=zzx H I U
 have hOz:=U.oz
 have com : ∀ x y,Com E root T' x y → (Com E root T x y):=fun x y h p e hp => shrink H I U (h p e (zsd H I U hp)) hp
 refine ⟨fun x hx => ?_,?_,I.nn,fun x hr hx => ?_,fun x d hr hx hd hn => ?_,fun x hr hx => ?_,fun x hr hx y hy => ?_⟩
 ·rw [U.ne x (by rintro rfl; exact hx hOz)]; exact I.out x hx
 ·rw [U.ne _ (fun h => U.hr h.symm)]; exact I.rt
 ·by_cases c : x = z
  ·subst c
   rw [U.at',U.ne m m3]
   exact ⟨U.hm,m1⟩
  ·rw [U.ne x c] at hx ⊢
   exact ⟨zsd H I U (I.par x hr hx).1,(I.par x hr hx).2⟩
 ·by_cases c : x = z
  ·subst c
   rw [U.at']
   obtain ⟨p,h1,h2,h3,h4⟩:=zpg H I U
   have hda : Anc root T d m:=(U.best d).2 fun q e hq => zwL H I _ q d (yj _) hq (zsl e hd hn)
   exact zxx H I h4 h2 (zsl h1 hd hn) hda
  ·rw [U.ne x c] at hx ⊢
   exact I.A x d hr hx hd hn
 ·by_cases c : x = z
  ·subst c
   rw [U.at']
   obtain ⟨p,h1,h2,h3,h4⟩:=zpg H I U
   exact .step (zzq H I h4 h2) h1 h3
  ·rw [U.ne x c] at hx ⊢
   exact I.P x hr hx
 ·by_cases c : x = z
  ·subst c
   rw [U.at']
   exact zqz H I ((U.best y).2 (com _ _ hy)) U.hm
  ·rw [U.ne x c] at hx ⊢
   exact I.B x hr hx y (com _ _ hy)
end
section
variable (H : Ord E root O pos) {T : Int → Int} (I : Inv E root O pos T) (hs : ∀ x,O x → x ≠ root → St E root T x)
include H I hs
theorem zzH {x : Int} (h : O x) : T x ≠ -2:=by
 by_cases c : x = root
 ·rw [c]; exact zyC H I
 ·exact (hs x h c).1
theorem zzp {x : Int} {l : List Int} (w : Way E root x l) : ∀ y,Anc root T y x → y ∈ l:=by
 induction w with
 | root =>
   intro y h
   by_cases c : y = root
   ·simp [c]
   ·exact absurd rfl (zkR h c).1
 | step w e ih =>
   rename_i p x l
   intro y h
   by_cases c : y = x
   ·simp [c]
   ·obtain ⟨hr,h2⟩:=zkR h c
    have ho:=(zse H w).1
    have:=(hs x (H.cl _ _ ho e) hr).2 y |>.1 h2 p e (zzH H I hs ho)
    exact List.mem_cons_of_mem _ (ih y this)
theorem zr1 {d x : Int} (hx : O x) : Anc root T d x ↔ Dom E root d x :=
 ⟨fun h l w => zzp H I hs w d h,fun h => zwL H I _ x d (yj _) (zzH H I hs hx) h⟩
end
end Dm

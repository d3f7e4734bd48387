/- A part of the proof of AliasBoth. Conditions: none. -/
import Derived.Test.YtmkncmffaaninaaGreatAAW
set_option linter.all false
open List renaming drop_eq_getElem_cons → ya,drop_length → yb,getElem_mem → ye,drop_zero → yf,length → yl
open Int renaming natCast_zero → yc,lt_irrefl → yd
open Nat renaming le_add_right → yg
open Option renaming isNone_none → yh,isNone_some → yi
open Bool renaming not_not → yj,true_and → yk
namespace AC
open Go Go.A Go.A.Lex
structure Use where
 v : Int
 shape : Int × Int
 block : Int
 at' : Int
abbrev zh2 : Int:=1048576
def zC (ask : Use → Int) : List Use → Int
 | [] => 0
 | u :: r => if ask u = 0 then zC ask r else ask u
theorem zeN (ask : Use → Int) : ∀ (a b : List Use),zC ask (a ++ b) = if zC ask a = 0 then zC ask b else zC ask a
 | [],b => by simp [zC]
 | u :: r,b => by
   simp only [List.cons_append,zC,zeN ask r b]
   by_cases h : ask u = 0 <;> simp [h]
def zbv (p : PPhi) (k : Nat) : List Int → List Use
 | [] => []
 | v :: r => ⟨v,(p.bits,1),p.src.getD k 0,zh2⟩ :: zbv p (k + 1) r
def zpX (p : PPhi) : List Use:=zbv p 0 p.args
def zai (o : POp) (i at' : Int) (k : Nat) : List (Int × Int) → List Use
 | [] => []
 | s :: r => ⟨o.args.getD k 0,s,i,at'⟩ :: zai o i at' (k + 1) r
def ztD (o : POp) (i at' : Int) : List Use:=zai o i at' 0 (zW o)
def zJ (i : Int) (k : Nat) : List POp → List Use
 | [] => []
 | o :: r => ztD o i (k : Int) ++ zJ i (k + 1) r
def zd3 (l : List PPhi) : List Use:=l.flatMap zpX
def zi9 (f : PFunc) (b : PBlock) : Int:=if b.kind = 0 then f.ret else if b.kind = 2 then 1 else 0
def ze0 (f : PFunc) (i : Int) (b : PBlock) : List Use:=if zi9 f b = 0 then [] else [⟨b.arg,(zi9 f b,1),i,zh2⟩]
def zhb (f : PFunc) (i : Int) (b : PBlock) : List Use:=zd3 b.phis ++ (zJ i 0 b.ops ++ ze0 f i b)
def zcq (f : PFunc) (k : Nat) : List PBlock → List Use
 | [] => []
 | b :: r => zhb f (k : Int) b ++ zcq f (k + 1) r
def zcV (f : PFunc) : List Use:=zcq f 0 f.blocks
abbrev zvB (f : PFunc) (level : Int) (x y z d : C) : Ob:=.cells 0 8 [[.f (eI f.params),.f (ei f.ret),.f (.sl (f.blocks.map rb)),.f (ei level),x,y,z,d]]
theorem zgk (b : Int) : call T 205 [vI b] [] = some (.agg [.f (ei b),.f (ei 1)],[]):=by
 rw [zd (fn:=zfH) rfl];simp -implicitDefEqProofs only [go_sem,zfH]
section
variable (f : PFunc) (hf : okF f) (level : Int) (x y z dd : C) (g : Nat) (caps : List C) (σ : zb) (hck : σ[1]? = some (zvB f level x y z dd)) (hσ : Ok σ) (hcaps : C.lts σ.length caps = true) (ask : Use → Int)
 (hask : ∀ (r : zb) (u : Use),Obs.lt (σ.length + r.length) r = true → call T g (vI u.v :: .agg [.f (ei u.shape.1),.f (ei u.shape.2)] :: vI u.block :: vI u.at' :: caps.map V.one) (σ ++ r) = some (vI (ask u),σ ++ r))
abbrev zyn : V:=.one (.fn g [] caps)
include hck hσ hcaps hask
theorem zBx (b : PBlock) (p : PPhi) (A : okB b) (E : p ∈ b.phis) (hlen : p.args.length = p.src.length) (i y : Int) : ∀ (d k : Nat) (a2 a7 a8 a9 t h n q m o a25 a26 a27 a28 a29 j r a32 a33 e a35 a36 s : V),p.args.length - k = d → k ≤ p.args.length →
  exec T zbq ⟨[.one (.ptr 1 0 0 0),zyn g caps,a2,vI 0,vI i,.one (.ptr σ.length 0 0 0),.one (.ptr (σ.length + 1) 0 0 0),a7,a8,a9,t,h,n,q,vL (f.blocks.map rb),vI f.blocks.length,vI i,m,vL (b.phis.map rp),vI b.phis.length,vI y,o,vIs p.args,vI p.args.length,vI k,a25,a26,a27,a28,a29,j,r,a32,a33,e,a35,a36,s],σ ++ [.cells 0 5 [zK b],.cells 0 4 [zxT p]],σ.length,σ.length⟩ =
   some (if zC ask (zbv p k (p.args.drop k)) = 0 then (.exit 4,⟨[.one (.ptr 1 0 0 0),zyn g caps,vU,vI 0,vI i,.one (.ptr σ.length 0 0 0),vU,vU,vU,vU,vU,vU,vU,vU,vL (f.blocks.map rb),vI f.blocks.length,vI i,vU,vL (b.phis.map rp),vI b.phis.length,vI y,vU,vU,vU,vU,vU,vU,vU,vU,vU,vU,vU,vU,vU,vU,vU,vU,vU],σ ++ [.cells 0 5 [zK b],.cells 0 4 [zxT p]],σ.length,σ.length⟩)
    else (.goto 0,⟨[vU,vU,vU,vI (zC ask (zbv p k (p.args.drop k))),vU,vU,vU,vU,vU,vU,vU,vU,vU,vU,vU,vU,vU,vU,vU,vU,vU,vU,vU,vU,vU,vU,vU,vU,vU,vU,vU,vU,vU,vU,vU,vU,vU,vU],σ,σ.length,σ.length⟩)):=by
 intro d;have w:=fun k => zcW (yg σ.length k) caps hcaps;have D : p.args.length ≤ 4294967296:=(A.phi p E).2
 induction d with
 | zero =>
   intro k a2 a7 a8 a9 t h n q m o a25 a26 a27 a28 a29 j r a32 a33 e a35 a36 s B z;have a : k = p.args.length:=(by omega);subst a;rw [xl zbq rfl,zcH];simp -implicitDefEqProofs only [go_sem,yd,yb,zbv,zC]
 | succ d ih =>
   intro k a2 a7 a8 a9 t h n q m o a25 a26 a27 a28 a29 j r a32 a33 e a35 a36 s B z;have a : k < p.args.length:=(by omega);have u : k < p.src.length:=(by omega);have hd : p.args.drop k = p.args[k] :: p.args.drop (k + 1):=ya a;have l:=zgk p.bits;have x:=hask [.cells 0 5 [zK b],.cells 0 4 [zxT p]] ⟨p.args[k],(p.bits,1),p.src[k],zh2⟩ (by simp -implicitDefEqProofs only [go_sem]);have C : p.src.getD k 0 = p.src[k]:=(by simp [u]);rw [xl zbq rfl,zcH,hd,zbv,zC,C];simp -implicitDefEqProofs only [go_sem,zh2] at l x
   by_cases c : ask ⟨p.args[k],(p.bits,1),p.src[k],zh2⟩ = 0
   ·have c' : ask { v:=p.args[k],shape:=(p.bits,1),block:=p.src[k],at':=1048576 } = 0:=c
    have:=ih (k + 1) vU vU vU vU vU vU vU vU vU vU vU vU vU vU vU vU vU vU vU vU vU vU vU (by omega) (by omega);simp -implicitDefEqProofs only [go_sem] at this;simp -implicitDefEqProofs only [go_sem,ilt a,z6 a,z6 u,ri,l,x,c',zf a D,zh2,w,Ok.up hσ,zex hck,Ok.at hσ,zdT hck,this]
   ·have c' : ¬ ask { v:=p.args[k],shape:=(p.bits,1),block:=p.src[k],at':=1048576 } = 0:=c
    simp -implicitDefEqProofs only [go_sem,ilt a,z6 a,z6 u,ri,l,x,c',zh2,Ok.at hσ]
def zoR (b : PBlock) : Prop:=(∀ p ∈ b.phis,p.args.length = p.src.length) ∧ ∀ o ∈ b.ops,(zW o).length ≤ o.args.length
theorem zAp (b : PBlock) (w : okB b) (v : zoR b) (i : Int) : ∀ (d k : Nat) (a2 a6 a7 a8 a9 r h m o l n a22 a23 a24 a25 a26 a27 a28 a29 j p a32 a33 a a35 a36 q : V),b.phis.length - k = d → k ≤ b.phis.length →
  exec T zbj ⟨[.one (.ptr 1 0 0 0),zyn g caps,a2,vI 0,vI i,.one (.ptr σ.length 0 0 0),a6,a7,a8,a9,r,h,m,o,vL (f.blocks.map rb),vI f.blocks.length,vI i,l,vL (b.phis.map rp),vI b.phis.length,vI k,n,a22,a23,a24,a25,a26,a27,a28,a29,j,p,a32,a33,a,a35,a36,q],σ ++ [.cells 0 5 [zK b]],σ.length,σ.length⟩ =
   some (if zC ask (zd3 (b.phis.drop k)) = 0 then (.exit 2,⟨[.one (.ptr 1 0 0 0),zyn g caps,vU,vI 0,vI i,.one (.ptr σ.length 0 0 0),vU,vU,vU,vU,vU,vU,vU,vU,vL (f.blocks.map rb),vI f.blocks.length,vI i,vU,vU,vU,vU,vU,vU,vU,vU,vU,vU,vU,vU,vU,vU,vU,vU,vU,vU,vU,vU,vU],σ ++ [.cells 0 5 [zK b]],σ.length,σ.length⟩)
    else (.goto 0,⟨[vU,vU,vU,vI (zC ask (zd3 (b.phis.drop k))),vU,vU,vU,vU,vU,vU,vU,vU,vU,vU,vU,vU,vU,vU,vU,vU,vU,vU,vU,vU,vU,vU,vU,vU,vU,vU,vU,vU,vU,vU,vU,vU,vU,vU],σ,σ.length,σ.length⟩)):=by
 intro d;have u:=fun k => zcW (yg σ.length k) caps hcaps
 induction d with
 | zero =>
   intro k a2 a6 a7 a8 a9 r h m o l n a22 a23 a24 a25 a26 a27 a28 a29 j p a32 a33 a a35 a36 q B A;have s : k = b.phis.length:=(by omega);subst s;rw [xl zbj rfl,zcw];simp -implicitDefEqProofs only [go_sem,yd,yb,zd3,List.flatMap_nil,zC]
 | succ d ih =>
   intro k a2 a6 a7 a8 a9 r h m o l n a22 a23 a24 a25 a26 a27 a28 a29 j p a32 a33 a a35 a36 q B A;have s : k < b.phis.length:=(by omega);have hd : b.phis.drop k = b.phis[k] :: b.phis.drop (k + 1):=ya s;have hm:=ye s;have t:=fun a2 a7 a8 a9 r h m o l n a25 a26 a27 a28 a29 j p a32 a33 a a35 a36 q => zBx f level x y z dd g caps σ hck hσ hcaps ask hask b b.phis[k] w hm (v.1 _ hm) i k b.phis[k].args.length 0 a2 a7 a8 a9 r h m o l n a25 a26 a27 a28 a29 j p a32 a33 a a35 a36 q (by omega) (by omega);have e : zd3 (b.phis[k] :: b.phis.drop (k + 1)) = zpX b.phis[k] ++ zd3 (b.phis.drop (k + 1)):=(by rw [zd3,List.flatMap_cons]; rfl);rw [xl zbj rfl,zcw,hd,e,zeN];simp only [yf,yc] at t;have e2 : zbv b.phis[k] 0 b.phis[k].args = zpX b.phis[k]:=rfl;rw [e2] at t
   by_cases c : zC ask (zpX b.phis[k]) = 0
   ·have:=ih (k + 1) vU vU vU vU vU vU vU vU vU vU vU vU vU vU vU vU vU vU vU vU vU vU vU vU vU vU vU (by omega) (by omega)
    simp -implicitDefEqProofs only [go_sem,c] at this t;simp -implicitDefEqProofs only [go_sem,ilt s,z6 s,rp,t,c,zf s w.phis,u,Ok.up hσ,zex hck,Ok.at hσ,zdT hck,this]
   ·simp -implicitDefEqProofs only [go_sem,c] at t
    simp -implicitDefEqProofs only [go_sem,ilt s,z6 s,rp,t,c]
theorem zBk (b : PBlock) (o : POp) (y : okB b) (z : o ∈ b.ops) (hlen : (zW o).length ≤ o.args.length) (i u : Int) : ∀ (d k : Nat) (a2 a6 a7 a8 j n q m r h a20 p a22 a23 a24 a25 a26 l e a35 a36 s : V),(zW o).length - k = d → k ≤ (zW o).length →
  exec T zbn ⟨[.one (.ptr 1 0 0 0),zyn g caps,a2,vI 0,vI i,.one (.ptr σ.length 0 0 0),a6,a7,a8,vI u,.one (.ptr (σ.length + 1) 0 0 0),j,n,q,vL (f.blocks.map rb),vI f.blocks.length,vI i,m,r,h,a20,p,a22,a23,a24,a25,a26,vL (b.ops.map ro),vI b.ops.length,vI u,l,vSs (zW o),vI (zW o).length,vI k,e,a35,a36,s],σ ++ [.cells 0 5 [zK b],.cells 0 6 [cOp o]],σ.length,σ.length⟩ =
   some (if zC ask (zai o i u k ((zW o).drop k)) = 0 then (.exit 8,⟨[.one (.ptr 1 0 0 0),zyn g caps,vU,vI 0,vI i,.one (.ptr σ.length 0 0 0),vU,vU,vU,vU,vU,vU,vU,vU,vL (f.blocks.map rb),vI f.blocks.length,vI i,vU,vU,vU,vU,vU,vU,vU,vU,vU,vU,vL (b.ops.map ro),vI b.ops.length,vI u,vU,vU,vU,vU,vU,vU,vU,vU],σ ++ [.cells 0 5 [zK b],.cells 0 6 [cOp o]],σ.length,σ.length⟩)
    else (.goto 0,⟨[vU,vU,vU,vI (zC ask (zai o i u k ((zW o).drop k))),vU,vU,vU,vU,vU,vU,vU,vU,vU,vU,vU,vU,vU,vU,vU,vU,vU,vU,vU,vU,vU,vU,vU,vU,vU,vU,vU,vU,vU,vU,vU,vU,vU,vU],σ,σ.length,σ.length⟩)):=by
 intro d;have v:=fun k => zcW (yg σ.length k) caps hcaps;have C : (zW o).length ≤ 4294967296:=by have:=(y.op o z).2; omega
 induction d with
 | zero =>
   intro k a2 a6 a7 a8 j n q m r h a20 p a22 a23 a24 a25 a26 l e a35 a36 s A x;have a : k = (zW o).length:=(by omega);subst a;rw [xl zbn rfl,zcJ];simp -implicitDefEqProofs only [go_sem,yd,yb,zai,zC]
 | succ d ih =>
   intro k a2 a6 a7 a8 j n q m r h a20 p a22 a23 a24 a25 a26 l e a35 a36 s A x;have a : k < (zW o).length:=(by omega);have t : k < o.args.length:=(by omega);have hd : (zW o).drop k = (zW o)[k] :: (zW o).drop (k + 1):=ya a;have w:=hask [.cells 0 5 [zK b],.cells 0 6 [cOp o],.cells 0 2 [[.f (ei (zW o)[k].1),.f (ei (zW o)[k].2)]]] ⟨o.args[k],(zW o)[k],i,u⟩ (by simp -implicitDefEqProofs only [go_sem]);have B : o.args.getD k 0 = o.args[k]:=(by simp [t]);rw [xl zbn rfl,zcJ,hd,zai,zC,B];simp -implicitDefEqProofs only [go_sem] at w
   by_cases c : ask ⟨o.args[k],(zW o)[k],i,u⟩ = 0
   ·have:=ih (k + 1) vU vU vU vU vU vU vU vU vU vU vU vU vU vU vU vU vU vU vU vU vU vU (by omega) (by omega)
    simp -implicitDefEqProofs only [go_sem,c] at this w;simp -implicitDefEqProofs only [go_sem,ilt a,z6 a,z6 t,ri,rs,w,c,zf a C,v,Ok.up hσ,zex hck,Ok.at hσ,zdT hck,this]
   ·simp -implicitDefEqProofs only [go_sem,ilt a,z6 a,z6 t,ri,rs,w,c,Ok.at hσ]
theorem zAs (b : PBlock) (w : okB b) (A : zoR b) (i : Int) : ∀ (d k : Nat) (a2 a6 a7 a8 a9 t h m o l p e a20 n a22 a23 a24 a25 a26 j s a32 a33 a a35 a36 q : V),b.ops.length - k = d → k ≤ b.ops.length →
  exec T zbb ⟨[.one (.ptr 1 0 0 0),zyn g caps,a2,vI 0,vI i,.one (.ptr σ.length 0 0 0),a6,a7,a8,a9,t,h,m,o,vL (f.blocks.map rb),vI f.blocks.length,vI i,l,p,e,a20,n,a22,a23,a24,a25,a26,vL (b.ops.map ro),vI b.ops.length,vI k,j,s,a32,a33,a,a35,a36,q],σ ++ [.cells 0 5 [zK b]],σ.length,σ.length⟩ =
   some (if zC ask (zJ i k (b.ops.drop k)) = 0 then (.exit 6,⟨[.one (.ptr 1 0 0 0),zyn g caps,vU,vI 0,vI i,.one (.ptr σ.length 0 0 0),vU,vU,vU,vU,vU,vU,vU,vU,vL (f.blocks.map rb),vI f.blocks.length,vI i,vU,vU,vU,vU,vU,vU,vU,vU,vU,vU,vU,vU,vU,vU,vU,vU,vU,vU,vU,vU,vU],σ ++ [.cells 0 5 [zK b]],σ.length,σ.length⟩)
    else (.goto 0,⟨[vU,vU,vU,vI (zC ask (zJ i k (b.ops.drop k))),vU,vU,vU,vU,vU,vU,vU,vU,vU,vU,vU,vU,vU,vU,vU,vU,vU,vU,vU,vU,vU,vU,vU,vU,vU,vU,vU,vU,vU,vU,vU,vU,vU,vU],σ,σ.length,σ.length⟩)):=by
 intro d;have v:=fun k => zcW (yg σ.length k) caps hcaps
 induction d with
 | zero =>
   intro k a2 a6 a7 a8 a9 t h m o l p e a20 n a22 a23 a24 a25 a26 j s a32 a33 a a35 a36 q D C;have r : k = b.ops.length:=(by omega);subst r;rw [xl zbb rfl,zcB];simp -implicitDefEqProofs only [go_sem,yd,yb,zJ,zC]
 | succ d ih =>
   intro k a2 a6 a7 a8 a9 t h m o l p e a20 n a22 a23 a24 a25 a26 j s a32 a33 a a35 a36 q D C;have r : k < b.ops.length:=(by omega);have hd : b.ops.drop k = b.ops[k] :: b.ops.drop (k + 1):=ya r;have hm:=ye r;have B:=znm b.ops[k] (w.op _ hm).1 (w.op _ hm).2;have u:=fun a2 a6 a7 a8 h m o l p e a20 n a22 a23 a24 a25 a26 j a a35 a36 q => zBk f level x y z dd g caps σ hck hσ hcaps ask hask b b.ops[k] w hm (A.2 _ hm) i k (zW b.ops[k]).length 0 a2 a6 a7 a8 h m o l p e a20 n a22 a23 a24 a25 a26 j a a35 a36 q (by omega) (by omega);rw [xl zbb rfl,zcB,hd,zJ,zeN];simp only [yf,yc] at u;have e2 : zai b.ops[k] i k 0 (zW b.ops[k]) = ztD b.ops[k] i k:=rfl;rw [e2] at u;simp -implicitDefEqProofs only [go_sem] at B
   by_cases c : zC ask (ztD b.ops[k] i k) = 0
   ·have:=ih (k + 1) vU vU vU vU vU vU vU vU vU vU vU vU vU vU vU vU vU vU vU vU vU vU vU vU vU vU vU (by omega) (by omega)
    simp -implicitDefEqProofs only [go_sem,c] at this u;simp -implicitDefEqProofs only [go_sem,ilt r,z6 r,ro,B,u,c,zf r w.ops,v,Ok.up hσ,zex hck,Ok.at hσ,zdT hck,this]
   ·simp -implicitDefEqProofs only [go_sem,c] at u
    simp -implicitDefEqProofs only [go_sem,ilt r,z6 r,ro,B,u,c]
theorem zAV (hf : okF f) (I : ∀ b ∈ f.blocks,zoR b) : ∀ (d k : Nat) (a2 a4 a5 a6 a7 a8 a9 v n p r o C A a20 q a22 a23 a24 a25 a26 a27 a28 a29 m s a32 a33 l a35 a36 t : V),f.blocks.length - k = d → k ≤ f.blocks.length →
  exec T zbe ⟨[.one (.ptr 1 0 0 0),zyn g caps,a2,vI 0,a4,a5,a6,a7,a8,a9,v,n,p,r,vL (f.blocks.map rb),vI f.blocks.length,vI k,o,C,A,a20,q,a22,a23,a24,a25,a26,a27,a28,a29,m,s,a32,a33,l,a35,a36,t],σ,σ.length,σ.length⟩ =
   some (if zC ask (zcq f k (f.blocks.drop k)) = 0 then (.exit 0,⟨[vU,vU,vU,vI 0,vU,vU,vU,vU,vU,vU,vU,vU,vU,vU,vU,vU,vU,vU,vU,vU,vU,vU,vU,vU,vU,vU,vU,vU,vU,vU,vU,vU,vU,vU,vU,vU,vU,vU],σ,σ.length,σ.length⟩)
    else (.goto 0,⟨[vU,vU,vU,vI (zC ask (zcq f k (f.blocks.drop k))),vU,vU,vU,vU,vU,vU,vU,vU,vU,vU,vU,vU,vU,vU,vU,vU,vU,vU,vU,vU,vU,vU,vU,vU,vU,vU,vU,vU,vU,vU,vU,vU,vU,vU],σ,σ.length,σ.length⟩)):=by
 intro d;have h:=fun k => zcW (yg σ.length k) caps hcaps;have i:=zcR hck
 induction d with
 | zero =>
   intro k a2 a4 a5 a6 a7 a8 a9 v n p r o C A a20 q a22 a23 a24 a25 a26 a27 a28 a29 m s a32 a33 l a35 a36 t N M;have a : k = f.blocks.length:=(by omega);subst a;rw [xl zbe rfl,zcC];simp -implicitDefEqProofs only [go_sem,yd,yb,zcq,zC]
 | succ d ih =>
   intro k a2 a4 a5 a6 a7 a8 a9 v n p r o C A a20 q a22 a23 a24 a25 a26 a27 a28 a29 m s a32 a33 l a35 a36 t N M;have a : k < f.blocks.length:=(by omega);have hd : f.blocks.drop k = f.blocks[k] :: f.blocks.drop (k + 1):=ya a;have hm:=ye a;have L:=hf.block _ hm;have w:=fun a2 a6 a7 a8 a9 v n p r o q a22 a23 a24 a25 a26 a27 a28 a29 m s a32 a33 l a35 a36 t => zAp f level x y z dd g caps σ hck hσ hcaps ask hask f.blocks[k] L (I _ hm) k f.blocks[k].phis.length 0 a2 a6 a7 a8 a9 v n p r o q a22 a23 a24 a25 a26 a27 a28 a29 m s a32 a33 l a35 a36 t (by omega) (by omega);have D:=fun a2 a6 a7 a8 a9 v n p r o C A a20 q a22 a23 a24 a25 a26 m s a32 a33 l a35 a36 t => zAs f level x y z dd g caps σ hck hσ hcaps ask hask f.blocks[k] L (I _ hm) k f.blocks[k].ops.length 0 a2 a6 a7 a8 a9 v n p r o C A a20 q a22 a23 a24 a25 a26 m s a32 a33 l a35 a36 t (by omega) (by omega);rw [xl zbe rfl,zcC,hd,zcq,zeN,zhb,zeN,zeN];simp only [yf,yc] at w D
   by_cases c6 : zC ask (zd3 f.blocks[k].phis) = 0
   ·by_cases c8 : zC ask (zJ k 0 f.blocks[k].ops) = 0
    ·have:=ih (k + 1) vU vU vU vU vU vU vU vU vU vU vU vU vU vU vU vU vU vU vU vU vU vU vU vU vU vU vU vU vU vU vU vU (by omega) (by omega)
     simp -implicitDefEqProofs only [go_sem,c6,c8] at this w D;have J:=fun u => hask [.cells 0 5 [zK f.blocks[k]],.mp [(0,V.one (.f (.lit (.int .i64 f.ret)))),(2,V.one (.f (.lit (.int .i64 1))))]] ⟨f.blocks[k].arg,(u,1),k,zh2⟩ (by simp -implicitDefEqProofs only [go_sem]);have B:=fun u => zgk u;simp -implicitDefEqProofs only [go_sem,zh2] at J B
     by_cases H : f.blocks[k].kind = 0
     ·have j : (0 : Int) = f.blocks[k].kind:=H.symm
      by_cases G : f.ret = 0
      ·have eu : ze0 f k f.blocks[k] = []:=by simp [ze0,zi9,H,G]
       simp -implicitDefEqProofs only [go_sem,ilt a,z6 a,rb,w,D,c6,c8,eu,zC,i,hck,eq_true j,eq_true G,G,zf a hf.blocks,h,Ok.up hσ,zex hck,Ok.at hσ,zdT hck,hcaps,this]
      ·have eu : ze0 f k f.blocks[k] = [⟨f.blocks[k].arg,(f.ret,1),k,1048576⟩]:=by simp [ze0,zi9,H,G]
       by_cases c : ask ⟨f.blocks[k].arg,(f.ret,1),k,1048576⟩ = 0
       ·simp -implicitDefEqProofs only [go_sem,ilt a,z6 a,rb,w,D,c6,c8,eu,zC,i,hck,eq_true j,G,B,J,c,zf a hf.blocks,h,Ok.up hσ,zex hck,Ok.at hσ,zdT hck,hcaps,this]
       ·simp -implicitDefEqProofs only [go_sem,ilt a,z6 a,rb,w,D,c6,c8,eu,zC,i,hck,eq_true j,G,B,J,c,h,Ok.up hσ,zex hck,Ok.at hσ,zdT hck,hcaps]
     ·have j : ¬ (0 : Int) = f.blocks[k].kind:=fun e => H e.symm
      by_cases K : f.blocks[k].kind = 2
      ·have E : (2 : Int) = f.blocks[k].kind:=K.symm
       have eu : ze0 f k f.blocks[k] = [⟨f.blocks[k].arg,(1,1),k,1048576⟩]:=by simp [ze0,zi9,H,K]
       by_cases c : ask ⟨f.blocks[k].arg,(1,1),k,1048576⟩ = 0
       ·simp -implicitDefEqProofs only [go_sem,ilt a,z6 a,rb,w,D,c6,c8,eu,zC,i,hck,j,eq_true E,B,J,c,zf a hf.blocks,h,Ok.up hσ,zex hck,Ok.at hσ,zdT hck,hcaps,this]
       ·simp -implicitDefEqProofs only [go_sem,ilt a,z6 a,rb,w,D,c6,c8,eu,zC,i,hck,j,eq_true E,B,J,c,h,Ok.up hσ,zex hck,Ok.at hσ,zdT hck,hcaps]
      ·have E : ¬ (2 : Int) = f.blocks[k].kind:=fun e => K e.symm
       have eu : ze0 f k f.blocks[k] = []:=(by simp [ze0,zi9,H,K]);simp -implicitDefEqProofs only [go_sem,ilt a,z6 a,rb,w,D,c6,c8,eu,zC,i,hck,j,E,zf a hf.blocks,h,Ok.up hσ,zex hck,Ok.at hσ,zdT hck,hcaps,this]
    ·simp -implicitDefEqProofs only [go_sem,c6,c8] at w D
     simp -implicitDefEqProofs only [go_sem,ilt a,z6 a,rb,w,D,c6,c8]
   ·simp -implicitDefEqProofs only [go_sem,c6] at w
    simp -implicitDefEqProofs only [go_sem,ilt a,z6 a,rb,w,c6]
theorem zmp (hf : okF f) (i : ∀ b ∈ f.blocks,zoR b) : call T 207 [.one (.ptr 1 0 0 0),zyn g caps] σ = some (vI (zC ask (zcV f)),σ):=by
 rw [zd (fn:=zbB) rfl];have h:=fun a2 a4 a5 a6 a7 a8 a9 s j m o l p d a20 n a22 a23 a24 a25 a26 a27 a28 a29 k q a32 a33 a a35 a36 r => zAV f level x y z dd g caps σ hck hσ hcaps ask hask hf i f.blocks.length 0 a2 a4 a5 a6 a7 a8 a9 s j m o l p d a20 n a22 a23 a24 a25 a26 a27 a28 a29 k q a32 a33 a a35 a36 r (by omega) (by omega);simp only [yf,yc] at h;have t:=zcR hck [];have e : zcq f 0 f.blocks = zcV f:=rfl;rw [e] at h
 by_cases c : zC ask (zcV f) = 0
 ·simp -implicitDefEqProofs only [go_sem,c] at h
  simp -implicitDefEqProofs only [go_sem,zbB,zck,zfb,hck,h,c]
 ·simp -implicitDefEqProofs only [go_sem,c] at h
  simp -implicitDefEqProofs only [go_sem,zbB,zfb];rw [zck];simp -implicitDefEqProofs only [go_sem,hck,h,zfb]
end
def ofS (level : Int) (o : POp) : Bool :=
 !(decide (level < 2) && (decide (1 < o.lanes) || decide (20 < o.kind))) && (!(decide (level < 1) && decide (17 < o.kind)) && zeI o)
section
variable (f : PFunc) (hf : okF f) (level : Int) (x y z dd : C) (σ : zb) (hck : σ[1]? = some (zvB f level x y z dd)) (hσ : Ok σ)
include hck hσ
theorem zBc (o : POp) (b : zyg o) : call T 203 [.one (.ptr 1 0 0 0),vOp o] σ = some (vB (ofS level o),σ):=by
 rw [zd (fn:=zT) rfl];have hm:=zgj o b.1 b.2;have a:=zcR hck;simp -implicitDefEqProofs only [go_sem] at hm
 by_cases c1 : level < 2
 ·by_cases c2 : 1 < o.lanes
  ·simp -implicitDefEqProofs only [go_sem,zT,a,c1,c2,ofS,Ok.at hσ]
  ·by_cases c3 : 20 < o.kind
   ·simp -implicitDefEqProofs only [go_sem,zT,a,c1,c2,c3,ofS,Ok.at hσ]
   ·by_cases c4 : level < 1
    ·by_cases c5 : 17 < o.kind
     ·simp -implicitDefEqProofs only [go_sem,zT,a,c1,c2,c3,c4,c5,ofS,Ok.at hσ]
     ·simp -implicitDefEqProofs only [go_sem,zT,a,c1,c2,c3,c4,c5,ofS,Ok.at hσ,hm]
    ·simp -implicitDefEqProofs only [go_sem,zT,a,c1,c2,c3,c4,ofS,Ok.at hσ,hm]
 ·have c4 : ¬ level < 1:=by omega
  simp -implicitDefEqProofs only [go_sem,zT,a,c1,c4,ofS,Ok.at hσ,hm]
end
def zjS (level : Int) (b : PBlock) : Bool:=b.phis.all (fun p => zfX p.bits) && b.ops.all (ofS level)
def zcx (level : Int) : List PBlock → Option PBlock
 | [] => none
 | b :: r => if zjS level b = true then zcx level r else some b
def zfn (f : PFunc) (level : Int) : Bool:=zfX f.ret && (f.params.all zfX && f.blocks.all (zjS level))
theorem zg0 (level : Int) : ∀ l : List PBlock,(zcx level l).isNone = l.all (zjS level)
 | [] => rfl
 | b :: r => by
   simp only [zcx,List.all_cons];cases h : zjS level b
   ·simp
   ·simpa using zg0 level r
theorem zrO (b : Int) (σ : zb) : call T 198 [vI b] σ = some (vB (!zfX b),σ):=by
 rw [zd (fn:=zb4) rfl];simp -implicitDefEqProofs only [go_sem,zb4]
theorem zrf (p : PPhi) (σ : zb) (hσ : Ok σ) : call T 200 [zCJ p] σ = some (vB (!zfX p.bits),σ):=by
 rw [zd (fn:=zbW) rfl];simp -implicitDefEqProofs only [go_sem,zbW,Ok.at hσ]
section
variable (f : PFunc) (hf : okF f) (level : Int) (x y z dd : C) (σ : zb) (hck : σ[1]? = some (zvB f level x y z dd)) (hσ : Ok σ)
include hck hσ
theorem zrB (o : POp) (i : zyg o) (r : zb) (h : Obs.lt (σ.length + 1 + r.length) r = true) : call T 202 [vOp o,.one (.ptr σ.length 0 0 0)] (σ ++ .cells 0 1 [[.ptr 1 0 0 0]] :: r) = some (vB (!ofS level o),σ ++ .cells 0 1 [[.ptr 1 0 0 0]] :: r):=by
 rw [zd (fn:=zb1) rfl]
 have a : Ok (σ ++ .cells 0 1 [[.ptr 1 0 0 0]] :: r):=Ok.app hσ (by
  have j:=zm3 (show σ.length + 1 + r.length ≤ σ.length + (r.length + 1) by omega) r h;have e:=zex hck (r.length + 1)
  simp -implicitDefEqProofs only [go_sem,j,e])
 have c : Ok (σ ++ .cells 0 1 [[.ptr 1 0 0 0]] :: r ++ [.cells 0 6 [cOp o]]):=Ok.app a (by simp -implicitDefEqProofs only [go_sem]);have d:=zBc f level x y z dd (σ ++ .cells 0 1 [[.ptr 1 0 0 0]] :: r ++ [.cells 0 6 [cOp o]]) (by rw [List.append_assoc]; exact zcR hck _) c o i;generalize hτ : σ ++ .cells 0 1 [[.ptr 1 0 0 0]] :: r = τ at *;have g : τ[σ.length]? = some (.cells 0 1 [[.ptr 1 0 0 0]]):=by rw [← hτ]; simp
 have b:=zcR g;simp -implicitDefEqProofs only [go_sem] at d;simp -implicitDefEqProofs only [go_sem,zb1,b,d,Ok.at a]
theorem zzL (hf : okF f) : ∀ (d k : Nat) (a0 a2 a3 a4 a5 a9 g : V),f.blocks.length - k = d → k ≤ f.blocks.length →
  exec T zaY ⟨[a0,.one (.ptr σ.length 0 0 0),a2,a3,a4,a5,vL (f.blocks.map rb),vI f.blocks.length,vI k,a9,g],σ ++ [.cells 0 1 [[.ptr 1 0 0 0]]],σ.length,σ.length⟩ =
   some (match zcx level (f.blocks.drop k) with
    | none => (.exit 0,⟨[vU,vU,vU,vU,vU,vU,vU,vU,vU,vU,vU],σ ++ [.cells 0 1 [[.ptr 1 0 0 0]]],σ.length,σ.length⟩)
    | some b => (.ret,⟨[vU,vU,vI 6,vU,vU,vU,vU,vU,vU,vU,vU],σ ++ [.cells 0 1 [[.ptr 1 0 0 0]],.cells 0 5 [zK b]],σ.length,σ.length⟩)):=by
 intro d
 induction d with
 | zero =>
   intro k a0 a2 a3 a4 a5 a9 g r i;have a : k = f.blocks.length:=(by omega);subst a;rw [xl zaY rfl,zch];simp -implicitDefEqProofs only [go_sem,yd,yb,zcx]
 | succ d ih =>
   intro k a0 a2 a3 a4 a5 a9 g r i;have a : k < f.blocks.length:=(by omega);have hd : f.blocks.drop k = f.blocks[k] :: f.blocks.drop (k + 1):=ya a;have j:=hf.block _ (ye a);have q:=zcR hck
   have l : Ok (σ ++ [.cells 0 1 [[.ptr 1 0 0 0]],.cells 0 5 [zK f.blocks[k]]]):=Ok.app hσ (by
    have i:=zex hck 2
    simp -implicitDefEqProofs only [go_sem,i])
   have e:=zhG f.blocks[k].phis (fun p => !zfX p.bits) 200 [] [] (σ ++ [.cells 0 1 [[.ptr 1 0 0 0]],.cells 0 5 [zK f.blocks[k]]]) j.phis (fun p _ => zrf p _ l)
   have c:=ziF f.blocks[k].ops (fun o => !ofS level o) 202 [] [.ptr σ.length 0 0 0] (σ ++ [.cells 0 1 [[.ptr 1 0 0 0]],.cells 0 5 [zK f.blocks[k]]]) j.ops (fun o c => by
    have:=zrB f level x y z dd σ hck hσ o (j.op o c) [.cells 0 5 [zK f.blocks[k]]] (by simp -implicitDefEqProofs only [go_sem])
    exact this)
   have m : (f.blocks[k].phis.any fun p => !zfX p.bits) = !f.blocks[k].phis.all (fun p => zfX p.bits):=(by rw [← zmW,yj]);have n : (f.blocks[k].ops.any fun p => !ofS level p) = !f.blocks[k].ops.all (ofS level):=(by rw [← zmW,yj]);rw [m] at e;rw [n] at c;rw [xl zaY rfl,zch,hd,zcx];cases h : f.blocks[k].phis.all (fun p => zfX p.bits)
   ·simp -implicitDefEqProofs only [go_sem,h] at e
    simp -implicitDefEqProofs only [go_sem,ilt a,z6 a,rb,e,zjS,h]
   ·cases e2 : f.blocks[k].ops.all (ofS level)
    ·simp -implicitDefEqProofs only [go_sem,h,e2] at e c
     simp -implicitDefEqProofs only [go_sem,ilt a,z6 a,rb,e,c,zjS,h,e2]
    ·have:=ih (k + 1) vU vU vU vU vU vU vU (by omega) (by omega)
     simp -implicitDefEqProofs only [go_sem,h,e2] at e c this;simp -implicitDefEqProofs only [go_sem,ilt a,z6 a,rb,e,c,zjS,h,e2,zf a hf.blocks,Ok.up hσ,zex hck,this]
theorem zuX (hf : okF f) : call T 160 [.one (.ptr 1 0 0 0)] σ = some (vI (if zfn f level = true then 0 else 6),σ):=by
 rw [zd (fn:=zX) rfl];have a:=zcR hck;have i : (f.params.any fun p => !zfX p) = !f.params.all zfX:=by rw [← zmW,yj]
 have c:=zaq f.params (fun p => !zfX p) 198 [] [] (σ ++ [.cells 0 1 [[.ptr 1 0 0 0]]]) hf.params (fun p _ => zrO p _);rw [i] at c;have h:=fun a0 a2 a3 a4 a5 a9 j => zzL f level x y z dd σ hck hσ hf f.blocks.length 0 a0 a2 a3 a4 a5 a9 j (by omega) (by omega);simp only [yf,yc] at h;have d:=zg0 level f.blocks;cases g : zfX f.ret
 ·simp -implicitDefEqProofs only [go_sem,zX,a,g,zfn,Ok.at hσ]
 cases e2 : f.params.all zfX
 ·simp -implicitDefEqProofs only [go_sem,e2] at c
  simp -implicitDefEqProofs only [go_sem,zX,a,g,e2,c,zfn,Ok.at hσ]
 cases e : zcx level f.blocks with
 | none =>
   rw [e] at d;simp only [yh] at d;simp -implicitDefEqProofs only [go_sem,e2,e] at c h;simp -implicitDefEqProofs only [go_sem,zX,a,g,e2,c,h,zfn,← d,Ok.at hσ]
 | some b =>
   rw [e] at d;simp only [yi] at d;simp -implicitDefEqProofs only [go_sem,e2,e] at c h;simp -implicitDefEqProofs only [go_sem,zX,a,g,e2,c,h,zfn,← d,Ok.at hσ]
end
abbrev O0 (f : PFunc) : Ob:=.cells 0 3 [zcN f]
abbrev cM (g : Nat) : C:=.fn g [.ptr 1 0 0 0] []
abbrev O2 : Ob:=.cells 0 1 [[cM 159],[cM 160],[cM 161],[cM 162],[cM 163]]
def zlO (pi : List Int) (p : PPhi) : Bool:=decide (p.src = pi) && decide (p.args.length = p.src.length)
def zeF (b : PBlock) : Bool:=!((decide (b.kind = 1) || decide (b.kind = 3)) && !decide (b.arg = 0))
def zoC (pred : List (List Int)) (tree : List Int) (i : Nat) (b : PBlock) : Bool:=ziA tree i i && (b.phis.all (zlO (pred.getD i [])) && zeF b)
def zB6 (pred : List (List Int)) (tree : List Int) (i : Nat) (b : PBlock) : Option (List Ob) :=
 if ziA tree i i = false then some [.cells 0 5 [zK b]] else
 match b.phis.find? fun p => !zlO (pred.getD i []) p with
 | some p => some [.cells 0 5 [zK b],.cells 0 4 [zxT p]]
 | none => if zeF b = false then some [.cells 0 5 [zK b]] else none
def zfa (pred : List (List Int)) (tree : List Int) : Nat → List PBlock → Option (List Ob)
 | _,[] => none
 | i,b :: r => match zB6 pred tree i b with
   | some G => some G
   | none => zfa pred tree (i + 1) r
theorem zxM (pred : List (List Int)) (tree : List Int) (i : Nat) (b : PBlock) : (zB6 pred tree i b).isNone = zoC pred tree i b:=by
 unfold zB6 zoC;cases d : ziA tree i i
 ·simp
 ·simp only [Bool.true_eq_false,if_false,yk]
  cases a : b.phis.find? fun p => !zlO (pred.getD i []) p with
  | some p =>
    rw [show b.phis.all (zlO (pred.getD i [])) = false from zec a];rfl
  | none =>
    rw [zed a];cases c : zeF b <;> simp
def zcF (pred : List (List Int)) (tree : List Int) : Nat → List PBlock → Bool
 | _,[] => true
 | i,b :: r => zoC pred tree i b && zcF pred tree (i + 1) r
theorem ziW (pred : List (List Int)) (tree : List Int) : ∀ (l : List PBlock) (i : Nat),(zfa pred tree i l).isNone = zcF pred tree i l
 | [],_ => rfl
 | b :: r,i => by
   have h:=zxM pred tree i b;simp only [zfa,zcF]
   cases e : zB6 pred tree i b with
   | some G =>
     rw [e] at h;simp only [yi] at h;simp [← h]
   | none =>
     rw [e] at h;simp only [yh] at h;rw [← h,yk];exact ziW pred tree r (i + 1)
section
variable (f : PFunc) (hf : okF f) (level : Int) (dd : C) (hdd : dd = .f (.lit (.map none))) (pred : List (List Int)) (hpl : pred.length = f.blocks.length) (hpp : ∀ l ∈ pred,l.length ≤ 4294967296) (tree : List Int) (htl : tree.length ≤ 4294967296) (x y : C) (hx : ∃ a,x = .f a) (hy : ∃ a,y = .f a)
abbrev zlM (f : PFunc) (level : Int) (pred : List (List Int)) (tree : List Int) : zb:=[O0 f,zvB f level (.f (.sl ((zA f).map rl))) (.f (.sl (pred.map rl))) (.f (eI tree)) (.f (.lit (.map none))),O2,.cells 0 2 [[.f (.sl ((zA f).map rl)),.f (.sl (pred.map rl))]]]
include hf hpl hpp htl
theorem zyv (b : PBlock) (n : okB b) (i : Nat) (s : i < f.blocks.length) : ∀ (d k : Nat) (a1 a3 a6 a7 e h l g j : V),b.phis.length - k = d → k ≤ b.phis.length →
  exec T za0 ⟨[.one (.ptr 1 0 0 0),a1,.one (.ptr 3 0 0 0),a3,vI i,.one (.ptr 4 0 0 0),a6,a7,vL (f.blocks.map rb),vI f.blocks.length,vI i,e,h,vL (b.phis.map rp),vI b.phis.length,vI k,l,g,j],zlM f level pred tree ++ [.cells 0 5 [zK b]],3,3⟩ =
   some (match (b.phis.drop k).find? (fun p => !zlO (pred.getD i []) p) with
    | none => (.exit 2,⟨[.one (.ptr 1 0 0 0),vU,.one (.ptr 3 0 0 0),vU,vU,.one (.ptr 4 0 0 0),vU,vU,vL (f.blocks.map rb),vI f.blocks.length,vI i,vU,vU,vU,vU,vU,vU,vU,vU],zlM f level pred tree ++ [.cells 0 5 [zK b]],3,3⟩)
    | some p => (.ret,⟨[vU,vI 5,vU,vU,vU,vU,vU,vU,vU,vU,vU,vU,vU,vU,vU,vU,vU,vU,vU],zlM f level pred tree ++ [.cells 0 5 [zK b],.cells 0 4 [zxT p]],3,3⟩)):=by
 intro d
 induction d with
 | zero =>
   intro k a1 a3 a6 a7 e h l g j r q;have a : k = b.phis.length:=(by omega);subst a;rw [xl za0 rfl,zcg];simp -implicitDefEqProofs only [go_sem,zlM,yd,yb,List.find?_nil]
 | succ d ih =>
   intro k a1 a3 a6 a7 e h l g j r q;have a : k < b.phis.length:=(by omega);have hd : b.phis.drop k = b.phis[k] :: b.phis.drop (k + 1):=ya a;have c : i < pred.length:=(by omega);have o : pred.getD i [] = pred[i]:=(by simp [c]);have he:=ziK b.phis[k].src pred[i] [] (n.phi _ (ye a)).1;rw [xl za0 rfl,zcg,hd,List.find?_cons,o];rw [o] at ih
   by_cases c1 : b.phis[k].src = pred[i]
   ·by_cases c2 : b.phis[k].args.length = b.phis[k].src.length
    ·have m : ((b.phis[k].args.length : Int) = (b.phis[k].src.length : Int)) = True:=by simp [c2]
     have:=ih (k + 1) vU vU vU vU vU vU vU vU vU (by omega) (by omega);simp -implicitDefEqProofs only [go_sem,zlM,eq_true c1] at he this;simp -implicitDefEqProofs only [go_sem,zlM,ilt a,z6 a,z6 c,rp,rl,he,eq_true c1,m,eq_true c2,zlO,zf a n.phis,this]
    ·have m : ¬ (b.phis[k].args.length : Int) = (b.phis[k].src.length : Int):=by omega
     simp -implicitDefEqProofs only [go_sem,zlM,eq_true c1] at he;simp -implicitDefEqProofs only [go_sem,zlM,ilt a,z6 a,z6 c,rp,rl,he,eq_true c1,m,c2,zlO]
   ·simp -implicitDefEqProofs only [go_sem,zlM,c1] at he
    simp -implicitDefEqProofs only [go_sem,zlM,ilt a,z6 a,z6 c,rp,rl,he,c1,zlO]
theorem zyI : ∀ (d k : Nat) (a1 a3 a4 a5 a6 a7 b e m l n h c g : V),f.blocks.length - k = d → k ≤ f.blocks.length →
  exec T za4 ⟨[.one (.ptr 1 0 0 0),a1,.one (.ptr 3 0 0 0),a3,a4,a5,a6,a7,vL (f.blocks.map rb),vI f.blocks.length,vI k,b,e,m,l,n,h,c,g],zlM f level pred tree,3,3⟩ =
   some (match zfa pred tree k (f.blocks.drop k) with
    | none => (.exit 0,⟨[vU,vU,vU,vU,vU,vU,vU,vU,vU,vU,vU,vU,vU,vU,vU,vU,vU,vU,vU],zlM f level pred tree,3,3⟩)
    | some G => (.ret,⟨[vU,vI 5,vU,vU,vU,vU,vU,vU,vU,vU,vU,vU,vU,vU,vU,vU,vU,vU,vU],zlM f level pred tree ++ G,3,3⟩)):=by
 intro d
 induction d with
 | zero =>
   intro k a1 a3 a4 a5 a6 a7 b e m l n h c g v t;have a : k = f.blocks.length:=(by omega);subst a;rw [xl za4 rfl,zcm];simp -implicitDefEqProofs only [go_sem,zlM,yd,yb,zfa]
 | succ d ih =>
   intro k a1 a3 a4 a5 a6 a7 b e m l n h c g v t;have a : k < f.blocks.length:=(by omega);have hd : f.blocks.drop k = f.blocks[k] :: f.blocks.drop (k + 1):=ya a;have u:=hf.block _ (ye a);have i:=zmN tree k k htl;have j:=fun a1 a3 a6 a7 b e h c g => zyv f hf level pred hpl hpp tree htl f.blocks[k] u k a f.blocks[k].phis.length 0 a1 a3 a6 a7 b e h c g (by omega) (by omega);simp only [yf,yc] at j;rw [xl za4 rfl,zcm,hd,zfa,zB6];cases r : ziA tree k k
   ·simp -implicitDefEqProofs only [go_sem,r] at i
    simp -implicitDefEqProofs only [go_sem,zlM,ilt a,z6 a,rb,i]
   ·cases e2 : f.blocks[k].phis.find? (fun p => !zlO (pred.getD k []) p) with
    | some p =>
      simp -implicitDefEqProofs only [go_sem,zlM,r,e2] at i j;simp -implicitDefEqProofs only [go_sem,zlM,ilt a,z6 a,rb,i,j]
    | none =>
      have:=ih (k + 1) vU vU vU vU vU vU vU vU vU vU vU vU vU vU (by omega) (by omega);simp -implicitDefEqProofs only [go_sem,zlM,r,e2] at i j this
      by_cases q : f.blocks[k].kind = 1
      ·by_cases o : f.blocks[k].arg = 0
       ·simp -implicitDefEqProofs only [go_sem,zlM,ilt a,z6 a,rb,i,j,zeF,eq_true q,eq_true o,zf a hf.blocks,this]
       ·simp -implicitDefEqProofs only [go_sem,zlM,ilt a,z6 a,rb,i,j,zeF,eq_true q,o]
      ·by_cases s : f.blocks[k].kind = 3
       ·by_cases o : f.blocks[k].arg = 0
        ·simp -implicitDefEqProofs only [go_sem,zlM,ilt a,z6 a,rb,i,j,zeF,q,eq_true s,eq_true o,zf a hf.blocks,this]
        ·simp -implicitDefEqProofs only [go_sem,zlM,ilt a,z6 a,rb,i,j,zeF,q,eq_true s,o]
       ·simp -implicitDefEqProofs only [go_sem,zlM,ilt a,z6 a,rb,i,j,zeF,q,s,zf a hf.blocks,this]
end
theorem zDT (n : Nat) : (n + 1 + 1 + 1 + 1 ≤ 3) = False:=by simp
theorem znQ (f : PFunc) (hf : okF f) (level : Int) (a : zbA f = false) : call T 159 [.one (.ptr 1 0 0 0)] [O0 f,zvB f level (.f (.sl [])) (.f (.sl [])) (.f (.sl [])) (.f (.lit (.map none))),O2] = some (vI 5,[O0 f,zvB f level (.f (.sl [])) (.f (.sl [])) (.f (.sl [])) (.f (.lit (.map none))),O2]):=by
 rw [zd (fn:=zY) rfl];have h:=zjX f hf;simp -implicitDefEqProofs only [go_sem,zmg,a] at h;simp -implicitDefEqProofs only [go_sem,zY,h]
def zdM (f : PFunc) (tree : List Int) : Bool:=zbA f && zcF (zah (zA f)) tree 0 f.blocks
theorem zmF (succ : List (List Int)) (b : zlw succ) (c : (succ.map yl).sum ≤ 4294967296) : ∀ l ∈ zah succ,l.length ≤ 4294967296:=by
 have h : ∀ (l : List (List Int)) (i : Nat) (out : List (List Int)) (B : Nat),(∀ y ∈ out,y.length ≤ B) → ∀ y ∈ zbd i l out,y.length ≤ B + (l.map yl).sum:=by
  intro l
  induction l with
  | nil => intro i out B h y hy; exact h y hy
  | cons x r ih =>
    intro i out B h y hy;have:=ih (i + 1) (x.foldl (zsl i) out) (B + x.length) (zpg _ _ _ _ h) y hy;simp only [List.map_cons,List.sum_cons];omega
 intro l a;have:=h succ 0 (List.replicate succ.length []) 0 (fun y hy => by rw [(List.mem_replicate.1 hy).2]; simp) l a;omega
theorem zfr {f : PFunc} (h : zbA f = true) : zdc (zA f) = true:=by
 simp only [zbA,Bool.and_eq_true] at h;exact h.2.2
theorem zqb (f : PFunc) (hf : okF f) (level : Int) (o : zbA f = true) (tree : List Int) (htl : tree.length ≤ 4294967296)
  (g : call T 195 [.agg [.f (.sl ((zA f).map rl)),.f (.sl ((zah (zA f)).map rl))],vI 0] [] = some (vIs tree,[])) :
  call T 159 [.one (.ptr 1 0 0 0)] [O0 f,zvB f level (.f (.sl [])) (.f (.sl [])) (.f (.sl [])) (.f (.lit (.map none))),O2] =
   some (vI (if zcF (zah (zA f)) tree 0 f.blocks = true then 0 else 5),[O0 f,zvB f level (.f (.sl ((zA f).map rl))) (.f (.sl ((zah (zA f)).map rl))) (.f (eI tree)) (.f (.lit (.map none))),O2]):=by
 rw [zd (fn:=zY) rfl];have h:=zjX f hf;have b:=fun a1 a3 a4 a5 a6 a7 d j k c m n i l => zyI f hf level (zah (zA f)) (by rw [zgF]; simp [zA]) (zmF _ (znh hf) (zh7 (zfr o))) tree htl f.blocks.length 0 a1 a3 a4 a5 a6 a7 d j k c m n i l (by omega) (by omega);simp only [yf,yc] at b;have a:=ziW (zah (zA f)) tree f.blocks 0;simp -implicitDefEqProofs only [go_sem,zmg,o] at h g
 cases e : zfa (zah (zA f)) tree 0 f.blocks with
 | none =>
   rw [e] at a;simp only [yh] at a;simp -implicitDefEqProofs only [go_sem,zlM,e] at b;simp -implicitDefEqProofs only [go_sem,zY,h,g,b,← a]
 | some G =>
   rw [e] at a;simp only [yi] at a;simp -implicitDefEqProofs only [go_sem,zlM,e] at b;simp -implicitDefEqProofs only [go_sem,zY,h,g,b,← a,zDT]
end AC

/- A part of the proof of AffineFinds. Conditions: none. -/
import Derived.Test.YtmkncmffaaninaaGreatXAY
import Derived.Test.YtmkncmffaaninaaGreatXAW
set_option linter.all false
open List renaming length_map → ya,length_append → yb,drop_eq_getElem_cons → yc,length_cons → yd,getD_eq_getElem?_getD → ye,getElem_mem → yf,replicate → yg,drop_zero → yk,drop_length → yl,length_nil → yn,append_nil → yo,append_assoc → yp,map_nil → yq,mem_singleton → yr,getElem?_eq_getElem → ys,take_of_length_le → yt,singleton_append → yu,map_append → yw,map → yy,map_cons → yz,mem_cons → yA,nil_append → yB,foldl_cons → yC,map_set → yD,length → yE
open Int renaming natCast_nonneg → yh,natCast_zero → yi,toNat_natCast → yj,lt_irrefl → ym
open Nat renaming zero_add → yv,le_refl → yx
namespace AC
open Go Go.A Go.A.Lex
theorem zkn (f : PFunc) (hf : okF f) (k : f.params.length + (f.blocks.map fun b => b.phis.length + b.ops.length).sum ≤ 4294967296) : call T 73 [zfg f] [] = some (vUs (zt f),[]):=by
 rw [ze (fn:=zfh) rfl];have j:=fun a0 a2 a5 a6 a7 a8 a9 g d a c h e => zBA f hf f.params.length 0 [] a0 a2 a5 a6 a7 a8 a9 g d a c h e (by omega) (by omega) (by simp; omega);have i:=fun a0 a2 a4 a6 a7 a8 a9 g d a c h e => zBm f hf f.blocks.length 0 (zaJ 0 f.params) a0 a2 a4 a6 a7 a8 a9 g d a c h e (by omega) (by omega) (by rw [zg2]; simpa using k);simp only [yi,yk,yB,yq,yn] at j i;simp -implicitDefEqProofs only [go_sem,zgG] at j i;simp -implicitDefEqProofs only [go_sem,zfh,j,i,zt]
def zac (u : Use) : Use:=⟨u.v,u.shape,u.block,if u.at' = 1048576 then 1000 else u.at'⟩
section
variable (f : PFunc) (hf : okF f) (hret : ¬ f.ret = 0)
include hf
theorem zAQ (b : PBlock) (p : PPhi) (u : zHo p) (hlen : p.args.length = p.src.length) (i t : Int) : ∀ (d k : Nat) (acc : List Use) (a0 a2 a9 n h c g o j l a m : V),p.args.length - k = d → k ≤ p.args.length → acc.length + d ≤ 4294967296 →
  exec T zcg ⟨[a0,.one (.ptr 0 0 0 0),a2,.one (.ap 1 0 (acc.map rU)),vI i,.one (.ptr 2 0 0 0),vI t,.one (.ptr 3 0 0 0),vI k,a9,n,h,c,g,o,j,l,a,m],zgG f acc.length [.cells 0 5 [zw b],.cells 0 4 [zw6 p]],0,0⟩ =
   some (.exit 4,⟨[vU,.one (.ptr 0 0 0 0),vU,.one (.ap 1 0 ((acc ++ (zM p k (p.args.drop k)).map zac).map rU)),vI i,.one (.ptr 2 0 0 0),vI t,vU,vU,vU,vU,vU,vU,vU,vU,vU,vU,vU,vU],zgG f (acc ++ (zM p k (p.args.drop k)).map zac).length [.cells 0 5 [zw b],.cells 0 4 [zw6 p]],0,0⟩):=by
 intro d
 induction d with
 | zero =>
   intro k acc a0 a2 a9 n h c g o j l a m w x v;have q : k = p.args.length:=(by omega);subst q;rw [xl zcg rfl,zev];simp -implicitDefEqProofs only [go_sem,zgG,ym,ya,yl,zM,yq,yo]
 | succ d ih =>
   intro k acc a0 a2 a9 n h c g o j l a m w x v;have q : k < p.args.length:=(by omega);have e : k < p.src.length:=(by omega);have hd : p.args.drop k = p.args[k] :: p.args.drop (k + 1):=yc q;have r : acc.length + 1 ≤ LIM:=(by unfold LIM; omega);have s : p.src.getD k 0 = p.src[k]:=(by rw [ye,ys e]; rfl);have:=ih (k + 1) (acc ++ [⟨p.args[k],(p.bits,1),p.src[k],1000⟩]) vU vU vU vU vU vU vU vU vU vU vU vU (by omega) (by omega) (by simp; omega);have e1 : yy rU acc ++ [[Fz.lit (Value.int .i64 p.args[k]),Fz.lit (Value.int .i64 p.src[k]),Fz.lit (Value.int .i64 1000),Fz.lit (Value.int .i64 p.bits),Fz.lit (Value.int .i64 1)]] = yy rU (acc ++ [⟨p.args[k],(p.bits,1),p.src[k],1000⟩]):=by simp [rU]
   have e2 : (zM p k (p.args[k] :: p.args.drop (k + 1))).map zac = ⟨p.args[k],(p.bits,1),p.src[k],1000⟩ :: (zM p (k + 1) (p.args.drop (k + 1))).map zac:=by
    rw [zM,yz,s];rfl
   rw [yp,yu] at this;rw [xl zcg rfl,zev,hd,e2];simp -implicitDefEqProofs only [go_sem,zgG,yb,yd,yn,yv] at this;simp -implicitDefEqProofs only [go_sem,zgG,ilt q,ilt e,zy q,zy e,ri,ya,za q u.2,r,e1,yb,yd,this]
theorem zAp (b : PBlock) (w : okB b) (v : zkI b) (i : Int) : ∀ (d k : Nat) (acc : List Use) (a0 a2 a7 a8 a9 o g c e p h m a n : V),b.phis.length - k = d → k ≤ b.phis.length → acc.length + (zaA (b.phis.drop k)).length ≤ 4294967296 →
  exec T zcM ⟨[a0,.one (.ptr 0 0 0 0),a2,.one (.ap 1 0 (acc.map rU)),vI i,.one (.ptr 2 0 0 0),vI k,a7,a8,a9,o,g,c,e,p,h,m,a,n],zgG f acc.length [.cells 0 5 [zw b]],0,0⟩ =
   some (.exit 2,⟨[vU,.one (.ptr 0 0 0 0),vU,.one (.ap 1 0 ((acc ++ (zaA (b.phis.drop k)).map zac).map rU)),vI i,.one (.ptr 2 0 0 0),vU,vU,vU,vU,vU,vU,vU,vU,vU,vU,vU,vU,vU],zgG f (acc ++ (zaA (b.phis.drop k)).map zac).length [.cells 0 5 [zw b]],0,0⟩):=by
 intro d
 induction d with
 | zero =>
   intro k acc a0 a2 a7 a8 a9 o g c e p h m a n A B y;have q : k = b.phis.length:=(by omega);subst q;rw [xl zcM rfl,zeJ];simp -implicitDefEqProofs only [go_sem,zgG,ym,ya,yl,zaA,List.flatMap_nil,yq,yo]
 | succ d ih =>
   intro k acc a0 a2 a7 a8 a9 o g c e p h m a n A B y;have q : k < b.phis.length:=(by omega);have hd : b.phis.drop k = b.phis[k] :: b.phis.drop (k + 1):=yc q;have e0 : zaA (b.phis[k] :: b.phis.drop (k + 1)) = zgk b.phis[k] ++ zaA (b.phis.drop (k + 1)):=rfl;have z:=w.phi _ (yf q);have hle:=v.1 _ (yf q)
   have u : ∀ (l : List Int) (j : Nat),(zM b.phis[k] j l).length = l.length:=by
    intro l
    induction l with
    | nil => intro j; rfl
    | cons x l ih => intro j; rw [zM,yd,ih,yd]
   have s : (zgk b.phis[k]).length = b.phis[k].args.length:=u _ 0;rw [hd,e0,yb,s] at y;have t:=fun a0 a2 a9 o g c e p h m a n => zAQ f hf b b.phis[k] z hle i k b.phis[k].args.length 0 acc a0 a2 a9 o g c e p h m a n (by omega) (by omega) (by omega);simp only [yi,yk] at t;have e1 : zM b.phis[k] 0 b.phis[k].args = zgk b.phis[k]:=rfl;rw [e1] at t;have:=ih (k + 1) (acc ++ (zgk b.phis[k]).map zac) vU vU vU vU vU vU vU vU vU vU vU vU vU vU (by omega) (by omega) (by rw [yb,ya,s]; omega);have e3 : acc ++ (zgk b.phis[k] ++ zaA (b.phis.drop (k + 1))).map zac = (acc ++ (zgk b.phis[k]).map zac) ++ (zaA (b.phis.drop (k + 1))).map zac:=(by rw [yw,yp]);rw [xl zcM rfl,zeJ,hd,e0,e3];obtain ⟨a1,r⟩ : ∃ a1,a1 = acc ++ (zgk b.phis[k]).map zac:=⟨_,rfl⟩;rw [← r] at this ⊢;simp only [← r] at t;simp -implicitDefEqProofs only [go_sem,zgG] at t this;simp -implicitDefEqProofs only [go_sem,zgG,ilt q,zy q,rp,ya,t,za q w.phis,this]
theorem zAm (b : PBlock) (v : okB b) (i : Int) (a : Nat) (c : a < b.ops.length) (t : ¬ (a : Int) = 1048576) (l : List (Int × Int)) (z : l.length ≤ b.ops[a].args.length) : ∀ (d k : Nat) (acc : List Use) (a0 a2 a6 a7 a8 g j p m n e o : V),l.length - k = d → k ≤ l.length → acc.length + d ≤ 4294967296 →
  exec T zcF ⟨[a0,.one (.ptr 0 0 0 0),a2,.one (.ap 1 0 (acc.map rU)),vI i,.one (.ptr 2 0 0 0),a6,a7,a8,vI a,vSs l,vI k,g,j,p,m,n,e,o],zgG f acc.length [.cells 0 5 [zw b]],0,0⟩ =
   some (.exit 8,⟨[vU,.one (.ptr 0 0 0 0),vU,.one (.ap 1 0 ((acc ++ (zW b.ops[a] i a k (l.drop k)).map zac).map rU)),vI i,.one (.ptr 2 0 0 0),vU,vU,vU,vI a,vU,vU,vU,vU,vU,vU,vU,vU,vU],zgG f (acc ++ (zW b.ops[a] i a k (l.drop k)).map zac).length [.cells 0 5 [zw b]],0,0⟩):=by
 intro d
 induction d with
 | zero =>
   intro k acc a0 a2 a6 a7 a8 g j p m n e o x y w;have q : k = l.length:=(by omega);subst q;rw [xl zcF rfl,zey];simp -implicitDefEqProofs only [go_sem,zgG,ym,ya,yl,zW,yq,yo]
 | succ d ih =>
   intro k acc a0 a2 a6 a7 a8 g j p m n e o x y w;have q : k < l.length:=(by omega);have h : k < b.ops[a].args.length:=(by omega);have u:=(v.op _ (yf c)).2;have hd : l.drop k = l[k] :: l.drop (k + 1):=yc q;have r : acc.length + 1 ≤ LIM:=(by unfold LIM; omega);have s : b.ops[a].args.getD k 0 = b.ops[a].args[k]:=(by rw [ye,ys h]; rfl);have:=ih (k + 1) (acc ++ [⟨b.ops[a].args[k],l[k],i,(a : Int)⟩]) vU vU vU vU vU vU vU vU vU vU vU vU (by omega) (by omega) (by simp; omega);have e1 : yy rU acc ++ [[Fz.lit (Value.int .i64 b.ops[a].args[k]),Fz.lit (Value.int .i64 i),Fz.lit (Value.int .i64 (a : Int)),Fz.lit (Value.int .i64 l[k].1),Fz.lit (Value.int .i64 l[k].2)]] = yy rU (acc ++ [⟨b.ops[a].args[k],l[k],i,(a : Int)⟩]):=by simp [rU]
   have e2 : (zW b.ops[a] i a k (l[k] :: l.drop (k + 1))).map zac = ⟨b.ops[a].args[k],l[k],i,(a : Int)⟩ :: (zW b.ops[a] i a (k + 1) (l.drop (k + 1))).map zac:=by
    rw [zW,yz,s];unfold zac;simp only [if_neg t]
   rw [yp,yu] at this;rw [xl zcF rfl,zey,hd,e2];simp -implicitDefEqProofs only [go_sem,zgG,yb,yd,yn,yv] at this;simp -implicitDefEqProofs only [go_sem,zgG,ilt q,ilt h,ilt c,zy q,zy h,zy c,ri,rs,ro,ya,za q (show l.length ≤ 4294967296 by omega),r,e1,yb,yd,yh,yj,this]
theorem ziT (o : POp) (i at' : Int) : ∀ (l : List (Int × Int)) (k : Nat),(zW o i at' k l).length = l.length
 | [],_ => rfl
 | s :: r,k => by rw [zW,yd,ziT o i at' r,yd]
theorem zAI (b : PBlock) (s : okB b) (t : zkI b) (w : b.ops.length ≤ 1048576) (i : Int) : ∀ (d k : Nat) (acc : List Use) (a0 a2 a6 a7 a8 o n c e l g h a j : V),b.ops.length - k = d → k ≤ b.ops.length → acc.length + (zr i k (b.ops.drop k)).length ≤ 4294967296 →
  exec T zcj ⟨[a0,.one (.ptr 0 0 0 0),a2,.one (.ap 1 0 (acc.map rU)),vI i,.one (.ptr 2 0 0 0),a6,a7,a8,vI k,o,n,c,e,l,g,h,a,j],zgG f acc.length [.cells 0 5 [zw b]],0,0⟩ =
   some (.exit 6,⟨[vU,.one (.ptr 0 0 0 0),vU,.one (.ap 1 0 ((acc ++ (zr i k (b.ops.drop k)).map zac).map rU)),vI i,.one (.ptr 2 0 0 0),vU,vU,vU,vU,vU,vU,vU,vU,vU,vU,vU,vU,vU],zgG f (acc ++ (zr i k (b.ops.drop k)).map zac).length [.cells 0 5 [zw b]],0,0⟩):=by
 intro d
 induction d with
 | zero =>
   intro k acc a0 a2 a6 a7 a8 o n c e l g h a j x y v;have m : k = b.ops.length:=(by omega);subst m;rw [xl zcj rfl,zes];simp -implicitDefEqProofs only [go_sem,zgG,ym,ya,yl,zr,yq,yo]
 | succ d ih =>
   intro k acc a0 a2 a6 a7 a8 o n c e l g h a j x y v;have m : k < b.ops.length:=(by omega);have hd : b.ops.drop k = b.ops[k] :: b.ops.drop (k + 1):=yc m;have u:=ztR b.ops[k] (s.op _ (yf m));have hle:=t.2 _ (yf m);have q : (zkK b.ops[k] i (k : Int)).length = (zaC b.ops[k]).length:=ziT f hf _ i k _ 0;rw [hd,zr,yb,q] at v;have r:=fun a0 a2 a6 a7 a8 c e l g h a j => zAm f hf b s i k m (by omega) (zaC b.ops[k]) hle (zaC b.ops[k]).length 0 acc a0 a2 a6 a7 a8 c e l g h a j (by omega) (by omega) (by omega);simp only [yi,yk] at r;have e1 : zW b.ops[k] i k 0 (zaC b.ops[k]) = zkK b.ops[k] i k:=rfl;rw [e1] at r;have:=ih (k + 1) (acc ++ (zkK b.ops[k] i k).map zac) vU vU vU vU vU vU vU vU vU vU vU vU vU vU (by omega) (by omega) (by rw [yb,ya,q]; omega);have e3 : acc ++ (zkK b.ops[k] i k ++ zr i (k + 1) (b.ops.drop (k + 1))).map zac = (acc ++ (zkK b.ops[k] i k).map zac) ++ (zr i (k + 1) (b.ops.drop (k + 1))).map zac:=(by rw [yw,yp]);rw [xl zcj rfl,zes,hd,zr,e3];obtain ⟨a1,p⟩ : ∃ a1,a1 = acc ++ (zkK b.ops[k] i k).map zac:=⟨_,rfl⟩;rw [← p] at this ⊢;simp only [← p] at r;simp -implicitDefEqProofs only [go_sem] at u;simp -implicitDefEqProofs only [go_sem,zgG] at r this;simp -implicitDefEqProofs only [go_sem,zgG,ilt m,zy m,ro,ya,u,r,za m s.ops,this]
include hret
theorem zCA (w : ∀ b ∈ f.blocks,zkI b) (y : ∀ b ∈ f.blocks,b.ops.length ≤ 1048576) : ∀ (d k : Nat) (acc : List Use) (a0 a2 a5 a6 a7 a8 a9 l g c e m h i a j : V),f.blocks.length - k = d → k ≤ f.blocks.length → acc.length + (zaB f k (f.blocks.drop k)).length ≤ 4294967296 →
  exec T zcd ⟨[a0,.one (.ptr 0 0 0 0),a2,.one (.ap 1 0 (acc.map rU)),vI k,a5,a6,a7,a8,a9,l,g,c,e,m,h,i,a,j],zgG f acc.length [],0,0⟩ =
   some (.exit 0,⟨[vU,vU,vU,.one (.ap 1 0 ((acc ++ (zaB f k (f.blocks.drop k)).map zac).map rU)),vU,vU,vU,vU,vU,vU,vU,vU,vU,vU,vU,vU,vU,vU,vU],zgG f (acc ++ (zaB f k (f.blocks.drop k)).map zac).length [],0,0⟩):=by
 intro d
 induction d with
 | zero =>
   intro k acc a0 a2 a5 a6 a7 a8 a9 l g c e m h i a j C D B;have p : k = f.blocks.length:=(by omega);subst p;rw [xl zcd rfl,zeU];simp -implicitDefEqProofs only [go_sem,zgG,ym,ya,yl,zaB,yq,yo]
 | succ d ih =>
   intro k acc a0 a2 a5 a6 a7 a8 a9 l g c e m h i a j C D B;have p : k < f.blocks.length:=(by omega);have hd : f.blocks.drop k = f.blocks[k] :: f.blocks.drop (k + 1):=yc p;have n:=yf p;obtain ⟨b,t⟩ : ∃ b,b = f.blocks[k]:=⟨_,rfl⟩;have x:=zy (r:=rb) p;rw [← t] at n x;have z:=hf.block _ n;rw [hd,zaB,← t,zgN,yb,yb,yb] at B;have v:=fun a0 a2 a7 a8 a9 l g c e m h i a j => zAp f hf b z (w b n) k b.phis.length 0 acc a0 a2 a7 a8 a9 l g c e m h i a j (by omega) (by omega) (by rw [yk]; omega);have q:=fun a0 a2 a6 a7 a8 l g c e m h i a j => zAI f hf b z (w b n) (y b n) k b.ops.length 0 (acc ++ (zaA b.phis).map zac) a0 a2 a6 a7 a8 l g c e m h i a j (by omega) (by omega) (by rw [yk,yb,ya]; omega);have:=ih (k + 1) (acc ++ (zaA b.phis).map zac ++ (zr k 0 b.ops).map zac ++ (zbK f k b).map zac) vU vU vU vU vU vU vU vU vU vU vU vU vU vU vU vU (by omega) (by omega) (by simp only [yb,ya]; omega);simp only [yi,yk] at v q
   have e3 : acc ++ (zgN f k b ++ zaB f (k + 1) (f.blocks.drop (k + 1))).map zac = (acc ++ (zaA b.phis).map zac ++ (zr k 0 b.ops).map zac ++ (zbK f k b).map zac) ++ (zaB f (k + 1) (f.blocks.drop (k + 1))).map zac:=by
    rw [zgN];simp only [yw,yp]
   rw [xl zcd rfl,zeU,hd,zaB,← t,e3];obtain ⟨a1,u⟩ : ∃ a1,a1 = acc ++ (zaA b.phis).map zac:=⟨_,rfl⟩;rw [← u] at this ⊢;simp only [← u] at v q;obtain ⟨a2,s⟩ : ∃ a2,a2 = a1 ++ (zr k 0 b.ops).map zac:=⟨_,rfl⟩;rw [← s] at this ⊢;simp only [← s] at q
   have A : a2.length + (zbK f k b).length ≤ 4294967296:=by
    rw [s,u];simp only [yb,ya];omega
   simp -implicitDefEqProofs only [go_sem,zgG] at v q
   by_cases c0 : b.kind = 0
   ·have e0 : (zbK f k b).map zac = [⟨b.arg,(f.ret,1),(k : Int),1000⟩]:=by
     unfold zbK zjD;rw [if_pos c0,if_neg hret];rfl
    have el : (zbK f k b).length = 1:=by
     have:=congrArg yE e0;simpa using this
    have o : a2.length + 1 ≤ LIM:=(by unfold LIM; omega);have n2 : ¬ b.kind = 2:=(by omega);rw [e0] at this ⊢;have e1 : yy rU a2 ++ [[Fz.lit (Value.int .i64 b.arg),Fz.lit (Value.int .i64 (k : Int)),Fz.lit (Value.int .i64 1000),Fz.lit (Value.int .i64 f.ret),Fz.lit (Value.int .i64 1)]] = yy rU (a2 ++ [⟨b.arg,(f.ret,1),(k : Int),1000⟩]):=(by simp [rU]);simp -implicitDefEqProofs only [go_sem,zgG,yb,yd,yn,yv] at this;simp -implicitDefEqProofs only [go_sem,zgG,ilt p,x,rb,ya,v,q,eq_true c0,n2,o,e1,za p hf.blocks,yb,yd,this]
   ·by_cases c2 : b.kind = 2
    ·have e0 : (zbK f k b).map zac = [⟨b.arg,(1,1),(k : Int),1000⟩]:=by
      unfold zbK zjD;rw [if_neg c0,if_pos c2];rfl
     have el : (zbK f k b).length = 1:=by
      have:=congrArg yE e0;simpa using this
     have o : a2.length + 1 ≤ LIM:=(by unfold LIM; omega);rw [e0] at this ⊢;have e1 : yy rU a2 ++ [[Fz.lit (Value.int .i64 b.arg),Fz.lit (Value.int .i64 (k : Int)),Fz.lit (Value.int .i64 1000),Fz.lit (Value.int .i64 1),Fz.lit (Value.int .i64 1)]] = yy rU (a2 ++ [⟨b.arg,(1,1),(k : Int),1000⟩]):=(by simp [rU]);simp -implicitDefEqProofs only [go_sem,zgG,yb,yd,yn,yv] at this;simp -implicitDefEqProofs only [go_sem,zgG,ilt p,x,rb,ya,v,q,c0,eq_true c2,o,e1,za p hf.blocks,yb,yd,this]
    ·have e0 : zbK f k b = []:=by
      unfold zbK zjD;rw [if_neg c0,if_neg c2];rfl
     rw [e0,yq,yo] at this ⊢;simp -implicitDefEqProofs only [go_sem,zgG] at this;simp -implicitDefEqProofs only [go_sem,zgG,ilt p,x,rb,ya,v,q,c0,c2,za p hf.blocks,this]
theorem zun (n : ∀ b ∈ f.blocks,zkI b) (d : ∀ b ∈ f.blocks,b.ops.length ≤ 1048576) (p : (zfj f).length ≤ 4294967296) : call T 76 [zfg f] [] = some (vUs ((zfj f).map zac),[]):=by
 rw [ze (fn:=ze7) rfl];have h:=fun a0 a2 a5 a6 a7 a8 a9 m i c g o j k a l => zCA f hf hret n d f.blocks.length 0 [] a0 a2 a5 a6 a7 a8 a9 m i c g o j k a l (by omega) (by omega) (by simpa [zfj] using p);have e : zaB f 0 f.blocks = zfj f:=rfl;simp only [yi,yk,yB,yq,yn,e] at h;simp -implicitDefEqProofs only [go_sem,zgG] at h;simp -implicitDefEqProofs only [go_sem,ze7,h]
end
def rbo (b : Bool) : List Fz:=[.lit (.bool b)]
def zgx (b : Bool) : List C:=[.f (.lit (.bool b))]
abbrev vBs (l : List Bool) : V:=.one (.f (.sl (l.map rbo)))
attribute [go_sem] vBs
theorem ztb (l : List Bool) : za6 (l.map zgx) = some (l.map rbo):=by
 induction l with
 | nil => rfl
 | cons x l ih => rw [yz,za6,ih]; rfl
theorem zHj {l : List Bool} {k : Nat} (h : k < l.length) : (l.map zgx)[k]? = some [.f (.lit (.bool (l.getD k false)))]:=by simp [h,zgx]
def mark (w : Int) (out : List Bool) (y : Int) : List Bool:=if y = w then out else out.set y.toNat true
theorem zmO (w : Int) (out : List Bool) (y : Int) : (mark w out y).length = out.length:=by unfold mark; split <;> simp
theorem zil (w : Int) : ∀ (l : List Int) (out : List Bool),(l.foldl (mark w) out).length = out.length
 | [],_ => rfl
 | y :: l,out => by rw [yC,zil w l,zmO]
theorem zvI {w : Int} {out : List Bool} {y : Int} {i : Nat} (h : out.getD i false = true) : (mark w out y).getD i false = true:=by
 unfold mark;split
 ·exact h
 ·have b : i < out.length:=by
   rcases Nat.lt_or_ge i out.length with a | a
   ·exact a
   ·rw [ye,List.getElem?_eq_none a] at h
    cases h
  by_cases c : y.toNat = i
  ·rw [c,ye,List.getElem?_set_self b]
   rfl
  ·rw [ye,List.getElem?_set_ne c,← ye]
   exact h
def zkb (w : Int) : Nat → List (List Int) → List Bool → List Bool
 | _,[],out => out
 | i,l :: r,out => zkb w (i + 1) r (if out.getD i false = true then l.foldl (mark w) out else out)
theorem zh7 (w : Int) : ∀ (r : List (List Int)) (i : Nat) (out : List Bool),(zkb w i r out).length = out.length
 | [],_,_ => rfl
 | l :: r,i,out => by
   rw [zkb,zh7 w r];split
   ·exact zil w l out
   ·rfl
def zfv (w : Int) (succ : List (List Int)) : Nat → List Bool → List Bool
 | 0,out => out
 | r + 1,out => zfv w succ r (zkb w 0 succ out)
theorem zhn (w : Int) (succ : List (List Int)) : ∀ (r : Nat) (out : List Bool),(zfv w succ r out).length = out.length
 | 0,_ => rfl
 | r + 1,out => by rw [zfv,zhn w succ r,zh7]
def zdO (succ : List (List Int)) (root w : Int) : List Bool:=if root = w then yg succ.length false else zfv w succ succ.length ((yg succ.length false).set root.toNat true)
section
variable (succ pred : List (List Int)) (hn : succ.length ≤ 4294967296) (hl : ∀ l ∈ succ,l.length ≤ 4294967296) (hr : ∀ l ∈ succ,∀ y ∈ l,0 ≤ y ∧ y < (succ.length : Int)) (w : Int)
abbrev zr3 : Ob:=.cells 0 2 [[.f (.sl (succ.map rl)),.f (.sl (pred.map rl))]]
abbrev zql (out : List Bool) : zd:=[zr3 succ pred,.cells 0 1 (out.map zgx)]
include hn hl hr
theorem zE0 (R : Int) (i : Nat) (b : i < succ.length) : ∀ (d k : Nat) (out : List Bool) (a0 a1 a4 a9 j h e g : V),out.length = succ.length → out.getD i false = true → succ[i].length - k = d → k ≤ succ[i].length →
  exec T zay ⟨[a0,a1,vI w,.one (.ptr 0 0 0 0),a4,.one (.own 1 0 0 succ.length),vI R,vI i,vI k,a9,j,h,e,g],zql succ pred out,0,0⟩ =
   some (.exit 4,⟨[vU,vU,vI w,.one (.ptr 0 0 0 0),vU,.one (.own 1 0 0 succ.length),vI R,vI i,vU,vU,vU,vU,vU,vU],zql succ pred ((succ[i].drop k).foldl (mark w) out),0,0⟩):=by
 intro d
 induction d with
 | zero =>
   intro k out a0 a1 a4 a9 j h e g u p A B;have a : k = succ[i].length:=(by omega);subst a;have m:=zHj (l:=out) (k:=i) (by omega);rw [p] at m;rw [xl zay rfl,zbX];simp -implicitDefEqProofs only [go_sem,zql,zr3,ilt b,zy b,rl,m,ym,ya,yl,List.foldl_nil,yh,yj]
 | succ d ih =>
   intro k out a0 a1 a4 a9 j h e g u p A B;have a : k < succ[i].length:=(by omega);have hd : succ[i].drop k = succ[i][k] :: succ[i].drop (k + 1):=yc a;have m:=zHj (l:=out) (k:=i) (by omega);rw [p] at m;obtain ⟨y,q⟩ : ∃ y,y = succ[i][k]:=⟨_,rfl⟩;have t:=hr _ (yf b) _ (yf a);have n:=hl _ (yf b);rw [← q] at t;have z:=zHj (l:=out) (k:=y.toNat) (by omega);have:=ih (k + 1) (mark w out y) vU vU vU vU vU vU vU vU (by rw [zmO]; exact u) (zvI p) (by omega) (by omega);have D : ¬ y < 0:=(by omega);have v:=t.1;have x:=t.2;have o : (out.map zgx).set y.toNat [C.f (.lit (.bool true))] = (out.set y.toNat true).map zgx:=(by rw [yD]; rfl);rw [xl zay rfl,zbX,hd,yC,← q];have s:=zy (r:=ri) a;rw [← q] at s
   by_cases c : y = w
   ·simp -implicitDefEqProofs only [go_sem,zql,zr3,mark,c] at this
    simp -implicitDefEqProofs only [go_sem,zql,zr3,ilt b,ilt a,zy b,s,ri,rl,m,ya,yh,yj,za a n,mark,c,this]
   ·simp -implicitDefEqProofs only [go_sem,zql,zr3,mark,c] at this
    simp -implicitDefEqProofs only [go_sem,zql,zr3,ilt b,ilt a,zy b,s,ri,rl,m,ya,yh,yj,za a n,mark,c,v,x,z,o,this]
theorem zwx (R : Int) (i : Nat) (b : i < succ.length) (out : List Bool) (d : out.length = succ.length) (c : out.getD i false = false) a0 a1 a4 a9 a10 a11 a12 a13 :
  exec T zay ⟨[a0,a1,vI w,.one (.ptr 0 0 0 0),a4,.one (.own 1 0 0 succ.length),vI R,vI i,vI 0,a9,a10,a11,a12,a13],zql succ pred out,0,0⟩ =
   some (.exit 4,⟨[vU,vU,vI w,.one (.ptr 0 0 0 0),vU,.one (.own 1 0 0 succ.length),vI R,vI i,vU,vU,vU,vU,vU,vU],zql succ pred out,0,0⟩):=by
 have a:=zHj (l:=out) (k:=i) (by omega);rw [c] at a;rw [xl zay rfl,zbX];simp -implicitDefEqProofs only [go_sem,zql,zr3,ilt b,a,yh,yj]
theorem zEK (R : Int) : ∀ (d k : Nat) (out : List Bool) (a0 a1 a4 a8 a9 f e a b : V),out.length = succ.length → succ.length - k = d → k ≤ succ.length →
  exec T zbY ⟨[a0,a1,vI w,.one (.ptr 0 0 0 0),a4,.one (.own 1 0 0 succ.length),vI R,vI k,a8,a9,f,e,a,b],zql succ pred out,0,0⟩ =
   some (.exit 2,⟨[vU,vU,vI w,.one (.ptr 0 0 0 0),vU,.one (.own 1 0 0 succ.length),vI R,vU,vU,vU,vU,vU,vU,vU],zql succ pred (zkb w k (succ.drop k) out),0,0⟩):=by
 intro d
 induction d with
 | zero =>
   intro k out a0 a1 a4 a8 a9 f e a b i j l;have g : k = succ.length:=(by omega);subst g;rw [xl zbY rfl,zdY];simp -implicitDefEqProofs only [go_sem,zql,zr3,ym,ya,yl,zkb]
 | succ d ih =>
   intro k out a0 a1 a4 a8 a9 f e a b i j l;have g : k < succ.length:=(by omega);have hd : succ.drop k = succ[k] :: succ.drop (k + 1):=yc g;rw [xl zbY rfl,zdY,hd,zkb];cases c : out.getD k false
   ·have h:=fun a0 a1 a4 a9 f e a b => zwx succ pred hn hl hr w R k g out i c a0 a1 a4 a9 f e a b
    have:=ih (k + 1) out vU vU vU vU vU vU vU vU vU i (by omega) (by omega);simp -implicitDefEqProofs only [go_sem,zql,zr3] at h this;simp -implicitDefEqProofs only [go_sem,zql,zr3,ilt g,h,za g hn,this]
   ·have h:=fun a0 a1 a4 a9 f e a b => zE0 succ pred hn hl hr w R k g succ[k].length 0 out a0 a1 a4 a9 f e a b i c (by omega) (by omega)
    simp only [yi,yk] at h;have:=ih (k + 1) (succ[k].foldl (mark w) out) vU vU vU vU vU vU vU vU vU (by rw [zil]; exact i) (by omega) (by omega);simp -implicitDefEqProofs only [go_sem,zql,zr3] at h this;simp -implicitDefEqProofs only [go_sem,zql,zr3,ilt g,h,za g hn,this]
theorem zD4 : ∀ (d k : Nat) (out : List Bool) (a0 a1 a4 a7 a8 a9 a e b c : V),out.length = succ.length → succ.length - k = d → k ≤ succ.length →
  exec T zb6 ⟨[a0,a1,vI w,.one (.ptr 0 0 0 0),a4,.one (.own 1 0 0 succ.length),vI k,a7,a8,a9,a,e,b,c],zql succ pred out,0,0⟩ =
   some (.exit 0,⟨[vU,vU,vU,vU,vU,.one (.own 1 0 0 succ.length),vU,vU,vU,vU,vU,vU,vU,vU],zql succ pred (zfv w succ d out),0,0⟩):=by
 intro d
 induction d with
 | zero =>
   intro k out a0 a1 a4 a7 a8 a9 a e b c h i j;have f : k = succ.length:=(by omega);subst f;rw [xl zb6 rfl,zed];simp -implicitDefEqProofs only [go_sem,zql,zr3,ym,ya,zfv]
 | succ d ih =>
   intro k out a0 a1 a4 a7 a8 a9 a e b c h i j;have f : k < succ.length:=(by omega);rw [xl zb6 rfl,zed,zfv];have g:=fun a0 a1 a4 a8 a9 a e b c => zEK succ pred hn hl hr w k succ.length 0 out a0 a1 a4 a8 a9 a e b c h (by omega) (by omega);simp only [yi,yk] at g;have:=ih (k + 1) (zkb w 0 succ out) vU vU vU vU vU vU vU vU vU vU (by rw [zh7]; exact h) (by omega) (by omega);simp -implicitDefEqProofs only [go_sem,zql,zr3] at g this;simp -implicitDefEqProofs only [go_sem,zql,zr3,ilt f,g,za f hn,this]
theorem zn5 (root : Int) (t : 0 ≤ root ∧ root < (succ.length : Int)) : call T 124 [.agg [.f (.sl (succ.map rl)),.f (.sl (pred.map rl))],vI root,vI w] [] = some (vBs (zdO succ root w),[]):=by
 rw [ze (fn:=zcI) rfl];have p : yg succ.length [C.f (.lit (.bool false))] = (yg succ.length false).map zgx:=by rw [List.map_replicate]; rfl
 have b : (succ.length : Int) ≤ (LIM : Int):=by unfold LIM; omega
 have q:=fun l => ztb l;obtain ⟨r,r1⟩:=t
 by_cases c : root = w
 ·have j : ((yg succ.length false).map zgx).take succ.length = (yg succ.length false).map zgx:=yt (by simp)
  simp -implicitDefEqProofs only [go_sem,zcI,b,yh,yj,ya,p,c,j,q,zdO]
 ·have s:=zHj (l:=yg succ.length false) (k:=root.toNat) (by simp; omega)
  have d : ((yg succ.length false).map zgx).set root.toNat [C.f (.lit (.bool true))] = ((yg succ.length false).set root.toNat true).map zgx:=by rw [yD]; rfl
  have h:=fun a0 a1 a4 a7 a8 a9 o n g m => zD4 succ pred hn hl hr w succ.length 0 ((yg succ.length false).set root.toNat true) a0 a1 a4 a7 a8 a9 o n g m (by simp) (by omega) (by omega);simp only [yi] at h;obtain ⟨res,a⟩ : ∃ res,res = zfv w succ succ.length ((yg succ.length false).set root.toNat true):=⟨_,rfl⟩;have i : res.length = succ.length:=by rw [a,zhn]; simp
  have j : (res.map zgx).take succ.length = res.map zgx:=yt (by simp [i]);have e : zdO succ root w = res:=by unfold zdO; rw [if_neg c,a]
  rw [e];rw [← a] at h;simp -implicitDefEqProofs only [go_sem,zql,zr3] at h;simp -implicitDefEqProofs only [go_sem,zcI,b,yh,yj,ya,p,c,r,r1,s,d,h,j,q]
end
end AC
namespace Dm
section
variable (E : Int → Int → Prop) (root : Int)
inductive Way : Int → List Int → Prop
 | root : Way root [root]
 | step {p x : Int} {l : List Int} : Way p l → E p x → Way x (x :: l)
def Dom (d x : Int) : Prop:=∀ l,Way E root x l → d ∈ l
structure Ord (O : Int → Prop) (pos : Int → Nat) : Prop where
 rt : O root
 inj : ∀ a b,O a → O b → pos a = pos b → a = b
 low : ∀ a,O a → pos root ≤ pos a
 par : ∀ x,O x → x ≠ root → ∃ p,O p ∧ E p x ∧ pos p < pos x
 cl : ∀ p x,O p → E p x → O x
inductive Inc (pos : Int → Nat) : Int → Int → Prop
 | refl (a : Int) : Inc pos a a
 | step {a p x : Int} : Inc pos a p → E p x → pos p < pos x → Inc pos a x
inductive Anc (T : Int → Int) : Int → Int → Prop
 | refl (x : Int) : Anc T x x
 | step {y x : Int} : x ≠ root → Anc T y (T x) → Anc T y x
def Com (T : Int → Int) (x y : Int) : Prop:=∀ p,E p x → T p ≠ -2 → Anc root T y p
def St (T : Int → Int) (x : Int) : Prop:=T x ≠ -2 ∧ ∀ y,Anc root T y (T x) ↔ Com E root T x y
structure Inv (O : Int → Prop) (pos : Int → Nat) (T : Int → Int) : Prop where
 out : ∀ x,¬ O x → T x = -2
 rt : T root = root
 nn : ∀ x,O x → x ≠ -2
 par : ∀ x,x ≠ root → T x ≠ -2 → T (T x) ≠ -2 ∧ pos (T x) < pos x
 A : ∀ x d,x ≠ root → T x ≠ -2 → Dom E root d x → d ≠ x → Dom E root d (T x)
 P : ∀ x,x ≠ root → T x ≠ -2 → Inc E pos (T x) x
 B : ∀ x,x ≠ root → T x ≠ -2 → ∀ y,Com E root T x y → pos y ≤ pos (T x)
end
variable {E : Int → Int → Prop} {root : Int} {O : Int → Prop} {pos : Int → Nat}
section
variable (H : Ord E root O pos)
include H
theorem zyg {x : Int} {l : List Int} (h : Way E root x l) : O x ∧ ∀ y ∈ l,O y:=by
 induction h with
 | root => exact ⟨H.rt,fun y a => by rw [yr.1 a]; exact H.rt⟩
 | step h e ih =>
   have:=H.cl _ _ ih.1 e;refine ⟨this,fun y a => ?_⟩;rcases yA.1 a with rfl | a
   ·exact this
   ·exact ih.2 y a
theorem zFv : ∀ (n : Nat) (x : Int),pos x ≤ n → O x → ∃ l,Way E root x l ∧ ∀ y ∈ l,y = x ∨ pos y < pos x:=by
 intro n
 induction n with
 | zero =>
   intro x f b
   by_cases c : x = root
   ·subst c
    exact ⟨_,.root,fun y a => .inl (yr.1 a)⟩
   ·obtain ⟨p,_,_,h⟩:=H.par x b c
    omega
 | succ n ih =>
   intro x f b
   by_cases c : x = root
   ·subst c
    exact ⟨_,.root,fun y a => .inl (yr.1 a)⟩
   ·obtain ⟨p,g,e,h⟩:=H.par x b c
    obtain ⟨l,w,d⟩:=ih p (by omega) g;refine ⟨_,.step w e,fun y a => ?_⟩;rcases yA.1 a with rfl | a
    ·exact .inl rfl
    ·rcases d y a with rfl | i
     ·exact .inr h
     ·exact .inr (by omega)
theorem ztO {d x : Int} (b : O x) (h : Dom E root d x) : d = x ∨ pos d < pos x:=by
 obtain ⟨l,w,a⟩:=zFv H _ x (yx _) b;exact a d (h l w)
theorem zI6 {d x : Int} (a : O x) (h : Dom E root d x) : O d:=by
 obtain ⟨l,w,b⟩:=zFv H _ x (yx _) a;exact (zyg H w).2 d (h l w)
end
theorem zya {d p x : Int} (e : E p x) (h : Dom E root d x) (hd : d ≠ x) : Dom E root d p:=by
 intro l w;rcases yA.1 (h _ (.step w e)) with h | h
 ·exact absurd h hd
 ·exact h
theorem zDR (x : Int) : Dom E root x x:=by
 intro l w
 cases w with
 | root => simp
 | step => simp
theorem zGB {a b : Int} (h : Inc E pos a b) : a = b ∨ pos a < pos b:=by
 induction h with
 | refl => exact .inl rfl
 | step h e l c => rcases c with rfl | c <;> right <;> omega
theorem zA0 {a b c : Int} (h : Inc E pos a b) (k : Inc E pos b c) : Inc E pos a c:=by
 induction k with
 | refl => exact h
 | step k e l ih => exact .step ih e l
theorem zCX {T : Int → Int} {a b c : Int} (h : Anc root T a b) (k : Anc root T b c) : Anc root T a c:=by
 induction k with
 | refl => exact h
 | step n k ih => exact .step n ih
theorem zpd {T : Int → Int} {y x : Int} (h : Anc root T y x) (a : y ≠ x) : x ≠ root ∧ Anc root T y (T x):=by
 cases h with
 | refl => exact absurd rfl a
 | step n h => exact ⟨n,h⟩
section
variable (H : Ord E root O pos) {T : Int → Int} (I : Inv E root O pos T)
include H I
theorem zj8 {x : Int} (h : T x ≠ -2) : O x:=by
 by_cases c : O x
 ·exact c
 ·exact absurd (I.out x c) h
theorem zFn : T root ≠ -2:=by rw [I.rt]; exact I.nn _ H.rt
theorem zFT {y x : Int} (h : Anc root T y x) (b : T x ≠ -2) : T y ≠ -2 ∧ (y = x ∨ pos y < pos x):=by
 induction h with
 | refl => exact ⟨b,.inl rfl⟩
 | step n h ih =>
   obtain ⟨d,e⟩:=I.par _ n b;obtain ⟨c,a⟩:=ih d;refine ⟨c,.inr ?_⟩;rcases a with a | a
   ·rw [a]; exact e
   ·omega
theorem zuM {y x : Int} (h : Anc root T y x) (a : T x ≠ -2) : pos y ≤ pos x:=by
 rcases (zFT H I h a).2 with rfl | h <;> omega
theorem zD0 {d m x : Int} (h : Anc root T m x) (b : T x ≠ -2) (hd : Dom E root d x) (hm : Anc root T d m) : Dom E root d m:=by
 induction h with
 | refl => exact hd
 | step n h ih =>
   rename_i c;obtain ⟨a,e⟩:=I.par _ n b;refine ih a (I.A _ _ n b hd ?_);rintro rfl;have a1:=zuM H I h a;have a2:=zuM H I hm (zFT H I h a).1;omega
theorem zA3 : ∀ (n : Nat) (x d : Int),pos x ≤ n → T x ≠ -2 → Dom E root d x → Anc root T d x:=by
 intro n
 induction n with
 | zero =>
   intro x d e a hd
   by_cases c : d = x
   ·subst c; exact .refl _
   ·rcases ztO H (zj8 H I a) hd with h | h
    ·exact absurd h c
    ·omega
 | succ n ih =>
   intro x d e a hd
   by_cases c : d = x
   ·subst c; exact .refl _
   ·have b : x ≠ root:=by
     rintro rfl;rcases ztO H H.rt hd with h | h
     ·exact c h
     ·have:=H.low d (zI6 H H.rt hd)
      omega
    obtain ⟨f,g⟩:=I.par _ b a;exact .step b (ih _ _ (by omega) f (I.A _ _ b a hd c))
theorem zH7 {a b : Int} (h : Inc E pos a b) (c : O a) : O b:=by
 induction h with
 | refl => exact c
 | step h e l ih => exact H.cl _ _ ih e
theorem zGQ {y x : Int} (h : Anc root T y x) (a : T x ≠ -2) : Inc E pos y x:=by
 induction h with
 | refl => exact .refl _
 | step n h ih => exact zA0 (ih (I.par _ n a).1) (I.P _ n a)
section
variable {z : Int} (hst : ∀ y,O y → y ≠ root → pos y < pos z → St E root T y)
include hst
theorem zsQ {y : Int} (h : O y) (a : pos y < pos z) : T y ≠ -2:=by
 by_cases c : y = root
 ·rw [c]; exact zFn H I
 ·exact (hst y h c a).1
theorem zHJ {a v y : Int} (h : Inc E pos a v) (f : O a) (g : pos v < pos z) (c : Anc root T y v) (k : pos y ≤ pos a) : Anc root T y a:=by
 induction h with
 | refl => exact c
 | step h e l ih =>
   rename_i p v;have d:=zH7 H I h f
   have hle : pos a ≤ pos p:=(by rcases zGB h with rfl | h <;> omega);have b : y ≠ v:=(by rintro rfl; omega);obtain ⟨j,i⟩:=zpd c b;have hs:=hst v (H.cl _ _ d e) j g;exact ih (by omega) ((hs.2 y).1 i p e (zsQ H I hst d (by omega)))
theorem key {y : Int} (b : z ≠ root) (a : T z ≠ -2) (g : Com E root T z y) : Anc root T y (T z):=by
 have i:=I.P z b a;have f:=I.B z b a y g;obtain ⟨j,k⟩:=I.par z b a;have d:=zj8 H I j;generalize hw : T z = w at i f k d
 cases i with
 | refl => omega
 | step h e l =>
   have c:=zH7 H I h d;exact zHJ H I hst h d l (g _ e (zsQ H I hst c l)) f
end
end
structure Upd (E : Int → Int → Prop) (root : Int) (O : Int → Prop) (pos : Int → Nat) (T T' : Int → Int) (z m : Int) : Prop where
 at' : T' z = m
 ne : ∀ x,x ≠ z → T' x = T x
 oz : O z
 hr : z ≠ root
 st : ∀ y,O y → y ≠ root → pos y < pos z → St E root T y
 hm : T m ≠ -2
 best : ∀ y,Anc root T y m ↔ Com E root T z y
 new : m ≠ T z
section
variable (H : Ord E root O pos) {T T' : Int → Int} (I : Inv E root O pos T) {z m : Int} (U : Upd E root O pos T T' z m)
include H I U
theorem ztw : ∃ p,E p z ∧ T p ≠ -2 ∧ pos p < pos z ∧ Anc root T m p:=by
 obtain ⟨p,d,c,a⟩:=H.par z U.oz U.hr;have b:=zsQ H I U.st d a;exact ⟨p,c,b,a,(U.best m).1 (.refl _) p c b⟩
theorem zFU : pos m < pos z ∧ m ≠ -2 ∧ m ≠ z:=by
 obtain ⟨p,d,b,c,a⟩:=ztw H I U;have:=zuM H I a b;refine ⟨by omega,I.nn _ (zj8 H I U.hm),?_⟩;rintro rfl;omega
theorem zye {x : Int} (h : T x ≠ -2) : T' x ≠ -2:=by
 by_cases c : x = z
 ·rw [c,U.at']; exact (zFU H I U).2.1
 ·rw [U.ne x c]; exact h
theorem shrink {y x : Int} (h : Anc root T' y x) (a : T x ≠ -2) : Anc root T y x:=by
 induction h with
 | refl => exact .refl _
 | step n h ih =>
   rename_i x
   by_cases c : x = z
   ·subst c
    rw [U.at'] at h ih;have b:=ih U.hm;exact .step n (zCX b (key H I U.st n a ((U.best m).1 (.refl _))))
   ·rw [U.ne x c] at h ih
    exact .step n (ih (I.par _ n a).1)
theorem zC2 (a : T z ≠ -2) : pos m < pos (T z):=by
 have h:=key H I U.st U.hr a ((U.best m).1 (.refl _));have b:=(I.par z U.hr a).1;rcases (zFT H I h b).2 with h | h
 ·exact absurd h U.new
 ·exact h
theorem zFK : Inv E root O pos T':=by
 obtain ⟨m1,m2,t⟩:=zFU H I U;have k:=U.oz;have b : ∀ x y,Com E root T' x y → (Com E root T x y):=fun x y h p e r => shrink H I U (h p e (zye H I U r)) r;refine ⟨fun x a => ?_,?_,I.nn,fun x hr a => ?_,fun x d hr a hd i => ?_,fun x hr a => ?_,fun x hr a y o => ?_⟩
 ·rw [U.ne x (by rintro rfl; exact a k)]; exact I.out x a
 ·rw [U.ne _ (fun h => U.hr h.symm)]; exact I.rt
 ·by_cases c : x = z
  ·subst c
   rw [U.at',U.ne m t];exact ⟨U.hm,m1⟩
  ·rw [U.ne x c] at a ⊢
   exact ⟨zye H I U (I.par x hr a).1,(I.par x hr a).2⟩
 ·by_cases c : x = z
  ·subst c
   rw [U.at'];obtain ⟨p,l,f,n,j⟩:=ztw H I U;have g : Anc root T d m:=(U.best d).2 fun q e s => zA3 H I _ q d (yx _) s (zya e hd i);exact zD0 H I j f (zya l hd i) g
  ·rw [U.ne x c] at a ⊢
   exact I.A x d hr a hd i
 ·by_cases c : x = z
  ·subst c
   rw [U.at'];obtain ⟨p,l,f,n,j⟩:=ztw H I U;exact .step (zGQ H I j f) l n
  ·rw [U.ne x c] at a ⊢
   exact I.P x hr a
 ·by_cases c : x = z
  ·subst c
   rw [U.at'];exact zuM H I ((U.best y).2 (b _ _ o)) U.hm
  ·rw [U.ne x c] at a ⊢
   exact I.B x hr a y (b _ _ o)
end
section
variable (H : Ord E root O pos) {T : Int → Int} (I : Inv E root O pos T) (hs : ∀ x,O x → x ≠ root → St E root T x)
include H I hs
theorem zGG {x : Int} (h : O x) : T x ≠ -2:=by
 by_cases c : x = root
 ·rw [c]; exact zFn H I
 ·exact (hs x h c).1
theorem zFR {x : Int} {l : List Int} (w : Way E root x l) : ∀ y,Anc root T y x → y ∈ l:=by
 induction w with
 | root =>
   intro y h
   by_cases c : y = root
   ·simp [c]
   ·exact absurd rfl (zpd h c).1
 | step w e ih =>
   rename_i p x l;intro y h
   by_cases c : y = x
   ·simp [c]
   ·obtain ⟨b,d⟩:=zpd h c
    have a:=(zyg H w).1;have:=(hs x (H.cl _ _ a e) b).2 y |>.1 d p e (zGG H I hs a);exact List.mem_cons_of_mem _ (ih y this)
theorem zwl {d x : Int} (a : O x) : Anc root T d x ↔ Dom E root d x :=
 ⟨fun h l w => zFR H I hs w d h,fun h => zA3 H I _ x d (yx _) (zGG H I hs a) h⟩
end
end Dm

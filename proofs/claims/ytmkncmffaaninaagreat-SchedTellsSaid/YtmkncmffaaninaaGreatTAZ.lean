/- A part of the proof of SchedTells. Conditions: none. -/
import Derived.Test.YtmkncmffaaninaaGreatTAY
import Derived.Test.YtmkncmffaaninaaGreatTAW
set_option linter.all false
open List renaming length_map → ya,length_append → yb,drop_eq_getElem_cons → yc,length_cons → yd,getD_eq_getElem?_getD → ye,getElem_mem → yf,replicate → yg,drop_zero → yk,drop_length → yl,length_nil → yn,append_nil → yo,append_assoc → yp,map_nil → yq,mem_singleton → yr,getElem?_eq_getElem → ys,take_of_length_le → yt,singleton_append → yu,map_append → yw,map → yy,map_cons → yz,mem_cons → yA,nil_append → yB,foldl_cons → yC,map_set → yD,length → yE
open Int renaming natCast_nonneg → yh,natCast_zero → yi,toNat_natCast → yj,lt_irrefl → ym
open Nat renaming zero_add → yv,le_refl → yx
namespace AC
open Go Go.A Go.A.Lex
theorem ztX (f : PFunc) (hf : okF f) (k : f.params.length + (f.blocks.map fun b => b.phis.length + b.ops.length).sum ≤ 4294967296) : call T 73 [zd4 f] [] = some (vUs (zN f),[]):=by
 rw [ze (fn:=zfo) rfl];have j:=fun a0 a2 a5 a6 a7 a8 a9 h c g d a e => zAN f hf f.params.length 0 [] a0 a2 a5 a6 a7 a8 a9 h c g d a e (by omega) (by omega) (by simp; omega);have i:=fun a0 a2 a4 a6 a7 a8 a9 h c g d a e => zz6 f hf f.blocks.length 0 (za0 0 f.params) a0 a2 a4 a6 a7 a8 a9 h c g d a e (by omega) (by omega) (by rw [zhg]; simpa using k);simp only [yi,yk,yB,yq,yn] at j i;simp -implicitDefEqProofs only [go_sem,zgK] at j i;simp -implicitDefEqProofs only [go_sem,zfo,j,i,zN]
def z8 (u : Use) : Use:=⟨u.v,u.shape,u.block,if u.at' = 1048576 then 1000 else u.at'⟩
section
variable (f : PFunc) (hf : okF f) (hret : ¬ f.ret = 0)
include hf
theorem zB7 (b : PBlock) (p : PPhi) (w : zGV p) (hlen : p.args.length = p.src.length) (i t : Int) : ∀ (d k : Nat) (acc : List Use) (a0 a2 a9 o h n l e m c j a : V),p.args.length - k = d → k ≤ p.args.length → acc.length + d ≤ 4294967296 →
  exec T zcV ⟨[a0,.one (.ptr 0 0 0 0),a2,.one (.ap 1 0 (acc.map rU)),vI i,.one (.ptr 2 0 0 0),vI t,.one (.ptr 3 0 0 0),vI k,a9,o,h,n,l,e,m,c,j,a],zgK f acc.length [.cells 0 5 [zg b],.cells 0 4 [zuh p]],0,0⟩ =
   some (.exit 4,⟨[vU,.one (.ptr 0 0 0 0),vU,.one (.ap 1 0 ((acc ++ (zG p k (p.args.drop k)).map z8).map rU)),vI i,.one (.ptr 2 0 0 0),vI t,vU,vU,vU,vU,vU,vU,vU,vU,vU,vU,vU,vU],zgK f (acc ++ (zG p k (p.args.drop k)).map z8).length [.cells 0 5 [zg b],.cells 0 4 [zuh p]],0,0⟩):=by
 intro d
 induction d with
 | zero =>
   intro k acc a0 a2 a9 o h n l e m c j a u x v;have q : k = p.args.length:=(by omega);subst q;rw [xl zcV rfl,ze7];simp -implicitDefEqProofs only [go_sem,zgK,ym,ya,yl,zG,yq,yo]
 | succ d ih =>
   intro k acc a0 a2 a9 o h n l e m c j a u x v;have q : k < p.args.length:=(by omega);have g : k < p.src.length:=(by omega);have hd : p.args.drop k = p.args[k] :: p.args.drop (k + 1):=yc q;have r : acc.length + 1 ≤ LIM:=(by unfold LIM; omega);have s : p.src.getD k 0 = p.src[k]:=(by rw [ye,ys g]; rfl);have:=ih (k + 1) (acc ++ [⟨p.args[k],(p.bits,1),p.src[k],1000⟩]) vU vU vU vU vU vU vU vU vU vU vU vU (by omega) (by omega) (by simp; omega);have e1 : yy rU acc ++ [[Fz.lit (Value.int .i64 p.args[k]),Fz.lit (Value.int .i64 p.src[k]),Fz.lit (Value.int .i64 1000),Fz.lit (Value.int .i64 p.bits),Fz.lit (Value.int .i64 1)]] = yy rU (acc ++ [⟨p.args[k],(p.bits,1),p.src[k],1000⟩]):=by simp [rU]
   have e2 : (zG p k (p.args[k] :: p.args.drop (k + 1))).map z8 = ⟨p.args[k],(p.bits,1),p.src[k],1000⟩ :: (zG p (k + 1) (p.args.drop (k + 1))).map z8:=by
    rw [zG,yz,s];rfl
   rw [yp,yu] at this;rw [xl zcV rfl,ze7,hd,e2];simp -implicitDefEqProofs only [go_sem,zgK,yb,yd,yn,yv] at this;simp -implicitDefEqProofs only [go_sem,zgK,ilt q,ilt g,zj q,zj g,ri,ya,za q w.2,r,e1,yb,yd,this]
theorem zAp (b : PBlock) (y : okB b) (v : zkq b) (i : Int) : ∀ (d k : Nat) (acc : List Use) (a0 a2 a7 a8 a9 p h o m e n c g a : V),b.phis.length - k = d → k ≤ b.phis.length → acc.length + (zar (b.phis.drop k)).length ≤ 4294967296 →
  exec T zcl ⟨[a0,.one (.ptr 0 0 0 0),a2,.one (.ap 1 0 (acc.map rU)),vI i,.one (.ptr 2 0 0 0),vI k,a7,a8,a9,p,h,o,m,e,n,c,g,a],zgK f acc.length [.cells 0 5 [zg b]],0,0⟩ =
   some (.exit 2,⟨[vU,.one (.ptr 0 0 0 0),vU,.one (.ap 1 0 ((acc ++ (zar (b.phis.drop k)).map z8).map rU)),vI i,.one (.ptr 2 0 0 0),vU,vU,vU,vU,vU,vU,vU,vU,vU,vU,vU,vU,vU],zgK f (acc ++ (zar (b.phis.drop k)).map z8).length [.cells 0 5 [zg b]],0,0⟩):=by
 intro d
 induction d with
 | zero =>
   intro k acc a0 a2 a7 a8 a9 p h o m e n c g a z B w;have q : k = b.phis.length:=(by omega);subst q;rw [xl zcl rfl,zeE];simp -implicitDefEqProofs only [go_sem,zgK,ym,ya,yl,zar,List.flatMap_nil,yq,yo]
 | succ d ih =>
   intro k acc a0 a2 a7 a8 a9 p h o m e n c g a z B w;have q : k < b.phis.length:=(by omega);have hd : b.phis.drop k = b.phis[k] :: b.phis.drop (k + 1):=yc q;have e0 : zar (b.phis[k] :: b.phis.drop (k + 1)) = zgE b.phis[k] ++ zar (b.phis.drop (k + 1)):=rfl;have A:=y.phi _ (yf q);have hle:=v.1 _ (yf q)
   have u : ∀ (l : List Int) (j : Nat),(zG b.phis[k] j l).length = l.length:=by
    intro l
    induction l with
    | nil => intro j; rfl
    | cons x l ih => intro j; rw [zG,yd,ih,yd]
   have s : (zgE b.phis[k]).length = b.phis[k].args.length:=u _ 0;rw [hd,e0,yb,s] at w;have t:=fun a0 a2 a9 p h o m e n c g a => zB7 f hf b b.phis[k] A hle i k b.phis[k].args.length 0 acc a0 a2 a9 p h o m e n c g a (by omega) (by omega) (by omega);simp only [yi,yk] at t;have e1 : zG b.phis[k] 0 b.phis[k].args = zgE b.phis[k]:=rfl;rw [e1] at t;have:=ih (k + 1) (acc ++ (zgE b.phis[k]).map z8) vU vU vU vU vU vU vU vU vU vU vU vU vU vU (by omega) (by omega) (by rw [yb,ya,s]; omega);have e3 : acc ++ (zgE b.phis[k] ++ zar (b.phis.drop (k + 1))).map z8 = (acc ++ (zgE b.phis[k]).map z8) ++ (zar (b.phis.drop (k + 1))).map z8:=(by rw [yw,yp]);rw [xl zcl rfl,zeE,hd,e0,e3];obtain ⟨a1,r⟩ : ∃ a1,a1 = acc ++ (zgE b.phis[k]).map z8:=⟨_,rfl⟩;rw [← r] at this ⊢;simp only [← r] at t;simp -implicitDefEqProofs only [go_sem,zgK] at t this;simp -implicitDefEqProofs only [go_sem,zgK,ilt q,zj q,rp,ya,t,za q y.phis,this]
theorem zBE (b : PBlock) (w : okB b) (i : Int) (a : Nat) (h : a < b.ops.length) (t : ¬ (a : Int) = 1048576) (l : List (Int × Int)) (z : l.length ≤ b.ops[a].args.length) : ∀ (d k : Nat) (acc : List Use) (a0 a2 a6 a7 a8 p n g o e m c : V),l.length - k = d → k ≤ l.length → acc.length + d ≤ 4294967296 →
  exec T zcF ⟨[a0,.one (.ptr 0 0 0 0),a2,.one (.ap 1 0 (acc.map rU)),vI i,.one (.ptr 2 0 0 0),a6,a7,a8,vI a,vSs l,vI k,p,n,g,o,e,m,c],zgK f acc.length [.cells 0 5 [zg b]],0,0⟩ =
   some (.exit 8,⟨[vU,.one (.ptr 0 0 0 0),vU,.one (.ap 1 0 ((acc ++ (zM b.ops[a] i a k (l.drop k)).map z8).map rU)),vI i,.one (.ptr 2 0 0 0),vU,vU,vU,vI a,vU,vU,vU,vU,vU,vU,vU,vU,vU],zgK f (acc ++ (zM b.ops[a] i a k (l.drop k)).map z8).length [.cells 0 5 [zg b]],0,0⟩):=by
 intro d
 induction d with
 | zero =>
   intro k acc a0 a2 a6 a7 a8 p n g o e m c u y v;have q : k = l.length:=(by omega);subst q;rw [xl zcF rfl,ze2];simp -implicitDefEqProofs only [go_sem,zgK,ym,ya,yl,zM,yq,yo]
 | succ d ih =>
   intro k acc a0 a2 a6 a7 a8 p n g o e m c u y v;have q : k < l.length:=(by omega);have j : k < b.ops[a].args.length:=(by omega);have x:=(w.op _ (yf h)).2;have hd : l.drop k = l[k] :: l.drop (k + 1):=yc q;have r : acc.length + 1 ≤ LIM:=(by unfold LIM; omega);have s : b.ops[a].args.getD k 0 = b.ops[a].args[k]:=(by rw [ye,ys j]; rfl);have:=ih (k + 1) (acc ++ [⟨b.ops[a].args[k],l[k],i,(a : Int)⟩]) vU vU vU vU vU vU vU vU vU vU vU vU (by omega) (by omega) (by simp; omega);have e1 : yy rU acc ++ [[Fz.lit (Value.int .i64 b.ops[a].args[k]),Fz.lit (Value.int .i64 i),Fz.lit (Value.int .i64 (a : Int)),Fz.lit (Value.int .i64 l[k].1),Fz.lit (Value.int .i64 l[k].2)]] = yy rU (acc ++ [⟨b.ops[a].args[k],l[k],i,(a : Int)⟩]):=by simp [rU]
   have e2 : (zM b.ops[a] i a k (l[k] :: l.drop (k + 1))).map z8 = ⟨b.ops[a].args[k],l[k],i,(a : Int)⟩ :: (zM b.ops[a] i a (k + 1) (l.drop (k + 1))).map z8:=by
    rw [zM,yz,s];unfold z8;simp only [if_neg t]
   rw [yp,yu] at this;rw [xl zcF rfl,ze2,hd,e2];simp -implicitDefEqProofs only [go_sem,zgK,yb,yd,yn,yv] at this;simp -implicitDefEqProofs only [go_sem,zgK,ilt q,ilt j,ilt h,zj q,zj j,zj h,ri,rs,ro,ya,za q (show l.length ≤ 4294967296 by omega),r,e1,yb,yd,yh,yj,this]
theorem zi9 (o : POp) (i at' : Int) : ∀ (l : List (Int × Int)) (k : Nat),(zM o i at' k l).length = l.length
 | [],_ => rfl
 | s :: r,k => by rw [zM,yd,zi9 o i at' r,yd]
theorem zz3 (b : PBlock) (t : okB b) (s : zkq b) (x : b.ops.length ≤ 1048576) (i : Int) : ∀ (d k : Nat) (acc : List Use) (a0 a2 a6 a7 a8 o n l h e j c g a : V),b.ops.length - k = d → k ≤ b.ops.length → acc.length + (zo i k (b.ops.drop k)).length ≤ 4294967296 →
  exec T zcn ⟨[a0,.one (.ptr 0 0 0 0),a2,.one (.ap 1 0 (acc.map rU)),vI i,.one (.ptr 2 0 0 0),a6,a7,a8,vI k,o,n,l,h,e,j,c,g,a],zgK f acc.length [.cells 0 5 [zg b]],0,0⟩ =
   some (.exit 6,⟨[vU,.one (.ptr 0 0 0 0),vU,.one (.ap 1 0 ((acc ++ (zo i k (b.ops.drop k)).map z8).map rU)),vI i,.one (.ptr 2 0 0 0),vU,vU,vU,vU,vU,vU,vU,vU,vU,vU,vU,vU,vU],zgK f (acc ++ (zo i k (b.ops.drop k)).map z8).length [.cells 0 5 [zg b]],0,0⟩):=by
 intro d
 induction d with
 | zero =>
   intro k acc a0 a2 a6 a7 a8 o n l h e j c g a w y u;have m : k = b.ops.length:=(by omega);subst m;rw [xl zcn rfl,zeD];simp -implicitDefEqProofs only [go_sem,zgK,ym,ya,yl,zo,yq,yo]
 | succ d ih =>
   intro k acc a0 a2 a6 a7 a8 o n l h e j c g a w y u;have m : k < b.ops.length:=(by omega);have hd : b.ops.drop k = b.ops[k] :: b.ops.drop (k + 1):=yc m;have v:=zto b.ops[k] (t.op _ (yf m));have hle:=s.2 _ (yf m);have q : (zkl b.ops[k] i (k : Int)).length = (zaN b.ops[k]).length:=zi9 f hf _ i k _ 0;rw [hd,zo,yb,q] at u;have r:=fun a0 a2 a6 a7 a8 l h e j c g a => zBE f hf b t i k m (by omega) (zaN b.ops[k]) hle (zaN b.ops[k]).length 0 acc a0 a2 a6 a7 a8 l h e j c g a (by omega) (by omega) (by omega);simp only [yi,yk] at r;have e1 : zM b.ops[k] i k 0 (zaN b.ops[k]) = zkl b.ops[k] i k:=rfl;rw [e1] at r;have:=ih (k + 1) (acc ++ (zkl b.ops[k] i k).map z8) vU vU vU vU vU vU vU vU vU vU vU vU vU vU (by omega) (by omega) (by rw [yb,ya,q]; omega);have e3 : acc ++ (zkl b.ops[k] i k ++ zo i (k + 1) (b.ops.drop (k + 1))).map z8 = (acc ++ (zkl b.ops[k] i k).map z8) ++ (zo i (k + 1) (b.ops.drop (k + 1))).map z8:=(by rw [yw,yp]);rw [xl zcn rfl,zeD,hd,zo,e3];obtain ⟨a1,p⟩ : ∃ a1,a1 = acc ++ (zkl b.ops[k] i k).map z8:=⟨_,rfl⟩;rw [← p] at this ⊢;simp only [← p] at r;simp -implicitDefEqProofs only [go_sem] at v;simp -implicitDefEqProofs only [go_sem,zgK] at r this;simp -implicitDefEqProofs only [go_sem,zgK,ilt m,zj m,ro,ya,v,r,za m t.ops,this]
include hret
theorem zBx (w : ∀ b ∈ f.blocks,zkq b) (y : ∀ b ∈ f.blocks,b.ops.length ≤ 1048576) : ∀ (d k : Nat) (acc : List Use) (a0 a2 a5 a6 a7 a8 a9 m h l i e j c g a : V),f.blocks.length - k = d → k ≤ f.blocks.length → acc.length + (zas f k (f.blocks.drop k)).length ≤ 4294967296 →
  exec T zce ⟨[a0,.one (.ptr 0 0 0 0),a2,.one (.ap 1 0 (acc.map rU)),vI k,a5,a6,a7,a8,a9,m,h,l,i,e,j,c,g,a],zgK f acc.length [],0,0⟩ =
   some (.exit 0,⟨[vU,vU,vU,.one (.ap 1 0 ((acc ++ (zas f k (f.blocks.drop k)).map z8).map rU)),vU,vU,vU,vU,vU,vU,vU,vU,vU,vU,vU,vU,vU,vU,vU],zgK f (acc ++ (zas f k (f.blocks.drop k)).map z8).length [],0,0⟩):=by
 intro d
 induction d with
 | zero =>
   intro k acc a0 a2 a5 a6 a7 a8 a9 m h l i e j c g a C D A;have n : k = f.blocks.length:=(by omega);subst n;rw [xl zce rfl,zeU];simp -implicitDefEqProofs only [go_sem,zgK,ym,ya,yl,zas,yq,yo]
 | succ d ih =>
   intro k acc a0 a2 a5 a6 a7 a8 a9 m h l i e j c g a C D A;have n : k < f.blocks.length:=(by omega);have hd : f.blocks.drop k = f.blocks[k] :: f.blocks.drop (k + 1):=yc n;have o:=yf n;obtain ⟨b,s⟩ : ∃ b,b = f.blocks[k]:=⟨_,rfl⟩;have x:=zj (r:=rb) n;rw [← s] at o x;have B:=hf.block _ o;rw [hd,zas,← s,zgT,yb,yb,yb] at A;have v:=fun a0 a2 a7 a8 a9 m h l i e j c g a => zAp f hf b B (w b o) k b.phis.length 0 acc a0 a2 a7 a8 a9 m h l i e j c g a (by omega) (by omega) (by rw [yk]; omega);have u:=fun a0 a2 a6 a7 a8 m h l i e j c g a => zz3 f hf b B (w b o) (y b o) k b.ops.length 0 (acc ++ (zar b.phis).map z8) a0 a2 a6 a7 a8 m h l i e j c g a (by omega) (by omega) (by rw [yk,yb,ya]; omega);have:=ih (k + 1) (acc ++ (zar b.phis).map z8 ++ (zo k 0 b.ops).map z8 ++ (zbE f k b).map z8) vU vU vU vU vU vU vU vU vU vU vU vU vU vU vU vU (by omega) (by omega) (by simp only [yb,ya]; omega);simp only [yi,yk] at v u
   have e3 : acc ++ (zgT f k b ++ zas f (k + 1) (f.blocks.drop (k + 1))).map z8 = (acc ++ (zar b.phis).map z8 ++ (zo k 0 b.ops).map z8 ++ (zbE f k b).map z8) ++ (zas f (k + 1) (f.blocks.drop (k + 1))).map z8:=by
    rw [zgT];simp only [yw,yp]
   rw [xl zce rfl,zeU,hd,zas,← s,e3];obtain ⟨a1,q⟩ : ∃ a1,a1 = acc ++ (zar b.phis).map z8:=⟨_,rfl⟩;rw [← q] at this ⊢;simp only [← q] at v u;obtain ⟨a2,t⟩ : ∃ a2,a2 = a1 ++ (zo k 0 b.ops).map z8:=⟨_,rfl⟩;rw [← t] at this ⊢;simp only [← t] at u
   have z : a2.length + (zbE f k b).length ≤ 4294967296:=by
    rw [t,q];simp only [yb,ya];omega
   simp -implicitDefEqProofs only [go_sem,zgK] at v u
   by_cases c0 : b.kind = 0
   ·have e0 : (zbE f k b).map z8 = [⟨b.arg,(f.ret,1),(k : Int),1000⟩]:=by
     unfold zbE zjz;rw [if_pos c0,if_neg hret];rfl
    have el : (zbE f k b).length = 1:=by
     have:=congrArg yE e0;simpa using this
    have p : a2.length + 1 ≤ LIM:=(by unfold LIM; omega);have n2 : ¬ b.kind = 2:=(by omega);rw [e0] at this ⊢;have e1 : yy rU a2 ++ [[Fz.lit (Value.int .i64 b.arg),Fz.lit (Value.int .i64 (k : Int)),Fz.lit (Value.int .i64 1000),Fz.lit (Value.int .i64 f.ret),Fz.lit (Value.int .i64 1)]] = yy rU (a2 ++ [⟨b.arg,(f.ret,1),(k : Int),1000⟩]):=(by simp [rU]);simp -implicitDefEqProofs only [go_sem,zgK,yb,yd,yn,yv] at this;simp -implicitDefEqProofs only [go_sem,zgK,ilt n,x,rb,ya,v,u,eq_true c0,n2,p,e1,za n hf.blocks,yb,yd,this]
   ·by_cases c2 : b.kind = 2
    ·have e0 : (zbE f k b).map z8 = [⟨b.arg,(1,1),(k : Int),1000⟩]:=by
      unfold zbE zjz;rw [if_neg c0,if_pos c2];rfl
     have el : (zbE f k b).length = 1:=by
      have:=congrArg yE e0;simpa using this
     have p : a2.length + 1 ≤ LIM:=(by unfold LIM; omega);rw [e0] at this ⊢;have e1 : yy rU a2 ++ [[Fz.lit (Value.int .i64 b.arg),Fz.lit (Value.int .i64 (k : Int)),Fz.lit (Value.int .i64 1000),Fz.lit (Value.int .i64 1),Fz.lit (Value.int .i64 1)]] = yy rU (a2 ++ [⟨b.arg,(1,1),(k : Int),1000⟩]):=(by simp [rU]);simp -implicitDefEqProofs only [go_sem,zgK,yb,yd,yn,yv] at this;simp -implicitDefEqProofs only [go_sem,zgK,ilt n,x,rb,ya,v,u,c0,eq_true c2,p,e1,za n hf.blocks,yb,yd,this]
    ·have e0 : zbE f k b = []:=by
      unfold zbE zjz;rw [if_neg c0,if_neg c2];rfl
     rw [e0,yq,yo] at this ⊢;simp -implicitDefEqProofs only [go_sem,zgK] at this;simp -implicitDefEqProofs only [go_sem,zgK,ilt n,x,rb,ya,v,u,c0,c2,za n hf.blocks,this]
theorem zvo (g : ∀ b ∈ f.blocks,zkq b) (l : ∀ b ∈ f.blocks,b.ops.length ≤ 1048576) (p : (zfJ f).length ≤ 4294967296) : call T 76 [zd4 f] [] = some (vUs ((zfJ f).map z8),[]):=by
 rw [ze (fn:=zfq) rfl];have h:=fun a0 a2 a5 a6 a7 a8 a9 o i n k d m c j a => zBx f hf hret g l f.blocks.length 0 [] a0 a2 a5 a6 a7 a8 a9 o i n k d m c j a (by omega) (by omega) (by simpa [zfJ] using p);have e : zas f 0 f.blocks = zfJ f:=rfl;simp only [yi,yk,yB,yq,yn,e] at h;simp -implicitDefEqProofs only [go_sem,zgK] at h;simp -implicitDefEqProofs only [go_sem,zfq,h]
end
def rbo (b : Bool) : List Fz:=[.lit (.bool b)]
def zgr (b : Bool) : List C:=[.f (.lit (.bool b))]
abbrev vBs (l : List Bool) : V:=.one (.f (.sl (l.map rbo)))
attribute [go_sem] vBs
theorem ztI (l : List Bool) : zaj (l.map zgr) = some (l.map rbo):=by
 induction l with
 | nil => rfl
 | cons x l ih => rw [yz,zaj,ih]; rfl
theorem zGz {l : List Bool} {k : Nat} (h : k < l.length) : (l.map zgr)[k]? = some [.f (.lit (.bool (l.getD k false)))]:=by simp [h,zgr]
def mark (w : Int) (out : List Bool) (y : Int) : List Bool:=if y = w then out else out.set y.toNat true
theorem zmf (w : Int) (out : List Bool) (y : Int) : (mark w out y).length = out.length:=by unfold mark; split <;> simp
theorem ziv (w : Int) : ∀ (l : List Int) (out : List Bool),(l.foldl (mark w) out).length = out.length
 | [],_ => rfl
 | y :: l,out => by rw [yC,ziv w l,zmf]
theorem zuk {w : Int} {out : List Bool} {y : Int} {i : Nat} (h : out.getD i false = true) : (mark w out y).getD i false = true:=by
 unfold mark;split
 ·exact h
 ·have b : i < out.length:=by
   rcases Nat.lt_or_ge i out.length with a | a
   ·exact a
   ·rw [ye,List.getElem?_eq_none a] at h
    cases h
  by_cases c : y.toNat = i
  ·rw [c,ye,List.getElem?_set_self b]
   rfl
  ·rw [ye,List.getElem?_set_ne c,← ye]
   exact h
def zkg (w : Int) : Nat → List (List Int) → List Bool → List Bool
 | _,[],out => out
 | i,l :: r,out => zkg w (i + 1) r (if out.getD i false = true then l.foldl (mark w) out else out)
theorem zig (w : Int) : ∀ (r : List (List Int)) (i : Nat) (out : List Bool),(zkg w i r out).length = out.length
 | [],_,_ => rfl
 | l :: r,i,out => by
   rw [zkg,zig w r];split
   ·exact ziv w l out
   ·rfl
def zfE (w : Int) (succ : List (List Int)) : Nat → List Bool → List Bool
 | 0,out => out
 | r + 1,out => zfE w succ r (zkg w 0 succ out)
theorem zhr (w : Int) (succ : List (List Int)) : ∀ (r : Nat) (out : List Bool),(zfE w succ r out).length = out.length
 | 0,_ => rfl
 | r + 1,out => by rw [zfE,zhr w succ r,zig]
def zdU (succ : List (List Int)) (root w : Int) : List Bool:=if root = w then yg succ.length false else zfE w succ succ.length ((yg succ.length false).set root.toNat true)
section
variable (succ pred : List (List Int)) (hn : succ.length ≤ 4294967296) (hl : ∀ l ∈ succ,l.length ≤ 4294967296) (hr : ∀ l ∈ succ,∀ y ∈ l,0 ≤ y ∧ y < (succ.length : Int)) (w : Int)
abbrev zrA : Ob:=.cells 0 2 [[.f (.sl (succ.map rl)),.f (.sl (pred.map rl))]]
abbrev zqS (out : List Bool) : zd:=[zrA succ pred,.cells 0 1 (out.map zgr)]
include hn hl hr
theorem zCy (R : Int) (i : Nat) (b : i < succ.length) : ∀ (d k : Nat) (out : List Bool) (a0 a1 a4 a9 j e h g : V),out.length = succ.length → out.getD i false = true → succ[i].length - k = d → k ≤ succ[i].length →
  exec T zao ⟨[a0,a1,vI w,.one (.ptr 0 0 0 0),a4,.one (.own 1 0 0 succ.length),vI R,vI i,vI k,a9,j,e,h,g],zqS succ pred out,0,0⟩ =
   some (.exit 4,⟨[vU,vU,vI w,.one (.ptr 0 0 0 0),vU,.one (.own 1 0 0 succ.length),vI R,vI i,vU,vU,vU,vU,vU,vU],zqS succ pred ((succ[i].drop k).foldl (mark w) out),0,0⟩):=by
 intro d
 induction d with
 | zero =>
   intro k out a0 a1 a4 a9 j e h g u p x A;have a : k = succ[i].length:=(by omega);subst a;have m:=zGz (l:=out) (k:=i) (by omega);rw [p] at m;rw [xl zao rfl,zb6];simp -implicitDefEqProofs only [go_sem,zqS,zrA,ilt b,zj b,rl,m,ym,ya,yl,List.foldl_nil,yh,yj]
 | succ d ih =>
   intro k out a0 a1 a4 a9 j e h g u p x A;have a : k < succ[i].length:=(by omega);have hd : succ[i].drop k = succ[i][k] :: succ[i].drop (k + 1):=yc a;have m:=zGz (l:=out) (k:=i) (by omega);rw [p] at m;obtain ⟨y,s⟩ : ∃ y,y = succ[i][k]:=⟨_,rfl⟩;have q:=hr _ (yf b) _ (yf a);have n:=hl _ (yf b);rw [← s] at q;have B:=zGz (l:=out) (k:=y.toNat) (by omega);have:=ih (k + 1) (mark w out y) vU vU vU vU vU vU vU vU (by rw [zmf]; exact u) (zuk p) (by omega) (by omega);have D : ¬ y < 0:=(by omega);have v:=q.1;have z:=q.2;have o : (out.map zgr).set y.toNat [C.f (.lit (.bool true))] = (out.set y.toNat true).map zgr:=(by rw [yD]; rfl);rw [xl zao rfl,zb6,hd,yC,← s];have t:=zj (r:=ri) a;rw [← s] at t
   by_cases c : y = w
   ·simp -implicitDefEqProofs only [go_sem,zqS,zrA,mark,c] at this
    simp -implicitDefEqProofs only [go_sem,zqS,zrA,ilt b,ilt a,zj b,t,ri,rl,m,ya,yh,yj,za a n,mark,c,this]
   ·simp -implicitDefEqProofs only [go_sem,zqS,zrA,mark,c] at this
    simp -implicitDefEqProofs only [go_sem,zqS,zrA,ilt b,ilt a,zj b,t,ri,rl,m,ya,yh,yj,za a n,mark,c,v,z,B,o,this]
theorem zwE (R : Int) (i : Nat) (c : i < succ.length) (out : List Bool) (d : out.length = succ.length) (b : out.getD i false = false) a0 a1 a4 a9 a10 a11 a12 a13 :
  exec T zao ⟨[a0,a1,vI w,.one (.ptr 0 0 0 0),a4,.one (.own 1 0 0 succ.length),vI R,vI i,vI 0,a9,a10,a11,a12,a13],zqS succ pred out,0,0⟩ =
   some (.exit 4,⟨[vU,vU,vI w,.one (.ptr 0 0 0 0),vU,.one (.own 1 0 0 succ.length),vI R,vI i,vU,vU,vU,vU,vU,vU],zqS succ pred out,0,0⟩):=by
 have a:=zGz (l:=out) (k:=i) (by omega);rw [b] at a;rw [xl zao rfl,zb6];simp -implicitDefEqProofs only [go_sem,zqS,zrA,ilt c,a,yh,yj]
theorem zC2 (R : Int) : ∀ (d k : Nat) (out : List Bool) (a0 a1 a4 a8 a9 f a e b : V),out.length = succ.length → succ.length - k = d → k ≤ succ.length →
  exec T zb2 ⟨[a0,a1,vI w,.one (.ptr 0 0 0 0),a4,.one (.own 1 0 0 succ.length),vI R,vI k,a8,a9,f,a,e,b],zqS succ pred out,0,0⟩ =
   some (.exit 2,⟨[vU,vU,vI w,.one (.ptr 0 0 0 0),vU,.one (.own 1 0 0 succ.length),vI R,vU,vU,vU,vU,vU,vU,vU],zqS succ pred (zkg w k (succ.drop k) out),0,0⟩):=by
 intro d
 induction d with
 | zero =>
   intro k out a0 a1 a4 a8 a9 f a e b i j l;have g : k = succ.length:=(by omega);subst g;rw [xl zb2 rfl,zd0];simp -implicitDefEqProofs only [go_sem,zqS,zrA,ym,ya,yl,zkg]
 | succ d ih =>
   intro k out a0 a1 a4 a8 a9 f a e b i j l;have g : k < succ.length:=(by omega);have hd : succ.drop k = succ[k] :: succ.drop (k + 1):=yc g;rw [xl zb2 rfl,zd0,hd,zkg];cases c : out.getD k false
   ·have h:=fun a0 a1 a4 a9 f a e b => zwE succ pred hn hl hr w R k g out i c a0 a1 a4 a9 f a e b
    have:=ih (k + 1) out vU vU vU vU vU vU vU vU vU i (by omega) (by omega);simp -implicitDefEqProofs only [go_sem,zqS,zrA] at h this;simp -implicitDefEqProofs only [go_sem,zqS,zrA,ilt g,h,za g hn,this]
   ·have h:=fun a0 a1 a4 a9 f a e b => zCy succ pred hn hl hr w R k g succ[k].length 0 out a0 a1 a4 a9 f a e b i c (by omega) (by omega)
    simp only [yi,yk] at h;have:=ih (k + 1) (succ[k].foldl (mark w) out) vU vU vU vU vU vU vU vU vU (by rw [ziv]; exact i) (by omega) (by omega);simp -implicitDefEqProofs only [go_sem,zqS,zrA] at h this;simp -implicitDefEqProofs only [go_sem,zqS,zrA,ilt g,h,za g hn,this]
theorem zD9 : ∀ (d k : Nat) (out : List Bool) (a0 a1 a4 a7 a8 a9 c e b a : V),out.length = succ.length → succ.length - k = d → k ≤ succ.length →
  exec T zbL ⟨[a0,a1,vI w,.one (.ptr 0 0 0 0),a4,.one (.own 1 0 0 succ.length),vI k,a7,a8,a9,c,e,b,a],zqS succ pred out,0,0⟩ =
   some (.exit 0,⟨[vU,vU,vU,vU,vU,.one (.own 1 0 0 succ.length),vU,vU,vU,vU,vU,vU,vU,vU],zqS succ pred (zfE w succ d out),0,0⟩):=by
 intro d
 induction d with
 | zero =>
   intro k out a0 a1 a4 a7 a8 a9 c e b a g j i;have f : k = succ.length:=(by omega);subst f;rw [xl zbL rfl,zef];simp -implicitDefEqProofs only [go_sem,zqS,zrA,ym,ya,zfE]
 | succ d ih =>
   intro k out a0 a1 a4 a7 a8 a9 c e b a g j i;have f : k < succ.length:=(by omega);rw [xl zbL rfl,zef,zfE];have h:=fun a0 a1 a4 a8 a9 c e b a => zC2 succ pred hn hl hr w k succ.length 0 out a0 a1 a4 a8 a9 c e b a g (by omega) (by omega);simp only [yi,yk] at h;have:=ih (k + 1) (zkg w 0 succ out) vU vU vU vU vU vU vU vU vU vU (by rw [zig]; exact g) (by omega) (by omega);simp -implicitDefEqProofs only [go_sem,zqS,zrA] at h this;simp -implicitDefEqProofs only [go_sem,zqS,zrA,ilt f,h,za f hn,this]
theorem znX (root : Int) (s : 0 ≤ root ∧ root < (succ.length : Int)) : call T 124 [.agg [.f (.sl (succ.map rl)),.f (.sl (pred.map rl))],vI root,vI w] [] = some (vBs (zdU succ root w),[]):=by
 rw [ze (fn:=zcL) rfl];have p : yg succ.length [C.f (.lit (.bool false))] = (yg succ.length false).map zgr:=by rw [List.map_replicate]; rfl
 have b : (succ.length : Int) ≤ (LIM : Int):=by unfold LIM; omega
 have q:=fun l => ztI l;obtain ⟨t,r1⟩:=s
 by_cases c : root = w
 ·have i : ((yg succ.length false).map zgr).take succ.length = (yg succ.length false).map zgr:=yt (by simp)
  simp -implicitDefEqProofs only [go_sem,zcL,b,yh,yj,ya,p,c,i,q,zdU]
 ·have r:=zGz (l:=yg succ.length false) (k:=root.toNat) (by simp; omega)
  have d : ((yg succ.length false).map zgr).set root.toNat [C.f (.lit (.bool true))] = ((yg succ.length false).set root.toNat true).map zgr:=by rw [yD]; rfl
  have h:=fun a0 a1 a4 a7 a8 a9 o j n m => zD9 succ pred hn hl hr w succ.length 0 ((yg succ.length false).set root.toNat true) a0 a1 a4 a7 a8 a9 o j n m (by simp) (by omega) (by omega);simp only [yi] at h;obtain ⟨res,a⟩ : ∃ res,res = zfE w succ succ.length ((yg succ.length false).set root.toNat true):=⟨_,rfl⟩;have g : res.length = succ.length:=by rw [a,zhr]; simp
  have i : (res.map zgr).take succ.length = res.map zgr:=yt (by simp [g]);have e : zdU succ root w = res:=by unfold zdU; rw [if_neg c,a]
  rw [e];rw [← a] at h;simp -implicitDefEqProofs only [go_sem,zqS,zrA] at h;simp -implicitDefEqProofs only [go_sem,zcL,b,yh,yj,ya,p,c,t,r1,r,d,h,i,q]
end
end AC
namespace Dm
section
variable (E : Int → Int → Prop) (root : Int)
inductive Way : Int → List Int → Prop
 | root : Way root [root]
 | step {p x : Int} {l : List Int} : Way p l → E p x → Way x (x :: l)
def Dom (d x : Int) : Prop:=∀ l,Way E root x l → d ∈ l
structure Ord (O : Int → Prop) (pos : Int → Nat) : Prop where
 rt : O root
 inj : ∀ a b,O a → O b → pos a = pos b → a = b
 low : ∀ a,O a → pos root ≤ pos a
 par : ∀ x,O x → x ≠ root → ∃ p,O p ∧ E p x ∧ pos p < pos x
 cl : ∀ p x,O p → E p x → O x
inductive Inc (pos : Int → Nat) : Int → Int → Prop
 | refl (a : Int) : Inc pos a a
 | step {a p x : Int} : Inc pos a p → E p x → pos p < pos x → Inc pos a x
inductive Anc (T : Int → Int) : Int → Int → Prop
 | refl (x : Int) : Anc T x x
 | step {y x : Int} : x ≠ root → Anc T y (T x) → Anc T y x
def Com (T : Int → Int) (x y : Int) : Prop:=∀ p,E p x → T p ≠ -2 → Anc root T y p
def St (T : Int → Int) (x : Int) : Prop:=T x ≠ -2 ∧ ∀ y,Anc root T y (T x) ↔ Com E root T x y
structure Inv (O : Int → Prop) (pos : Int → Nat) (T : Int → Int) : Prop where
 out : ∀ x,¬ O x → T x = -2
 rt : T root = root
 nn : ∀ x,O x → x ≠ -2
 par : ∀ x,x ≠ root → T x ≠ -2 → T (T x) ≠ -2 ∧ pos (T x) < pos x
 A : ∀ x d,x ≠ root → T x ≠ -2 → Dom E root d x → d ≠ x → Dom E root d (T x)
 P : ∀ x,x ≠ root → T x ≠ -2 → Inc E pos (T x) x
 B : ∀ x,x ≠ root → T x ≠ -2 → ∀ y,Com E root T x y → pos y ≤ pos (T x)
end
variable {E : Int → Int → Prop} {root : Int} {O : Int → Prop} {pos : Int → Nat}
section
variable (H : Ord E root O pos)
include H
theorem zxi {x : Int} {l : List Int} (h : Way E root x l) : O x ∧ ∀ y ∈ l,O y:=by
 induction h with
 | root => exact ⟨H.rt,fun y a => by rw [yr.1 a]; exact H.rt⟩
 | step h e ih =>
   have:=H.cl _ _ ih.1 e;refine ⟨this,fun y a => ?_⟩;rcases yA.1 a with rfl | a
   ·exact this
   ·exact ih.2 y a
theorem zEj : ∀ (n : Nat) (x : Int),pos x ≤ n → O x → ∃ l,Way E root x l ∧ ∀ y ∈ l,y = x ∨ pos y < pos x:=by
 intro n
 induction n with
 | zero =>
   intro x f b
   by_cases c : x = root
   ·subst c
    exact ⟨_,.root,fun y a => .inl (yr.1 a)⟩
   ·obtain ⟨p,_,_,h⟩:=H.par x b c
    omega
 | succ n ih =>
   intro x f b
   by_cases c : x = root
   ·subst c
    exact ⟨_,.root,fun y a => .inl (yr.1 a)⟩
   ·obtain ⟨p,g,e,h⟩:=H.par x b c
    obtain ⟨l,w,d⟩:=ih p (by omega) g;refine ⟨_,.step w e,fun y a => ?_⟩;rcases yA.1 a with rfl | a
    ·exact .inl rfl
    ·rcases d y a with rfl | i
     ·exact .inr h
     ·exact .inr (by omega)
theorem zs6 {d x : Int} (a : O x) (h : Dom E root d x) : d = x ∨ pos d < pos x:=by
 obtain ⟨l,w,b⟩:=zEj H _ x (yx _) a;exact b d (h l w)
theorem zHT {d x : Int} (a : O x) (h : Dom E root d x) : O d:=by
 obtain ⟨l,w,b⟩:=zEj H _ x (yx _) a;exact (zxi H w).2 d (h l w)
end
theorem zxo {d p x : Int} (e : E p x) (h : Dom E root d x) (hd : d ≠ x) : Dom E root d p:=by
 intro l w;rcases yA.1 (h _ (.step w e)) with h | h
 ·exact absurd h hd
 ·exact h
theorem zDv (x : Int) : Dom E root x x:=by
 intro l w
 cases w with
 | root => simp
 | step => simp
theorem zFm {a b : Int} (h : Inc E pos a b) : a = b ∨ pos a < pos b:=by
 induction h with
 | refl => exact .inl rfl
 | step h e l c => rcases c with rfl | c <;> right <;> omega
theorem zA1 {a b c : Int} (h : Inc E pos a b) (k : Inc E pos b c) : Inc E pos a c:=by
 induction k with
 | refl => exact h
 | step k e l ih => exact .step ih e l
theorem zzn {T : Int → Int} {a b c : Int} (h : Anc root T a b) (k : Anc root T b c) : Anc root T a c:=by
 induction k with
 | refl => exact h
 | step n k ih => exact .step n ih
theorem zo0 {T : Int → Int} {y x : Int} (h : Anc root T y x) (a : y ≠ x) : x ≠ root ∧ Anc root T y (T x):=by
 cases h with
 | refl => exact absurd rfl a
 | step n h => exact ⟨n,h⟩
section
variable (H : Ord E root O pos) {T : Int → Int} (I : Inv E root O pos T)
include H I
theorem zkc {x : Int} (h : T x ≠ -2) : O x:=by
 by_cases c : O x
 ·exact c
 ·exact absurd (I.out x c) h
theorem zEs : T root ≠ -2:=by rw [I.rt]; exact I.nn _ H.rt
theorem zEK {y x : Int} (h : Anc root T y x) (b : T x ≠ -2) : T y ≠ -2 ∧ (y = x ∨ pos y < pos x):=by
 induction h with
 | refl => exact ⟨b,.inl rfl⟩
 | step n h ih =>
   obtain ⟨e,c⟩:=I.par _ n b;obtain ⟨d,a⟩:=ih e;refine ⟨d,.inr ?_⟩;rcases a with a | a
   ·rw [a]; exact c
   ·omega
theorem zu3 {y x : Int} (h : Anc root T y x) (a : T x ≠ -2) : pos y ≤ pos x:=by
 rcases (zEK H I h a).2 with rfl | h <;> omega
theorem zDf {d m x : Int} (h : Anc root T m x) (b : T x ≠ -2) (hd : Dom E root d x) (hm : Anc root T d m) : Dom E root d m:=by
 induction h with
 | refl => exact hd
 | step n h ih =>
   rename_i e;obtain ⟨a,c⟩:=I.par _ n b;refine ih a (I.A _ _ n b hd ?_);rintro rfl;have a1:=zu3 H I h a;have a2:=zu3 H I hm (zEK H I h a).1;omega
theorem zBO : ∀ (n : Nat) (x d : Int),pos x ≤ n → T x ≠ -2 → Dom E root d x → Anc root T d x:=by
 intro n
 induction n with
 | zero =>
   intro x d e a hd
   by_cases c : d = x
   ·subst c; exact .refl _
   ·rcases zs6 H (zkc H I a) hd with h | h
    ·exact absurd h c
    ·omega
 | succ n ih =>
   intro x d e a hd
   by_cases c : d = x
   ·subst c; exact .refl _
   ·have b : x ≠ root:=by
     rintro rfl;rcases zs6 H H.rt hd with h | h
     ·exact c h
     ·have:=H.low d (zHT H H.rt hd)
      omega
    obtain ⟨f,g⟩:=I.par _ b a;exact .step b (ih _ _ (by omega) f (I.A _ _ b a hd c))
theorem zGe {a b : Int} (h : Inc E pos a b) (c : O a) : O b:=by
 induction h with
 | refl => exact c
 | step h e l ih => exact H.cl _ _ ih e
theorem zFn {y x : Int} (h : Anc root T y x) (a : T x ≠ -2) : Inc E pos y x:=by
 induction h with
 | refl => exact .refl _
 | step n h ih => exact zA1 (ih (I.par _ n a).1) (I.P _ n a)
section
variable {z : Int} (hst : ∀ y,O y → y ≠ root → pos y < pos z → St E root T y)
include hst
theorem ztF {y : Int} (h : O y) (a : pos y < pos z) : T y ≠ -2:=by
 by_cases c : y = root
 ·rw [c]; exact zEs H I
 ·exact (hst y h c a).1
theorem zGL {a v y : Int} (h : Inc E pos a v) (j : O a) (i : pos v < pos z) (d : Anc root T y v) (k : pos y ≤ pos a) : Anc root T y a:=by
 induction h with
 | refl => exact d
 | step h e l ih =>
   rename_i p v;have c:=zGe H I h j
   have hle : pos a ≤ pos p:=(by rcases zFm h with rfl | h <;> omega);have b : y ≠ v:=(by rintro rfl; omega);obtain ⟨g,f⟩:=zo0 d b;have hs:=hst v (H.cl _ _ c e) g i;exact ih (by omega) ((hs.2 y).1 f p e (ztF H I hst c (by omega)))
theorem key {y : Int} (a : z ≠ root) (c : T z ≠ -2) (f : Com E root T z y) : Anc root T y (T z):=by
 have i:=I.P z a c;have g:=I.B z a c y f;obtain ⟨k,j⟩:=I.par z a c;have b:=zkc H I k;generalize hw : T z = w at i g j b
 cases i with
 | refl => omega
 | step h e l =>
   have d:=zGe H I h b;exact zGL H I hst h b l (f _ e (ztF H I hst d l)) g
end
end
structure Upd (E : Int → Int → Prop) (root : Int) (O : Int → Prop) (pos : Int → Nat) (T T' : Int → Int) (z m : Int) : Prop where
 at' : T' z = m
 ne : ∀ x,x ≠ z → T' x = T x
 oz : O z
 hr : z ≠ root
 st : ∀ y,O y → y ≠ root → pos y < pos z → St E root T y
 hm : T m ≠ -2
 best : ∀ y,Anc root T y m ↔ Com E root T z y
 new : m ≠ T z
section
variable (H : Ord E root O pos) {T T' : Int → Int} (I : Inv E root O pos T) {z m : Int} (U : Upd E root O pos T T' z m)
include H I U
theorem zsZ : ∃ p,E p z ∧ T p ≠ -2 ∧ pos p < pos z ∧ Anc root T m p:=by
 obtain ⟨p,d,a,b⟩:=H.par z U.oz U.hr;have c:=ztF H I U.st d b;exact ⟨p,a,c,b,(U.best m).1 (.refl _) p a c⟩
theorem zFO : pos m < pos z ∧ m ≠ -2 ∧ m ≠ z:=by
 obtain ⟨p,d,a,c,b⟩:=zsZ H I U;have:=zu3 H I b a;refine ⟨by omega,I.nn _ (zkc H I U.hm),?_⟩;rintro rfl;omega
theorem zxF {x : Int} (h : T x ≠ -2) : T' x ≠ -2:=by
 by_cases c : x = z
 ·rw [c,U.at']; exact (zFO H I U).2.1
 ·rw [U.ne x c]; exact h
theorem shrink {y x : Int} (h : Anc root T' y x) (a : T x ≠ -2) : Anc root T y x:=by
 induction h with
 | refl => exact .refl _
 | step n h ih =>
   rename_i x
   by_cases c : x = z
   ·subst c
    rw [U.at'] at h ih;have b:=ih U.hm;exact .step n (zzn b (key H I U.st n a ((U.best m).1 (.refl _))))
   ·rw [U.ne x c] at h ih
    exact .step n (ih (I.par _ n a).1)
theorem zB8 (a : T z ≠ -2) : pos m < pos (T z):=by
 have h:=key H I U.st U.hr a ((U.best m).1 (.refl _));have b:=(I.par z U.hr a).1;rcases (zEK H I h b).2 with h | h
 ·exact absurd h U.new
 ·exact h
theorem zE3 : Inv E root O pos T':=by
 obtain ⟨m1,m2,t⟩:=zFO H I U;have l:=U.oz;have b : ∀ x y,Com E root T' x y → (Com E root T x y):=fun x y h p e o => shrink H I U (h p e (zxF H I U o)) o;refine ⟨fun x a => ?_,?_,I.nn,fun x hr a => ?_,fun x d hr a hd g => ?_,fun x hr a => ?_,fun x hr a y r => ?_⟩
 ·rw [U.ne x (by rintro rfl; exact a l)]; exact I.out x a
 ·rw [U.ne _ (fun h => U.hr h.symm)]; exact I.rt
 ·by_cases c : x = z
  ·subst c
   rw [U.at',U.ne m t];exact ⟨U.hm,m1⟩
  ·rw [U.ne x c] at a ⊢
   exact ⟨zxF H I U (I.par x hr a).1,(I.par x hr a).2⟩
 ·by_cases c : x = z
  ·subst c
   rw [U.at'];obtain ⟨p,f,j,n,k⟩:=zsZ H I U;have i : Anc root T d m:=(U.best d).2 fun q e s => zBO H I _ q d (yx _) s (zxo e hd g);exact zDf H I k j (zxo f hd g) i
  ·rw [U.ne x c] at a ⊢
   exact I.A x d hr a hd g
 ·by_cases c : x = z
  ·subst c
   rw [U.at'];obtain ⟨p,f,j,n,k⟩:=zsZ H I U;exact .step (zFn H I k j) f n
  ·rw [U.ne x c] at a ⊢
   exact I.P x hr a
 ·by_cases c : x = z
  ·subst c
   rw [U.at'];exact zu3 H I ((U.best y).2 (b _ _ r)) U.hm
  ·rw [U.ne x c] at a ⊢
   exact I.B x hr a y (b _ _ r)
end
section
variable (H : Ord E root O pos) {T : Int → Int} (I : Inv E root O pos T) (hs : ∀ x,O x → x ≠ root → St E root T x)
include H I hs
theorem zFb {x : Int} (h : O x) : T x ≠ -2:=by
 by_cases c : x = root
 ·rw [c]; exact zEs H I
 ·exact (hs x h c).1
theorem zFW {x : Int} {l : List Int} (w : Way E root x l) : ∀ y,Anc root T y x → y ∈ l:=by
 induction w with
 | root =>
   intro y h
   by_cases c : y = root
   ·simp [c]
   ·exact absurd rfl (zo0 h c).1
 | step w e ih =>
   rename_i p x l;intro y h
   by_cases c : y = x
   ·simp [c]
   ·obtain ⟨d,b⟩:=zo0 h c
    have a:=(zxi H w).1;have:=(hs x (H.cl _ _ a e) d).2 y |>.1 b p e (zFb H I hs a);exact List.mem_cons_of_mem _ (ih y this)
theorem zwB {d x : Int} (a : O x) : Anc root T d x ↔ Dom E root d x :=
 ⟨fun h l w => zFW H I hs w d h,fun h => zBO H I _ x d (yx _) (zFb H I hs a) h⟩
end
end Dm

/- A part of the proof of SchedFlat. Conditions: none. -/
import Derived.Test.YtmkncmffaaninaaGreatFAY
import Derived.Test.YtmkncmffaaninaaGreatFAW
set_option linter.all false
open List renaming length_map → ya,length_append → yb,drop_eq_getElem_cons → yc,length_cons → yd,getD_eq_getElem?_getD → ye,getElem_mem → yf,replicate → yg,drop_zero → yk,drop_length → yl,length_nil → yn,append_nil → yo,append_assoc → yp,map_nil → yq,mem_singleton → yr,getElem?_eq_getElem → ys,take_of_length_le → yt,singleton_append → yu,map_append → yw,map → yy,map_cons → yz,mem_cons → yA,nil_append → yB,foldl_cons → yC,map_set → yD,length → yE
open Int renaming natCast_nonneg → yh,natCast_zero → yi,toNat_natCast → yj,lt_irrefl → ym
open Nat renaming zero_add → yv,le_refl → yx
namespace AC
open Go Go.A Go.A.Lex
theorem zug (f : PFunc) (hf : okF f) (k : f.params.length + (f.blocks.map fun b => b.phis.length + b.ops.length).sum ≤ 4294967296) : call T 73 [zfZ f] [] = some (vUs (zL f),[]):=by
 rw [ze (fn:=zeF) rfl];have i:=fun a0 a2 a5 a6 a7 a8 a9 d g h c a e => zyx f hf f.params.length 0 [] a0 a2 a5 a6 a7 a8 a9 d g h c a e (by omega) (by omega) (by simp; omega);have j:=fun a0 a2 a4 a6 a7 a8 a9 d g h c a e => zzE f hf f.blocks.length 0 (zaO 0 f.params) a0 a2 a4 a6 a7 a8 a9 d g h c a e (by omega) (by omega) (by rw [zgl]; simpa using k);simp only [yi,yk,yB,yq,yn] at i j;simp -implicitDefEqProofs only [go_sem,zf0] at i j;simp -implicitDefEqProofs only [go_sem,zeF,i,j,zL]
def zY (u : Use) : Use:=⟨u.v,u.shape,u.block,if u.at' = 1048576 then 1000 else u.at'⟩
section
variable (f : PFunc) (hf : okF f) (hret : ¬ f.ret = 0)
include hf
theorem zzz (b : PBlock) (p : PPhi) (x : zE6 p) (hlen : p.args.length = p.src.length) (i t : Int) : ∀ (d k : Nat) (acc : List Use) (a0 a2 a9 h l m c a j g n o : V),p.args.length - k = d → k ≤ p.args.length → acc.length + d ≤ 4294967296 →
  exec T zcj ⟨[a0,.one (.ptr 0 0 0 0),a2,.one (.ap 1 0 (acc.map rU)),vI i,.one (.ptr 2 0 0 0),vI t,.one (.ptr 3 0 0 0),vI k,a9,h,l,m,c,a,j,g,n,o],zf0 f acc.length [.cells 0 5 [zh b],.cells 0 4 [zuR p]],0,0⟩ =
   some (.exit 4,⟨[vU,.one (.ptr 0 0 0 0),vU,.one (.ap 1 0 ((acc ++ (zF p k (p.args.drop k)).map zY).map rU)),vI i,.one (.ptr 2 0 0 0),vI t,vU,vU,vU,vU,vU,vU,vU,vU,vU,vU,vU,vU],zf0 f (acc ++ (zF p k (p.args.drop k)).map zY).length [.cells 0 5 [zh b],.cells 0 4 [zuR p]],0,0⟩):=by
 intro d
 induction d with
 | zero =>
   intro k acc a0 a2 a9 h l m c a j g n o w v u;have q : k = p.args.length:=(by omega);subst q;rw [xl zcj rfl,zek];simp -implicitDefEqProofs only [go_sem,zf0,ym,ya,yl,zF,yq,yo]
 | succ d ih =>
   intro k acc a0 a2 a9 h l m c a j g n o w v u;have q : k < p.args.length:=(by omega);have e : k < p.src.length:=(by omega);have hd : p.args.drop k = p.args[k] :: p.args.drop (k + 1):=yc q;have r : acc.length + 1 ≤ LIM:=(by unfold LIM; omega);have s : p.src.getD k 0 = p.src[k]:=(by rw [ye,ys e]; rfl);have:=ih (k + 1) (acc ++ [⟨p.args[k],(p.bits,1),p.src[k],1000⟩]) vU vU vU vU vU vU vU vU vU vU vU vU (by omega) (by omega) (by simp; omega);have e1 : yy rU acc ++ [[Fz.lit (Value.int .i64 p.args[k]),Fz.lit (Value.int .i64 p.src[k]),Fz.lit (Value.int .i64 1000),Fz.lit (Value.int .i64 p.bits),Fz.lit (Value.int .i64 1)]] = yy rU (acc ++ [⟨p.args[k],(p.bits,1),p.src[k],1000⟩]):=by simp [rU]
   have e2 : (zF p k (p.args[k] :: p.args.drop (k + 1))).map zY = ⟨p.args[k],(p.bits,1),p.src[k],1000⟩ :: (zF p (k + 1) (p.args.drop (k + 1))).map zY:=by
    rw [zF,yz,s];rfl
   rw [yp,yu] at this;rw [xl zcj rfl,zek,hd,e2];simp -implicitDefEqProofs only [go_sem,zf0,yb,yd,yn,yv] at this;simp -implicitDefEqProofs only [go_sem,zf0,ilt q,ilt e,zm q,zm e,ri,ya,za q x.2,r,e1,yb,yd,this]
theorem zAh (b : PBlock) (y : okB b) (u : zjJ b) (i : Int) : ∀ (d k : Nat) (acc : List Use) (a0 a2 a7 a8 a9 g m n c a h e o p : V),b.phis.length - k = d → k ≤ b.phis.length → acc.length + (zam (b.phis.drop k)).length ≤ 4294967296 →
  exec T zbW ⟨[a0,.one (.ptr 0 0 0 0),a2,.one (.ap 1 0 (acc.map rU)),vI i,.one (.ptr 2 0 0 0),vI k,a7,a8,a9,g,m,n,c,a,h,e,o,p],zf0 f acc.length [.cells 0 5 [zh b]],0,0⟩ =
   some (.exit 2,⟨[vU,.one (.ptr 0 0 0 0),vU,.one (.ap 1 0 ((acc ++ (zam (b.phis.drop k)).map zY).map rU)),vI i,.one (.ptr 2 0 0 0),vU,vU,vU,vU,vU,vU,vU,vU,vU,vU,vU,vU,vU],zf0 f (acc ++ (zam (b.phis.drop k)).map zY).length [.cells 0 5 [zh b]],0,0⟩):=by
 intro d
 induction d with
 | zero =>
   intro k acc a0 a2 a7 a8 a9 g m n c a h e o p A z w;have q : k = b.phis.length:=(by omega);subst q;rw [xl zbW rfl,zd8];simp -implicitDefEqProofs only [go_sem,zf0,ym,ya,yl,zam,List.flatMap_nil,yq,yo]
 | succ d ih =>
   intro k acc a0 a2 a7 a8 a9 g m n c a h e o p A z w;have q : k < b.phis.length:=(by omega);have hd : b.phis.drop k = b.phis[k] :: b.phis.drop (k + 1):=yc q;have e0 : zam (b.phis[k] :: b.phis.drop (k + 1)) = zfQ b.phis[k] ++ zam (b.phis.drop (k + 1)):=rfl;have B:=y.phi _ (yf q);have hle:=u.1 _ (yf q)
   have v : ∀ (l : List Int) (j : Nat),(zF b.phis[k] j l).length = l.length:=by
    intro l
    induction l with
    | nil => intro j; rfl
    | cons x l ih => intro j; rw [zF,yd,ih,yd]
   have t : (zfQ b.phis[k]).length = b.phis[k].args.length:=v _ 0;rw [hd,e0,yb,t] at w;have s:=fun a0 a2 a9 g m n c a h e o p => zzz f hf b b.phis[k] B hle i k b.phis[k].args.length 0 acc a0 a2 a9 g m n c a h e o p (by omega) (by omega) (by omega);simp only [yi,yk] at s;have e1 : zF b.phis[k] 0 b.phis[k].args = zfQ b.phis[k]:=rfl;rw [e1] at s;have:=ih (k + 1) (acc ++ (zfQ b.phis[k]).map zY) vU vU vU vU vU vU vU vU vU vU vU vU vU vU (by omega) (by omega) (by rw [yb,ya,t]; omega);have e3 : acc ++ (zfQ b.phis[k] ++ zam (b.phis.drop (k + 1))).map zY = (acc ++ (zfQ b.phis[k]).map zY) ++ (zam (b.phis.drop (k + 1))).map zY:=(by rw [yw,yp]);rw [xl zbW rfl,zd8,hd,e0,e3];obtain ⟨a1,r⟩ : ∃ a1,a1 = acc ++ (zfQ b.phis[k]).map zY:=⟨_,rfl⟩;rw [← r] at this ⊢;simp only [← r] at s;simp -implicitDefEqProofs only [go_sem,zf0] at s this;simp -implicitDefEqProofs only [go_sem,zf0,ilt q,zm q,rp,ya,s,za q y.phis,this]
theorem zAJ (b : PBlock) (w : okB b) (i : Int) (a : Nat) (j : a < b.ops.length) (t : ¬ (a : Int) = 1048576) (l : List (Int × Int)) (z : l.length ≤ b.ops[a].args.length) : ∀ (d k : Nat) (acc : List Use) (a0 a2 a6 a7 a8 n g e m h o p : V),l.length - k = d → k ≤ l.length → acc.length + d ≤ 4294967296 →
  exec T zb6 ⟨[a0,.one (.ptr 0 0 0 0),a2,.one (.ap 1 0 (acc.map rU)),vI i,.one (.ptr 2 0 0 0),a6,a7,a8,vI a,vSs l,vI k,n,g,e,m,h,o,p],zf0 f acc.length [.cells 0 5 [zh b]],0,0⟩ =
   some (.exit 8,⟨[vU,.one (.ptr 0 0 0 0),vU,.one (.ap 1 0 ((acc ++ (zQ b.ops[a] i a k (l.drop k)).map zY).map rU)),vI i,.one (.ptr 2 0 0 0),vU,vU,vU,vI a,vU,vU,vU,vU,vU,vU,vU,vU,vU],zf0 f (acc ++ (zQ b.ops[a] i a k (l.drop k)).map zY).length [.cells 0 5 [zh b]],0,0⟩):=by
 intro d
 induction d with
 | zero =>
   intro k acc a0 a2 a6 a7 a8 n g e m h o p y x u;have q : k = l.length:=(by omega);subst q;rw [xl zb6 rfl,zep];simp -implicitDefEqProofs only [go_sem,zf0,ym,ya,yl,zQ,yq,yo]
 | succ d ih =>
   intro k acc a0 a2 a6 a7 a8 n g e m h o p y x u;have q : k < l.length:=(by omega);have c : k < b.ops[a].args.length:=(by omega);have v:=(w.op _ (yf j)).2;have hd : l.drop k = l[k] :: l.drop (k + 1):=yc q;have r : acc.length + 1 ≤ LIM:=(by unfold LIM; omega);have s : b.ops[a].args.getD k 0 = b.ops[a].args[k]:=(by rw [ye,ys c]; rfl);have:=ih (k + 1) (acc ++ [⟨b.ops[a].args[k],l[k],i,(a : Int)⟩]) vU vU vU vU vU vU vU vU vU vU vU vU (by omega) (by omega) (by simp; omega);have e1 : yy rU acc ++ [[Fz.lit (Value.int .i64 b.ops[a].args[k]),Fz.lit (Value.int .i64 i),Fz.lit (Value.int .i64 (a : Int)),Fz.lit (Value.int .i64 l[k].1),Fz.lit (Value.int .i64 l[k].2)]] = yy rU (acc ++ [⟨b.ops[a].args[k],l[k],i,(a : Int)⟩]):=by simp [rU]
   have e2 : (zQ b.ops[a] i a k (l[k] :: l.drop (k + 1))).map zY = ⟨b.ops[a].args[k],l[k],i,(a : Int)⟩ :: (zQ b.ops[a] i a (k + 1) (l.drop (k + 1))).map zY:=by
    rw [zQ,yz,s];unfold zY;simp only [if_neg t]
   rw [yp,yu] at this;rw [xl zb6 rfl,zep,hd,e2];simp -implicitDefEqProofs only [go_sem,zf0,yb,yd,yn,yv] at this;simp -implicitDefEqProofs only [go_sem,zf0,ilt q,ilt c,ilt j,zm q,zm c,zm j,ri,rs,ro,ya,za q (show l.length ≤ 4294967296 by omega),r,e1,yb,yd,yh,yj,this]
theorem zii (o : POp) (i a : Int) : ∀ (l : List (Int × Int)) (k : Nat),(zQ o i a k l).length = l.length
 | [],_ => rfl
 | s :: r,k => by rw [zQ,yd,zii o i a r,yd]
theorem zzW (b : PBlock) (t : okB b) (s : zjJ b) (w : b.ops.length ≤ 1048576) (i : Int) : ∀ (d k : Nat) (acc : List Use) (a0 a2 a6 a7 a8 n o h c a g e j l : V),b.ops.length - k = d → k ≤ b.ops.length → acc.length + (zu i k (b.ops.drop k)).length ≤ 4294967296 →
  exec T zcp ⟨[a0,.one (.ptr 0 0 0 0),a2,.one (.ap 1 0 (acc.map rU)),vI i,.one (.ptr 2 0 0 0),a6,a7,a8,vI k,n,o,h,c,a,g,e,j,l],zf0 f acc.length [.cells 0 5 [zh b]],0,0⟩ =
   some (.exit 6,⟨[vU,.one (.ptr 0 0 0 0),vU,.one (.ap 1 0 ((acc ++ (zu i k (b.ops.drop k)).map zY).map rU)),vI i,.one (.ptr 2 0 0 0),vU,vU,vU,vU,vU,vU,vU,vU,vU,vU,vU,vU,vU],zf0 f (acc ++ (zu i k (b.ops.drop k)).map zY).length [.cells 0 5 [zh b]],0,0⟩):=by
 intro d
 induction d with
 | zero =>
   intro k acc a0 a2 a6 a7 a8 n o h c a g e j l y x u;have m : k = b.ops.length:=(by omega);subst m;rw [xl zcp rfl,zeo];simp -implicitDefEqProofs only [go_sem,zf0,ym,ya,yl,zu,yq,yo]
 | succ d ih =>
   intro k acc a0 a2 a6 a7 a8 n o h c a g e j l y x u;have m : k < b.ops.length:=(by omega);have hd : b.ops.drop k = b.ops[k] :: b.ops.drop (k + 1):=yc m;have v:=zsr b.ops[k] (t.op _ (yf m));have hle:=s.2 _ (yf m);have r : (zk0 b.ops[k] i (k : Int)).length = (zaY b.ops[k]).length:=zii f hf _ i k _ 0;rw [hd,zu,yb,r] at u;have q:=fun a0 a2 a6 a7 a8 h c a g e j l => zAJ f hf b t i k m (by omega) (zaY b.ops[k]) hle (zaY b.ops[k]).length 0 acc a0 a2 a6 a7 a8 h c a g e j l (by omega) (by omega) (by omega);simp only [yi,yk] at q;have e1 : zQ b.ops[k] i k 0 (zaY b.ops[k]) = zk0 b.ops[k] i k:=rfl;rw [e1] at q;have:=ih (k + 1) (acc ++ (zk0 b.ops[k] i k).map zY) vU vU vU vU vU vU vU vU vU vU vU vU vU vU (by omega) (by omega) (by rw [yb,ya,r]; omega);have e3 : acc ++ (zk0 b.ops[k] i k ++ zu i (k + 1) (b.ops.drop (k + 1))).map zY = (acc ++ (zk0 b.ops[k] i k).map zY) ++ (zu i (k + 1) (b.ops.drop (k + 1))).map zY:=(by rw [yw,yp]);rw [xl zcp rfl,zeo,hd,zu,e3];obtain ⟨a1,p⟩ : ∃ a1,a1 = acc ++ (zk0 b.ops[k] i k).map zY:=⟨_,rfl⟩;rw [← p] at this ⊢;simp only [← p] at q;simp -implicitDefEqProofs only [go_sem] at v;simp -implicitDefEqProofs only [go_sem,zf0] at q this;simp -implicitDefEqProofs only [go_sem,zf0,ilt m,zm m,ro,ya,v,q,za m t.ops,this]
include hret
theorem zz8 (w : ∀ b ∈ f.blocks,zjJ b) (y : ∀ b ∈ f.blocks,b.ops.length ≤ 1048576) : ∀ (d k : Nat) (acc : List Use) (a0 a2 a5 a6 a7 a8 a9 g i j c a h e l m : V),f.blocks.length - k = d → k ≤ f.blocks.length → acc.length + (zaC f k (f.blocks.drop k)).length ≤ 4294967296 →
  exec T zcv ⟨[a0,.one (.ptr 0 0 0 0),a2,.one (.ap 1 0 (acc.map rU)),vI k,a5,a6,a7,a8,a9,g,i,j,c,a,h,e,l,m],zf0 f acc.length [],0,0⟩ =
   some (.exit 0,⟨[vU,vU,vU,.one (.ap 1 0 ((acc ++ (zaC f k (f.blocks.drop k)).map zY).map rU)),vU,vU,vU,vU,vU,vU,vU,vU,vU,vU,vU,vU,vU,vU,vU],zf0 f (acc ++ (zaC f k (f.blocks.drop k)).map zY).length [],0,0⟩):=by
 intro d
 induction d with
 | zero =>
   intro k acc a0 a2 a5 a6 a7 a8 a9 g i j c a h e l m D C z;have o : k = f.blocks.length:=(by omega);subst o;rw [xl zcv rfl,zdY];simp -implicitDefEqProofs only [go_sem,zf0,ym,ya,yl,zaC,yq,yo]
 | succ d ih =>
   intro k acc a0 a2 a5 a6 a7 a8 a9 g i j c a h e l m D C z;have o : k < f.blocks.length:=(by omega);have hd : f.blocks.drop k = f.blocks[k] :: f.blocks.drop (k + 1):=yc o;have n:=yf o;obtain ⟨b,t⟩ : ∃ b,b = f.blocks[k]:=⟨_,rfl⟩;have x:=zm (r:=rb) o;rw [← t] at n x;have A:=hf.block _ n;rw [hd,zaC,← t,zg2,yb,yb,yb] at z;have v:=fun a0 a2 a7 a8 a9 g i j c a h e l m => zAh f hf b A (w b n) k b.phis.length 0 acc a0 a2 a7 a8 a9 g i j c a h e l m (by omega) (by omega) (by rw [yk]; omega);have u:=fun a0 a2 a6 a7 a8 g i j c a h e l m => zzW f hf b A (w b n) (y b n) k b.ops.length 0 (acc ++ (zam b.phis).map zY) a0 a2 a6 a7 a8 g i j c a h e l m (by omega) (by omega) (by rw [yk,yb,ya]; omega);have:=ih (k + 1) (acc ++ (zam b.phis).map zY ++ (zu k 0 b.ops).map zY ++ (zbp f k b).map zY) vU vU vU vU vU vU vU vU vU vU vU vU vU vU vU vU (by omega) (by omega) (by simp only [yb,ya]; omega);simp only [yi,yk] at v u
   have e3 : acc ++ (zg2 f k b ++ zaC f (k + 1) (f.blocks.drop (k + 1))).map zY = (acc ++ (zam b.phis).map zY ++ (zu k 0 b.ops).map zY ++ (zbp f k b).map zY) ++ (zaC f (k + 1) (f.blocks.drop (k + 1))).map zY:=by
    rw [zg2];simp only [yw,yp]
   rw [xl zcv rfl,zdY,hd,zaC,← t,e3];obtain ⟨a1,q⟩ : ∃ a1,a1 = acc ++ (zam b.phis).map zY:=⟨_,rfl⟩;rw [← q] at this ⊢;simp only [← q] at v u;obtain ⟨a2,s⟩ : ∃ a2,a2 = a1 ++ (zu k 0 b.ops).map zY:=⟨_,rfl⟩;rw [← s] at this ⊢;simp only [← s] at u
   have B : a2.length + (zbp f k b).length ≤ 4294967296:=by
    rw [s,q];simp only [yb,ya];omega
   simp -implicitDefEqProofs only [go_sem,zf0] at v u
   by_cases c0 : b.kind = 0
   ·have e0 : (zbp f k b).map zY = [⟨b.arg,(f.ret,1),(k : Int),1000⟩]:=by
     unfold zbp ziy;rw [if_pos c0,if_neg hret];rfl
    have el : (zbp f k b).length = 1:=by
     have:=congrArg yE e0;simpa using this
    have p : a2.length + 1 ≤ LIM:=(by unfold LIM; omega);have n2 : ¬ b.kind = 2:=(by omega);rw [e0] at this ⊢;have e1 : yy rU a2 ++ [[Fz.lit (Value.int .i64 b.arg),Fz.lit (Value.int .i64 (k : Int)),Fz.lit (Value.int .i64 1000),Fz.lit (Value.int .i64 f.ret),Fz.lit (Value.int .i64 1)]] = yy rU (a2 ++ [⟨b.arg,(f.ret,1),(k : Int),1000⟩]):=(by simp [rU]);simp -implicitDefEqProofs only [go_sem,zf0,yb,yd,yn,yv] at this;simp -implicitDefEqProofs only [go_sem,zf0,ilt o,x,rb,ya,v,u,eq_true c0,n2,p,e1,za o hf.blocks,yb,yd,this]
   ·by_cases c2 : b.kind = 2
    ·have e0 : (zbp f k b).map zY = [⟨b.arg,(1,1),(k : Int),1000⟩]:=by
      unfold zbp ziy;rw [if_neg c0,if_pos c2];rfl
     have el : (zbp f k b).length = 1:=by
      have:=congrArg yE e0;simpa using this
     have p : a2.length + 1 ≤ LIM:=(by unfold LIM; omega);rw [e0] at this ⊢;have e1 : yy rU a2 ++ [[Fz.lit (Value.int .i64 b.arg),Fz.lit (Value.int .i64 (k : Int)),Fz.lit (Value.int .i64 1000),Fz.lit (Value.int .i64 1),Fz.lit (Value.int .i64 1)]] = yy rU (a2 ++ [⟨b.arg,(1,1),(k : Int),1000⟩]):=(by simp [rU]);simp -implicitDefEqProofs only [go_sem,zf0,yb,yd,yn,yv] at this;simp -implicitDefEqProofs only [go_sem,zf0,ilt o,x,rb,ya,v,u,c0,eq_true c2,p,e1,za o hf.blocks,yb,yd,this]
    ·have e0 : zbp f k b = []:=by
      unfold zbp ziy;rw [if_neg c0,if_neg c2];rfl
     rw [e0,yq,yo] at this ⊢;simp -implicitDefEqProofs only [go_sem,zf0] at this;simp -implicitDefEqProofs only [go_sem,zf0,ilt o,x,rb,ya,v,u,c0,c2,za o hf.blocks,this]
theorem zuc (a : ∀ b ∈ f.blocks,zjJ b) (c : ∀ b ∈ f.blocks,b.ops.length ≤ 1048576) (p : (zfe f).length ≤ 4294967296) : call T 76 [zfZ f] [] = some (vUs ((zfe f).map zY),[]):=by
 rw [ze (fn:=zeN) rfl];have h:=fun a0 a2 a5 a6 a7 a8 a9 j l m g d k i n o => zz8 f hf hret a c f.blocks.length 0 [] a0 a2 a5 a6 a7 a8 a9 j l m g d k i n o (by omega) (by omega) (by simpa [zfe] using p);have e : zaC f 0 f.blocks = zfe f:=rfl;simp only [yi,yk,yB,yq,yn,e] at h;simp -implicitDefEqProofs only [go_sem,zf0] at h;simp -implicitDefEqProofs only [go_sem,zeN,h]
end
def rbo (b : Bool) : List Fz:=[.lit (.bool b)]
def zfX (b : Bool) : List C:=[.f (.lit (.bool b))]
abbrev vBs (l : List Bool) : V:=.one (.f (.sl (l.map rbo)))
attribute [go_sem] vBs
theorem zsl (l : List Bool) : zaf (l.map zfX) = some (l.map rbo):=by
 induction l with
 | nil => rfl
 | cons x l ih => rw [yz,zaf,ih]; rfl
theorem zEW {l : List Bool} {k : Nat} (h : k < l.length) : (l.map zfX)[k]? = some [.f (.lit (.bool (l.getD k false)))]:=by simp [h,zfX]
def mark (w : Int) (out : List Bool) (y : Int) : List Bool:=if y = w then out else out.set y.toNat true
theorem zlC (w : Int) (out : List Bool) (y : Int) : (mark w out y).length = out.length:=by unfold mark; split <;> simp
theorem zhI (w : Int) : ∀ (l : List Int) (out : List Bool),(l.foldl (mark w) out).length = out.length
 | [],_ => rfl
 | y :: l,out => by rw [yC,zhI w l,zlC]
theorem ztq {w : Int} {out : List Bool} {y : Int} {i : Nat} (h : out.getD i false = true) : (mark w out y).getD i false = true:=by
 unfold mark;split
 ·exact h
 ·have b : i < out.length:=by
   rcases Nat.lt_or_ge i out.length with a | a
   ·exact a
   ·rw [ye,List.getElem?_eq_none a] at h
    cases h
  by_cases c : y.toNat = i
  ·rw [c,ye,List.getElem?_set_self b]
   rfl
  ·rw [ye,List.getElem?_set_ne c,← ye]
   exact h
def zjq (w : Int) : Nat → List (List Int) → List Bool → List Bool
 | _,[],out => out
 | i,l :: r,out => zjq w (i + 1) r (if out.getD i false = true then l.foldl (mark w) out else out)
theorem zhm (w : Int) : ∀ (r : List (List Int)) (i : Nat) (out : List Bool),(zjq w i r out).length = out.length
 | [],_,_ => rfl
 | l :: r,i,out => by
   rw [zjq,zhm w r];split
   ·exact zhI w l out
   ·rfl
def zeX (w : Int) (succ : List (List Int)) : Nat → List Bool → List Bool
 | 0,out => out
 | r + 1,out => zeX w succ r (zjq w 0 succ out)
theorem zgI (w : Int) (succ : List (List Int)) : ∀ (r : Nat) (out : List Bool),(zeX w succ r out).length = out.length
 | 0,_ => rfl
 | r + 1,out => by rw [zeX,zgI w succ r,zhm]
def zdq (succ : List (List Int)) (root w : Int) : List Bool:=if root = w then yg succ.length false else zeX w succ succ.length ((yg succ.length false).set root.toNat true)
section
variable (succ pred : List (List Int)) (hn : succ.length ≤ 4294967296) (hl : ∀ l ∈ succ,l.length ≤ 4294967296) (hr : ∀ l ∈ succ,∀ y ∈ l,0 ≤ y ∧ y < (succ.length : Int)) (w : Int)
abbrev zq0 : Ob:=.cells 0 2 [[.f (.sl (succ.map rl)),.f (.sl (pred.map rl))]]
abbrev zoW (out : List Bool) : zd:=[zq0 succ pred,.cells 0 1 (out.map zfX)]
include hn hl hr
theorem zA5 (R : Int) (i : Nat) (b : i < succ.length) : ∀ (d k : Nat) (out : List Bool) (a0 a1 a4 a9 g h j e : V),out.length = succ.length → out.getD i false = true → succ[i].length - k = d → k ≤ succ[i].length →
  exec T zaj ⟨[a0,a1,vI w,.one (.ptr 0 0 0 0),a4,.one (.own 1 0 0 succ.length),vI R,vI i,vI k,a9,g,h,j,e],zoW succ pred out,0,0⟩ =
   some (.exit 4,⟨[vU,vU,vI w,.one (.ptr 0 0 0 0),vU,.one (.own 1 0 0 succ.length),vI R,vI i,vU,vU,vU,vU,vU,vU],zoW succ pred ((succ[i].drop k).foldl (mark w) out),0,0⟩):=by
 intro d
 induction d with
 | zero =>
   intro k out a0 a1 a4 a9 g h j e u p B v;have a : k = succ[i].length:=(by omega);subst a;have m:=zEW (l:=out) (k:=i) (by omega);rw [p] at m;rw [xl zaj rfl,zbz];simp -implicitDefEqProofs only [go_sem,zoW,zq0,ilt b,zm b,rl,m,ym,ya,yl,List.foldl_nil,yh,yj]
 | succ d ih =>
   intro k out a0 a1 a4 a9 g h j e u p B v;have a : k < succ[i].length:=(by omega);have hd : succ[i].drop k = succ[i][k] :: succ[i].drop (k + 1):=yc a;have m:=zEW (l:=out) (k:=i) (by omega);rw [p] at m;obtain ⟨y,t⟩ : ∃ y,y = succ[i][k]:=⟨_,rfl⟩;have s:=hr _ (yf b) _ (yf a);have o:=hl _ (yf b);rw [← t] at s;have x:=zEW (l:=out) (k:=y.toNat) (by omega);have:=ih (k + 1) (mark w out y) vU vU vU vU vU vU vU vU (by rw [zlC]; exact u) (ztq p) (by omega) (by omega);have D : ¬ y < 0:=(by omega);have z:=s.1;have A:=s.2;have n : (out.map zfX).set y.toNat [C.f (.lit (.bool true))] = (out.set y.toNat true).map zfX:=(by rw [yD]; rfl);rw [xl zaj rfl,zbz,hd,yC,← t];have q:=zm (r:=ri) a;rw [← t] at q
   by_cases c : y = w
   ·simp -implicitDefEqProofs only [go_sem,zoW,zq0,mark,c] at this
    simp -implicitDefEqProofs only [go_sem,zoW,zq0,ilt b,ilt a,zm b,q,ri,rl,m,ya,yh,yj,za a o,mark,c,this]
   ·simp -implicitDefEqProofs only [go_sem,zoW,zq0,mark,c] at this
    simp -implicitDefEqProofs only [go_sem,zoW,zq0,ilt b,ilt a,zm b,q,ri,rl,m,ya,yh,yj,za a o,mark,c,z,A,x,n,this]
theorem zut (R : Int) (i : Nat) (b : i < succ.length) (out : List Bool) (d : out.length = succ.length) (c : out.getD i false = false) a0 a1 a4 a9 a10 a11 a12 a13 :
  exec T zaj ⟨[a0,a1,vI w,.one (.ptr 0 0 0 0),a4,.one (.own 1 0 0 succ.length),vI R,vI i,vI 0,a9,a10,a11,a12,a13],zoW succ pred out,0,0⟩ =
   some (.exit 4,⟨[vU,vU,vI w,.one (.ptr 0 0 0 0),vU,.one (.own 1 0 0 succ.length),vI R,vI i,vU,vU,vU,vU,vU,vU],zoW succ pred out,0,0⟩):=by
 have a:=zEW (l:=out) (k:=i) (by omega);rw [c] at a;rw [xl zaj rfl,zbz];simp -implicitDefEqProofs only [go_sem,zoW,zq0,ilt b,a,yh,yj]
theorem zBY (R : Int) : ∀ (d k : Nat) (out : List Bool) (a0 a1 a4 a8 a9 b e f a : V),out.length = succ.length → succ.length - k = d → k ≤ succ.length →
  exec T zbK ⟨[a0,a1,vI w,.one (.ptr 0 0 0 0),a4,.one (.own 1 0 0 succ.length),vI R,vI k,a8,a9,b,e,f,a],zoW succ pred out,0,0⟩ =
   some (.exit 2,⟨[vU,vU,vI w,.one (.ptr 0 0 0 0),vU,.one (.own 1 0 0 succ.length),vI R,vU,vU,vU,vU,vU,vU,vU],zoW succ pred (zjq w k (succ.drop k) out),0,0⟩):=by
 intro d
 induction d with
 | zero =>
   intro k out a0 a1 a4 a8 a9 b e f a i l j;have g : k = succ.length:=(by omega);subst g;rw [xl zbK rfl,zdM];simp -implicitDefEqProofs only [go_sem,zoW,zq0,ym,ya,yl,zjq]
 | succ d ih =>
   intro k out a0 a1 a4 a8 a9 b e f a i l j;have g : k < succ.length:=(by omega);have hd : succ.drop k = succ[k] :: succ.drop (k + 1):=yc g;rw [xl zbK rfl,zdM,hd,zjq];cases c : out.getD k false
   ·have h:=fun a0 a1 a4 a9 b e f a => zut succ pred hn hl hr w R k g out i c a0 a1 a4 a9 b e f a
    have:=ih (k + 1) out vU vU vU vU vU vU vU vU vU i (by omega) (by omega);simp -implicitDefEqProofs only [go_sem,zoW,zq0] at h this;simp -implicitDefEqProofs only [go_sem,zoW,zq0,ilt g,h,za g hn,this]
   ·have h:=fun a0 a1 a4 a9 b e f a => zA5 succ pred hn hl hr w R k g succ[k].length 0 out a0 a1 a4 a9 b e f a i c (by omega) (by omega)
    simp only [yi,yk] at h;have:=ih (k + 1) (succ[k].foldl (mark w) out) vU vU vU vU vU vU vU vU vU (by rw [zhI]; exact i) (by omega) (by omega);simp -implicitDefEqProofs only [go_sem,zoW,zq0] at h this;simp -implicitDefEqProofs only [go_sem,zoW,zq0,ilt g,h,za g hn,this]
theorem zB2 : ∀ (d k : Nat) (out : List Bool) (a0 a1 a4 a7 a8 a9 e b c a : V),out.length = succ.length → succ.length - k = d → k ≤ succ.length →
  exec T zbs ⟨[a0,a1,vI w,.one (.ptr 0 0 0 0),a4,.one (.own 1 0 0 succ.length),vI k,a7,a8,a9,e,b,c,a],zoW succ pred out,0,0⟩ =
   some (.exit 0,⟨[vU,vU,vU,vU,vU,.one (.own 1 0 0 succ.length),vU,vU,vU,vU,vU,vU,vU,vU],zoW succ pred (zeX w succ d out),0,0⟩):=by
 intro d
 induction d with
 | zero =>
   intro k out a0 a1 a4 a7 a8 a9 e b c a g i j;have f : k = succ.length:=(by omega);subst f;rw [xl zbs rfl,zdI];simp -implicitDefEqProofs only [go_sem,zoW,zq0,ym,ya,zeX]
 | succ d ih =>
   intro k out a0 a1 a4 a7 a8 a9 e b c a g i j;have f : k < succ.length:=(by omega);rw [xl zbs rfl,zdI,zeX];have h:=fun a0 a1 a4 a8 a9 e b c a => zBY succ pred hn hl hr w k succ.length 0 out a0 a1 a4 a8 a9 e b c a g (by omega) (by omega);simp only [yi,yk] at h;have:=ih (k + 1) (zjq w 0 succ out) vU vU vU vU vU vU vU vU vU vU (by rw [zhm]; exact g) (by omega) (by omega);simp -implicitDefEqProofs only [go_sem,zoW,zq0] at h this;simp -implicitDefEqProofs only [go_sem,zoW,zq0,ilt f,h,za f hn,this]
theorem zmQ (root : Int) (r : 0 ≤ root ∧ root < (succ.length : Int)) : call T 124 [.agg [.f (.sl (succ.map rl)),.f (.sl (pred.map rl))],vI root,vI w] [] = some (vBs (zdq succ root w),[]):=by
 rw [ze (fn:=zcl) rfl];have q : yg succ.length [C.f (.lit (.bool false))] = (yg succ.length false).map zfX:=by rw [List.map_replicate]; rfl
 have b : (succ.length : Int) ≤ (LIM : Int):=by unfold LIM; omega
 have p:=fun l => zsl l;obtain ⟨s,r1⟩:=r
 by_cases c : root = w
 ·have m : ((yg succ.length false).map zfX).take succ.length = (yg succ.length false).map zfX:=yt (by simp)
  simp -implicitDefEqProofs only [go_sem,zcl,b,yh,yj,ya,q,c,m,p,zdq]
 ·have t:=zEW (l:=yg succ.length false) (k:=root.toNat) (by simp; omega)
  have d : ((yg succ.length false).map zfX).set root.toNat [C.f (.lit (.bool true))] = ((yg succ.length false).set root.toNat true).map zfX:=by rw [yD]; rfl
  have h:=fun a0 a1 a4 a7 a8 a9 i n o g => zB2 succ pred hn hl hr w succ.length 0 ((yg succ.length false).set root.toNat true) a0 a1 a4 a7 a8 a9 i n o g (by simp) (by omega) (by omega);simp only [yi] at h;obtain ⟨res,a⟩ : ∃ res,res = zeX w succ succ.length ((yg succ.length false).set root.toNat true):=⟨_,rfl⟩;have j : res.length = succ.length:=by rw [a,zgI]; simp
  have m : (res.map zfX).take succ.length = res.map zfX:=yt (by simp [j]);have e : zdq succ root w = res:=by unfold zdq; rw [if_neg c,a]
  rw [e];rw [← a] at h;simp -implicitDefEqProofs only [go_sem,zoW,zq0] at h;simp -implicitDefEqProofs only [go_sem,zcl,b,yh,yj,ya,q,c,s,r1,t,d,h,m,p]
end
end AC
namespace Dm
section
variable (E : Int → Int → Prop) (root : Int)
inductive Way : Int → List Int → Prop
 | root : Way root [root]
 | step {p x : Int} {l : List Int} : Way p l → E p x → Way x (x :: l)
def Dom (d x : Int) : Prop:=∀ l,Way E root x l → d ∈ l
structure Ord (O : Int → Prop) (pos : Int → Nat) : Prop where
 rt : O root
 inj : ∀ a b,O a → O b → pos a = pos b → a = b
 low : ∀ a,O a → pos root ≤ pos a
 par : ∀ x,O x → x ≠ root → ∃ p,O p ∧ E p x ∧ pos p < pos x
 cl : ∀ p x,O p → E p x → O x
inductive Inc (pos : Int → Nat) : Int → Int → Prop
 | refl (a : Int) : Inc pos a a
 | step {a p x : Int} : Inc pos a p → E p x → pos p < pos x → Inc pos a x
inductive Anc (T : Int → Int) : Int → Int → Prop
 | refl (x : Int) : Anc T x x
 | step {y x : Int} : x ≠ root → Anc T y (T x) → Anc T y x
def Com (T : Int → Int) (x y : Int) : Prop:=∀ p,E p x → T p ≠ -2 → Anc root T y p
def St (T : Int → Int) (x : Int) : Prop:=T x ≠ -2 ∧ ∀ y,Anc root T y (T x) ↔ Com E root T x y
structure Inv (O : Int → Prop) (pos : Int → Nat) (T : Int → Int) : Prop where
 out : ∀ x,¬ O x → T x = -2
 rt : T root = root
 nn : ∀ x,O x → x ≠ -2
 par : ∀ x,x ≠ root → T x ≠ -2 → T (T x) ≠ -2 ∧ pos (T x) < pos x
 A : ∀ x d,x ≠ root → T x ≠ -2 → Dom E root d x → d ≠ x → Dom E root d (T x)
 P : ∀ x,x ≠ root → T x ≠ -2 → Inc E pos (T x) x
 B : ∀ x,x ≠ root → T x ≠ -2 → ∀ y,Com E root T x y → pos y ≤ pos (T x)
end
variable {E : Int → Int → Prop} {root : Int} {O : Int → Prop} {pos : Int → Nat}
section
variable (H : Ord E root O pos)
include H
theorem zwh {x : Int} {l : List Int} (h : Way E root x l) : O x ∧ ∀ y ∈ l,O y:=by
 induction h with
 | root => exact ⟨H.rt,fun y a => by rw [yr.1 a]; exact H.rt⟩
 | step h e ih =>
   have:=H.cl _ _ ih.1 e;refine ⟨this,fun y a => ?_⟩;rcases yA.1 a with rfl | a
   ·exact this
   ·exact ih.2 y a
theorem zCR : ∀ (n : Nat) (x : Int),pos x ≤ n → O x → ∃ l,Way E root x l ∧ ∀ y ∈ l,y = x ∨ pos y < pos x:=by
 intro n
 induction n with
 | zero =>
   intro x d b
   by_cases c : x = root
   ·subst c
    exact ⟨_,.root,fun y a => .inl (yr.1 a)⟩
   ·obtain ⟨p,_,_,h⟩:=H.par x b c
    omega
 | succ n ih =>
   intro x d b
   by_cases c : x = root
   ·subst c
    exact ⟨_,.root,fun y a => .inl (yr.1 a)⟩
   ·obtain ⟨p,f,e,h⟩:=H.par x b c
    obtain ⟨l,w,g⟩:=ih p (by omega) f;refine ⟨_,.step w e,fun y a => ?_⟩;rcases yA.1 a with rfl | a
    ·exact .inl rfl
    ·rcases g y a with rfl | i
     ·exact .inr h
     ·exact .inr (by omega)
theorem zsC {d x : Int} (a : O x) (h : Dom E root d x) : d = x ∨ pos d < pos x:=by
 obtain ⟨l,w,b⟩:=zCR H _ x (yx _) a;exact b d (h l w)
theorem zFy {d x : Int} (a : O x) (h : Dom E root d x) : O d:=by
 obtain ⟨l,w,b⟩:=zCR H _ x (yx _) a;exact (zwh H w).2 d (h l w)
end
theorem zv3 {d p x : Int} (e : E p x) (h : Dom E root d x) (hd : d ≠ x) : Dom E root d p:=by
 intro l w;rcases yA.1 (h _ (.step w e)) with h | h
 ·exact absurd h hd
 ·exact h
theorem zCC (x : Int) : Dom E root x x:=by
 intro l w
 cases w with
 | root => simp
 | step => simp
theorem zDb {a b : Int} (h : Inc E pos a b) : a = b ∨ pos a < pos b:=by
 induction h with
 | refl => exact .inl rfl
 | step h e l c => rcases c with rfl | c <;> right <;> omega
theorem zzl {a b c : Int} (h : Inc E pos a b) (k : Inc E pos b c) : Inc E pos a c:=by
 induction k with
 | refl => exact h
 | step k e l ih => exact .step ih e l
theorem zAs {T : Int → Int} {a b c : Int} (h : Anc root T a b) (k : Anc root T b c) : Anc root T a c:=by
 induction k with
 | refl => exact h
 | step n k ih => exact .step n ih
theorem znH {T : Int → Int} {y x : Int} (h : Anc root T y x) (a : y ≠ x) : x ≠ root ∧ Anc root T y (T x):=by
 cases h with
 | refl => exact absurd rfl a
 | step n h => exact ⟨n,h⟩
section
variable (H : Ord E root O pos) {T : Int → Int} (I : Inv E root O pos T)
include H I
theorem zjn {x : Int} (h : T x ≠ -2) : O x:=by
 by_cases c : O x
 ·exact c
 ·exact absurd (I.out x c) h
theorem zCK : T root ≠ -2:=by rw [I.rt]; exact I.nn _ H.rt
theorem zD4 {y x : Int} (h : Anc root T y x) (b : T x ≠ -2) : T y ≠ -2 ∧ (y = x ∨ pos y < pos x):=by
 induction h with
 | refl => exact ⟨b,.inl rfl⟩
 | step n h ih =>
   obtain ⟨c,e⟩:=I.par _ n b;obtain ⟨d,a⟩:=ih c;refine ⟨d,.inr ?_⟩;rcases a with a | a
   ·rw [a]; exact e
   ·omega
theorem ztN {y x : Int} (h : Anc root T y x) (a : T x ≠ -2) : pos y ≤ pos x:=by
 rcases (zD4 H I h a).2 with rfl | h <;> omega
theorem zCE {d m x : Int} (h : Anc root T m x) (b : T x ≠ -2) (hd : Dom E root d x) (hm : Anc root T d m) : Dom E root d m:=by
 induction h with
 | refl => exact hd
 | step n h ih =>
   rename_i c;obtain ⟨a,e⟩:=I.par _ n b;refine ih a (I.A _ _ n b hd ?_);rintro rfl;have a1:=ztN H I h a;have a2:=ztN H I hm (zD4 H I h a).1;omega
theorem zzN : ∀ (n : Nat) (x d : Int),pos x ≤ n → T x ≠ -2 → Dom E root d x → Anc root T d x:=by
 intro n
 induction n with
 | zero =>
   intro x d f a hd
   by_cases c : d = x
   ·subst c; exact .refl _
   ·rcases zsC H (zjn H I a) hd with h | h
    ·exact absurd h c
    ·omega
 | succ n ih =>
   intro x d f a hd
   by_cases c : d = x
   ·subst c; exact .refl _
   ·have b : x ≠ root:=by
     rintro rfl;rcases zsC H H.rt hd with h | h
     ·exact c h
     ·have:=H.low d (zFy H H.rt hd)
      omega
    obtain ⟨e,g⟩:=I.par _ b a;exact .step b (ih _ _ (by omega) e (I.A _ _ b a hd c))
theorem zEy {a b : Int} (h : Inc E pos a b) (c : O a) : O b:=by
 induction h with
 | refl => exact c
 | step h e l ih => exact H.cl _ _ ih e
theorem zDa {y x : Int} (h : Anc root T y x) (a : T x ≠ -2) : Inc E pos y x:=by
 induction h with
 | refl => exact .refl _
 | step n h ih => exact zzl (ih (I.par _ n a).1) (I.P _ n a)
section
variable {z : Int} (hst : ∀ y,O y → y ≠ root → pos y < pos z → St E root T y)
include hst
theorem zsJ {y : Int} (h : O y) (a : pos y < pos z) : T y ≠ -2:=by
 by_cases c : y = root
 ·rw [c]; exact zCK H I
 ·exact (hst y h c a).1
theorem zEq {a v y : Int} (h : Inc E pos a v) (f : O a) (g : pos v < pos z) (d : Anc root T y v) (k : pos y ≤ pos a) : Anc root T y a:=by
 induction h with
 | refl => exact d
 | step h e l ih =>
   rename_i p v;have c:=zEy H I h f
   have hle : pos a ≤ pos p:=(by rcases zDb h with rfl | h <;> omega);have b : y ≠ v:=(by rintro rfl; omega);obtain ⟨i,j⟩:=znH d b;have hs:=hst v (H.cl _ _ c e) i g;exact ih (by omega) ((hs.2 y).1 j p e (zsJ H I hst c (by omega)))
theorem key {y : Int} (b : z ≠ root) (d : T z ≠ -2) (i : Com E root T z y) : Anc root T y (T z):=by
 have g:=I.P z b d;have f:=I.B z b d y i;obtain ⟨j,k⟩:=I.par z b d;have c:=zjn H I j;generalize hw : T z = w at g f k c
 cases g with
 | refl => omega
 | step h e l =>
   have a:=zEy H I h c;exact zEq H I hst h c l (i _ e (zsJ H I hst a l)) f
end
end
structure Upd (E : Int → Int → Prop) (root : Int) (O : Int → Prop) (pos : Int → Nat) (T T' : Int → Int) (z m : Int) : Prop where
 at' : T' z = m
 ne : ∀ x,x ≠ z → T' x = T x
 oz : O z
 hr : z ≠ root
 st : ∀ y,O y → y ≠ root → pos y < pos z → St E root T y
 hm : T m ≠ -2
 best : ∀ y,Anc root T y m ↔ Com E root T z y
 new : m ≠ T z
section
variable (H : Ord E root O pos) {T T' : Int → Int} (I : Inv E root O pos T) {z m : Int} (U : Upd E root O pos T T' z m)
include H I U
theorem zr5 : ∃ p,E p z ∧ T p ≠ -2 ∧ pos p < pos z ∧ Anc root T m p:=by
 obtain ⟨p,d,b,a⟩:=H.par z U.oz U.hr;have c:=zsJ H I U.st d a;exact ⟨p,b,c,a,(U.best m).1 (.refl _) p b c⟩
theorem zDy : pos m < pos z ∧ m ≠ -2 ∧ m ≠ z:=by
 obtain ⟨p,c,b,d,a⟩:=zr5 H I U;have:=ztN H I a b;refine ⟨by omega,I.nn _ (zjn H I U.hm),?_⟩;rintro rfl;omega
theorem zvr {x : Int} (h : T x ≠ -2) : T' x ≠ -2:=by
 by_cases c : x = z
 ·rw [c,U.at']; exact (zDy H I U).2.1
 ·rw [U.ne x c]; exact h
theorem shrink {y x : Int} (h : Anc root T' y x) (a : T x ≠ -2) : Anc root T y x:=by
 induction h with
 | refl => exact .refl _
 | step n h ih =>
   rename_i x
   by_cases c : x = z
   ·subst c
    rw [U.at'] at h ih;have b:=ih U.hm;exact .step n (zAs b (key H I U.st n a ((U.best m).1 (.refl _))))
   ·rw [U.ne x c] at h ih
    exact .step n (ih (I.par _ n a).1)
theorem zxZ (a : T z ≠ -2) : pos m < pos (T z):=by
 have h:=key H I U.st U.hr a ((U.best m).1 (.refl _));have b:=(I.par z U.hr a).1;rcases (zD4 H I h b).2 with h | h
 ·exact absurd h U.new
 ·exact h
theorem zD2 : Inv E root O pos T':=by
 obtain ⟨m1,m2,s⟩:=zDy H I U;have j:=U.oz;have b : ∀ x y,Com E root T' x y → (Com E root T x y):=fun x y h p e o => shrink H I U (h p e (zvr H I U o)) o;refine ⟨fun x a => ?_,?_,I.nn,fun x hr a => ?_,fun x d hr a hd l => ?_,fun x hr a => ?_,fun x hr a y r => ?_⟩
 ·rw [U.ne x (by rintro rfl; exact a j)]; exact I.out x a
 ·rw [U.ne _ (fun h => U.hr h.symm)]; exact I.rt
 ·by_cases c : x = z
  ·subst c
   rw [U.at',U.ne m s];exact ⟨U.hm,m1⟩
  ·rw [U.ne x c] at a ⊢
   exact ⟨zvr H I U (I.par x hr a).1,(I.par x hr a).2⟩
 ·by_cases c : x = z
  ·subst c
   rw [U.at'];obtain ⟨p,i,g,n,k⟩:=zr5 H I U;have f : Anc root T d m:=(U.best d).2 fun q e t => zzN H I _ q d (yx _) t (zv3 e hd l);exact zCE H I k g (zv3 i hd l) f
  ·rw [U.ne x c] at a ⊢
   exact I.A x d hr a hd l
 ·by_cases c : x = z
  ·subst c
   rw [U.at'];obtain ⟨p,i,g,n,k⟩:=zr5 H I U;exact .step (zDa H I k g) i n
  ·rw [U.ne x c] at a ⊢
   exact I.P x hr a
 ·by_cases c : x = z
  ·subst c
   rw [U.at'];exact ztN H I ((U.best y).2 (b _ _ r)) U.hm
  ·rw [U.ne x c] at a ⊢
   exact I.B x hr a y (b _ _ r)
end
section
variable (H : Ord E root O pos) {T : Int → Int} (I : Inv E root O pos T) (hs : ∀ x,O x → x ≠ root → St E root T x)
include H I hs
theorem zDG {x : Int} (h : O x) : T x ≠ -2:=by
 by_cases c : x = root
 ·rw [c]; exact zCK H I
 ·exact (hs x h c).1
theorem zDF {x : Int} {l : List Int} (w : Way E root x l) : ∀ y,Anc root T y x → y ∈ l:=by
 induction w with
 | root =>
   intro y h
   by_cases c : y = root
   ·simp [c]
   ·exact absurd rfl (znH h c).1
 | step w e ih =>
   rename_i p x l;intro y h
   by_cases c : y = x
   ·simp [c]
   ·obtain ⟨b,d⟩:=znH h c
    have a:=(zwh H w).1;have:=(hs x (H.cl _ _ a e) b).2 y |>.1 d p e (zDG H I hs a);exact List.mem_cons_of_mem _ (ih y this)
theorem zvb {d x : Int} (a : O x) : Anc root T d x ↔ Dom E root d x :=
 ⟨fun h l w => zDF H I hs w d h,fun h => zzN H I _ x d (yx _) (zDG H I hs a) h⟩
end
end Dm

/- A part of the proof of SchedTells. Conditions: none. -/
import Derived.Test.YtmkncmffaaninaaGreatTAW
import Derived.Test.YtmkncmffaaninaaGreatTBB
import Derived.Test.YtmkncmffaaninaaGreatTBC
set_option linter.all false
open Int renaming natCast_nonneg → ya,toNat_natCast → yb,natCast_zero → yg,lt_irrefl → yh
open List renaming length_map → yc,getElem?_cons_succ → yd,getElem?_cons_zero → ye,drop_eq_getElem_cons → yf,drop_length → yi,getElem?_map → yk,set_cons_succ → ym,length_append → yn,drop_zero → yo,getElem?_set_self → yp,length_cons → yq,length_nil → yr,all_cons → ys,getElem_mem → yt,all_nil → yu,map_set → yv,find?_cons → yw,length_set → yx,find?_nil → yy,replicate → yz,set_set → yC,map_nil → yD,map → yE
open Bool renaming false_eq_true → yj,and_false → yl,and_true → yA
open Nat renaming zero_add → yB
namespace AC
open Go Go.A Go.A.Lex
theorem zAH {o : POp} (h : zgN o = true) : 0 ≤ o.kind ∧ o.kind ≤ 22:=by
 unfold zgN at h;simp only [Bool.and_eq_true] at h;cases a : zhj o.kind
 ·rw [zqz a] at h
  exact absurd h.2.1 (by simp)
 ·simpa [zhj] using a
section
variable (f : PFunc) (hf : okF f) (level : Int)
abbrev ziT (r : zd) : zd:=.cells 0 3 [z6 f] :: r
include hf
theorem zx3 : ∀ (d k : Nat) (a0 a3 a5 a6 a7 a8 a9 n i m j g l e h b : V),f.params.length - k = d → k ≤ f.params.length →
  exec T zb0 ⟨[a0,vI level,.one (.ptr 0 0 0 0),a3,vI k,a5,a6,a7,a8,a9,n,i,m,j,g,l,e,h,b],ziT f [],0,0⟩ =
   some (if (f.params.drop k).all ziO = true then (.exit 0,⟨[vU,vI level,.one (.ptr 0 0 0 0),vU,vU,vU,vU,vU,vU,vU,vU,vU,vU,vU,vU,vU,vU,vU,vU],ziT f [],0,0⟩) else (.ret,⟨[vU,vU,vU,vB false,vU,vU,vU,vU,vU,vU,vU,vU,vU,vU,vU,vU,vU,vU,vU],ziT f [],0,0⟩)):=by
 intro d
 induction d with
 | zero =>
   intro k a0 a3 a5 a6 a7 a8 a9 n i m j g l e h b p q;have a : k = f.params.length:=(by omega);subst a;rw [xl zb0 rfl,zek];simp -implicitDefEqProofs only [go_sem,ziT,yh,yc,yi,yu]
 | succ d ih =>
   intro k a0 a3 a5 a6 a7 a8 a9 n i m j g l e h b p q;have a : k < f.params.length:=(by omega);have hd : f.params.drop k = f.params[k] :: f.params.drop (k + 1):=yf a;have o:=zgw f.params[k];have:=ih (k + 1) vU vU vU vU vU vU vU vU vU vU vU vU vU vU vU vU (by omega) (by omega);rw [xl zb0 rfl,zek,hd,ys];simp -implicitDefEqProofs only [go_sem,ziT] at this;cases c : ziO f.params[k]
   ·simp -implicitDefEqProofs only [go_sem,c] at o
    simp -implicitDefEqProofs only [go_sem,ziT,ilt a,zj a,ri,yc,o,c]
   ·simp -implicitDefEqProofs only [go_sem,c] at o
    simp -implicitDefEqProofs only [go_sem,ziT,ilt a,zj a,ri,yc,o,c,za a hf.params,this]
theorem zyy (b : PBlock) (i : Nat) (u : i < f.blocks.length) (x : b = f.blocks[i]) (v : b.phis.length ≤ 4294967296) : ∀ (d k : Nat) (a0 a3 a4 a7 a8 a9 q l o m h n g j e : V),b.phis.length - k = d → k ≤ b.phis.length →
  exec T zbR ⟨[a0,vI level,.one (.ptr 0 0 0 0),a3,a4,vI i,vI k,a7,a8,a9,q,l,o,m,h,n,g,j,e],ziT f [],0,0⟩ =
   some (if (b.phis.drop k).all (fun p => ziO p.bits) = true then (.exit 4,⟨[vU,vI level,.one (.ptr 0 0 0 0),vU,vU,vI i,vU,vU,vU,vU,vU,vU,vU,vU,vU,vU,vU,vU,vU],ziT f [],0,0⟩) else (.ret,⟨[vU,vU,vU,vB false,vU,vU,vU,vU,vU,vU,vU,vU,vU,vU,vU,vU,vU,vU,vU],ziT f [],0,0⟩)):=by
 intro d;have t:=zj (r:=rb) u;rw [← x] at t
 induction d with
 | zero =>
   intro k a0 a3 a4 a7 a8 a9 q l o m h n g j e w y;have a : k = b.phis.length:=(by omega);subst a;rw [xl zbR rfl,zd6];simp -implicitDefEqProofs only [go_sem,ziT,t,rb,ilt u,yh,yc,yi,yu,ya,yb]
 | succ d ih =>
   intro k a0 a3 a4 a7 a8 a9 q l o m h n g j e w y;have a : k < b.phis.length:=(by omega);have hd : b.phis.drop k = b.phis[k] :: b.phis.drop (k + 1):=yf a;have s:=zgw b.phis[k].bits;have:=ih (k + 1) vU vU vU vU vU vU vU vU vU vU vU vU vU vU vU (by omega) (by omega);rw [xl zbR rfl,zd6,hd,ys];simp -implicitDefEqProofs only [go_sem,ziT] at this;cases c : ziO b.phis[k].bits
   ·simp -implicitDefEqProofs only [go_sem,c] at s
    simp -implicitDefEqProofs only [go_sem,ziT,t,rb,ilt u,ilt a,zj a,rp,yc,s,c,ya,yb]
   ·simp -implicitDefEqProofs only [go_sem,c] at s
    simp -implicitDefEqProofs only [go_sem,ziT,t,rb,ilt u,ilt a,zj a,rp,yc,s,c,ya,yb,za a v,this]
set_option maxHeartbeats 4000000 in
theorem zyn (m : level = 0 ∨ level = 1 ∨ level = 2) (b : PBlock) (l : okB b) (i : Nat) (v : i < f.blocks.length) (J : b = f.blocks[i]) : ∀ (d k : Nat) (a0 a3 a4 a6 a8 a9 G B E C z D y A x : V),b.ops.length - k = d → k ≤ b.ops.length →
  exec T zbN ⟨[a0,vI level,.one (.ptr 0 0 0 0),a3,a4,vI i,a6,vI k,a8,a9,G,B,E,C,z,D,y,A,x],ziT f [],0,0⟩ =
   some (match (b.ops.drop k).find? (fun o => !ofS level o) with | none => (.exit 6,⟨[vU,vI level,.one (.ptr 0 0 0 0),vU,vU,vI i,vU,vU,vU,vU,vU,vU,vU,vU,vU,vU,vU,vU,vU],ziT f [],0,0⟩) | some o => (.ret,⟨[vU,vU,vU,vB false,vU,vU,vU,vU,vU,vU,vU,vU,vU,vU,vU,vU,vU,vU,vU],ziT f [.cells 0 6 [cOp o]],0,0⟩)):=by
 intro d;have u:=zj (r:=rb) v;rw [← J] at u
 induction d with
 | zero =>
   intro k a0 a3 a4 a6 a8 a9 G B E C z D y A x I K;have g : k = b.ops.length:=(by omega);subst g;rw [xl zbN rfl,zdY];simp -implicitDefEqProofs only [go_sem,ziT,u,rb,ilt v,yh,yc,yi,yy,ya,yb]
 | succ d ih =>
   intro k a0 a3 a4 a6 a8 a9 G B E C z D y A x I K;have g : k < b.ops.length:=(by omega);have hd : b.ops.drop k = b.ops[k] :: b.ops.drop (k + 1):=yf g;have t:=zmn b.ops[k] (l.op _ (yt g));have:=ih (k + 1) vU vU vU vU vU vU vU vU vU vU vU vU vU vU vU (by omega) (by omega);rw [xl zbN rfl,zdY,hd,yw];simp -implicitDefEqProofs only [go_sem,ziT] at this;obtain ⟨o,H⟩ : ∃ o,o = b.ops[k]:=⟨_,rfl⟩;have w:=zj (r:=ro) g;rw [← H] at w t ⊢;cases c : zgN o
   ·have e : ofS level o = false:=by unfold ofS; rw [c,yl,yl]
    simp -implicitDefEqProofs only [go_sem,c] at t;rcases m with rfl | rfl | rfl <;> simp -implicitDefEqProofs only [go_sem,ziT,u,rb,ilt v,ilt g,w,ro,yc,t,e,ya,yb]
   ·simp -implicitDefEqProofs only [go_sem,c] at t
    have L:=(zAH c)
    by_cases h : 20 < o.kind
    ·by_cases a : 17 < o.kind
     ·have p : ¬ o.kind > 22:=by omega
      have n : o.kind > 20:=h;have j : o.kind > 17:=a
      by_cases q : 1 < o.lanes
      ·have s : o.lanes > 1:=q
       rcases m with rfl | rfl | rfl <;> simp -implicitDefEqProofs only [go_sem,ziT,u,rb,ilt v,ilt g,w,ro,yc,t,c,ofS,p,eq_true n,eq_true j,eq_true h,eq_true a,eq_true q,eq_true s,ya,yb,za g l.ops,this]
      ·have s : ¬ o.lanes > 1:=q
       rcases m with rfl | rfl | rfl <;> simp -implicitDefEqProofs only [go_sem,ziT,u,rb,ilt v,ilt g,w,ro,yc,t,c,ofS,p,eq_true n,eq_true j,eq_true h,eq_true a,q,s,ya,yb,za g l.ops,this]
     ·omega
    ·have p : ¬ o.kind > 22:=by omega
     have n : ¬ o.kind > 20:=h
     by_cases a : 17 < o.kind
     ·have j : o.kind > 17:=a
      by_cases q : 1 < o.lanes
      ·have s : o.lanes > 1:=q
       rcases m with rfl | rfl | rfl <;> simp -implicitDefEqProofs only [go_sem,ziT,u,rb,ilt v,ilt g,w,ro,yc,t,c,ofS,p,n,eq_true j,h,eq_true a,eq_true q,eq_true s,ya,yb,za g l.ops,this]
      ·have s : ¬ o.lanes > 1:=q
       rcases m with rfl | rfl | rfl <;> simp -implicitDefEqProofs only [go_sem,ziT,u,rb,ilt v,ilt g,w,ro,yc,t,c,ofS,p,n,eq_true j,h,eq_true a,q,s,ya,yb,za g l.ops,this]
     ·have j : ¬ o.kind > 17:=a
      by_cases q : 1 < o.lanes
      ·have s : o.lanes > 1:=q
       rcases m with rfl | rfl | rfl <;> simp -implicitDefEqProofs only [go_sem,ziT,u,rb,ilt v,ilt g,w,ro,yc,t,c,ofS,p,n,j,h,a,eq_true q,eq_true s,ya,yb,za g l.ops,this]
      ·have s : ¬ o.lanes > 1:=q
       rcases m with rfl | rfl | rfl <;> simp -implicitDefEqProofs only [go_sem,ziT,u,rb,ilt v,ilt g,w,ro,yc,t,c,ofS,p,n,j,h,a,q,s,ya,yb,za g l.ops,this]
theorem zx1 (v : level = 0 ∨ level = 1 ∨ level = 2) : ∀ (d k : Nat),f.blocks.length - k = d → k ≤ f.blocks.length → ∃ r,∀ (a0 a3 a4 a6 a7 a8 a9 m h l i e j c g a : V),
  exec T zap ⟨[a0,vI level,.one (.ptr 0 0 0 0),a3,a4,vI k,a6,a7,a8,a9,m,h,l,i,e,j,c,g,a],ziT f [],0,0⟩ =
   some (if (f.blocks.drop k).all (zk2 level) = true then (.exit 2,⟨[vU,vU,.one (.ptr 0 0 0 0),vU,vU,vU,vU,vU,vU,vU,vU,vU,vU,vU,vU,vU,vU,vU,vU],ziT f [],0,0⟩) else (.ret,⟨[vU,vU,vU,vB false,vU,vU,vU,vU,vU,vU,vU,vU,vU,vU,vU,vU,vU,vU,vU],ziT f r,0,0⟩)):=by
 intro d
 induction d with
 | zero =>
   intro k y z;have n : k = f.blocks.length:=(by omega);subst n;refine ⟨[],fun a0 a3 a4 a6 a7 a8 a9 m h l i e j c g a => ?_⟩;rw [xl zap rfl,zaO];simp -implicitDefEqProofs only [go_sem,ziT,yh,yc,yi,yu]
 | succ d ih =>
   intro k y z;have n : k < f.blocks.length:=(by omega);have hd : f.blocks.drop k = f.blocks[k] :: f.blocks.drop (k + 1):=yf n;obtain ⟨b,q⟩ : ∃ b,b = f.blocks[k]:=⟨_,rfl⟩;have w:=hf.block _ (yt n);rw [← q] at w;have s:=fun a0 a3 a4 a7 a8 a9 m h l i e j c g a => zyy f hf level b k n q w.phis b.phis.length 0 a0 a3 a4 a7 a8 a9 m h l i e j c g a (by omega) (by omega);have t:=fun a0 a3 a4 a6 a8 a9 m h l i e j c g a => zyn f hf level v b w k n q b.ops.length 0 a0 a3 a4 a6 a8 a9 m h l i e j c g a (by omega) (by omega);simp only [yg,yo] at s t;obtain ⟨r,x⟩:=ih (k + 1) (by omega) (by omega);rw [hd,ys,← q,zk2];simp -implicitDefEqProofs only [go_sem,ziT] at x;cases e1 : b.phis.all (fun p => ziO p.bits)
   ·refine ⟨[],fun a0 a3 a4 a6 a7 a8 a9 m h l i e j c g a => ?_⟩
    rw [xl zap rfl,zaO];simp -implicitDefEqProofs only [go_sem,ziT,e1,yj] at s;simp -implicitDefEqProofs only [go_sem,ziT,ilt n,yc,s]
   ·simp -implicitDefEqProofs only [go_sem,ziT,e1] at s
    cases e2 : b.ops.find? (fun o => !ofS level o) with
    | some o =>
      have u:=zfy e2;refine ⟨[.cells 0 6 [cOp o]],fun a0 a3 a4 a6 a7 a8 a9 m h l i e j c g a => ?_⟩;rw [xl zap rfl,zaO];simp -implicitDefEqProofs only [go_sem,ziT,e2] at t;simp -implicitDefEqProofs only [go_sem,ziT,ilt n,yc,s,t,u,yl]
    | none =>
      have u:=zfB e2;refine ⟨r,fun a0 a3 a4 a6 a7 a8 a9 m h l i e j c g a => ?_⟩;rw [xl zap rfl,zaO];simp -implicitDefEqProofs only [go_sem,ziT,e2] at t;simp -implicitDefEqProofs only [go_sem,ziT,ilt n,yc,s,t,u,za n hf.blocks,x]
theorem ztM (g : level = 0 ∨ level = 1 ∨ level = 2) : call T 72 [zd4 f,vI level] [] = some (vB (zgc f level),[]):=by
 rw [ze (fn:=zaW) rfl];have a:=fun a0 a3 a5 a6 a7 a8 a9 m i l j e k d h c => zx3 f hf level f.params.length 0 a0 a3 a5 a6 a7 a8 a9 m i l j e k d h c (by omega) (by omega);obtain ⟨r,b⟩:=zx1 f hf level g f.blocks.length 0 (by omega) (by omega);have n:=zgw f.ret;simp only [yg,yo] at a b;simp -implicitDefEqProofs only [go_sem] at n;cases e1 : f.params.all ziO
 ·simp -implicitDefEqProofs only [go_sem,ziT,e1,yj] at a
  simp -implicitDefEqProofs only [go_sem,zaW,zgc,a,e1,yl]
 ·simp -implicitDefEqProofs only [go_sem,ziT,e1] at a
  cases e2 : f.blocks.all (zk2 level)
  ·simp -implicitDefEqProofs only [go_sem,ziT,e2,yj] at b
   simp -implicitDefEqProofs only [go_sem,zaW,zgc,a,b,e1,e2,yl]
  ·simp -implicitDefEqProofs only [go_sem,ziT,e2] at b
   simp -implicitDefEqProofs only [go_sem,zaW,zgc,a,b,n,e1,e2,yA]
end
section
variable (succ pred : List (List Int)) (root : Int) (hn1 : 1 ≤ succ.length) (hn : succ.length ≤ 64) (hl : ∀ l ∈ succ,l.length ≤ 4294967296) (hr : ∀ l ∈ succ,∀ y ∈ l,0 ≤ y ∧ y < (succ.length : Int)) (h0 : 0 ≤ root ∧ root < (succ.length : Int))
abbrev sO7 (out : List Int) : zd:=sT7 succ pred root succ.length succ.length [.cells 0 1 (out.map zn)]
theorem zzS (o : Ob) (c : Nat) (h : c < succ.length) : (zfz succ root succ.length ++ [o])[c]? = some (.cells 0 1 ((zpf succ root c).map zgr)):=by
 rw [List.getElem?_append_left (by rw [zaU]; exact h)];exact zyS succ root _ c h
theorem zzH (c b : Nat) (h : b < succ.length) : ((zpf succ root c).map zgr)[b]? = some [.f (.lit (.bool (ovB succ root c b)))]:=by
 rw [yk,zu0 succ root c b h];rfl
theorem zE9 (o : Ob) : (zfz succ root succ.length ++ [o])[succ.length]? = some o:=by
 rw [List.getElem?_append_right (by rw [zaU]; omega),zaU,Nat.sub_self];rfl
theorem zH8 (o p : Ob) : (zfz succ root succ.length ++ [o]).set succ.length p = zfz succ root succ.length ++ [p]:=by
 have:=zs0 (zfz succ root succ.length) [] o p
 rwa [zaU] at this
include hn hl hr h0
theorem zCO (out : List Int) (b a : Nat) (v : b < succ.length) (u : a < succ.length) : ∀ (d k : Nat) (m : Bool) (a0 a2 a3 a5 a7 a8 a9 j g i f h a20 l a22 a23 : V),succ.length - k = d → k ≤ succ.length →
  exec T zcq ⟨[a0,vI root,a2,a3,vI succ.length,a5,.one (.own 1 0 0 succ.length),a7,a8,a9,.one (.own (succ.length + 1 + 1) 0 0 succ.length),vI b,vI a,vB m,vI k,j,g,i,f,h,a20,l,a22,a23],sO7 succ pred root out,0,0⟩ =
   some (.exit 8,⟨[vU,vI root,vU,vU,vI succ.length,vU,.one (.own 1 0 0 succ.length),vU,vU,vU,.one (.own (succ.length + 1 + 1) 0 0 succ.length),vI b,vI a,vB (m && zfN succ root b a k d),vU,vU,vU,vU,vU,vU,vU,vU,vU,vU],sO7 succ pred root out,0,0⟩):=by
 intro d
 induction d with
 | zero =>
   intro k m a0 a2 a3 a5 a7 a8 a9 j g i f h a20 l a22 a23 w y;have e : k = succ.length:=(by omega);subst e;have d1:=ovl succ root succ.length 999997 (by omega);rw [xl zcq rfl,ze0];simp -implicitDefEqProofs only [go_sem,sT7,yh,d1,zfN,yA]
 | succ d ih =>
   intro k m a0 a2 a3 a5 a7 a8 a9 j g i f h a20 l a22 a23 w y;have e : k < succ.length:=(by omega);have d1:=ovl succ root succ.length 999997 (by omega);have go:=zh2 succ.length succ.length k e e;have r:=fun o => zzS succ root o k e;have n:=zzH succ root k b v;have q:=zzH succ root k a u;have x : (zpf succ root k).length = succ.length:=zk6 succ root k;have s:=ilt v;have t:=ilt u;rw [xl zcq rfl,ze0,zfN]
   cases m with
   | false =>
     have:=ih (k + 1) false vU vU vU vU vU vU vU vU vU vU vU vU vU vU vU vU (by omega) (by omega);simp -implicitDefEqProofs only [go_sem,sT7] at this;simp -implicitDefEqProofs only [go_sem,sT7,ilt e,d1,za e (show succ.length ≤ 4294967296 by omega),this]
   | true =>
     by_cases c : k = b
     ·have p : (k : Int) = (b : Int):=by omega
      have:=ih (k + 1) true vU vU vU vU vU vU vU vU vU vU vU vU vU vU vU vU (by omega) (by omega);simp -implicitDefEqProofs only [go_sem,sT7] at this;simp -implicitDefEqProofs only [go_sem,sT7,ilt e,d1,eq_true p,eq_true c,za e (show succ.length ≤ 4294967296 by omega),this]
     ·have p : ¬ (k : Int) = (b : Int):=by omega
      cases e1 : ovB succ root k b
      ·rw [e1] at n
       have:=ih (k + 1) true vU vU vU vU vU vU vU vU vU vU vU vU vU vU vU vU (by omega) (by omega);simp -implicitDefEqProofs only [go_sem,sT7] at this;simp -implicitDefEqProofs only [go_sem,sT7,ilt e,s,d1,p,c,go,r,n,yd,ye,ya,yb,za e (show succ.length ≤ 4294967296 by omega),this]
      ·rw [e1] at n
       cases e2 : ovB succ root k a
       ·rw [e2] at q
        have:=ih (k + 1) false vU vU vU vU vU vU vU vU vU vU vU vU vU vU vU vU (by omega) (by omega);simp -implicitDefEqProofs only [go_sem,sT7] at this;simp -implicitDefEqProofs only [go_sem,sT7,ilt e,s,t,d1,p,c,go,r,n,q,yd,ye,ya,yb,za e (show succ.length ≤ 4294967296 by omega),this]
       ·rw [e2] at q
        have:=ih (k + 1) true vU vU vU vU vU vU vU vU vU vU vU vU vU vU vU vU (by omega) (by omega);simp -implicitDefEqProofs only [go_sem,sT7] at this;simp -implicitDefEqProofs only [go_sem,sT7,ilt e,s,t,d1,p,c,go,r,n,q,yd,ye,ya,yb,za e (show succ.length ≤ 4294967296 by omega),this]
theorem zCM (b : Nat) (z : b < succ.length) (q : ¬ (b : Int) = root) : ∀ (d k : Nat) (v : Int) (out : List Int) (a0 a2 a3 a5 a7 a8 a9 t r j g i e h a20 m a22 a23 : V),succ.length - k = d → k ≤ succ.length → out.length = succ.length →
  exec T zax ⟨[a0,vI root,a2,a3,vI succ.length,a5,.one (.own 1 0 0 succ.length),a7,a8,a9,.one (.own (succ.length + 1 + 1) 0 0 succ.length),vI b,vI k,t,r,j,g,i,e,h,a20,m,a22,a23],sO7 succ pred root (out.set b v),0,0⟩ =
   some (.exit 6,⟨[vU,vI root,vU,vU,vI succ.length,vU,.one (.own 1 0 0 succ.length),vU,vU,vU,.one (.own (succ.length + 1 + 1) 0 0 succ.length),vI b,vU,vU,vU,vU,vU,vU,vU,vU,vU,vU,vU,vU],sO7 succ pred root (out.set b (zgI succ root b k d v)),0,0⟩):=by
 intro d
 induction d with
 | zero =>
   intro k v out a0 a2 a3 a5 a7 a8 a9 t r j g i e h a20 m a22 a23 I L x;have a : k = succ.length:=(by omega);subst a;have d1:=ovl succ root succ.length 999997 (by omega);rw [xl zax rfl,zcC];simp -implicitDefEqProofs only [go_sem,sT7,yh,d1,zgI]
 | succ d ih =>
   intro k v out a0 a2 a3 a5 a7 a8 a9 t r j g i e h a20 m a22 a23 I L x;have a : k < succ.length:=(by omega);have d1:=ovl succ root succ.length 999997 (by omega);have go:=zh2 succ.length succ.length k a a;have y:=fun o => zzS succ root o k a;have u:=zzH succ root k b z;have H:=fun o => zE9 succ root o;have K:=fun o p => zH8 succ root o p;have J : (zpf succ root k).length = succ.length:=zk6 succ root k;have E:=ilt z;have s:=fun a0 a2 a3 a5 a7 a8 a9 j g i e h a20 m a22 a23 => zCO succ pred root hn hl hr h0 (out.set b v) b k z a succ.length 0 true a0 a2 a3 a5 a7 a8 a9 j g i e h a20 m a22 a23 (by omega) (by omega);simp only [yg] at s;have A : (out.set b v).length = succ.length:=by rw [yx]; exact x
   have G : ((out.set b v).map zn)[b]? = some [.f (.lit (.int .i64 v))]:=by
    rw [yk,yp (by omega)];rfl
   have n : ((out.set b v).map zn).set b [C.f (.lit (.int .i64 (k : Int)))] = (out.set b (k : Int)).map zn:=by
    have : ((out.set b v).set b (k : Int)) = out.set b (k : Int):=yC _;rw [← this,yv (l:=out.set b v)];rfl
   have i1:=ih (k + 1) v out vU vU vU vU vU vU vU vU vU vU vU vU vU vU vU vU vU vU (by omega) (by omega) x;have i2:=ih (k + 1) (k : Int) out vU vU vU vU vU vU vU vU vU vU vU vU vU vU vU vU vU vU (by omega) (by omega) x;obtain ⟨os,B⟩ : ∃ os,os = out.set b v:=⟨_,rfl⟩;obtain ⟨ok,D⟩ : ∃ ok,ok = out.set b (k : Int):=⟨_,rfl⟩;rw [← B] at G n A s i1 ⊢;rw [← D] at n i2;rw [xl zax rfl,zcC,zgI];simp -implicitDefEqProofs only [go_sem,sT7] at i1 i2 s
   by_cases c : k = b
   ·have w : (k : Int) = (b : Int):=by omega
    simp -implicitDefEqProofs only [go_sem,sT7,ilt a,d1,q,eq_true w,eq_true c,za a (show succ.length ≤ 4294967296 by omega),i1]
   ·have w : ¬ (k : Int) = (b : Int):=by omega
    cases e1 : ovB succ root k b
    ·rw [e1] at u
     simp -implicitDefEqProofs only [go_sem,sT7,ilt a,E,d1,q,w,c,go,y,u,yd,ye,ya,yb,za a (show succ.length ≤ 4294967296 by omega),i1]
    ·rw [e1] at u
     cases e2 : zfN succ root b k 0 succ.length
     ·simp -implicitDefEqProofs only [e2] at s
      simp -implicitDefEqProofs only [go_sem,sT7,ilt a,E,d1,q,w,c,go,y,u,s,yd,ye,ya,yb,za a (show succ.length ≤ 4294967296 by omega),i1]
     ·simp -implicitDefEqProofs only [e2] at s
      simp -implicitDefEqProofs only [go_sem,sT7,ilt a,E,d1,q,w,c,go,y,u,H,K,G,n,s,yd,ye,ym,ya,yb,za a (show succ.length ≤ 4294967296 by omega),i2]
theorem zsE (b : Nat) (d : b < succ.length) (a : (b : Int) = root) (out : List Int) a0 a2 a3 a5 a7 a8 a9 a13 a14 a15 a16 a17 a18 a19 a20 a21 a22 a23 :
  exec T zax ⟨[a0,vI root,a2,a3,vI succ.length,a5,.one (.own 1 0 0 succ.length),a7,a8,a9,.one (.own (succ.length + 1 + 1) 0 0 succ.length),vI b,vI 0,a13,a14,a15,a16,a17,a18,a19,a20,a21,a22,a23],sO7 succ pred root out,0,0⟩ =
   some (.exit 6,⟨[vU,vI root,vU,vU,vI succ.length,vU,.one (.own 1 0 0 succ.length),vU,vU,vU,.one (.own (succ.length + 1 + 1) 0 0 succ.length),vI b,vU,vU,vU,vU,vU,vU,vU,vU,vU,vU,vU,vU],sO7 succ pred root out,0,0⟩):=by
 have d1:=ovl succ root succ.length 999997 (by omega);have c : (0 : Int) < (succ.length : Int):=by omega
 rw [xl zax rfl,zcC];simp -implicitDefEqProofs only [go_sem,sT7,d1,eq_true c,eq_true a]
theorem zDd : ∀ (d k : Nat) (a0 a2 a3 a5 a7 a8 a9 w j g m b i a h a20 n a22 a23 : V),succ.length - k = d → k ≤ succ.length →
  exec T zcs ⟨[a0,vI root,a2,a3,vI succ.length,a5,.one (.own 1 0 0 succ.length),a7,a8,a9,.one (.own (succ.length + 1 + 1) 0 0 succ.length),vI k,w,j,g,m,b,i,a,h,a20,n,a22,a23],sO7 succ pred root (zg6 succ root k),0,0⟩ =
   some (.exit 4,⟨[vU,vU,vU,vU,vU,vU,vU,vU,vU,vU,.one (.own (succ.length + 1 + 1) 0 0 succ.length),vU,vU,vU,vU,vU,vU,vU,vU,vU,vU,vU,vU,vU],sO7 succ pred root (zfA succ root),0,0⟩):=by
 intro d
 induction d with
 | zero =>
   intro k a0 a2 a3 a5 a7 a8 a9 w j g m b i a h a20 n a22 a23 E H;have s : k = succ.length:=(by omega);subst s;have d1:=ovl succ root succ.length 999997 (by omega);rw [xl zcs rfl,zeK];simp -implicitDefEqProofs only [go_sem,sT7,yh,d1,zzm]
 | succ d ih =>
   intro k a0 a2 a3 a5 a7 a8 a9 w j g m b i a h a20 n a22 a23 E H;have s : k < succ.length:=(by omega);have d1:=ovl succ root succ.length 999997 (by omega);have A:=fun o => zE9 succ root o;have D:=fun o p => zH8 succ root o p;have x:=zg1 succ root k
   have B : ((zg6 succ root k).map zn)[k]? = some [.f (.lit (.int .i64 0))]:=by
    rw [yk,zm2 succ root k k s,if_neg (by omega)];rfl
   have q : ((zg6 succ root k).map zn).set k [C.f (.lit (.int .i64 (-2)))] = ((zg6 succ root k).set k (-2)).map zn:=(by rw [yv]; rfl);have:=ih (k + 1) vU vU vU vU vU vU vU vU vU vU vU vU vU vU vU vU vU vU vU (by omega) (by omega);have u:=zzw succ root k s;have z : ((zg6 succ root k).set k (-2)).length = succ.length:=(by rw [yx]; exact x);rw [xl zcs rfl,zeK]
   by_cases c : (k : Int) = root
   ·have e : ztR succ root k = -1:=by unfold ztR; rw [if_pos c]
    rw [e] at u
    have y : (((zg6 succ root k).set k (-2)).map zn)[k]? = some [.f (.lit (.int .i64 (-2)))]:=by
     rw [yk,yp (by omega)];rfl
    have r : (((zg6 succ root k).set k (-2)).map zn).set k [C.f (.lit (.int .i64 (-1)))] = (zg6 succ root (k + 1)).map zn:=by
     have G : ((zg6 succ root k).set k (-2)).set k (-1) = zg6 succ root (k + 1):=(by rw [yC,u]);rw [← G,yv (l:=(zg6 succ root k).set k (-2))];rfl
    have v:=fun a0 a2 a3 a5 a7 a8 a9 j g m b i a h a20 n a22 a23 => zsE succ pred root hn hl hr h0 k s c (zg6 succ root (k + 1)) a0 a2 a3 a5 a7 a8 a9 j g m b i a h a20 n a22 a23;obtain ⟨os,t⟩ : ∃ os,os = (zg6 succ root k).set k (-2):=⟨_,rfl⟩;rw [← t] at q y r z;simp -implicitDefEqProofs only [go_sem,sT7] at v this;simp -implicitDefEqProofs only [go_sem,sT7,ilt s,d1,eq_true c,A,D,B,q,y,r,v,yd,ye,ym,ya,yb,za s (show succ.length ≤ 4294967296 by omega),this]
   ·have e : ztR succ root k = zgI succ root k 0 succ.length (-2):=by unfold ztR; rw [if_neg c]
    rw [e] at u;have v:=fun a0 a2 a3 a5 a7 a8 a9 j g m b i a h a20 n a22 a23 => zCM succ pred root hn hl hr h0 k s c succ.length 0 (-2) (zg6 succ root k) a0 a2 a3 a5 a7 a8 a9 j g m b i a h a20 n a22 a23 (by omega) (by omega) x;simp only [yg,u] at v;obtain ⟨os,t⟩ : ∃ os,os = (zg6 succ root k).set k (-2):=⟨_,rfl⟩;rw [← t] at q z;simp only [← t] at v;simp -implicitDefEqProofs only [go_sem,sT7] at v this;simp -implicitDefEqProofs only [go_sem,sT7,ilt s,d1,c,A,D,B,q,v,yd,ye,ym,ya,yb,za s (show succ.length ≤ 4294967296 by omega),this]
end
theorem zuo (succ : List (List Int)) (l : zkN succ) (hm : zbA succ = true) (root : Int) (h0 : 0 ≤ root ∧ root < (succ.length : Int)) : call T 78 [.agg [.f (.sl (succ.map rl)),.f (.sl ((zR succ).map rl))],vI root] [] = some (vIs (zfA succ root),[]):=by
 rw [ze (fn:=zft) rfl];obtain ⟨y,n64,hr⟩:=zfa hm;have s:=zzQ succ l hm;have t:=znX succ (zR succ) (by omega) l.2 hr (-1) root h0;have m:=fun a0 a3 a8 a9 r p i g c h b e a d a20 j a22 a23 => zCw succ (zR succ) root n64 l.2 hr h0 succ.length 0 a0 a3 a8 a9 r p i g c h b e a d a20 j a22 a23 (by omega) (by omega);have q:=fun a0 a2 a3 a5 a7 a8 a9 i g c h b e a d a20 j a22 a23 => zDd succ (zR succ) root n64 l.2 hr h0 succ.length 0 a0 a2 a3 a5 a7 a8 a9 i g c h b e a d a20 j a22 a23 (by omega) (by omega);have e0 : zfz succ root 0 = []:=rfl;have k : (succ.length : Int) ≤ (LIM : Int):=by unfold LIM; omega
 have w : yz succ.length [C.f (.sl [])] = zog succ.length 0:=(zyb _).symm;have n : yz succ.length [C.f (.lit (.int .i64 0))] = (zg6 succ root 0).map zn:=by rw [zyc,List.map_replicate]; rfl
 have hlen : (zfz succ root succ.length).length = succ.length:=zaU succ root succ.length;have u:=fun o => zE9 succ root o;have v : ((zfA succ root).map zn).take succ.length = (zfA succ root).map zn:=List.take_of_length_le (by simp [zfA]);have x : ¬ root < 0:=by omega
 have r1 : ¬ root ≥ (succ.length : Int):=by omega
 simp only [yg] at m q;simp -implicitDefEqProofs only [go_sem] at s t;simp -implicitDefEqProofs only [go_sem,sT7,e0,List.append_nil,List.nil_append] at m q;simp -implicitDefEqProofs only [go_sem,zft,s,t,x,r1,k,w,n,hlen,m,q,u,v,zdA,yc,yq,List.cons_append,yd,ye,ya,yb]
def pathFrom (t : List Int) : Nat → List Int → Int → List Int
 | 0,_,_ => []
 | r + 1,acc,a => if a < 0 ∨ (t.length : Int) ≤ a then [] else if tr t a = -1 then acc ++ [a] else pathFrom t r (acc ++ [a]) (tr t a)
def zjd (t : List Int) (a : Int) : List Int:=pathFrom t t.length [] a
theorem zsd (t : List Int) : ∀ (r : Nat) (acc : List Int) (a n : Int),0 ≤ n → (pathFrom t r acc a = [] ↔ (zab t r n a).getD (-1) < 0)
 | 0,acc,a,n,_ => by simp [pathFrom,zab]
 | r + 1,acc,a,n,hn => by
   rw [pathFrom,zab]
   by_cases c1 : a < 0
   ·rw [if_pos (.inl c1),if_pos c1]
    simp
   ·by_cases c2 : (t.length : Int) ≤ a
    ·rw [if_pos (.inr c2),if_neg c1,if_pos c2]
     simp
    ·rw [if_neg (by omega),if_neg c1,if_neg c2]
     by_cases c3 : tr t a = -1
     ·rw [if_pos c3,if_pos c3]
      simp;exact hn
     ·rw [if_neg c3,if_neg c3]
      exact zsd t r (acc ++ [a]) (tr t a) (n + 1) (by omega)
theorem zBY (t : List Int) (a : Int) : zjd t a = [] ↔ zE t a < 0:=zsd t _ [] a 0 (Int.le_refl _)
section
variable (t : List Int) (htl : t.length ≤ 4294967296)
include htl
theorem zDa : ∀ (r : Nat) (acc : List Int) (a : Int),acc.length + r = t.length → ∃ k,∀ (a2 a4 a5 : V),
  exec T zae ⟨[vIs t,vI a,a2,.one (.ap 0 0 (acc.map ri)),a4,a5],[.tok 1 [acc.length]],0,0⟩ =
   some (if pathFrom t r acc a = [] then (.exit 0,⟨[vU,vU,vU,vU,vU,vU],[.tok 1 [k]],0,0⟩) else (.ret,⟨[vU,vU,.one (.ap 0 0 ((pathFrom t r acc a).map ri)),vU,vU,vU],[.tok 1 [(pathFrom t r acc a).length]],0,0⟩)):=by
 intro r
 induction r with
 | zero =>
   intro acc a h;have e : ¬ (acc.length : Int) < (t.length : Int):=(by omega);refine ⟨acc.length,fun a2 a4 a5 => ?_⟩;rw [xl zae rfl,zaB,pathFrom];simp -implicitDefEqProofs only [go_sem,yc,e]
 | succ r ih =>
   intro acc a h;have e : (acc.length : Int) < (t.length : Int):=by omega
   by_cases c1 : a < 0
   ·have b : ¬ a ≥ 0:=by omega
    refine ⟨acc.length,fun a2 a4 a5 => ?_⟩;rw [xl zae rfl,zaB,pathFrom,if_pos (.inl c1 : a < 0 ∨ (t.length : Int) ≤ a)];simp -implicitDefEqProofs only [go_sem,yc,eq_true e,b]
   have b : a ≥ 0:=by omega
   by_cases c2 : (t.length : Int) ≤ a
   ·have c : ¬ a < (t.length : Int):=by omega
    refine ⟨acc.length,fun a2 a4 a5 => ?_⟩;rw [xl zae rfl,zaB,pathFrom,if_pos (.inr c2 : a < 0 ∨ (t.length : Int) ≤ a)];simp -implicitDefEqProofs only [go_sem,yc,eq_true e,eq_true b,c]
   have c : a < (t.length : Int):=(by omega);have g:=zvc (t:=t) (a:=a) (by omega) c2;have d : acc.length + 1 ≤ LIM:=(by unfold LIM; omega);have e1 : yE ri acc ++ [[Fz.lit (Value.int .i64 a)]] = yE ri (acc ++ [a]):=by simp [ri]
   by_cases c3 : tr t a = -1
   ·refine ⟨0,fun a2 a4 a5 => ?_⟩
    have f : ¬ acc ++ [a] = []:=(by simp);rw [xl zae rfl,zaB,pathFrom,if_neg (show ¬ (a < 0 ∨ (t.length : Int) ≤ a) by omega),if_pos c3,if_neg f];simp -implicitDefEqProofs only [go_sem,yc,eq_true e,eq_true b,eq_true c,g,d,e1,c3,yn,yq,yr,yB]
   ·obtain ⟨k,hk⟩:=ih (acc ++ [a]) (tr t a) (by simp; omega)
    refine ⟨k,fun a2 a4 a5 => ?_⟩;rw [xl zae rfl,zaB,pathFrom,if_neg (show ¬ (a < 0 ∨ (t.length : Int) ≤ a) by omega),if_neg c3];simp -implicitDefEqProofs only [go_sem,yn,yq,yr,yB] at hk;simp -implicitDefEqProofs only [go_sem,yc,eq_true e,eq_true b,eq_true c,g,d,e1,c3,hk]
theorem zkS (a : Int) : call T 132 [vIs t,vI a] [] = some (vIs (zjd t a),[]):=by
 rw [ze (fn:=zc4) rfl];obtain ⟨k,h⟩:=zDa t htl t.length [] a (by simp);have e : pathFrom t t.length [] a = zjd t a:=rfl;rw [e] at h;simp -implicitDefEqProofs only [go_sem,yD,yr] at h
 by_cases c : zjd t a = []
 ·simp -implicitDefEqProofs only [c] at h
  simp -implicitDefEqProofs only [go_sem,zc4,h,c,yD]
 ·simp -implicitDefEqProofs only [c] at h
  simp -implicitDefEqProofs only [go_sem,zc4,h]
theorem zB6 : ∀ (d k n : Nat) (a1 a4 a5 a6 : V),t.length - k = d → k ≤ t.length → n ≤ k →
  exec T zbV ⟨[vIs t,a1,vI n,vI k,a4,a5,a6],[],0,0⟩ =
   some (match zaP t k n (t.drop k) with | some m => (.exit 0,⟨[vU,vU,vI m,vU,vU,vU,vU],[],0,0⟩) | none => (.ret,⟨[vU,vB false,vU,vU,vU,vU,vU],[],0,0⟩)):=by
 intro d
 induction d with
 | zero =>
   intro k n a1 a4 a5 a6 h1 h2 j;have hk : k = t.length:=(by omega);subst hk;rw [xl zbV rfl,zd2];simp -implicitDefEqProofs only [go_sem,yh,yc,yi,zaP]
 | succ d ih =>
   intro k n a1 a4 a5 a6 h1 h2 j;have hk : k < t.length:=(by omega);have hd : t.drop k = t[k] :: t.drop (k + 1):=yf hk;obtain ⟨x,g⟩ : ∃ x,x = t[k]:=⟨_,rfl⟩;have c:=zj (r:=ri) hk;rw [← g] at c;have e:=zkS t htl (k : Int);have b:=zBY t (k : Int);have f : Go.IntKind.i64.wrap ((n : Int) + 1) = ((n + 1 : Nat) : Int):=(by rw [wrap_i64] <;> omega);have i1:=ih (k + 1) n vU vU vU vU (by omega) (by omega) (by omega);have i2:=ih (k + 1) (n + 1) vU vU vU vU (by omega) (by omega) (by omega);rw [xl zbV rfl,zd2,hd,zaP,← g];simp -implicitDefEqProofs only [go_sem] at i1 i2 e
   by_cases c1 : x = -2
   ·simp -implicitDefEqProofs only [go_sem,ilt hk,c,ri,yc,c1,ya,yb,za hk htl,i1]
   ·by_cases c2 : zE t (k : Int) < 0
    ·have a : ((zjd t (k : Int)).length : Int) = 0:=by rw [b.2 c2]; rfl
     by_cases c3 : x = -1
     ·simp -implicitDefEqProofs only [go_sem,ilt hk,c,ri,yc,eq_true c3,c1,eq_true c2,e,eq_true a,ya,yb,f]
     ·simp -implicitDefEqProofs only [go_sem,ilt hk,c,ri,yc,c3,c1,eq_true c2,e,eq_true a,ya,yb]
    ·have a : ¬ ((zjd t (k : Int)).length : Int) = 0:=fun h => by
      have i : (zjd t (k : Int)).length = 0:=(by omega);exact c2 (b.1 (List.eq_nil_of_length_eq_zero i))
     by_cases c3 : x = -1
     ·simp -implicitDefEqProofs only [go_sem,ilt hk,c,ri,yc,eq_true c3,c1,c2,e,a,ya,yb,f,za hk htl,i2]
     ·simp -implicitDefEqProofs only [go_sem,ilt hk,c,ri,yc,c3,c1,c2,e,a,ya,yb,za hk htl,i1]
theorem ztz : call T 131 [vIs t] [] = some (vB (zhh t),[]):=by
 rw [ze (fn:=zch) rfl];have h:=fun a1 a4 a5 a6 => zB6 t htl t.length 0 0 a1 a4 a5 a6 (by omega) (by omega) (by omega);simp only [yg,yo] at h;unfold zhh
 cases c : zaP t 0 0 t with
 | none =>
   simp -implicitDefEqProofs only [go_sem,c] at h;simp -implicitDefEqProofs only [go_sem,zch,h];rfl
 | some m =>
   simp -implicitDefEqProofs only [go_sem,c] at h;simp -implicitDefEqProofs only [go_sem,zch,h]
   have e : (some m == some 1) = decide ((m : Int) = 1):=by
    by_cases hm : m = 1
    ·subst hm; rfl
    ·rw [decide_eq_false (by omega)]
     simp [hm]
   rw [e]
def znk (t : List Int) (a b : Int) : Int:=if zhh t = true then ((zjd t a).find? fun x => decide (x ∈ zjd t b)).getD (-2) else -2
omit htl in
theorem zsK (t : List Int) : ∀ (r : Nat) (acc : List Int) (a : Int),(pathFrom t r acc a).length ≤ acc.length + r
 | 0,acc,a => by simp [pathFrom]
 | r + 1,acc,a => by
   have:=zsK t r (acc ++ [a]) (tr t a);rw [pathFrom];split
   ·simp
   ·split
    ·simp
    ·rw [yn] at this
     simp at this;omega
omit htl in
theorem zCY (p q : List Int) (hp : p.length ≤ 4294967296) (hq : q.length ≤ 4294967296) : ∀ (d k : Nat) (a0 a1 a2 a3 a7 a8 a9 : V),p.length - k = d → k ≤ p.length →
  exec T zcy ⟨[a0,a1,a2,a3,vIs p,vIs q,vI k,a7,a8,a9],[],0,0⟩ =
   some (match (p.drop k).find? (fun x => decide (x ∈ q)) with | some x => (.ret,⟨[vU,vU,vU,vI x,vU,vU,vU,vU,vU,vU],[],0,0⟩) | none => (.exit 0,⟨[vU,vU,vU,vU,vU,vU,vU,vU,vU,vU],[],0,0⟩)):=by
 intro d
 induction d with
 | zero =>
   intro k a0 a1 a2 a3 a7 a8 a9 h1 h2;have hk : k = p.length:=(by omega);subst hk;rw [xl zcy rfl,zeY];simp -implicitDefEqProofs only [go_sem,yh,yc,yi,yy]
 | succ d ih =>
   intro k a0 a1 a2 a3 a7 a8 a9 h1 h2;have hk : k < p.length:=(by omega);have hd : p.drop k = p[k] :: p.drop (k + 1):=yf hk;have hH:=zfS q p[k] hq;have:=ih (k + 1) vU vU vU vU vU vU vU (by omega) (by omega);rw [xl zcy rfl,zeY,hd,yw];simp -implicitDefEqProofs only [go_sem] at this
   by_cases c : p[k] ∈ q
   ·simp -implicitDefEqProofs only [go_sem,decide_eq_true c] at hH
    simp -implicitDefEqProofs only [go_sem,ilt hk,zj hk,ri,yc,hH,c,ya,yb]
   ·simp -implicitDefEqProofs only [go_sem,decide_eq_false c] at hH
    simp -implicitDefEqProofs only [go_sem,ilt hk,zj hk,ri,yc,hH,c,ya,yb,za hk hp,this]
theorem zuP (a b : Int) : call T 79 [vIs t,vI a,vI b] [] = some (vI (znk t a b),[]):=by
 rw [ze (fn:=zbk) rfl];have d:=ztz t htl;have f:=zkS t htl a;have g:=zkS t htl b;have i : (zjd t a).length ≤ 4294967296:=by have:=zsK t t.length [] a; unfold zjd; simp at this; omega
 have j : (zjd t b).length ≤ 4294967296:=by have:=zsK t t.length [] b; unfold zjd; simp at this; omega
 have h:=fun a0 a1 a2 a3 a7 a8 a9 => zCY (zjd t a) (zjd t b) i j (zjd t a).length 0 a0 a1 a2 a3 a7 a8 a9 (by omega) (by omega);simp only [yg,yo] at h;cases c : zhh t
 ·simp -implicitDefEqProofs only [go_sem,c] at d
  simp -implicitDefEqProofs only [go_sem,zbk,znk,c,d,yj]
 ·simp -implicitDefEqProofs only [go_sem,c] at d
  simp -implicitDefEqProofs only [go_sem] at f g
  cases e : (zjd t a).find? (fun x => decide (x ∈ zjd t b)) with
  | none =>
    simp -implicitDefEqProofs only [go_sem,e] at h;simp -implicitDefEqProofs only [go_sem,zbk,znk,c,d,f,g,h,e,Option.getD_none]
  | some x =>
    simp -implicitDefEqProofs only [go_sem,e] at h;simp -implicitDefEqProofs only [go_sem,zbk,znk,c,d,f,g,h,e,Option.getD_some]
end
end AC

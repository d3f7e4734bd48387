/- A part of the proof of AffineFinds. Conditions: none. -/
import Derived.Test.YtmkncmffaaninaaGreatXAW
import Derived.Test.YtmkncmffaaninaaGreatXBB
import Derived.Test.YtmkncmffaaninaaGreatXBC
set_option linter.all false
open Int renaming natCast_nonneg → ya,toNat_natCast → yb,natCast_zero → yg,lt_irrefl → yh
open List renaming length_map → yc,getElem?_cons_succ → yd,getElem?_cons_zero → ye,drop_eq_getElem_cons → yf,drop_length → yi,getElem?_map → yk,set_cons_succ → ym,length_append → yn,drop_zero → yo,getElem?_set_self → yp,length_cons → yq,length_nil → yr,all_cons → ys,getElem_mem → yt,all_nil → yu,map_set → yv,find?_cons → yw,length_set → yx,find?_nil → yy,replicate → yz,set_set → yC,map_nil → yD,map → yE
open Bool renaming false_eq_true → yj,and_false → yl,and_true → yA
open Nat renaming zero_add → yB
namespace AC
open Go Go.A Go.A.Lex
theorem zCD {o : POp} (h : zgh o = true) : 0 ≤ o.kind ∧ o.kind ≤ 22:=by
 unfold zgh at h;simp only [Bool.and_eq_true] at h;cases a : zhh o.kind
 ·rw [zqs a] at h
  exact absurd h.2.1 (by simp)
 ·simpa [zhh] using a
section
variable (f : PFunc) (hf : okF f) (level : Int)
abbrev ziQ (r : zd) : zd:=.cells 0 3 [zcz f] :: r
include hf
theorem zy6 : ∀ (d k : Nat) (a0 a3 a5 a6 a7 a8 a9 m h e g n i j b l : V),f.params.length - k = d → k ≤ f.params.length →
  exec T zb0 ⟨[a0,vI level,.one (.ptr 0 0 0 0),a3,vI k,a5,a6,a7,a8,a9,m,h,e,g,n,i,j,b,l],ziQ f [],0,0⟩ =
   some (if (f.params.drop k).all ziA = true then (.exit 0,⟨[vU,vI level,.one (.ptr 0 0 0 0),vU,vU,vU,vU,vU,vU,vU,vU,vU,vU,vU,vU,vU,vU,vU,vU],ziQ f [],0,0⟩) else (.ret,⟨[vU,vU,vU,vB false,vU,vU,vU,vU,vU,vU,vU,vU,vU,vU,vU,vU,vU,vU,vU],ziQ f [],0,0⟩)):=by
 intro d
 induction d with
 | zero =>
   intro k a0 a3 a5 a6 a7 a8 a9 m h e g n i j b l p q;have a : k = f.params.length:=(by omega);subst a;rw [xl zb0 rfl,zec];simp -implicitDefEqProofs only [go_sem,ziQ,yh,yc,yi,yu]
 | succ d ih =>
   intro k a0 a3 a5 a6 a7 a8 a9 m h e g n i j b l p q;have a : k < f.params.length:=(by omega);have hd : f.params.drop k = f.params[k] :: f.params.drop (k + 1):=yf a;have o:=zgy f.params[k];have:=ih (k + 1) vU vU vU vU vU vU vU vU vU vU vU vU vU vU vU vU (by omega) (by omega);rw [xl zb0 rfl,zec,hd,ys];simp -implicitDefEqProofs only [go_sem,ziQ] at this;cases c : ziA f.params[k]
   ·simp -implicitDefEqProofs only [go_sem,c] at o
    simp -implicitDefEqProofs only [go_sem,ziQ,ilt a,zy a,ri,yc,o,c]
   ·simp -implicitDefEqProofs only [go_sem,c] at o
    simp -implicitDefEqProofs only [go_sem,ziQ,ilt a,zy a,ri,yc,o,c,za a hf.params,this]
theorem zzH (b : PBlock) (i : Nat) (u : i < f.blocks.length) (w : b = f.blocks[i]) (v : b.phis.length ≤ 4294967296) : ∀ (d k : Nat) (a0 a3 a4 a7 a8 a9 o j g h q l m e n : V),b.phis.length - k = d → k ≤ b.phis.length →
  exec T zbS ⟨[a0,vI level,.one (.ptr 0 0 0 0),a3,a4,vI i,vI k,a7,a8,a9,o,j,g,h,q,l,m,e,n],ziQ f [],0,0⟩ =
   some (if (b.phis.drop k).all (fun p => ziA p.bits) = true then (.exit 4,⟨[vU,vI level,.one (.ptr 0 0 0 0),vU,vU,vI i,vU,vU,vU,vU,vU,vU,vU,vU,vU,vU,vU,vU,vU],ziQ f [],0,0⟩) else (.ret,⟨[vU,vU,vU,vB false,vU,vU,vU,vU,vU,vU,vU,vU,vU,vU,vU,vU,vU,vU,vU],ziQ f [],0,0⟩)):=by
 intro d;have t:=zy (r:=rb) u;rw [← w] at t
 induction d with
 | zero =>
   intro k a0 a3 a4 a7 a8 a9 o j g h q l m e n x y;have a : k = b.phis.length:=(by omega);subst a;rw [xl zbS rfl,zea];simp -implicitDefEqProofs only [go_sem,ziQ,t,rb,ilt u,yh,yc,yi,yu,ya,yb]
 | succ d ih =>
   intro k a0 a3 a4 a7 a8 a9 o j g h q l m e n x y;have a : k < b.phis.length:=(by omega);have hd : b.phis.drop k = b.phis[k] :: b.phis.drop (k + 1):=yf a;have s:=zgy b.phis[k].bits;have:=ih (k + 1) vU vU vU vU vU vU vU vU vU vU vU vU vU vU vU (by omega) (by omega);rw [xl zbS rfl,zea,hd,ys];simp -implicitDefEqProofs only [go_sem,ziQ] at this;cases c : ziA b.phis[k].bits
   ·simp -implicitDefEqProofs only [go_sem,c] at s
    simp -implicitDefEqProofs only [go_sem,ziQ,t,rb,ilt u,ilt a,zy a,rp,yc,s,c,ya,yb]
   ·simp -implicitDefEqProofs only [go_sem,c] at s
    simp -implicitDefEqProofs only [go_sem,ziQ,t,rb,ilt u,ilt a,zy a,rp,yc,s,c,ya,yb,za a v,this]
set_option maxHeartbeats 4000000 in
theorem zyp (n : level = 0 ∨ level = 1 ∨ level = 2) (b : PBlock) (l : okB b) (i : Nat) (v : i < f.blocks.length) (H : b = f.blocks[i]) : ∀ (d k : Nat) (a0 a3 a4 a6 a8 a9 E A y z G B C x D : V),b.ops.length - k = d → k ≤ b.ops.length →
  exec T zbR ⟨[a0,vI level,.one (.ptr 0 0 0 0),a3,a4,vI i,a6,vI k,a8,a9,E,A,y,z,G,B,C,x,D],ziQ f [],0,0⟩ =
   some (match (b.ops.drop k).find? (fun o => !ofS level o) with | none => (.exit 6,⟨[vU,vI level,.one (.ptr 0 0 0 0),vU,vU,vI i,vU,vU,vU,vU,vU,vU,vU,vU,vU,vU,vU,vU,vU],ziQ f [],0,0⟩) | some o => (.ret,⟨[vU,vU,vU,vB false,vU,vU,vU,vU,vU,vU,vU,vU,vU,vU,vU,vU,vU,vU,vU],ziQ f [.cells 0 6 [cOp o]],0,0⟩)):=by
 intro d;have u:=zy (r:=rb) v;rw [← H] at u
 induction d with
 | zero =>
   intro k a0 a3 a4 a6 a8 a9 E A y z G B C x D J K;have g : k = b.ops.length:=(by omega);subst g;rw [xl zbR rfl,zeb];simp -implicitDefEqProofs only [go_sem,ziQ,u,rb,ilt v,yh,yc,yi,yy,ya,yb]
 | succ d ih =>
   intro k a0 a3 a4 a6 a8 a9 E A y z G B C x D J K;have g : k < b.ops.length:=(by omega);have hd : b.ops.drop k = b.ops[k] :: b.ops.drop (k + 1):=yf g;have t:=zmT b.ops[k] (l.op _ (yt g));have:=ih (k + 1) vU vU vU vU vU vU vU vU vU vU vU vU vU vU vU (by omega) (by omega);rw [xl zbR rfl,zeb,hd,yw];simp -implicitDefEqProofs only [go_sem,ziQ] at this;obtain ⟨o,I⟩ : ∃ o,o = b.ops[k]:=⟨_,rfl⟩;have w:=zy (r:=ro) g;rw [← I] at w t ⊢;cases c : zgh o
   ·have e : ofS level o = false:=by unfold ofS; rw [c,yl,yl]
    simp -implicitDefEqProofs only [go_sem,c] at t;rcases n with rfl | rfl | rfl <;> simp -implicitDefEqProofs only [go_sem,ziQ,u,rb,ilt v,ilt g,w,ro,yc,t,e,ya,yb]
   ·simp -implicitDefEqProofs only [go_sem,c] at t
    have L:=(zCD c)
    by_cases j : 20 < o.kind
    ·by_cases a : 17 < o.kind
     ·have m : ¬ o.kind > 22:=by omega
      have p : o.kind > 20:=j;have h : o.kind > 17:=a
      by_cases q : 1 < o.lanes
      ·have s : o.lanes > 1:=q
       rcases n with rfl | rfl | rfl <;> simp -implicitDefEqProofs only [go_sem,ziQ,u,rb,ilt v,ilt g,w,ro,yc,t,c,ofS,m,eq_true p,eq_true h,eq_true j,eq_true a,eq_true q,eq_true s,ya,yb,za g l.ops,this]
      ·have s : ¬ o.lanes > 1:=q
       rcases n with rfl | rfl | rfl <;> simp -implicitDefEqProofs only [go_sem,ziQ,u,rb,ilt v,ilt g,w,ro,yc,t,c,ofS,m,eq_true p,eq_true h,eq_true j,eq_true a,q,s,ya,yb,za g l.ops,this]
     ·omega
    ·have m : ¬ o.kind > 22:=by omega
     have p : ¬ o.kind > 20:=j
     by_cases a : 17 < o.kind
     ·have h : o.kind > 17:=a
      by_cases q : 1 < o.lanes
      ·have s : o.lanes > 1:=q
       rcases n with rfl | rfl | rfl <;> simp -implicitDefEqProofs only [go_sem,ziQ,u,rb,ilt v,ilt g,w,ro,yc,t,c,ofS,m,p,eq_true h,j,eq_true a,eq_true q,eq_true s,ya,yb,za g l.ops,this]
      ·have s : ¬ o.lanes > 1:=q
       rcases n with rfl | rfl | rfl <;> simp -implicitDefEqProofs only [go_sem,ziQ,u,rb,ilt v,ilt g,w,ro,yc,t,c,ofS,m,p,eq_true h,j,eq_true a,q,s,ya,yb,za g l.ops,this]
     ·have h : ¬ o.kind > 17:=a
      by_cases q : 1 < o.lanes
      ·have s : o.lanes > 1:=q
       rcases n with rfl | rfl | rfl <;> simp -implicitDefEqProofs only [go_sem,ziQ,u,rb,ilt v,ilt g,w,ro,yc,t,c,ofS,m,p,h,j,a,eq_true q,eq_true s,ya,yb,za g l.ops,this]
      ·have s : ¬ o.lanes > 1:=q
       rcases n with rfl | rfl | rfl <;> simp -implicitDefEqProofs only [go_sem,ziQ,u,rb,ilt v,ilt g,w,ro,yc,t,c,ofS,m,p,h,j,a,q,s,ya,yb,za g l.ops,this]
theorem zyA (w : level = 0 ∨ level = 1 ∨ level = 2) : ∀ (d k : Nat),f.blocks.length - k = d → k ≤ f.blocks.length → ∃ r,∀ (a0 a3 a4 a6 a7 a8 a9 l g c e m h i a j : V),
  exec T zaw ⟨[a0,vI level,.one (.ptr 0 0 0 0),a3,a4,vI k,a6,a7,a8,a9,l,g,c,e,m,h,i,a,j],ziQ f [],0,0⟩ =
   some (if (f.blocks.drop k).all (zkV level) = true then (.exit 2,⟨[vU,vU,.one (.ptr 0 0 0 0),vU,vU,vU,vU,vU,vU,vU,vU,vU,vU,vU,vU,vU,vU,vU,vU],ziQ f [],0,0⟩) else (.ret,⟨[vU,vU,vU,vB false,vU,vU,vU,vU,vU,vU,vU,vU,vU,vU,vU,vU,vU,vU,vU],ziQ f r,0,0⟩)):=by
 intro d
 induction d with
 | zero =>
   intro k y z;have n : k = f.blocks.length:=(by omega);subst n;refine ⟨[],fun a0 a3 a4 a6 a7 a8 a9 l g c e m h i a j => ?_⟩;rw [xl zaw rfl,zaZ];simp -implicitDefEqProofs only [go_sem,ziQ,yh,yc,yi,yu]
 | succ d ih =>
   intro k y z;have n : k < f.blocks.length:=(by omega);have hd : f.blocks.drop k = f.blocks[k] :: f.blocks.drop (k + 1):=yf n;obtain ⟨b,q⟩ : ∃ b,b = f.blocks[k]:=⟨_,rfl⟩;have u:=hf.block _ (yt n);rw [← q] at u;have s:=fun a0 a3 a4 a7 a8 a9 l g c e m h i a j => zzH f hf level b k n q u.phis b.phis.length 0 a0 a3 a4 a7 a8 a9 l g c e m h i a j (by omega) (by omega);have t:=fun a0 a3 a4 a6 a8 a9 l g c e m h i a j => zyp f hf level w b u k n q b.ops.length 0 a0 a3 a4 a6 a8 a9 l g c e m h i a j (by omega) (by omega);simp only [yg,yo] at s t;obtain ⟨r,x⟩:=ih (k + 1) (by omega) (by omega);rw [hd,ys,← q,zkV];simp -implicitDefEqProofs only [go_sem,ziQ] at x;cases e1 : b.phis.all (fun p => ziA p.bits)
   ·refine ⟨[],fun a0 a3 a4 a6 a7 a8 a9 l g c e m h i a j => ?_⟩
    rw [xl zaw rfl,zaZ];simp -implicitDefEqProofs only [go_sem,ziQ,e1,yj] at s;simp -implicitDefEqProofs only [go_sem,ziQ,ilt n,yc,s]
   ·simp -implicitDefEqProofs only [go_sem,ziQ,e1] at s
    cases e2 : b.ops.find? (fun o => !ofS level o) with
    | some o =>
      have v:=zeY e2;refine ⟨[.cells 0 6 [cOp o]],fun a0 a3 a4 a6 a7 a8 a9 l g c e m h i a j => ?_⟩;rw [xl zaw rfl,zaZ];simp -implicitDefEqProofs only [go_sem,ziQ,e2] at t;simp -implicitDefEqProofs only [go_sem,ziQ,ilt n,yc,s,t,v,yl]
    | none =>
      have v:=zeW e2;refine ⟨r,fun a0 a3 a4 a6 a7 a8 a9 l g c e m h i a j => ?_⟩;rw [xl zaw rfl,zaZ];simp -implicitDefEqProofs only [go_sem,ziQ,e2] at t;simp -implicitDefEqProofs only [go_sem,ziQ,ilt n,yc,s,t,v,za n hf.blocks,x]
theorem zta (m : level = 0 ∨ level = 1 ∨ level = 2) : call T 72 [zfg f,vI level] [] = some (vB (zfY f level),[]):=by
 rw [ze (fn:=za8) rfl];have a:=fun a0 a3 a5 a6 a7 a8 a9 k g d e l h i c j => zy6 f hf level f.params.length 0 a0 a3 a5 a6 a7 a8 a9 k g d e l h i c j (by omega) (by omega);obtain ⟨r,b⟩:=zyA f hf level m f.blocks.length 0 (by omega) (by omega);have n:=zgy f.ret;simp only [yg,yo] at a b;simp -implicitDefEqProofs only [go_sem] at n;cases e1 : f.params.all ziA
 ·simp -implicitDefEqProofs only [go_sem,ziQ,e1,yj] at a
  simp -implicitDefEqProofs only [go_sem,za8,zfY,a,e1,yl]
 ·simp -implicitDefEqProofs only [go_sem,ziQ,e1] at a
  cases e2 : f.blocks.all (zkV level)
  ·simp -implicitDefEqProofs only [go_sem,ziQ,e2,yj] at b
   simp -implicitDefEqProofs only [go_sem,za8,zfY,a,b,e1,e2,yl]
  ·simp -implicitDefEqProofs only [go_sem,ziQ,e2] at b
   simp -implicitDefEqProofs only [go_sem,za8,zfY,a,b,n,e1,e2,yA]
end
section
variable (succ pred : List (List Int)) (root : Int) (hn1 : 1 ≤ succ.length) (hn : succ.length ≤ 64) (hl : ∀ l ∈ succ,l.length ≤ 4294967296) (hr : ∀ l ∈ succ,∀ y ∈ l,0 ≤ y ∧ y < (succ.length : Int)) (h0 : 0 ≤ root ∧ root < (succ.length : Int))
abbrev sO7 (out : List Int) : zd:=sT7 succ pred root succ.length succ.length [.cells 0 1 (out.map zG)]
theorem zAc (o : Ob) (c : Nat) (h : c < succ.length) : (zft succ root succ.length ++ [o])[c]? = some (.cells 0 1 ((zpg succ root c).map zgx)):=by
 rw [List.getElem?_append_left (by rw [za2]; exact h)];exact zyY succ root _ c h
theorem zAv (c b : Nat) (h : b < succ.length) : ((zpg succ root c).map zgx)[b]? = some [.f (.lit (.bool (ovB succ root c b)))]:=by
 rw [yk,zt3 succ root c b h];rfl
theorem zGS (o : Ob) : (zft succ root succ.length ++ [o])[succ.length]? = some o:=by
 rw [List.getElem?_append_right (by rw [za2]; omega),za2,Nat.sub_self];rfl
theorem zJB (o p : Ob) : (zft succ root succ.length ++ [o]).set succ.length p = zft succ root succ.length ++ [p]:=by
 have:=ztd (zft succ root succ.length) [] o p
 rwa [za2] at this
include hn hl hr h0
theorem zD6 (out : List Int) (b a : Nat) (v : b < succ.length) (t : a < succ.length) : ∀ (d k : Nat) (m : Bool) (a0 a2 a3 a5 a7 a8 a9 i j f l g a20 h a22 a23 : V),succ.length - k = d → k ≤ succ.length →
  exec T zcW ⟨[a0,vI root,a2,a3,vI succ.length,a5,.one (.own 1 0 0 succ.length),a7,a8,a9,.one (.own (succ.length + 1 + 1) 0 0 succ.length),vI b,vI a,vB m,vI k,i,j,f,l,g,a20,h,a22,a23],sO7 succ pred root out,0,0⟩ =
   some (.exit 8,⟨[vU,vI root,vU,vU,vI succ.length,vU,.one (.own 1 0 0 succ.length),vU,vU,vU,.one (.own (succ.length + 1 + 1) 0 0 succ.length),vI b,vI a,vB (m && zfz succ root b a k d),vU,vU,vU,vU,vU,vU,vU,vU,vU,vU],sO7 succ pred root out,0,0⟩):=by
 intro d
 induction d with
 | zero =>
   intro k m a0 a2 a3 a5 a7 a8 a9 i j f l g a20 h a22 a23 x y;have e : k = succ.length:=(by omega);subst e;have d1:=ovl succ root succ.length 999997 (by omega);rw [xl zcW rfl,zeO];simp -implicitDefEqProofs only [go_sem,sT7,yh,d1,zfz,yA]
 | succ d ih =>
   intro k m a0 a2 a3 a5 a7 a8 a9 i j f l g a20 h a22 a23 x y;have e : k < succ.length:=(by omega);have d1:=ovl succ root succ.length 999997 (by omega);have go:=zhW succ.length succ.length k e e;have r:=fun o => zAc succ root o k e;have n:=zAv succ root k b v;have q:=zAv succ root k a t;have w : (zpg succ root k).length = succ.length:=zkU succ root k;have s:=ilt v;have u:=ilt t;rw [xl zcW rfl,zeO,zfz]
   cases m with
   | false =>
     have:=ih (k + 1) false vU vU vU vU vU vU vU vU vU vU vU vU vU vU vU vU (by omega) (by omega);simp -implicitDefEqProofs only [go_sem,sT7] at this;simp -implicitDefEqProofs only [go_sem,sT7,ilt e,d1,za e (show succ.length ≤ 4294967296 by omega),this]
   | true =>
     by_cases c : k = b
     ·have p : (k : Int) = (b : Int):=by omega
      have:=ih (k + 1) true vU vU vU vU vU vU vU vU vU vU vU vU vU vU vU vU (by omega) (by omega);simp -implicitDefEqProofs only [go_sem,sT7] at this;simp -implicitDefEqProofs only [go_sem,sT7,ilt e,d1,eq_true p,eq_true c,za e (show succ.length ≤ 4294967296 by omega),this]
     ·have p : ¬ (k : Int) = (b : Int):=by omega
      cases e1 : ovB succ root k b
      ·rw [e1] at n
       have:=ih (k + 1) true vU vU vU vU vU vU vU vU vU vU vU vU vU vU vU vU (by omega) (by omega);simp -implicitDefEqProofs only [go_sem,sT7] at this;simp -implicitDefEqProofs only [go_sem,sT7,ilt e,s,d1,p,c,go,r,n,yd,ye,ya,yb,za e (show succ.length ≤ 4294967296 by omega),this]
      ·rw [e1] at n
       cases e2 : ovB succ root k a
       ·rw [e2] at q
        have:=ih (k + 1) false vU vU vU vU vU vU vU vU vU vU vU vU vU vU vU vU (by omega) (by omega);simp -implicitDefEqProofs only [go_sem,sT7] at this;simp -implicitDefEqProofs only [go_sem,sT7,ilt e,s,u,d1,p,c,go,r,n,q,yd,ye,ya,yb,za e (show succ.length ≤ 4294967296 by omega),this]
       ·rw [e2] at q
        have:=ih (k + 1) true vU vU vU vU vU vU vU vU vU vU vU vU vU vU vU vU (by omega) (by omega);simp -implicitDefEqProofs only [go_sem,sT7] at this;simp -implicitDefEqProofs only [go_sem,sT7,ilt e,s,u,d1,p,c,go,r,n,q,yd,ye,ya,yb,za e (show succ.length ≤ 4294967296 by omega),this]
theorem zDW (b : Nat) (A : b < succ.length) (q : ¬ (b : Int) = root) : ∀ (d k : Nat) (v : Int) (out : List Int) (a0 a2 a3 a5 a7 a8 a9 s t i j e m g a20 h a22 a23 : V),succ.length - k = d → k ≤ succ.length → out.length = succ.length →
  exec T zaI ⟨[a0,vI root,a2,a3,vI succ.length,a5,.one (.own 1 0 0 succ.length),a7,a8,a9,.one (.own (succ.length + 1 + 1) 0 0 succ.length),vI b,vI k,s,t,i,j,e,m,g,a20,h,a22,a23],sO7 succ pred root (out.set b v),0,0⟩ =
   some (.exit 6,⟨[vU,vI root,vU,vU,vI succ.length,vU,.one (.own 1 0 0 succ.length),vU,vU,vU,.one (.own (succ.length + 1 + 1) 0 0 succ.length),vI b,vU,vU,vU,vU,vU,vU,vU,vU,vU,vU,vU,vU],sO7 succ pred root (out.set b (zgE succ root b k d v)),0,0⟩):=by
 intro d
 induction d with
 | zero =>
   intro k v out a0 a2 a3 a5 a7 a8 a9 s t i j e m g a20 h a22 a23 K L x;have a : k = succ.length:=(by omega);subst a;have d1:=ovl succ root succ.length 999997 (by omega);rw [xl zaI rfl,zcO];simp -implicitDefEqProofs only [go_sem,sT7,yh,d1,zgE]
 | succ d ih =>
   intro k v out a0 a2 a3 a5 a7 a8 a9 s t i j e m g a20 h a22 a23 K L x;have a : k < succ.length:=(by omega);have d1:=ovl succ root succ.length 999997 (by omega);have go:=zhW succ.length succ.length k a a;have B:=fun o => zAc succ root o k a;have u:=zAv succ root k b A;have H:=fun o => zGS succ root o;have J:=fun o p => zJB succ root o p;have I : (zpg succ root k).length = succ.length:=zkU succ root k;have D:=ilt A;have r:=fun a0 a2 a3 a5 a7 a8 a9 i j e m g a20 h a22 a23 => zD6 succ pred root hn hl hr h0 (out.set b v) b k A a succ.length 0 true a0 a2 a3 a5 a7 a8 a9 i j e m g a20 h a22 a23 (by omega) (by omega);simp only [yg] at r;have y : (out.set b v).length = succ.length:=by rw [yx]; exact x
   have G : ((out.set b v).map zG)[b]? = some [.f (.lit (.int .i64 v))]:=by
    rw [yk,yp (by omega)];rfl
   have n : ((out.set b v).map zG).set b [C.f (.lit (.int .i64 (k : Int)))] = (out.set b (k : Int)).map zG:=by
    have : ((out.set b v).set b (k : Int)) = out.set b (k : Int):=yC _;rw [← this,yv (l:=out.set b v)];rfl
   have i1:=ih (k + 1) v out vU vU vU vU vU vU vU vU vU vU vU vU vU vU vU vU vU vU (by omega) (by omega) x;have i2:=ih (k + 1) (k : Int) out vU vU vU vU vU vU vU vU vU vU vU vU vU vU vU vU vU vU (by omega) (by omega) x;obtain ⟨os,z⟩ : ∃ os,os = out.set b v:=⟨_,rfl⟩;obtain ⟨ok,E⟩ : ∃ ok,ok = out.set b (k : Int):=⟨_,rfl⟩;rw [← z] at G n y r i1 ⊢;rw [← E] at n i2;rw [xl zaI rfl,zcO,zgE];simp -implicitDefEqProofs only [go_sem,sT7] at i1 i2 r
   by_cases c : k = b
   ·have w : (k : Int) = (b : Int):=by omega
    simp -implicitDefEqProofs only [go_sem,sT7,ilt a,d1,q,eq_true w,eq_true c,za a (show succ.length ≤ 4294967296 by omega),i1]
   ·have w : ¬ (k : Int) = (b : Int):=by omega
    cases e1 : ovB succ root k b
    ·rw [e1] at u
     simp -implicitDefEqProofs only [go_sem,sT7,ilt a,D,d1,q,w,c,go,B,u,yd,ye,ya,yb,za a (show succ.length ≤ 4294967296 by omega),i1]
    ·rw [e1] at u
     cases e2 : zfz succ root b k 0 succ.length
     ·simp -implicitDefEqProofs only [e2] at r
      simp -implicitDefEqProofs only [go_sem,sT7,ilt a,D,d1,q,w,c,go,B,u,r,yd,ye,ya,yb,za a (show succ.length ≤ 4294967296 by omega),i1]
     ·simp -implicitDefEqProofs only [e2] at r
      simp -implicitDefEqProofs only [go_sem,sT7,ilt a,D,d1,q,w,c,go,B,u,H,J,G,n,r,yd,ye,ym,ya,yb,za a (show succ.length ≤ 4294967296 by omega),i2]
theorem ztY (b : Nat) (d : b < succ.length) (a : (b : Int) = root) (out : List Int) a0 a2 a3 a5 a7 a8 a9 a13 a14 a15 a16 a17 a18 a19 a20 a21 a22 a23 :
  exec T zaI ⟨[a0,vI root,a2,a3,vI succ.length,a5,.one (.own 1 0 0 succ.length),a7,a8,a9,.one (.own (succ.length + 1 + 1) 0 0 succ.length),vI b,vI 0,a13,a14,a15,a16,a17,a18,a19,a20,a21,a22,a23],sO7 succ pred root out,0,0⟩ =
   some (.exit 6,⟨[vU,vI root,vU,vU,vI succ.length,vU,.one (.own 1 0 0 succ.length),vU,vU,vU,.one (.own (succ.length + 1 + 1) 0 0 succ.length),vI b,vU,vU,vU,vU,vU,vU,vU,vU,vU,vU,vU,vU],sO7 succ pred root out,0,0⟩):=by
 have d1:=ovl succ root succ.length 999997 (by omega);have c : (0 : Int) < (succ.length : Int):=by omega
 rw [xl zaI rfl,zcO];simp -implicitDefEqProofs only [go_sem,sT7,d1,eq_true c,eq_true a]
theorem zEj : ∀ (d k : Nat) (a0 a2 a3 a5 a7 a8 a9 v g n i j a m b a20 h a22 a23 : V),succ.length - k = d → k ≤ succ.length →
  exec T zcm ⟨[a0,vI root,a2,a3,vI succ.length,a5,.one (.own 1 0 0 succ.length),a7,a8,a9,.one (.own (succ.length + 1 + 1) 0 0 succ.length),vI k,v,g,n,i,j,a,m,b,a20,h,a22,a23],sO7 succ pred root (zg9 succ root k),0,0⟩ =
   some (.exit 4,⟨[vU,vU,vU,vU,vU,vU,vU,vU,vU,vU,.one (.own (succ.length + 1 + 1) 0 0 succ.length),vU,vU,vU,vU,vU,vU,vU,vU,vU,vU,vU,vU,vU],sO7 succ pred root (zdl succ root),0,0⟩):=by
 intro d
 induction d with
 | zero =>
   intro k a0 a2 a3 a5 a7 a8 a9 v g n i j a m b a20 h a22 a23 G H;have s : k = succ.length:=(by omega);subst s;have d1:=ovl succ root succ.length 999997 (by omega);rw [xl zcm rfl,zeL];simp -implicitDefEqProofs only [go_sem,sT7,yh,d1,zBQ]
 | succ d ih =>
   intro k a0 a2 a3 a5 a7 a8 a9 v g n i j a m b a20 h a22 a23 G H;have s : k < succ.length:=(by omega);have d1:=ovl succ root succ.length 999997 (by omega);have A:=fun o => zGS succ root o;have B:=fun o p => zJB succ root o p;have x:=zgT succ root k
   have D : ((zg9 succ root k).map zG)[k]? = some [.f (.lit (.int .i64 0))]:=by
    rw [yk,znG succ root k k s,if_neg (by omega)];rfl
   have q : ((zg9 succ root k).map zG).set k [C.f (.lit (.int .i64 (-2)))] = ((zg9 succ root k).set k (-2)).map zG:=(by rw [yv]; rfl);have:=ih (k + 1) vU vU vU vU vU vU vU vU vU vU vU vU vU vU vU vU vU vU vU (by omega) (by omega);have u:=zCs succ root k s;have z : ((zg9 succ root k).set k (-2)).length = succ.length:=(by rw [yx]; exact x);rw [xl zcm rfl,zeL]
   by_cases c : (k : Int) = root
   ·have e : zs8 succ root k = -1:=by unfold zs8; rw [if_pos c]
    rw [e] at u
    have y : (((zg9 succ root k).set k (-2)).map zG)[k]? = some [.f (.lit (.int .i64 (-2)))]:=by
     rw [yk,yp (by omega)];rfl
    have r : (((zg9 succ root k).set k (-2)).map zG).set k [C.f (.lit (.int .i64 (-1)))] = (zg9 succ root (k + 1)).map zG:=by
     have E : ((zg9 succ root k).set k (-2)).set k (-1) = zg9 succ root (k + 1):=(by rw [yC,u]);rw [← E,yv (l:=(zg9 succ root k).set k (-2))];rfl
    have w:=fun a0 a2 a3 a5 a7 a8 a9 g n i j a m b a20 h a22 a23 => ztY succ pred root hn hl hr h0 k s c (zg9 succ root (k + 1)) a0 a2 a3 a5 a7 a8 a9 g n i j a m b a20 h a22 a23;obtain ⟨os,t⟩ : ∃ os,os = (zg9 succ root k).set k (-2):=⟨_,rfl⟩;rw [← t] at q y r z;simp -implicitDefEqProofs only [go_sem,sT7] at w this;simp -implicitDefEqProofs only [go_sem,sT7,ilt s,d1,eq_true c,A,B,D,q,y,r,w,yd,ye,ym,ya,yb,za s (show succ.length ≤ 4294967296 by omega),this]
   ·have e : zs8 succ root k = zgE succ root k 0 succ.length (-2):=by unfold zs8; rw [if_neg c]
    rw [e] at u;have w:=fun a0 a2 a3 a5 a7 a8 a9 g n i j a m b a20 h a22 a23 => zDW succ pred root hn hl hr h0 k s c succ.length 0 (-2) (zg9 succ root k) a0 a2 a3 a5 a7 a8 a9 g n i j a m b a20 h a22 a23 (by omega) (by omega) x;simp only [yg,u] at w;obtain ⟨os,t⟩ : ∃ os,os = (zg9 succ root k).set k (-2):=⟨_,rfl⟩;rw [← t] at q z;simp only [← t] at w;simp -implicitDefEqProofs only [go_sem,sT7] at w this;simp -implicitDefEqProofs only [go_sem,sT7,ilt s,d1,c,A,B,D,q,w,yd,ye,ym,ya,yb,za s (show succ.length ≤ 4294967296 by omega),this]
end
theorem zuv (succ : List (List Int)) (l : zlg succ) (hm : zbH succ = true) (root : Int) (h0 : 0 ≤ root ∧ root < (succ.length : Int)) : call T 78 [.agg [.f (.sl (succ.map rl)),.f (.sl ((zZ succ).map rl))],vI root] [] = some (vIs (zdl succ root),[]):=by
 rw [ze (fn:=zff) rfl];obtain ⟨y,n64,hr⟩:=ze3 hm;have s:=zCm succ l hm;have t:=zn5 succ (zZ succ) (by omega) l.2 hr (-1) root h0;have r:=fun a0 a3 a8 a9 p m b d j g h a i c a20 e a22 a23 => zDm succ (zZ succ) root n64 l.2 hr h0 succ.length 0 a0 a3 a8 a9 p m b d j g h a i c a20 e a22 a23 (by omega) (by omega);have n:=fun a0 a2 a3 a5 a7 a8 a9 b d j g h a i c a20 e a22 a23 => zEj succ (zZ succ) root n64 l.2 hr h0 succ.length 0 a0 a2 a3 a5 a7 a8 a9 b d j g h a i c a20 e a22 a23 (by omega) (by omega);have e0 : zft succ root 0 = []:=rfl;have k : (succ.length : Int) ≤ (LIM : Int):=by unfold LIM; omega
 have u : yz succ.length [C.f (.sl [])] = zoD succ.length 0:=(zyK _).symm;have q : yz succ.length [C.f (.lit (.int .i64 0))] = (zg9 succ root 0).map zG:=by rw [zzQ,List.map_replicate]; rfl
 have hlen : (zft succ root succ.length).length = succ.length:=za2 succ root succ.length;have x:=fun o => zGS succ root o;have w : ((zdl succ root).map zG).take succ.length = (zdl succ root).map zG:=List.take_of_length_le (by simp [zdl]);have v : ¬ root < 0:=by omega
 have r1 : ¬ root ≥ (succ.length : Int):=by omega
 simp only [yg] at r n;simp -implicitDefEqProofs only [go_sem] at s t;simp -implicitDefEqProofs only [go_sem,sT7,e0,List.append_nil,List.nil_append] at r n;simp -implicitDefEqProofs only [go_sem,zff,s,t,v,r1,k,u,q,hlen,r,n,x,w,zf0,yc,yq,List.cons_append,yd,ye,ya,yb]
def pathFrom (t : List Int) : Nat → List Int → Int → List Int
 | 0,_,_ => []
 | r + 1,acc,a => if a < 0 ∨ (t.length : Int) ≤ a then [] else if tr t a = -1 then acc ++ [a] else pathFrom t r (acc ++ [a]) (tr t a)
def zhM (t : List Int) (a : Int) : List Int:=pathFrom t t.length [] a
theorem zss (t : List Int) : ∀ (r : Nat) (acc : List Int) (a n : Int),0 ≤ n → (pathFrom t r acc a = [] ↔ (zaj t r n a).getD (-1) < 0)
 | 0,acc,a,n,_ => by simp [pathFrom,zaj]
 | r + 1,acc,a,n,hn => by
   rw [pathFrom,zaj]
   by_cases c1 : a < 0
   ·rw [if_pos (.inl c1),if_pos c1]
    simp
   ·by_cases c2 : (t.length : Int) ≤ a
    ·rw [if_pos (.inr c2),if_neg c1,if_pos c2]
     simp
    ·rw [if_neg (by omega),if_neg c1,if_neg c2]
     by_cases c3 : tr t a = -1
     ·rw [if_pos c3,if_pos c3]
      simp;exact hn
     ·rw [if_neg c3,if_neg c3]
      exact zss t r (acc ++ [a]) (tr t a) (n + 1) (by omega)
theorem zz3 (t : List Int) (a : Int) : zhM t a = [] ↔ zL t a < 0:=zss t _ [] a 0 (Int.le_refl _)
section
variable (t : List Int) (htl : t.length ≤ 4294967296)
include htl
theorem zDh : ∀ (r : Nat) (acc : List Int) (a : Int),acc.length + r = t.length → ∃ k,∀ (a2 a4 a5 : V),
  exec T zak ⟨[vIs t,vI a,a2,.one (.ap 0 0 (acc.map ri)),a4,a5],[.tok 1 [acc.length]],0,0⟩ =
   some (if pathFrom t r acc a = [] then (.exit 0,⟨[vU,vU,vU,vU,vU,vU],[.tok 1 [k]],0,0⟩) else (.ret,⟨[vU,vU,.one (.ap 0 0 ((pathFrom t r acc a).map ri)),vU,vU,vU],[.tok 1 [(pathFrom t r acc a).length]],0,0⟩)):=by
 intro r
 induction r with
 | zero =>
   intro acc a h;have e : ¬ (acc.length : Int) < (t.length : Int):=(by omega);refine ⟨acc.length,fun a2 a4 a5 => ?_⟩;rw [xl zak rfl,zaF,pathFrom];simp -implicitDefEqProofs only [go_sem,yc,e]
 | succ r ih =>
   intro acc a h;have e : (acc.length : Int) < (t.length : Int):=by omega
   by_cases c1 : a < 0
   ·have b : ¬ a ≥ 0:=by omega
    refine ⟨acc.length,fun a2 a4 a5 => ?_⟩;rw [xl zak rfl,zaF,pathFrom,if_pos (.inl c1 : a < 0 ∨ (t.length : Int) ≤ a)];simp -implicitDefEqProofs only [go_sem,yc,eq_true e,b]
   have b : a ≥ 0:=by omega
   by_cases c2 : (t.length : Int) ≤ a
   ·have c : ¬ a < (t.length : Int):=by omega
    refine ⟨acc.length,fun a2 a4 a5 => ?_⟩;rw [xl zak rfl,zaF,pathFrom,if_pos (.inr c2 : a < 0 ∨ (t.length : Int) ≤ a)];simp -implicitDefEqProofs only [go_sem,yc,eq_true e,eq_true b,c]
   have c : a < (t.length : Int):=(by omega);have g:=zvt (t:=t) (a:=a) (by omega) c2;have d : acc.length + 1 ≤ LIM:=(by unfold LIM; omega);have e1 : yE ri acc ++ [[Fz.lit (Value.int .i64 a)]] = yE ri (acc ++ [a]):=by simp [ri]
   by_cases c3 : tr t a = -1
   ·refine ⟨0,fun a2 a4 a5 => ?_⟩
    have f : ¬ acc ++ [a] = []:=(by simp);rw [xl zak rfl,zaF,pathFrom,if_neg (show ¬ (a < 0 ∨ (t.length : Int) ≤ a) by omega),if_pos c3,if_neg f];simp -implicitDefEqProofs only [go_sem,yc,eq_true e,eq_true b,eq_true c,g,d,e1,c3,yn,yq,yr,yB]
   ·obtain ⟨k,hk⟩:=ih (acc ++ [a]) (tr t a) (by simp; omega)
    refine ⟨k,fun a2 a4 a5 => ?_⟩;rw [xl zak rfl,zaF,pathFrom,if_neg (show ¬ (a < 0 ∨ (t.length : Int) ≤ a) by omega),if_neg c3];simp -implicitDefEqProofs only [go_sem,yn,yq,yr,yB] at hk;simp -implicitDefEqProofs only [go_sem,yc,eq_true e,eq_true b,eq_true c,g,d,e1,c3,hk]
theorem zle (a : Int) : call T 132 [vIs t,vI a] [] = some (vIs (zhM t a),[]):=by
 rw [ze (fn:=zdg) rfl];obtain ⟨k,h⟩:=zDh t htl t.length [] a (by simp);have e : pathFrom t t.length [] a = zhM t a:=rfl;rw [e] at h;simp -implicitDefEqProofs only [go_sem,yD,yr] at h
 by_cases c : zhM t a = []
 ·simp -implicitDefEqProofs only [c] at h
  simp -implicitDefEqProofs only [go_sem,zdg,h,c,yD]
 ·simp -implicitDefEqProofs only [c] at h
  simp -implicitDefEqProofs only [go_sem,zdg,h]
theorem zz4 : ∀ (d k n : Nat) (a1 a4 a5 a6 : V),t.length - k = d → k ≤ t.length → n ≤ k →
  exec T zb7 ⟨[vIs t,a1,vI n,vI k,a4,a5,a6],[],0,0⟩ =
   some (match zaY t k n (t.drop k) with | some m => (.exit 0,⟨[vU,vU,vI m,vU,vU,vU,vU],[],0,0⟩) | none => (.ret,⟨[vU,vB false,vU,vU,vU,vU,vU],[],0,0⟩)):=by
 intro d
 induction d with
 | zero =>
   intro k n a1 a4 a5 a6 h1 h2 i;have hk : k = t.length:=(by omega);subst hk;rw [xl zb7 rfl,zd2];simp -implicitDefEqProofs only [go_sem,yh,yc,yi,zaY]
 | succ d ih =>
   intro k n a1 a4 a5 a6 h1 h2 i;have hk : k < t.length:=(by omega);have hd : t.drop k = t[k] :: t.drop (k + 1):=yf hk;obtain ⟨x,g⟩ : ∃ x,x = t[k]:=⟨_,rfl⟩;have c:=zy (r:=ri) hk;rw [← g] at c;have e:=zle t htl (k : Int);have b:=zz3 t (k : Int);have f : Go.IntKind.i64.wrap ((n : Int) + 1) = ((n + 1 : Nat) : Int):=(by rw [wrap_i64] <;> omega);have i1:=ih (k + 1) n vU vU vU vU (by omega) (by omega) (by omega);have i2:=ih (k + 1) (n + 1) vU vU vU vU (by omega) (by omega) (by omega);rw [xl zb7 rfl,zd2,hd,zaY,← g];simp -implicitDefEqProofs only [go_sem] at i1 i2 e
   by_cases c1 : x = -2
   ·simp -implicitDefEqProofs only [go_sem,ilt hk,c,ri,yc,c1,ya,yb,za hk htl,i1]
   ·by_cases c2 : zL t (k : Int) < 0
    ·have a : ((zhM t (k : Int)).length : Int) = 0:=by rw [b.2 c2]; rfl
     by_cases c3 : x = -1
     ·simp -implicitDefEqProofs only [go_sem,ilt hk,c,ri,yc,eq_true c3,c1,eq_true c2,e,eq_true a,ya,yb,f]
     ·simp -implicitDefEqProofs only [go_sem,ilt hk,c,ri,yc,c3,c1,eq_true c2,e,eq_true a,ya,yb]
    ·have a : ¬ ((zhM t (k : Int)).length : Int) = 0:=fun h => by
      have j : (zhM t (k : Int)).length = 0:=(by omega);exact c2 (b.1 (List.eq_nil_of_length_eq_zero j))
     by_cases c3 : x = -1
     ·simp -implicitDefEqProofs only [go_sem,ilt hk,c,ri,yc,eq_true c3,c1,c2,e,a,ya,yb,f,za hk htl,i2]
     ·simp -implicitDefEqProofs only [go_sem,ilt hk,c,ri,yc,c3,c1,c2,e,a,ya,yb,za hk htl,i1]
theorem zsR : call T 131 [vIs t] [] = some (vB (zhj t),[]):=by
 rw [ze (fn:=zcY) rfl];have h:=fun a1 a4 a5 a6 => zz4 t htl t.length 0 0 a1 a4 a5 a6 (by omega) (by omega) (by omega);simp only [yg,yo] at h;unfold zhj
 cases c : zaY t 0 0 t with
 | none =>
   simp -implicitDefEqProofs only [go_sem,c] at h;simp -implicitDefEqProofs only [go_sem,zcY,h];rfl
 | some m =>
   simp -implicitDefEqProofs only [go_sem,c] at h;simp -implicitDefEqProofs only [go_sem,zcY,h]
   have e : (some m == some 1) = decide ((m : Int) = 1):=by
    by_cases hm : m = 1
    ·subst hm; rfl
    ·rw [decide_eq_false (by omega)]
     simp [hm]
   rw [e]
def zj2 (t : List Int) (a b : Int) : Int:=if zhj t = true then ((zhM t a).find? fun x => decide (x ∈ zhM t b)).getD (-2) else -2
omit htl in
theorem ztN (t : List Int) : ∀ (r : Nat) (acc : List Int) (a : Int),(pathFrom t r acc a).length ≤ acc.length + r
 | 0,acc,a => by simp [pathFrom]
 | r + 1,acc,a => by
   have:=ztN t r (acc ++ [a]) (tr t a);rw [pathFrom];split
   ·simp
   ·split
    ·simp
    ·rw [yn] at this
     simp at this;omega
omit htl in
theorem zE4 (p q : List Int) (hp : p.length ≤ 4294967296) (hq : q.length ≤ 4294967296) : ∀ (d k : Nat) (a0 a1 a2 a3 a7 a8 a9 : V),p.length - k = d → k ≤ p.length →
  exec T zcR ⟨[a0,a1,a2,a3,vIs p,vIs q,vI k,a7,a8,a9],[],0,0⟩ =
   some (match (p.drop k).find? (fun x => decide (x ∈ q)) with | some x => (.ret,⟨[vU,vU,vU,vI x,vU,vU,vU,vU,vU,vU],[],0,0⟩) | none => (.exit 0,⟨[vU,vU,vU,vU,vU,vU,vU,vU,vU,vU],[],0,0⟩)):=by
 intro d
 induction d with
 | zero =>
   intro k a0 a1 a2 a3 a7 a8 a9 h1 h2;have hk : k = p.length:=(by omega);subst hk;rw [xl zcR rfl,zeA];simp -implicitDefEqProofs only [go_sem,yh,yc,yi,yy]
 | succ d ih =>
   intro k a0 a1 a2 a3 a7 a8 a9 h1 h2;have hk : k < p.length:=(by omega);have hd : p.drop k = p[k] :: p.drop (k + 1):=yf hk;have hH:=zmk q p[k] hq;have:=ih (k + 1) vU vU vU vU vU vU vU (by omega) (by omega);rw [xl zcR rfl,zeA,hd,yw];simp -implicitDefEqProofs only [go_sem] at this
   by_cases c : p[k] ∈ q
   ·simp -implicitDefEqProofs only [go_sem,decide_eq_true c] at hH
    simp -implicitDefEqProofs only [go_sem,ilt hk,zy hk,ri,yc,hH,c,ya,yb]
   ·simp -implicitDefEqProofs only [go_sem,decide_eq_false c] at hH
    simp -implicitDefEqProofs only [go_sem,ilt hk,zy hk,ri,yc,hH,c,ya,yb,za hk hp,this]
theorem zvf (a b : Int) : call T 79 [vIs t,vI a,vI b] [] = some (vI (zj2 t a b),[]):=by
 rw [ze (fn:=zbv) rfl];have d:=zsR t htl;have g:=zle t htl a;have f:=zle t htl b;have j : (zhM t a).length ≤ 4294967296:=by have:=ztN t t.length [] a; unfold zhM; simp at this; omega
 have i : (zhM t b).length ≤ 4294967296:=by have:=ztN t t.length [] b; unfold zhM; simp at this; omega
 have h:=fun a0 a1 a2 a3 a7 a8 a9 => zE4 (zhM t a) (zhM t b) j i (zhM t a).length 0 a0 a1 a2 a3 a7 a8 a9 (by omega) (by omega);simp only [yg,yo] at h;cases c : zhj t
 ·simp -implicitDefEqProofs only [go_sem,c] at d
  simp -implicitDefEqProofs only [go_sem,zbv,zj2,c,d,yj]
 ·simp -implicitDefEqProofs only [go_sem,c] at d
  simp -implicitDefEqProofs only [go_sem] at g f
  cases e : (zhM t a).find? (fun x => decide (x ∈ zhM t b)) with
  | none =>
    simp -implicitDefEqProofs only [go_sem,e] at h;simp -implicitDefEqProofs only [go_sem,zbv,zj2,c,d,g,f,h,e,Option.getD_none]
  | some x =>
    simp -implicitDefEqProofs only [go_sem,e] at h;simp -implicitDefEqProofs only [go_sem,zbv,zj2,c,d,g,f,h,e,Option.getD_some]
end
end AC

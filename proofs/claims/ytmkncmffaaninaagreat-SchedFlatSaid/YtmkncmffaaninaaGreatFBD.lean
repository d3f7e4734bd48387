/- A part of the proof of SchedFlat. Conditions: none. -/
import Derived.Test.YtmkncmffaaninaaGreatFAW
import Derived.Test.YtmkncmffaaninaaGreatFBB
import Derived.Test.YtmkncmffaaninaaGreatFBC
set_option linter.all false
open Int renaming natCast_nonneg → ya,toNat_natCast → yb,natCast_zero → yg,lt_irrefl → yh
open List renaming length_map → yc,getElem?_cons_succ → yd,getElem?_cons_zero → ye,drop_eq_getElem_cons → yf,drop_length → yi,getElem?_map → yk,set_cons_succ → ym,length_append → yn,drop_zero → yo,getElem?_set_self → yp,length_cons → yq,length_nil → yr,all_cons → ys,getElem_mem → yt,all_nil → yu,map_set → yv,find?_cons → yw,length_set → yx,find?_nil → yy,replicate → yz,set_set → yC,map_nil → yD,map → yE
open Bool renaming false_eq_true → yj,and_false → yl,and_true → yA
open Nat renaming zero_add → yB
namespace AC
open Go Go.A Go.A.Lex
theorem zzh {o : POp} (h : zgx o = true) : 0 ≤ o.kind ∧ o.kind ≤ 22:=by
 unfold zgx at h;simp only [Bool.and_eq_true] at h;cases a : zgA o.kind
 ·rw [zoS a] at h
  exact absurd h.2.1 (by simp)
 ·simpa [zgA] using a
section
variable (f : PFunc) (hf : okF f) (level : Int)
abbrev zh3 (r : zd) : zd:=.cells 0 3 [zc4 f] :: r
include hf
theorem zxx : ∀ (d k : Nat) (a0 a3 a5 a6 a7 a8 a9 h j l e b i g m n : V),f.params.length - k = d → k ≤ f.params.length →
  exec T zby ⟨[a0,vI level,.one (.ptr 0 0 0 0),a3,vI k,a5,a6,a7,a8,a9,h,j,l,e,b,i,g,m,n],zh3 f [],0,0⟩ =
   some (if (f.params.drop k).all zhP = true then (.exit 0,⟨[vU,vI level,.one (.ptr 0 0 0 0),vU,vU,vU,vU,vU,vU,vU,vU,vU,vU,vU,vU,vU,vU,vU,vU],zh3 f [],0,0⟩) else (.ret,⟨[vU,vU,vU,vB false,vU,vU,vU,vU,vU,vU,vU,vU,vU,vU,vU,vU,vU,vU,vU],zh3 f [],0,0⟩)):=by
 intro d
 induction d with
 | zero =>
   intro k a0 a3 a5 a6 a7 a8 a9 h j l e b i g m n q p;have a : k = f.params.length:=(by omega);subst a;rw [xl zby rfl,zdx];simp -implicitDefEqProofs only [go_sem,zh3,yh,yc,yi,yu]
 | succ d ih =>
   intro k a0 a3 a5 a6 a7 a8 a9 h j l e b i g m n q p;have a : k < f.params.length:=(by omega);have hd : f.params.drop k = f.params[k] :: f.params.drop (k + 1):=yf a;have o:=zfM f.params[k];have:=ih (k + 1) vU vU vU vU vU vU vU vU vU vU vU vU vU vU vU vU (by omega) (by omega);rw [xl zby rfl,zdx,hd,ys];simp -implicitDefEqProofs only [go_sem,zh3] at this;cases c : zhP f.params[k]
   ·simp -implicitDefEqProofs only [go_sem,c] at o
    simp -implicitDefEqProofs only [go_sem,zh3,ilt a,zm a,ri,yc,o,c]
   ·simp -implicitDefEqProofs only [go_sem,c] at o
    simp -implicitDefEqProofs only [go_sem,zh3,ilt a,zm a,ri,yc,o,c,za a hf.params,this]
theorem zwz (b : PBlock) (i : Nat) (u : i < f.blocks.length) (w : b = f.blocks[i]) (v : b.phis.length ≤ 4294967296) : ∀ (d k : Nat) (a0 a3 a4 a7 a8 a9 j m n g e l h o q : V),b.phis.length - k = d → k ≤ b.phis.length →
  exec T zbI ⟨[a0,vI level,.one (.ptr 0 0 0 0),a3,a4,vI i,vI k,a7,a8,a9,j,m,n,g,e,l,h,o,q],zh3 f [],0,0⟩ =
   some (if (b.phis.drop k).all (fun p => zhP p.bits) = true then (.exit 4,⟨[vU,vI level,.one (.ptr 0 0 0 0),vU,vU,vI i,vU,vU,vU,vU,vU,vU,vU,vU,vU,vU,vU,vU,vU],zh3 f [],0,0⟩) else (.ret,⟨[vU,vU,vU,vB false,vU,vU,vU,vU,vU,vU,vU,vU,vU,vU,vU,vU,vU,vU,vU],zh3 f [],0,0⟩)):=by
 intro d;have t:=zm (r:=rb) u;rw [← w] at t
 induction d with
 | zero =>
   intro k a0 a3 a4 a7 a8 a9 j m n g e l h o q y x;have a : k = b.phis.length:=(by omega);subst a;rw [xl zbI rfl,zdD];simp -implicitDefEqProofs only [go_sem,zh3,t,rb,ilt u,yh,yc,yi,yu,ya,yb]
 | succ d ih =>
   intro k a0 a3 a4 a7 a8 a9 j m n g e l h o q y x;have a : k < b.phis.length:=(by omega);have hd : b.phis.drop k = b.phis[k] :: b.phis.drop (k + 1):=yf a;have s:=zfM b.phis[k].bits;have:=ih (k + 1) vU vU vU vU vU vU vU vU vU vU vU vU vU vU vU (by omega) (by omega);rw [xl zbI rfl,zdD,hd,ys];simp -implicitDefEqProofs only [go_sem,zh3] at this;cases c : zhP b.phis[k].bits
   ·simp -implicitDefEqProofs only [go_sem,c] at s
    simp -implicitDefEqProofs only [go_sem,zh3,t,rb,ilt u,ilt a,zm a,rp,yc,s,c,ya,yb]
   ·simp -implicitDefEqProofs only [go_sem,c] at s
    simp -implicitDefEqProofs only [go_sem,zh3,t,rb,ilt u,ilt a,zm a,rp,yc,s,c,ya,yb,za a v,this]
set_option maxHeartbeats 4000000 in
theorem zw4 (p : level = 0 ∨ level = 1 ∨ level = 2) (b : PBlock) (n : okB b) (i : Nat) (v : i < f.blocks.length) (H : b = f.blocks[i]) : ∀ (d k : Nat) (a0 a3 a4 a6 a8 a9 A C D y x B z E G : V),b.ops.length - k = d → k ≤ b.ops.length →
  exec T zbA ⟨[a0,vI level,.one (.ptr 0 0 0 0),a3,a4,vI i,a6,vI k,a8,a9,A,C,D,y,x,B,z,E,G],zh3 f [],0,0⟩ =
   some (match (b.ops.drop k).find? (fun o => !ofS level o) with | none => (.exit 6,⟨[vU,vI level,.one (.ptr 0 0 0 0),vU,vU,vI i,vU,vU,vU,vU,vU,vU,vU,vU,vU,vU,vU,vU,vU],zh3 f [],0,0⟩) | some o => (.ret,⟨[vU,vU,vU,vB false,vU,vU,vU,vU,vU,vU,vU,vU,vU,vU,vU,vU,vU,vU,vU],zh3 f [.cells 0 6 [cOp o]],0,0⟩)):=by
 intro d;have u:=zm (r:=rb) v;rw [← H] at u
 induction d with
 | zero =>
   intro k a0 a3 a4 a6 a8 a9 A C D y x B z E G K I;have g : k = b.ops.length:=(by omega);subst g;rw [xl zbA rfl,zdu];simp -implicitDefEqProofs only [go_sem,zh3,u,rb,ilt v,yh,yc,yi,yy,ya,yb]
 | succ d ih =>
   intro k a0 a3 a4 a6 a8 a9 A C D y x B z E G K I;have g : k < b.ops.length:=(by omega);have hd : b.ops.drop k = b.ops[k] :: b.ops.drop (k + 1):=yf g;have t:=zlj b.ops[k] (n.op _ (yt g));have:=ih (k + 1) vU vU vU vU vU vU vU vU vU vU vU vU vU vU vU (by omega) (by omega);rw [xl zbA rfl,zdu,hd,yw];simp -implicitDefEqProofs only [go_sem,zh3] at this;obtain ⟨o,J⟩ : ∃ o,o = b.ops[k]:=⟨_,rfl⟩;have w:=zm (r:=ro) g;rw [← J] at w t ⊢;cases c : zgx o
   ·have e : ofS level o = false:=by unfold ofS; rw [c,yl,yl]
    simp -implicitDefEqProofs only [go_sem,c] at t;rcases p with rfl | rfl | rfl <;> simp -implicitDefEqProofs only [go_sem,zh3,u,rb,ilt v,ilt g,w,ro,yc,t,e,ya,yb]
   ·simp -implicitDefEqProofs only [go_sem,c] at t
    have L:=(zzh c)
    by_cases h : 20 < o.kind
    ·by_cases a : 17 < o.kind
     ·have l : ¬ o.kind > 22:=by omega
      have m : o.kind > 20:=h;have j : o.kind > 17:=a
      by_cases q : 1 < o.lanes
      ·have s : o.lanes > 1:=q
       rcases p with rfl | rfl | rfl <;> simp -implicitDefEqProofs only [go_sem,zh3,u,rb,ilt v,ilt g,w,ro,yc,t,c,ofS,l,eq_true m,eq_true j,eq_true h,eq_true a,eq_true q,eq_true s,ya,yb,za g n.ops,this]
      ·have s : ¬ o.lanes > 1:=q
       rcases p with rfl | rfl | rfl <;> simp -implicitDefEqProofs only [go_sem,zh3,u,rb,ilt v,ilt g,w,ro,yc,t,c,ofS,l,eq_true m,eq_true j,eq_true h,eq_true a,q,s,ya,yb,za g n.ops,this]
     ·omega
    ·have l : ¬ o.kind > 22:=by omega
     have m : ¬ o.kind > 20:=h
     by_cases a : 17 < o.kind
     ·have j : o.kind > 17:=a
      by_cases q : 1 < o.lanes
      ·have s : o.lanes > 1:=q
       rcases p with rfl | rfl | rfl <;> simp -implicitDefEqProofs only [go_sem,zh3,u,rb,ilt v,ilt g,w,ro,yc,t,c,ofS,l,m,eq_true j,h,eq_true a,eq_true q,eq_true s,ya,yb,za g n.ops,this]
      ·have s : ¬ o.lanes > 1:=q
       rcases p with rfl | rfl | rfl <;> simp -implicitDefEqProofs only [go_sem,zh3,u,rb,ilt v,ilt g,w,ro,yc,t,c,ofS,l,m,eq_true j,h,eq_true a,q,s,ya,yb,za g n.ops,this]
     ·have j : ¬ o.kind > 17:=a
      by_cases q : 1 < o.lanes
      ·have s : o.lanes > 1:=q
       rcases p with rfl | rfl | rfl <;> simp -implicitDefEqProofs only [go_sem,zh3,u,rb,ilt v,ilt g,w,ro,yc,t,c,ofS,l,m,j,h,a,eq_true q,eq_true s,ya,yb,za g n.ops,this]
      ·have s : ¬ o.lanes > 1:=q
       rcases p with rfl | rfl | rfl <;> simp -implicitDefEqProofs only [go_sem,zh3,u,rb,ilt v,ilt g,w,ro,yc,t,c,ofS,l,m,j,h,a,q,s,ya,yb,za g n.ops,this]
theorem zw1 (w : level = 0 ∨ level = 1 ∨ level = 2) : ∀ (d k : Nat),f.blocks.length - k = d → k ≤ f.blocks.length → ∃ r,∀ (a0 a3 a4 a6 a7 a8 a9 g i j c a h e l m : V),
  exec T zak ⟨[a0,vI level,.one (.ptr 0 0 0 0),a3,a4,vI k,a6,a7,a8,a9,g,i,j,c,a,h,e,l,m],zh3 f [],0,0⟩ =
   some (if (f.blocks.drop k).all (zjG level) = true then (.exit 2,⟨[vU,vU,.one (.ptr 0 0 0 0),vU,vU,vU,vU,vU,vU,vU,vU,vU,vU,vU,vU,vU,vU,vU,vU],zh3 f [],0,0⟩) else (.ret,⟨[vU,vU,vU,vB false,vU,vU,vU,vU,vU,vU,vU,vU,vU,vU,vU,vU,vU,vU,vU],zh3 f r,0,0⟩)):=by
 intro d
 induction d with
 | zero =>
   intro k z y;have n : k = f.blocks.length:=(by omega);subst n;refine ⟨[],fun a0 a3 a4 a6 a7 a8 a9 g i j c a h e l m => ?_⟩;rw [xl zak rfl,zaE];simp -implicitDefEqProofs only [go_sem,zh3,yh,yc,yi,yu]
 | succ d ih =>
   intro k z y;have n : k < f.blocks.length:=(by omega);have hd : f.blocks.drop k = f.blocks[k] :: f.blocks.drop (k + 1):=yf n;obtain ⟨b,q⟩ : ∃ b,b = f.blocks[k]:=⟨_,rfl⟩;have u:=hf.block _ (yt n);rw [← q] at u;have s:=fun a0 a3 a4 a7 a8 a9 g i j c a h e l m => zwz f hf level b k n q u.phis b.phis.length 0 a0 a3 a4 a7 a8 a9 g i j c a h e l m (by omega) (by omega);have t:=fun a0 a3 a4 a6 a8 a9 g i j c a h e l m => zw4 f hf level w b u k n q b.ops.length 0 a0 a3 a4 a6 a8 a9 g i j c a h e l m (by omega) (by omega);simp only [yg,yo] at s t;obtain ⟨r,x⟩:=ih (k + 1) (by omega) (by omega);rw [hd,ys,← q,zjG];simp -implicitDefEqProofs only [go_sem,zh3] at x;cases e1 : b.phis.all (fun p => zhP p.bits)
   ·refine ⟨[],fun a0 a3 a4 a6 a7 a8 a9 g i j c a h e l m => ?_⟩
    rw [xl zak rfl,zaE];simp -implicitDefEqProofs only [go_sem,zh3,e1,yj] at s;simp -implicitDefEqProofs only [go_sem,zh3,ilt n,yc,s]
   ·simp -implicitDefEqProofs only [go_sem,zh3,e1] at s
    cases e2 : b.ops.find? (fun o => !ofS level o) with
    | some o =>
      have v:=zeY e2;refine ⟨[.cells 0 6 [cOp o]],fun a0 a3 a4 a6 a7 a8 a9 g i j c a h e l m => ?_⟩;rw [xl zak rfl,zaE];simp -implicitDefEqProofs only [go_sem,zh3,e2] at t;simp -implicitDefEqProofs only [go_sem,zh3,ilt n,yc,s,t,v,yl]
    | none =>
      have v:=ze4 e2;refine ⟨r,fun a0 a3 a4 a6 a7 a8 a9 g i j c a h e l m => ?_⟩;rw [xl zak rfl,zaE];simp -implicitDefEqProofs only [go_sem,zh3,e2] at t;simp -implicitDefEqProofs only [go_sem,zh3,ilt n,yc,s,t,v,za n hf.blocks,x]
theorem zsE (m : level = 0 ∨ level = 1 ∨ level = 2) : call T 72 [zfZ f,vI level] [] = some (vB (zfu f level),[]):=by
 rw [ze (fn:=zaR) rfl];have a:=fun a0 a3 a5 a6 a7 a8 a9 g i j d c h e k l => zxx f hf level f.params.length 0 a0 a3 a5 a6 a7 a8 a9 g i j d c h e k l (by omega) (by omega);obtain ⟨r,b⟩:=zw1 f hf level m f.blocks.length 0 (by omega) (by omega);have n:=zfM f.ret;simp only [yg,yo] at a b;simp -implicitDefEqProofs only [go_sem] at n;cases e1 : f.params.all zhP
 ·simp -implicitDefEqProofs only [go_sem,zh3,e1,yj] at a
  simp -implicitDefEqProofs only [go_sem,zaR,zfu,a,e1,yl]
 ·simp -implicitDefEqProofs only [go_sem,zh3,e1] at a
  cases e2 : f.blocks.all (zjG level)
  ·simp -implicitDefEqProofs only [go_sem,zh3,e2,yj] at b
   simp -implicitDefEqProofs only [go_sem,zaR,zfu,a,b,e1,e2,yl]
  ·simp -implicitDefEqProofs only [go_sem,zh3,e2] at b
   simp -implicitDefEqProofs only [go_sem,zaR,zfu,a,b,n,e1,e2,yA]
end
section
variable (succ pred : List (List Int)) (root : Int) (hn1 : 1 ≤ succ.length) (hn : succ.length ≤ 64) (hl : ∀ l ∈ succ,l.length ≤ 4294967296) (hr : ∀ l ∈ succ,∀ y ∈ l,0 ≤ y ∧ y < (succ.length : Int)) (h0 : 0 ≤ root ∧ root < (succ.length : Int))
abbrev sO7 (out : List Int) : zd:=sT7 succ pred root succ.length succ.length [.cells 0 1 (out.map zl)]
theorem zya (o : Ob) (c : Nat) (h : c < succ.length) : (ze0 succ root succ.length ++ [o])[c]? = some (.cells 0 1 ((zn8 succ root c).map zfX)):=by
 rw [List.getElem?_append_left (by rw [zaI]; exact h)];exact zwX succ root _ c h
theorem zy8 (c b : Nat) (h : b < succ.length) : ((zn8 succ root c).map zfX)[b]? = some [.f (.lit (.bool (ovB succ root c b)))]:=by
 rw [yk,zs2 succ root c b h];rfl
theorem zCZ (o : Ob) : (ze0 succ root succ.length ++ [o])[succ.length]? = some o:=by
 rw [List.getElem?_append_right (by rw [zaI]; omega),zaI,Nat.sub_self];rfl
theorem zGm (o p : Ob) : (ze0 succ root succ.length ++ [o]).set succ.length p = ze0 succ root succ.length ++ [p]:=by
 have:=zrz (ze0 succ root succ.length) [] o p
 rwa [zaI] at this
include hn hl hr h0
theorem zBy (out : List Int) (b a : Nat) (t : b < succ.length) (u : a < succ.length) : ∀ (d k : Nat) (p : Bool) (a0 a2 a3 a5 a7 a8 a9 g f j i h a20 l a22 a23 : V),succ.length - k = d → k ≤ succ.length →
  exec T zb3 ⟨[a0,vI root,a2,a3,vI succ.length,a5,.one (.own 1 0 0 succ.length),a7,a8,a9,.one (.own (succ.length + 1 + 1) 0 0 succ.length),vI b,vI a,vB p,vI k,g,f,j,i,h,a20,l,a22,a23],sO7 succ pred root out,0,0⟩ =
   some (.exit 8,⟨[vU,vI root,vU,vU,vI succ.length,vU,.one (.own 1 0 0 succ.length),vU,vU,vU,.one (.own (succ.length + 1 + 1) 0 0 succ.length),vI b,vI a,vB (p && ze6 succ root b a k d),vU,vU,vU,vU,vU,vU,vU,vU,vU,vU],sO7 succ pred root out,0,0⟩):=by
 intro d
 induction d with
 | zero =>
   intro k p a0 a2 a3 a5 a7 a8 a9 g f j i h a20 l a22 a23 x w;have e : k = succ.length:=(by omega);subst e;have d1:=ovl succ root succ.length 999997 (by omega);rw [xl zb3 rfl,zel];simp -implicitDefEqProofs only [go_sem,sT7,yh,d1,ze6,yA]
 | succ d ih =>
   intro k p a0 a2 a3 a5 a7 a8 a9 g f j i h a20 l a22 a23 x w;have e : k < succ.length:=(by omega);have d1:=ovl succ root succ.length 999997 (by omega);have go:=zhh succ.length succ.length k e e;have r:=fun o => zya succ root o k e;have m:=zy8 succ root k b t;have q:=zy8 succ root k a u;have y : (zn8 succ root k).length = succ.length:=zjR succ root k;have s:=ilt t;have v:=ilt u;rw [xl zb3 rfl,zel,ze6]
   cases p with
   | false =>
     have:=ih (k + 1) false vU vU vU vU vU vU vU vU vU vU vU vU vU vU vU vU (by omega) (by omega);simp -implicitDefEqProofs only [go_sem,sT7] at this;simp -implicitDefEqProofs only [go_sem,sT7,ilt e,d1,za e (show succ.length ≤ 4294967296 by omega),this]
   | true =>
     by_cases c : k = b
     ·have n : (k : Int) = (b : Int):=by omega
      have:=ih (k + 1) true vU vU vU vU vU vU vU vU vU vU vU vU vU vU vU vU (by omega) (by omega);simp -implicitDefEqProofs only [go_sem,sT7] at this;simp -implicitDefEqProofs only [go_sem,sT7,ilt e,d1,eq_true n,eq_true c,za e (show succ.length ≤ 4294967296 by omega),this]
     ·have n : ¬ (k : Int) = (b : Int):=by omega
      cases e1 : ovB succ root k b
      ·rw [e1] at m
       have:=ih (k + 1) true vU vU vU vU vU vU vU vU vU vU vU vU vU vU vU vU (by omega) (by omega);simp -implicitDefEqProofs only [go_sem,sT7] at this;simp -implicitDefEqProofs only [go_sem,sT7,ilt e,s,d1,n,c,go,r,m,yd,ye,ya,yb,za e (show succ.length ≤ 4294967296 by omega),this]
      ·rw [e1] at m
       cases e2 : ovB succ root k a
       ·rw [e2] at q
        have:=ih (k + 1) false vU vU vU vU vU vU vU vU vU vU vU vU vU vU vU vU (by omega) (by omega);simp -implicitDefEqProofs only [go_sem,sT7] at this;simp -implicitDefEqProofs only [go_sem,sT7,ilt e,s,v,d1,n,c,go,r,m,q,yd,ye,ya,yb,za e (show succ.length ≤ 4294967296 by omega),this]
       ·rw [e2] at q
        have:=ih (k + 1) true vU vU vU vU vU vU vU vU vU vU vU vU vU vU vU vU (by omega) (by omega);simp -implicitDefEqProofs only [go_sem,sT7] at this;simp -implicitDefEqProofs only [go_sem,sT7,ilt e,s,v,d1,n,c,go,r,m,q,yd,ye,ya,yb,za e (show succ.length ≤ 4294967296 by omega),this]
theorem zBB (b : Nat) (A : b < succ.length) (q : ¬ (b : Int) = root) : ∀ (d k : Nat) (v : Int) (out : List Int) (a0 a2 a3 a5 a7 a8 a9 s r h e m j i a20 n a22 a23 : V),succ.length - k = d → k ≤ succ.length → out.length = succ.length →
  exec T zat ⟨[a0,vI root,a2,a3,vI succ.length,a5,.one (.own 1 0 0 succ.length),a7,a8,a9,.one (.own (succ.length + 1 + 1) 0 0 succ.length),vI b,vI k,s,r,h,e,m,j,i,a20,n,a22,a23],sO7 succ pred root (out.set b v),0,0⟩ =
   some (.exit 6,⟨[vU,vI root,vU,vU,vI succ.length,vU,.one (.own 1 0 0 succ.length),vU,vU,vU,.one (.own (succ.length + 1 + 1) 0 0 succ.length),vI b,vU,vU,vU,vU,vU,vU,vU,vU,vU,vU,vU,vU],sO7 succ pred root (out.set b (zf2 succ root b k d v)),0,0⟩):=by
 intro d
 induction d with
 | zero =>
   intro k v out a0 a2 a3 a5 a7 a8 a9 s r h e m j i a20 n a22 a23 K H x;have a : k = succ.length:=(by omega);subst a;have d1:=ovl succ root succ.length 999997 (by omega);rw [xl zat rfl,zcn];simp -implicitDefEqProofs only [go_sem,sT7,yh,d1,zf2]
 | succ d ih =>
   intro k v out a0 a2 a3 a5 a7 a8 a9 s r h e m j i a20 n a22 a23 K H x;have a : k < succ.length:=(by omega);have d1:=ovl succ root succ.length 999997 (by omega);have go:=zhh succ.length succ.length k a a;have D:=fun o => zya succ root o k a;have u:=zy8 succ root k b A;have J:=fun o => zCZ succ root o;have I:=fun o p => zGm succ root o p;have L : (zn8 succ root k).length = succ.length:=zjR succ root k;have E:=ilt A;have t:=fun a0 a2 a3 a5 a7 a8 a9 h e m j i a20 n a22 a23 => zBy succ pred root hn hl hr h0 (out.set b v) b k A a succ.length 0 true a0 a2 a3 a5 a7 a8 a9 h e m j i a20 n a22 a23 (by omega) (by omega);simp only [yg] at t;have y : (out.set b v).length = succ.length:=by rw [yx]; exact x
   have G : ((out.set b v).map zl)[b]? = some [.f (.lit (.int .i64 v))]:=by
    rw [yk,yp (by omega)];rfl
   have g : ((out.set b v).map zl).set b [C.f (.lit (.int .i64 (k : Int)))] = (out.set b (k : Int)).map zl:=by
    have : ((out.set b v).set b (k : Int)) = out.set b (k : Int):=yC _;rw [← this,yv (l:=out.set b v)];rfl
   have i1:=ih (k + 1) v out vU vU vU vU vU vU vU vU vU vU vU vU vU vU vU vU vU vU (by omega) (by omega) x;have i2:=ih (k + 1) (k : Int) out vU vU vU vU vU vU vU vU vU vU vU vU vU vU vU vU vU vU (by omega) (by omega) x;obtain ⟨os,z⟩ : ∃ os,os = out.set b v:=⟨_,rfl⟩;obtain ⟨ok,B⟩ : ∃ ok,ok = out.set b (k : Int):=⟨_,rfl⟩;rw [← z] at G g y t i1 ⊢;rw [← B] at g i2;rw [xl zat rfl,zcn,zf2];simp -implicitDefEqProofs only [go_sem,sT7] at i1 i2 t
   by_cases c : k = b
   ·have w : (k : Int) = (b : Int):=by omega
    simp -implicitDefEqProofs only [go_sem,sT7,ilt a,d1,q,eq_true w,eq_true c,za a (show succ.length ≤ 4294967296 by omega),i1]
   ·have w : ¬ (k : Int) = (b : Int):=by omega
    cases e1 : ovB succ root k b
    ·rw [e1] at u
     simp -implicitDefEqProofs only [go_sem,sT7,ilt a,E,d1,q,w,c,go,D,u,yd,ye,ya,yb,za a (show succ.length ≤ 4294967296 by omega),i1]
    ·rw [e1] at u
     cases e2 : ze6 succ root b k 0 succ.length
     ·simp -implicitDefEqProofs only [e2] at t
      simp -implicitDefEqProofs only [go_sem,sT7,ilt a,E,d1,q,w,c,go,D,u,t,yd,ye,ya,yb,za a (show succ.length ≤ 4294967296 by omega),i1]
     ·simp -implicitDefEqProofs only [e2] at t
      simp -implicitDefEqProofs only [go_sem,sT7,ilt a,E,d1,q,w,c,go,D,u,J,I,G,g,t,yd,ye,ym,ya,yb,za a (show succ.length ≤ 4294967296 by omega),i2]
theorem zsD (b : Nat) (d : b < succ.length) (a : (b : Int) = root) (out : List Int) a0 a2 a3 a5 a7 a8 a9 a13 a14 a15 a16 a17 a18 a19 a20 a21 a22 a23 :
  exec T zat ⟨[a0,vI root,a2,a3,vI succ.length,a5,.one (.own 1 0 0 succ.length),a7,a8,a9,.one (.own (succ.length + 1 + 1) 0 0 succ.length),vI b,vI 0,a13,a14,a15,a16,a17,a18,a19,a20,a21,a22,a23],sO7 succ pred root out,0,0⟩ =
   some (.exit 6,⟨[vU,vI root,vU,vU,vI succ.length,vU,.one (.own 1 0 0 succ.length),vU,vU,vU,.one (.own (succ.length + 1 + 1) 0 0 succ.length),vI b,vU,vU,vU,vU,vU,vU,vU,vU,vU,vU,vU,vU],sO7 succ pred root out,0,0⟩):=by
 have d1:=ovl succ root succ.length 999997 (by omega);have c : (0 : Int) < (succ.length : Int):=by omega
 rw [xl zat rfl,zcn];simp -implicitDefEqProofs only [go_sem,sT7,d1,eq_true c,eq_true a]
theorem zAX : ∀ (d k : Nat) (a0 a2 a3 a5 a7 a8 a9 w b a h g m j i a20 n a22 a23 : V),succ.length - k = d → k ≤ succ.length →
  exec T zcg ⟨[a0,vI root,a2,a3,vI succ.length,a5,.one (.own 1 0 0 succ.length),a7,a8,a9,.one (.own (succ.length + 1 + 1) 0 0 succ.length),vI k,w,b,a,h,g,m,j,i,a20,n,a22,a23],sO7 succ pred root (zgk succ root k),0,0⟩ =
   some (.exit 4,⟨[vU,vU,vU,vU,vU,vU,vU,vU,vU,vU,.one (.own (succ.length + 1 + 1) 0 0 succ.length),vU,vU,vU,vU,vU,vU,vU,vU,vU,vU,vU,vU,vU],sO7 succ pred root (zeU succ root),0,0⟩):=by
 intro d
 induction d with
 | zero =>
   intro k a0 a2 a3 a5 a7 a8 a9 w b a h g m j i a20 n a22 a23 G E;have s : k = succ.length:=(by omega);subst s;have d1:=ovl succ root succ.length 999997 (by omega);rw [xl zcg rfl,zed];simp -implicitDefEqProofs only [go_sem,sT7,yh,d1,zyp]
 | succ d ih =>
   intro k a0 a2 a3 a5 a7 a8 a9 w b a h g m j i a20 n a22 a23 G E;have s : k < succ.length:=(by omega);have d1:=ovl succ root succ.length 999997 (by omega);have B:=fun o => zCZ succ root o;have A:=fun o p => zGm succ root o p;have x:=zgh succ root k
   have D : ((zgk succ root k).map zl)[k]? = some [.f (.lit (.int .i64 0))]:=by
    rw [yk,zmA succ root k k s,if_neg (by omega)];rfl
   have q : ((zgk succ root k).map zl).set k [C.f (.lit (.int .i64 (-2)))] = ((zgk succ root k).set k (-2)).map zl:=(by rw [yv]; rfl);have:=ih (k + 1) vU vU vU vU vU vU vU vU vU vU vU vU vU vU vU vU vU vU vU (by omega) (by omega);have u:=zx3 succ root k s;have y : ((zgk succ root k).set k (-2)).length = succ.length:=(by rw [yx]; exact x);rw [xl zcg rfl,zed]
   by_cases c : (k : Int) = root
   ·have e : zry succ root k = -1:=by unfold zry; rw [if_pos c]
    rw [e] at u
    have z : (((zgk succ root k).set k (-2)).map zl)[k]? = some [.f (.lit (.int .i64 (-2)))]:=by
     rw [yk,yp (by omega)];rfl
    have r : (((zgk succ root k).set k (-2)).map zl).set k [C.f (.lit (.int .i64 (-1)))] = (zgk succ root (k + 1)).map zl:=by
     have H : ((zgk succ root k).set k (-2)).set k (-1) = zgk succ root (k + 1):=(by rw [yC,u]);rw [← H,yv (l:=(zgk succ root k).set k (-2))];rfl
    have v:=fun a0 a2 a3 a5 a7 a8 a9 b a h g m j i a20 n a22 a23 => zsD succ pred root hn hl hr h0 k s c (zgk succ root (k + 1)) a0 a2 a3 a5 a7 a8 a9 b a h g m j i a20 n a22 a23;obtain ⟨os,t⟩ : ∃ os,os = (zgk succ root k).set k (-2):=⟨_,rfl⟩;rw [← t] at q z r y;simp -implicitDefEqProofs only [go_sem,sT7] at v this;simp -implicitDefEqProofs only [go_sem,sT7,ilt s,d1,eq_true c,B,A,D,q,z,r,v,yd,ye,ym,ya,yb,za s (show succ.length ≤ 4294967296 by omega),this]
   ·have e : zry succ root k = zf2 succ root k 0 succ.length (-2):=by unfold zry; rw [if_neg c]
    rw [e] at u;have v:=fun a0 a2 a3 a5 a7 a8 a9 b a h g m j i a20 n a22 a23 => zBB succ pred root hn hl hr h0 k s c succ.length 0 (-2) (zgk succ root k) a0 a2 a3 a5 a7 a8 a9 b a h g m j i a20 n a22 a23 (by omega) (by omega) x;simp only [yg,u] at v;obtain ⟨os,t⟩ : ∃ os,os = (zgk succ root k).set k (-2):=⟨_,rfl⟩;rw [← t] at q y;simp only [← t] at v;simp -implicitDefEqProofs only [go_sem,sT7] at v this;simp -implicitDefEqProofs only [go_sem,sT7,ilt s,d1,c,B,A,D,q,v,yd,ye,ym,ya,yb,za s (show succ.length ≤ 4294967296 by omega),this]
end
theorem ztL (succ : List (List Int)) (l : zjV succ) (hm : zbk succ = true) (root : Int) (h0 : 0 ≤ root ∧ root < (succ.length : Int)) : call T 78 [.agg [.f (.sl (succ.map rl)),.f (.sl ((zN succ).map rl))],vI root] [] = some (vIs (zeU succ root),[]):=by
 rw [ze (fn:=zeH) rfl];obtain ⟨y,n64,hr⟩:=zez hm;have t:=zyL succ l hm;have s:=zmQ succ (zN succ) (by omega) l.2 hr (-1) root h0;have p:=fun a0 a3 a8 a9 n q g b a d c i h e a20 j a22 a23 => zCd succ (zN succ) root n64 l.2 hr h0 succ.length 0 a0 a3 a8 a9 n q g b a d c i h e a20 j a22 a23 (by omega) (by omega);have r:=fun a0 a2 a3 a5 a7 a8 a9 g b a d c i h e a20 j a22 a23 => zAX succ (zN succ) root n64 l.2 hr h0 succ.length 0 a0 a2 a3 a5 a7 a8 a9 g b a d c i h e a20 j a22 a23 (by omega) (by omega);have e0 : ze0 succ root 0 = []:=rfl;have k : (succ.length : Int) ≤ (LIM : Int):=by unfold LIM; omega
 have u : yz succ.length [C.f (.sl [])] = zmZ succ.length 0:=(zxm _).symm;have m : yz succ.length [C.f (.lit (.int .i64 0))] = (zgk succ root 0).map zl:=by rw [zwB,List.map_replicate]; rfl
 have hlen : (ze0 succ root succ.length).length = succ.length:=zaI succ root succ.length;have w:=fun o => zCZ succ root o;have x : ((zeU succ root).map zl).take succ.length = (zeU succ root).map zl:=List.take_of_length_le (by simp [zeU]);have v : ¬ root < 0:=by omega
 have r1 : ¬ root ≥ (succ.length : Int):=by omega
 simp only [yg] at p r;simp -implicitDefEqProofs only [go_sem] at t s;simp -implicitDefEqProofs only [go_sem,sT7,e0,List.append_nil,List.nil_append] at p r;simp -implicitDefEqProofs only [go_sem,zeH,t,s,v,r1,k,u,m,hlen,p,r,w,x,zdf,yc,yq,List.cons_append,yd,ye,ya,yb]
def pathFrom (t : List Int) : Nat → List Int → Int → List Int
 | 0,_,_ => []
 | r + 1,acc,a => if a < 0 ∨ (t.length : Int) ≤ a then [] else if tr t a = -1 then acc ++ [a] else pathFrom t r (acc ++ [a]) (tr t a)
def zie (t : List Int) (a : Int) : List Int:=pathFrom t t.length [] a
theorem zqI (t : List Int) : ∀ (r : Nat) (acc : List Int) (a n : Int),0 ≤ n → (pathFrom t r acc a = [] ↔ (zZ t r n a).getD (-1) < 0)
 | 0,acc,a,n,_ => by simp [pathFrom,zZ]
 | r + 1,acc,a,n,hn => by
   rw [pathFrom,zZ]
   by_cases c1 : a < 0
   ·rw [if_pos (.inl c1),if_pos c1]
    simp
   ·by_cases c2 : (t.length : Int) ≤ a
    ·rw [if_pos (.inr c2),if_neg c1,if_pos c2]
     simp
    ·rw [if_neg (by omega),if_neg c1,if_neg c2]
     by_cases c3 : tr t a = -1
     ·rw [if_pos c3,if_pos c3]
      simp;exact hn
     ·rw [if_neg c3,if_neg c3]
      exact zqI t r (acc ++ [a]) (tr t a) (n + 1) (by omega)
theorem zzO (t : List Int) (a : Int) : zie t a = [] ↔ zD t a < 0:=zqI t _ [] a 0 (Int.le_refl _)
section
variable (t : List Int) (htl : t.length ≤ 4294967296)
include htl
theorem zAS : ∀ (r : Nat) (acc : List Int) (a : Int),acc.length + r = t.length → ∃ k,∀ (a2 a4 a5 : V),
  exec T zaa ⟨[vIs t,vI a,a2,.one (.ap 0 0 (acc.map ri)),a4,a5],[.tok 1 [acc.length]],0,0⟩ =
   some (if pathFrom t r acc a = [] then (.exit 0,⟨[vU,vU,vU,vU,vU,vU],[.tok 1 [k]],0,0⟩) else (.ret,⟨[vU,vU,.one (.ap 0 0 ((pathFrom t r acc a).map ri)),vU,vU,vU],[.tok 1 [(pathFrom t r acc a).length]],0,0⟩)):=by
 intro r
 induction r with
 | zero =>
   intro acc a h;have e : ¬ (acc.length : Int) < (t.length : Int):=(by omega);refine ⟨acc.length,fun a2 a4 a5 => ?_⟩;rw [xl zaa rfl,zas,pathFrom];simp -implicitDefEqProofs only [go_sem,yc,e]
 | succ r ih =>
   intro acc a h;have e : (acc.length : Int) < (t.length : Int):=by omega
   by_cases c1 : a < 0
   ·have b : ¬ a ≥ 0:=by omega
    refine ⟨acc.length,fun a2 a4 a5 => ?_⟩;rw [xl zaa rfl,zas,pathFrom,if_pos (.inl c1 : a < 0 ∨ (t.length : Int) ≤ a)];simp -implicitDefEqProofs only [go_sem,yc,eq_true e,b]
   have b : a ≥ 0:=by omega
   by_cases c2 : (t.length : Int) ≤ a
   ·have c : ¬ a < (t.length : Int):=by omega
    refine ⟨acc.length,fun a2 a4 a5 => ?_⟩;rw [xl zaa rfl,zas,pathFrom,if_pos (.inr c2 : a < 0 ∨ (t.length : Int) ≤ a)];simp -implicitDefEqProofs only [go_sem,yc,eq_true e,eq_true b,c]
   have c : a < (t.length : Int):=(by omega);have g:=zth (t:=t) (a:=a) (by omega) c2;have d : acc.length + 1 ≤ LIM:=(by unfold LIM; omega);have e1 : yE ri acc ++ [[Fz.lit (Value.int .i64 a)]] = yE ri (acc ++ [a]):=by simp [ri]
   by_cases c3 : tr t a = -1
   ·refine ⟨0,fun a2 a4 a5 => ?_⟩
    have f : ¬ acc ++ [a] = []:=(by simp);rw [xl zaa rfl,zas,pathFrom,if_neg (show ¬ (a < 0 ∨ (t.length : Int) ≤ a) by omega),if_pos c3,if_neg f];simp -implicitDefEqProofs only [go_sem,yc,eq_true e,eq_true b,eq_true c,g,d,e1,c3,yn,yq,yr,yB]
   ·obtain ⟨k,hk⟩:=ih (acc ++ [a]) (tr t a) (by simp; omega)
    refine ⟨k,fun a2 a4 a5 => ?_⟩;rw [xl zaa rfl,zas,pathFrom,if_neg (show ¬ (a < 0 ∨ (t.length : Int) ≤ a) by omega),if_neg c3];simp -implicitDefEqProofs only [go_sem,yn,yq,yr,yB] at hk;simp -implicitDefEqProofs only [go_sem,yc,eq_true e,eq_true b,eq_true c,g,d,e1,c3,hk]
theorem zj8 (a : Int) : call T 132 [vIs t,vI a] [] = some (vIs (zie t a),[]):=by
 rw [ze (fn:=zcF) rfl];obtain ⟨k,h⟩:=zAS t htl t.length [] a (by simp);have e : pathFrom t t.length [] a = zie t a:=rfl;rw [e] at h;simp -implicitDefEqProofs only [go_sem,yD,yr] at h
 by_cases c : zie t a = []
 ·simp -implicitDefEqProofs only [c] at h
  simp -implicitDefEqProofs only [go_sem,zcF,h,c,yD]
 ·simp -implicitDefEqProofs only [c] at h
  simp -implicitDefEqProofs only [go_sem,zcF,h]
theorem zx0 : ∀ (d k n : Nat) (a1 a4 a5 a6 : V),t.length - k = d → k ≤ t.length → n ≤ k →
  exec T zbD ⟨[vIs t,a1,vI n,vI k,a4,a5,a6],[],0,0⟩ =
   some (match zaF t k n (t.drop k) with | some m => (.exit 0,⟨[vU,vU,vI m,vU,vU,vU,vU],[],0,0⟩) | none => (.ret,⟨[vU,vB false,vU,vU,vU,vU,vU],[],0,0⟩)):=by
 intro d
 induction d with
 | zero =>
   intro k n a1 a4 a5 a6 h1 h2 j;have hk : k = t.length:=(by omega);subst hk;rw [xl zbD rfl,zdB];simp -implicitDefEqProofs only [go_sem,yh,yc,yi,zaF]
 | succ d ih =>
   intro k n a1 a4 a5 a6 h1 h2 j;have hk : k < t.length:=(by omega);have hd : t.drop k = t[k] :: t.drop (k + 1):=yf hk;obtain ⟨x,f⟩ : ∃ x,x = t[k]:=⟨_,rfl⟩;have c:=zm (r:=ri) hk;rw [← f] at c;have e:=zj8 t htl (k : Int);have b:=zzO t (k : Int);have g : Go.IntKind.i64.wrap ((n : Int) + 1) = ((n + 1 : Nat) : Int):=(by rw [wrap_i64] <;> omega);have i1:=ih (k + 1) n vU vU vU vU (by omega) (by omega) (by omega);have i2:=ih (k + 1) (n + 1) vU vU vU vU (by omega) (by omega) (by omega);rw [xl zbD rfl,zdB,hd,zaF,← f];simp -implicitDefEqProofs only [go_sem] at i1 i2 e
   by_cases c1 : x = -2
   ·simp -implicitDefEqProofs only [go_sem,ilt hk,c,ri,yc,c1,ya,yb,za hk htl,i1]
   ·by_cases c2 : zD t (k : Int) < 0
    ·have a : ((zie t (k : Int)).length : Int) = 0:=by rw [b.2 c2]; rfl
     by_cases c3 : x = -1
     ·simp -implicitDefEqProofs only [go_sem,ilt hk,c,ri,yc,eq_true c3,c1,eq_true c2,e,eq_true a,ya,yb,g]
     ·simp -implicitDefEqProofs only [go_sem,ilt hk,c,ri,yc,c3,c1,eq_true c2,e,eq_true a,ya,yb]
    ·have a : ¬ ((zie t (k : Int)).length : Int) = 0:=fun h => by
      have i : (zie t (k : Int)).length = 0:=(by omega);exact c2 (b.1 (List.eq_nil_of_length_eq_zero i))
     by_cases c3 : x = -1
     ·simp -implicitDefEqProofs only [go_sem,ilt hk,c,ri,yc,eq_true c3,c1,c2,e,a,ya,yb,g,za hk htl,i2]
     ·simp -implicitDefEqProofs only [go_sem,ilt hk,c,ri,yc,c3,c1,c2,e,a,ya,yb,za hk htl,i1]
theorem zrY : call T 131 [vIs t] [] = some (vB (zgz t),[]):=by
 rw [ze (fn:=zbZ) rfl];have h:=fun a1 a4 a5 a6 => zx0 t htl t.length 0 0 a1 a4 a5 a6 (by omega) (by omega) (by omega);simp only [yg,yo] at h;unfold zgz
 cases c : zaF t 0 0 t with
 | none =>
   simp -implicitDefEqProofs only [go_sem,c] at h;simp -implicitDefEqProofs only [go_sem,zbZ,h];rfl
 | some m =>
   simp -implicitDefEqProofs only [go_sem,c] at h;simp -implicitDefEqProofs only [go_sem,zbZ,h]
   have e : (some m == some 1) = decide ((m : Int) = 1):=by
    by_cases hm : m = 1
    ·subst hm; rfl
    ·rw [decide_eq_false (by omega)]
     simp [hm]
   rw [e]
def zmk (t : List Int) (a b : Int) : Int:=if zgz t = true then ((zie t a).find? fun x => decide (x ∈ zie t b)).getD (-2) else -2
omit htl in
theorem zrK (t : List Int) : ∀ (r : Nat) (acc : List Int) (a : Int),(pathFrom t r acc a).length ≤ acc.length + r
 | 0,acc,a => by simp [pathFrom]
 | r + 1,acc,a => by
   have:=zrK t r (acc ++ [a]) (tr t a);rw [pathFrom];split
   ·simp
   ·split
    ·simp
    ·rw [yn] at this
     simp at this;omega
omit htl in
theorem zBj (p q : List Int) (hp : p.length ≤ 4294967296) (hq : q.length ≤ 4294967296) : ∀ (d k : Nat) (a0 a1 a2 a3 a7 a8 a9 : V),p.length - k = d → k ≤ p.length →
  exec T zb0 ⟨[a0,a1,a2,a3,vIs p,vIs q,vI k,a7,a8,a9],[],0,0⟩ =
   some (match (p.drop k).find? (fun x => decide (x ∈ q)) with | some x => (.ret,⟨[vU,vU,vU,vI x,vU,vU,vU,vU,vU,vU],[],0,0⟩) | none => (.exit 0,⟨[vU,vU,vU,vU,vU,vU,vU,vU,vU,vU],[],0,0⟩)):=by
 intro d
 induction d with
 | zero =>
   intro k a0 a1 a2 a3 a7 a8 a9 h1 h2;have hk : k = p.length:=(by omega);subst hk;rw [xl zb0 rfl,zd2];simp -implicitDefEqProofs only [go_sem,yh,yc,yi,yy]
 | succ d ih =>
   intro k a0 a1 a2 a3 a7 a8 a9 h1 h2;have hk : k < p.length:=(by omega);have hd : p.drop k = p[k] :: p.drop (k + 1):=yf hk;have hH:=zlR q p[k] hq;have:=ih (k + 1) vU vU vU vU vU vU vU (by omega) (by omega);rw [xl zb0 rfl,zd2,hd,yw];simp -implicitDefEqProofs only [go_sem] at this
   by_cases c : p[k] ∈ q
   ·simp -implicitDefEqProofs only [go_sem,decide_eq_true c] at hH
    simp -implicitDefEqProofs only [go_sem,ilt hk,zm hk,ri,yc,hH,c,ya,yb]
   ·simp -implicitDefEqProofs only [go_sem,decide_eq_false c] at hH
    simp -implicitDefEqProofs only [go_sem,ilt hk,zm hk,ri,yc,hH,c,ya,yb,za hk hp,this]
theorem ztj (a b : Int) : call T 79 [vIs t,vI a,vI b] [] = some (vI (zmk t a b),[]):=by
 rw [ze (fn:=za3) rfl];have d:=zrY t htl;have g:=zj8 t htl a;have f:=zj8 t htl b;have i : (zie t a).length ≤ 4294967296:=by have:=zrK t t.length [] a; unfold zie; simp at this; omega
 have j : (zie t b).length ≤ 4294967296:=by have:=zrK t t.length [] b; unfold zie; simp at this; omega
 have h:=fun a0 a1 a2 a3 a7 a8 a9 => zBj (zie t a) (zie t b) i j (zie t a).length 0 a0 a1 a2 a3 a7 a8 a9 (by omega) (by omega);simp only [yg,yo] at h;cases c : zgz t
 ·simp -implicitDefEqProofs only [go_sem,c] at d
  simp -implicitDefEqProofs only [go_sem,za3,zmk,c,d,yj]
 ·simp -implicitDefEqProofs only [go_sem,c] at d
  simp -implicitDefEqProofs only [go_sem] at g f
  cases e : (zie t a).find? (fun x => decide (x ∈ zie t b)) with
  | none =>
    simp -implicitDefEqProofs only [go_sem,e] at h;simp -implicitDefEqProofs only [go_sem,za3,zmk,c,d,g,f,h,e,Option.getD_none]
  | some x =>
    simp -implicitDefEqProofs only [go_sem,e] at h;simp -implicitDefEqProofs only [go_sem,za3,zmk,c,d,g,f,h,e,Option.getD_some]
end
end AC

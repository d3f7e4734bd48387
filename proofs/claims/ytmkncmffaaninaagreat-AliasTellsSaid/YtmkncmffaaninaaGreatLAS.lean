/- A part of the proof of AliasTells. Conditions: none. -/
import Derived.Test.YtmkncmffaaninaaGreatLAR
import Derived.Test.YtmkncmffaaninaaGreatLAO
import Derived.Test.YtmkncmffaaninaaGreatLAQ
set_option linter.all false
open Nat renaming add_le_add_iff_right → ya,add_comm → yF,add_zero → yG,zero_add → yL,zero_le → yU
open List renaming length_map → yb,getD_eq_getElem?_getD → yd,getElem?_eq_none → ye,getElem?_eq_getElem → yf,drop_eq_getElem_cons → yg,find?_cons → yi,mem_cons_self → yj,mem_cons_of_mem → yk,length_append → yl,count_cons → yn,drop_length → yo,length_cons → yp,drop_zero → yr,ext_getElem? → ys,getElem_mem → yt,all_eq_true → yu,map_cons → yw,eq_nil_of_length_eq_zero → yx,all_cons → yy,mem_cons → yA,getElem?_eq_some_iff → yB,length_set → yC,getElem?_replicate → yD,getElem?_set → yE,foldl_cons → yI,getD_cons_zero → yJ,sum_cons → yK,find?_nil → yP,count_set → yQ,map_set → yV,map → yW
open Bool renaming and_eq_true → yc,false_eq_true → yv,not_eq_true' → yz,or_eq_false_iff → yH,not_eq_true → yO,true_and → yS,or_true → yT
open Int renaming natCast_zero → yh,toNat_natCast → ym,lt_irrefl → yq
open Option renaming isNone_none → yM,isNone_some → yN,getD_some → yR
namespace AC
open Go Go.A Go.A.Lex
theorem zI7 (n : Nat) : (1 < n + 5) = True:=by (first | (simp; omega) | simp)
theorem zJM (n : Nat) : (3 < n + 5) = True:=by (first | (simp; omega) | simp)
theorem zKj (n : Nat) : (4 < n + 5) = True:=by (first | (simp; omega) | simp)
theorem zJO (n : Nat) : (1 < n + 6) = True:=by (first | (simp; omega) | simp)
theorem zJo (n : Nat) : (3 < n + 6) = True:=by (first | (simp; omega) | simp)
theorem zJ4 (n : Nat) : (4 < n + 6) = True:=by (first | (simp; omega) | simp)
theorem zJN (n : Nat) : (1 < n + 7) = True:=by (first | (simp; omega) | simp)
theorem zJx (n : Nat) : (3 < n + 7) = True:=by (first | (simp; omega) | simp)
theorem zKh (n : Nat) : (4 < n + 7) = True:=by (first | (simp; omega) | simp)
theorem zI6 (n : Nat) : (1 < n + 8) = True:=by (first | (simp; omega) | simp)
theorem zJm (n : Nat) : (3 < n + 8) = True:=by (first | (simp; omega) | simp)
theorem zJJ (n : Nat) : (4 < n + 8) = True:=by (first | (simp; omega) | simp)
attribute [go_sem] zI7 zJM zKj zJO zJo zJ4 zJN zJx zKh zI6 zJm zJJ
def getM {α : Type} (k : Int) : List (Int × α) → Option α
 | [] => none
 | e :: es => if e.1 = k then some e.2 else getM k es
def zjb {α : Type} (k : Int) (v : α) : List (Int × α) → List (Int × α)
 | [] => [(k,v)]
 | e :: es => if e.1 = k then (k,v) :: es else e :: zjb k v es
def zgx {α : Type} (enc : α → V) (D : List (Int × α)) : List (Int × V):=D.map fun e => (e.1,enc e.2)
theorem znZ {α : Type} (enc : α → V) (k : Int) : ∀ D : List (Int × α),zhM k (zgx enc D) = (getM k D).map enc
 | [] => rfl
 | e :: es => by
   have a:=znZ enc k es;unfold zgx at a ⊢;simp only [yw,zhM,getM]
   by_cases h : e.1 = k
   ·rw [if_pos h,if_pos h]; rfl
   ·rw [if_neg h,if_neg h,a]
theorem zn5 {α : Type} (enc : α → V) (k : Int) (v : α) : ∀ D : List (Int × α),zg5 k (enc v) (zgx enc D) = zgx enc (zjb k v D)
 | [] => rfl
 | e :: es => by
   have a:=zn5 enc k v es;unfold zgx at a ⊢;simp only [yw,zg5,zjb]
   by_cases h : e.1 = k
   ·rw [if_pos h,if_pos h]; rfl
   ·rw [if_neg h,if_neg h,a]; rfl
theorem zrh {α : Type} (enc : α → V) (n : Nat) (h : ∀ a,(enc a).lt n = true) : ∀ D : List (Int × α),C.ltm n (zgx enc D) = true
 | [] => rfl
 | e :: es => by
   have b:=zrh enc n h es;unfold zgx at b ⊢;simp only [yw,C.ltm,h,b,Bool.and_self]
structure PDef where
 block : Int
 at' : Int
 shape : Int × Int
abbrev ziO:=List (Int × PDef)
def zhn (d : PDef) : V:=.agg [.f (ei d.block),.f (ei d.at'),.f (ei d.shape.1),.f (ei d.shape.2)]
theorem zP (n : Nat) (D : ziO) : C.ltm n (zgx zhn D) = true:=zrh zhn n (fun a => by simp [zhn,V.lt,C.lts,C.lt]) D
theorem zmq (k : Int) (D : ziO) : zhM k (zgx zhn D) = (getM k D).map zhn:=znZ zhn k D
theorem zGG (k : Int) (d : PDef) (D : ziO) : zg5 k (V.agg [.f (.lit (.int .i64 d.block)),.f (.lit (.int .i64 d.at')),.f (.lit (.int .i64 d.shape.1)),.f (.lit (.int .i64 d.shape.2))]) (zgx zhn D) = zgx zhn (zjb k d D):=zn5 zhn k d D
abbrev P1 : Ob:=.cells 0 1 [[.ptr 1 0 0 0]]
abbrev stD (f : PFunc) (level : Int) (x y z : C) (D : ziO) (r : zd) : zd:=O0 f :: zBy f level x y z (.map 4) :: O2 :: P1 :: .mp (zgx zhn D) :: r
section
variable (f : PFunc) (level : Int) (succ pred : List (List Int)) (tree : List Int) (D : ziO) (r : zd) (hr : Obs.lt (r.length + 5) r = true)
abbrev xS (l : List (List Int)) : C:=.f (.sl (l.map rl))
abbrev zS (l : List Int) : C:=.f (eI l)
include hr
theorem zuB (v : Int) (d : PDef) : call T 204 [.one (.ptr 1 0 0 0),vI v,zhn d] (stD f level (xS succ) (xS pred) (zS tree) D r) = some (vB (getM v D).isNone,stD f level (xS succ) (xS pred) (zS tree) (zjb v d D) r):=by
 rw [ze (fn:=zd1) rfl];have a:=zGG v d D
 cases e : getM v D with
 | none => simp -implicitDefEqProofs only [go_sem,zd1,stD,zhn,zmq,e,a,hr,zP,ya,yM]
 | some d0 => simp -implicitDefEqProofs only [go_sem,zd1,stD,zhn,zmq,e,a,hr,zP,ya,yN]
theorem zsD (u : Use) : call T 208 [vI u.v,.agg [.f (ei u.shape.1),.f (ei u.shape.2)],vI u.block,vI u.at',.one (.ptr 3 0 0 0)] (stD f level (xS succ) (xS pred) (zS tree) D r) =
  some (vI (if (getM u.v D).isNone then 7 else 0),stD f level (xS succ) (xS pred) (zS tree) D r):=by
 rw [ze (fn:=zbh) rfl]
 cases e : getM u.v D with
 | none => simp -implicitDefEqProofs only [go_sem,zbh,stD,zhn,zmq,e,hr,zP,ya,yM]
 | some d0 => simp -implicitDefEqProofs only [go_sem,zbh,stD,zhn,zmq,e,hr,zP,ya,yN]
end
def zk6 (D : ziO) (v : Int) : PDef:=(getM v D).getD ⟨0,0,(0,0)⟩
def zkR (D : ziO) (u : Use) : Int:=if (getM u.v D).isNone = true then 7 else 0
def zbS (D : ziO) (u : Use) : Int:=if (zk6 D u.v).shape = u.shape then 0 else 6
def za0 (D : ziO) (tree : List Int) (u : Use) : Int :=
 let d:=zk6 D u.v
 if d.block < 0 then 0 else if (d.block = u.block ∧ d.at' < u.at') ∨ (d.block ≠ u.block ∧ zmM tree d.block u.block = true) then 0 else 7
section
variable (f : PFunc) (level : Int) (succ pred : List (List Int)) (tree : List Int) (D : ziO) (r : zd) (hr : Obs.lt (r.length + 6) r = true)
include hr
theorem zuN (u : Use) : call T 209 [vI u.v,.agg [.f (ei u.shape.1),.f (ei u.shape.2)],vI u.block,vI u.at',.one (.ptr 5 0 0 0)] (stD f level (xS succ) (xS pred) (zS tree) D (P1 :: r)) =
  some (vI (zbS D u),stD f level (xS succ) (xS pred) (zS tree) D (P1 :: r)):=by
 rw [ze (fn:=zH) rfl];have g : ∀ a b : Int × Int,(a = b) = (a.1 = b.1 ∧ a.2 = b.2):=fun a b => by rw [Prod.ext_iff]
 have key : ∀ d : PDef,zk6 D u.v = d → zhM u.v (zgx zhn D) = some (zhn d) ∨ (zhM u.v (zgx zhn D) = none ∧ d = ⟨0,0,(0,0)⟩):=fun d hd => by
  rw [zmq];unfold zk6 at hd
  cases e : getM u.v D with
  | none => rw [e] at hd; exact .inr ⟨rfl,hd.symm⟩
  | some d0 => rw [e] at hd; simp at hd; subst hd; exact .inl rfl
 by_cases c1 : (zk6 D u.v).shape.1 = u.shape.1
 ·by_cases c2 : (zk6 D u.v).shape.2 = u.shape.2
  ·rcases key _ rfl with h | ⟨h,c⟩
   ·simp -implicitDefEqProofs only [go_sem,zH,stD,zhn,h,hr,zP,ya,zbS,g,eq_true c1,eq_true c2]
   ·rw [c] at c1 c2
    simp -implicitDefEqProofs only [go_sem,zH,stD,zhn,h,hr,zP,ya,zbS,g,c,eq_true c1,eq_true c2]
  ·rcases key _ rfl with h | ⟨h,c⟩
   ·simp -implicitDefEqProofs only [go_sem,zH,stD,zhn,h,hr,zP,ya,zbS,g,eq_true c1,c2,and_false]
   ·rw [c] at c1 c2
    simp -implicitDefEqProofs only [go_sem,zH,stD,zhn,h,hr,zP,ya,zbS,g,c,eq_true c1,c2,and_false]
 ·rcases key _ rfl with h | ⟨h,c⟩
  ·simp -implicitDefEqProofs only [go_sem,zH,stD,zhn,h,hr,zP,ya,zbS,g,c1,false_and]
  ·rw [c] at c1
   simp -implicitDefEqProofs only [go_sem,zH,stD,zhn,h,hr,zP,ya,zbS,g,c,c1,false_and]
theorem zuM (b : tree.length ≤ 4294967296) (u : Use) : call T 210 [vI u.v,.agg [.f (ei u.shape.1),.f (ei u.shape.2)],vI u.block,vI u.at',.one (.ptr 5 0 0 0)] (stD f level (xS succ) (xS pred) (zS tree) D (P1 :: r)) =
  some (vI (za0 D tree u),stD f level (xS succ) (xS pred) (zS tree) D (P1 :: r)):=by
 rw [ze (fn:=zj) rfl]
 have key : ∀ d : PDef,zk6 D u.v = d → zhM u.v (zgx zhn D) = some (zhn d) ∨ (zhM u.v (zgx zhn D) = none ∧ d = ⟨0,0,(0,0)⟩):=fun d hd => by
  rw [zmq];unfold zk6 at hd
  cases e : getM u.v D with
  | none => rw [e] at hd; exact .inr ⟨rfl,hd.symm⟩
  | some d0 => rw [e] at hd; simp at hd; subst hd; exact .inl rfl
 rcases key _ rfl with h | ⟨h,c⟩
 ·have a:=zrx tree (zk6 D u.v).block u.block b
  simp -implicitDefEqProofs only [go_sem] at a
  by_cases c1 : (zk6 D u.v).block < 0
  ·simp -implicitDefEqProofs only [go_sem,zj,stD,zhn,h,hr,zP,ya,za0,c1]
  by_cases c2 : (zk6 D u.v).block = u.block
  ·by_cases c3 : (zk6 D u.v).at' < u.at'
   ·simp -implicitDefEqProofs only [go_sem,zj,stD,zhn,h,hr,zP,ya,za0,c1,eq_true c2,c3,true_and,true_or]
   ·simp -implicitDefEqProofs only [go_sem,zj,stD,zhn,h,hr,zP,ya,za0,c1,eq_true c2,c3,and_false,false_and,or_self,ne_eq]
  ·cases c4 : zmM tree (zk6 D u.v).block u.block
   ·rw [c4] at a
    simp -implicitDefEqProofs only [go_sem,zj,stD,zhn,h,hr,zP,ya,za0,c1,c2,a,c4,and_false,false_and,or_self,ne_eq]
   ·rw [c4] at a
    simp -implicitDefEqProofs only [go_sem,zj,stD,zhn,h,hr,zP,ya,za0,c1,c2,a,c4,and_self,false_and,false_or,ne_eq]
 ·have a:=zrx tree (0 : Int) u.block b
  simp -implicitDefEqProofs only [go_sem] at a
  by_cases c1 : (0 : Int) < 0
  ·simp -implicitDefEqProofs only [go_sem,zj,stD,zhn,h,hr,zP,ya,za0,c,c1]
  by_cases c2 : (0 : Int) = u.block
  ·by_cases c3 : (0 : Int) < u.at'
   ·simp -implicitDefEqProofs only [go_sem,zj,stD,zhn,h,hr,zP,ya,za0,c,c1,eq_true c2,c3,true_and,true_or]
   ·simp -implicitDefEqProofs only [go_sem,zj,stD,zhn,h,hr,zP,ya,za0,c,c1,eq_true c2,c3,and_false,false_and,or_self,ne_eq]
  ·cases c4 : zmM tree (0 : Int) u.block
   ·rw [c4] at a
    simp -implicitDefEqProofs only [go_sem,zj,stD,zhn,h,hr,zP,ya,za0,c,c1,c2,a,c4,and_false,false_and,or_self,ne_eq]
   ·rw [c4] at a
    simp -implicitDefEqProofs only [go_sem,zj,stD,zhn,h,hr,zP,ya,za0,c,c1,c2,a,c4,and_self,false_and,false_or,ne_eq]
end
def zb4 : Nat → ziO → List Int → ziO
 | _,D,[] => D
 | i,D,b :: r => zb4 (i + 1) (zjb ((i : Int) + 1) ⟨-1,0,(b,1)⟩ D) r
def zgT (i : Int) : ziO → List PPhi → ziO × Option PPhi
 | D,[] => (D,none)
 | D,p :: r => if p.dst < 1 ∨ 1023 < p.dst then (D,some p) else if (getM p.dst D).isNone = true then zgT i (zjb p.dst ⟨i,-1,(p.bits,1)⟩ D) r else (zjb p.dst ⟨i,-1,(p.bits,1)⟩ D,some p)
def zgv (i : Int) : Nat → ziO → List POp → ziO × Option POp
 | _,D,[] => (D,none)
 | k,D,o :: r => if (zJ o).1 ≤ 0 then zgv i (k + 1) D r else if (getM o.dst D).isNone = true then zgv i (k + 1) (zjb o.dst ⟨i,k,zJ o⟩ D) r else (zjb o.dst ⟨i,k,zJ o⟩ D,some o)
def zc9 : Nat → ziO → List PBlock → ziO × Option (List Ob)
 | _,D,[] => (D,none)
 | i,D,b :: r => match zgT i D b.phis with
   | (D1,some p) => (D1,some [.cells 0 5 [zx b],.cells 0 4 [zyy p]])
   | (D1,none) => match zgv i 0 D1 b.ops with
     | (D2,some o) => (D2,some [.cells 0 5 [zx b],.cells 0 6 [cOp o]])
     | (D2,none) => zc9 (i + 1) D2 r
section
variable (f : PFunc) (hf : okF f) (level : Int) (succ pred : List (List Int)) (tree : List Int)
abbrev sD (f : PFunc) (level : Int) (succ pred : List (List Int)) (tree : List Int) (D : ziO) (r : zd) : zd:=stD f level (xS succ) (xS pred) (zS tree) D r
include hf
theorem zAd : ∀ (d k : Nat) (D : ziO) (a0 a2 a3 a4 a5 a6 a7 a8 a9 h a e j g b i a20 c a22 a23 a24 a25 a26 a27 a28 a29 : V),f.params.length - k = d → k ≤ f.params.length →
  exec T zbD ⟨[a0,.one (.ptr 3 0 0 0),a2,a3,a4,a5,a6,a7,a8,a9,h,a,vIs f.params,vI f.params.length,vI k,e,j,g,b,i,a20,c,a22,a23,a24,a25,a26,a27,a28,a29],sD f level succ pred tree D [],3,5⟩ =
   some (.exit 0,⟨[vU,.one (.ptr 3 0 0 0),vU,vU,vU,vU,vU,vU,vU,vU,vU,vU,vU,vU,vU,vU,vU,vU,vU,vU,vU,vU,vU,vU,vU,vU,vU,vU,vU,vU],sD f level succ pred tree (zb4 k D (f.params.drop k)) [],3,5⟩):=by
 intro d
 induction d with
 | zero =>
   intro k D a0 a2 a3 a4 a5 a6 a7 a8 a9 h a e j g b i a20 c a22 a23 a24 a25 a26 a27 a28 a29 q o;have l : k = f.params.length:=(by omega);subst l;rw [xl zbD rfl,zdR];simp -implicitDefEqProofs only [go_sem,stD,yq,yo,zb4]
 | succ d ih =>
   intro k D a0 a2 a3 a4 a5 a6 a7 a8 a9 h a e j g b i a20 c a22 a23 a24 a25 a26 a27 a28 a29 q o;have l : k < f.params.length:=(by omega);have hd : f.params.drop k = f.params[k] :: f.params.drop (k + 1):=yg l;have m:=zkF f.params[k];have n:=zuB f level succ pred tree D [] rfl ((k : Int) + 1) ⟨-1,0,(f.params[k],1)⟩;have hw:=za l hf.params;have p : ((k + 1 : Nat) : Int) = (k : Int) + 1:=(by omega);have:=ih (k + 1) (zjb ((k : Int) + 1) ⟨-1,0,(f.params[k],1)⟩ D) vU vU vU vU vU vU vU vU vU vU vU vU vU vU vU vU vU vU vU vU vU vU vU vU vU vU (by omega) (by omega);rw [xl zbD rfl,zdR,hd,zb4];rw [p] at hw this;simp -implicitDefEqProofs only [go_sem,stD,zhn] at n m this;simp -implicitDefEqProofs only [go_sem,stD,ilt l,zt l,ri,m,n,hw,this]
theorem zBq (b : PBlock) (q : okB b) (i : Int) : ∀ (d k : Nat) (D : ziO) (a0 a2 a3 a4 a7 a8 a9 l c g e n j m a23 a24 a25 a26 a27 a28 a29 : V),b.phis.length - k = d → k ≤ b.phis.length →
  exec T zbv ⟨[a0,.one (.ptr 3 0 0 0),a2,a3,a4,vI i,.one (.ptr 5 0 0 0),a7,a8,a9,l,c,g,e,n,j,vL (f.blocks.map rb),vI f.blocks.length,vI i,m,vL (b.phis.map rp),vI b.phis.length,vI k,a23,a24,a25,a26,a27,a28,a29],sD f level succ pred tree D [.cells 0 5 [zx b]],3,5⟩ =
   some (match zgT i D (b.phis.drop k) with
    | (D1,none) => (.exit 4,⟨[vU,.one (.ptr 3 0 0 0),vU,vU,vU,vI i,.one (.ptr 5 0 0 0),vU,vU,vU,vU,vU,vU,vU,vU,vU,vL (f.blocks.map rb),vI f.blocks.length,vI i,vU,vU,vU,vU,vU,vU,vU,vU,vU,vU,vU],sD f level succ pred tree D1 [.cells 0 5 [zx b]],3,5⟩)
    | (D1,some p) => (.ret,⟨[vU,vU,vI 7,vU,vU,vU,vU,vU,vU,vU,vU,vU,vU,vU,vU,vU,vU,vU,vU,vU,vU,vU,vU,vU,vU,vU,vU,vU,vU,vU],sD f level succ pred tree D1 [.cells 0 5 [zx b],.cells 0 4 [zyy p]],3,5⟩)):=by
 intro d
 induction d with
 | zero =>
   intro k D a0 a2 a3 a4 a7 a8 a9 l c g e n j m a23 a24 a25 a26 a27 a28 a29 s r;have a : k = b.phis.length:=(by omega);subst a;rw [xl zbv rfl,zdE];simp -implicitDefEqProofs only [go_sem,stD,yq,yo,zgT]
 | succ d ih =>
   intro k D a0 a2 a3 a4 a7 a8 a9 l c g e n j m a23 a24 a25 a26 a27 a28 a29 s r;have a : k < b.phis.length:=(by omega);have hd : b.phis.drop k = b.phis[k] :: b.phis.drop (k + 1):=yg a;have h:=zkF b.phis[k].bits;have o:=zuB f level succ pred tree D [.cells 0 5 [zx b],.cells 0 4 [zyy b.phis[k]]] (by simp -implicitDefEqProofs only [go_sem]) b.phis[k].dst ⟨i,-1,(b.phis[k].bits,1)⟩;rw [xl zbv rfl,zdE,hd,zgT];simp -implicitDefEqProofs only [go_sem,stD,zhn] at o h
   by_cases c1 : b.phis[k].dst < 1
   ·simp -implicitDefEqProofs only [go_sem,stD,ilt a,zt a,rp,c1]
   by_cases c2 : 1023 < b.phis[k].dst
   ·simp -implicitDefEqProofs only [go_sem,stD,ilt a,zt a,rp,c1,c2]
   cases c3 : (getM b.phis[k].dst D).isNone
   ·rw [c3] at o
    simp -implicitDefEqProofs only [go_sem,stD,ilt a,zt a,rp,c1,c2,h,o]
   ·have:=ih (k + 1) (zjb b.phis[k].dst ⟨i,-1,(b.phis[k].bits,1)⟩ D) vU vU vU vU vU vU vU vU vU vU vU vU vU vU vU vU vU vU vU vU vU (by omega) (by omega)
    rw [c3] at o;simp -implicitDefEqProofs only [go_sem,stD] at this;simp -implicitDefEqProofs only [go_sem,stD,ilt a,zt a,rp,c1,c2,h,o,zP,za a q.phis,this]
theorem zBk (b : PBlock) (s : okB b) (i : Int) : ∀ (d k : Nat) (D : ziO) (a0 a2 a3 a4 a6 a7 a8 a9 n g j h q m p a20 l a22 a23 a24 a28 a29 : V),b.ops.length - k = d → k ≤ b.ops.length →
  exec T zbC ⟨[a0,.one (.ptr 3 0 0 0),a2,a3,a4,vI i,a6,a7,a8,a9,n,g,j,h,q,m,vL (f.blocks.map rb),vI f.blocks.length,vI i,p,a20,l,a22,a23,a24,vL (b.ops.map ro),vI b.ops.length,vI k,a28,a29],sD f level succ pred tree D [.cells 0 5 [zx b]],3,5⟩ =
   some (match zgv i k D (b.ops.drop k) with
    | (D1,none) => (.exit 6,⟨[vU,.one (.ptr 3 0 0 0),vU,vU,vU,vU,vU,vU,vU,vU,vU,vU,vU,vU,vU,vU,vL (f.blocks.map rb),vI f.blocks.length,vI i,vU,vU,vU,vU,vU,vU,vU,vU,vU,vU,vU],sD f level succ pred tree D1 [.cells 0 5 [zx b]],3,5⟩)
    | (D1,some o) => (.ret,⟨[vU,vU,vI 7,vU,vU,vU,vU,vU,vU,vU,vU,vU,vU,vU,vU,vU,vU,vU,vU,vU,vU,vU,vU,vU,vU,vU,vU,vU,vU,vU],sD f level succ pred tree D1 [.cells 0 5 [zx b],.cells 0 6 [cOp o]],3,5⟩)):=by
 intro d
 induction d with
 | zero =>
   intro k D a0 a2 a3 a4 a6 a7 a8 a9 n g j h q m p a20 l a22 a23 a24 a28 a29 v u;have a : k = b.ops.length:=(by omega);subst a;rw [xl zbC rfl,zdF];simp -implicitDefEqProofs only [go_sem,stD,yq,yo,zgv]
 | succ d ih =>
   intro k D a0 a2 a3 a4 a6 a7 a8 a9 n g j h q m p a20 l a22 a23 a24 a28 a29 v u;have a : k < b.ops.length:=(by omega);have hd : b.ops.drop k = b.ops[k] :: b.ops.drop (k + 1):=yg a;have t:=s.op _ (yt a);have e:=zr6 b.ops[k] t.1 t.2;have r:=zuB f level succ pred tree D [.cells 0 5 [zx b],.cells 0 6 [cOp b.ops[k]]] (by simp -implicitDefEqProofs only [go_sem]) b.ops[k].dst ⟨i,k,zJ b.ops[k]⟩;rw [xl zbC rfl,zdF,hd,zgv];simp -implicitDefEqProofs only [go_sem,stD,zhn] at r e
   by_cases c1 : (zJ b.ops[k]).1 ≤ 0
   ·have c : ¬ 0 < (zJ b.ops[k]).1:=by omega
    have:=ih (k + 1) D vU vU vU vU vU vU vU vU vU vU vU vU vU vU vU vU vU vU vU vU vU vU (by omega) (by omega);simp -implicitDefEqProofs only [go_sem,stD] at this;simp -implicitDefEqProofs only [go_sem,stD,ilt a,zt a,ro,e,c1,c,zP,za a s.ops,this]
   have c : 0 < (zJ b.ops[k]).1:=(by omega);cases c3 : (getM b.ops[k].dst D).isNone
   ·rw [c3] at r
    simp -implicitDefEqProofs only [go_sem,stD,ilt a,zt a,ro,e,c1,c,r]
   ·have:=ih (k + 1) (zjb b.ops[k].dst ⟨i,k,zJ b.ops[k]⟩ D) vU vU vU vU vU vU vU vU vU vU vU vU vU vU vU vU vU vU vU vU vU vU (by omega) (by omega)
    rw [c3] at r;simp -implicitDefEqProofs only [go_sem,stD] at this;simp -implicitDefEqProofs only [go_sem,stD,ilt a,zt a,ro,e,c1,c,r,zP,za a s.ops,this]
theorem zAU : ∀ (d k : Nat) (D : ziO) (a0 a2 a3 a4 a5 a6 a7 a8 a9 g a c b i e h a20 j a22 a23 a24 a25 a26 a27 a28 a29 : V),f.blocks.length - k = d → k ≤ f.blocks.length →
  exec T zbx ⟨[a0,.one (.ptr 3 0 0 0),a2,a3,a4,a5,a6,a7,a8,a9,g,a,c,b,i,e,vL (f.blocks.map rb),vI f.blocks.length,vI k,h,a20,j,a22,a23,a24,a25,a26,a27,a28,a29],sD f level succ pred tree D [],3,5⟩ =
   some (match zc9 k D (f.blocks.drop k) with
    | (D1,none) => (.exit 2,⟨[vU,.one (.ptr 3 0 0 0),vU,vU,vU,vU,vU,vU,vU,vU,vU,vU,vU,vU,vU,vU,vU,vU,vU,vU,vU,vU,vU,vU,vU,vU,vU,vU,vU,vU],sD f level succ pred tree D1 [],3,5⟩)
    | (D1,some G) => (.ret,⟨[vU,vU,vI 7,vU,vU,vU,vU,vU,vU,vU,vU,vU,vU,vU,vU,vU,vU,vU,vU,vU,vU,vU,vU,vU,vU,vU,vU,vU,vU,vU],sD f level succ pred tree D1 G,3,5⟩)):=by
 intro d
 induction d with
 | zero =>
   intro k D a0 a2 a3 a4 a5 a6 a7 a8 a9 g a c b i e h a20 j a22 a23 a24 a25 a26 a27 a28 a29 s r;have l : k = f.blocks.length:=(by omega);subst l;rw [xl zbx rfl,zdT];simp -implicitDefEqProofs only [go_sem,stD,yq,yo,zc9]
 | succ d ih =>
   intro k D a0 a2 a3 a4 a5 a6 a7 a8 a9 g a c b i e h a20 j a22 a23 a24 a25 a26 a27 a28 a29 s r;have l : k < f.blocks.length:=(by omega);have hd : f.blocks.drop k = f.blocks[k] :: f.blocks.drop (k + 1):=yg l;have q:=hf.block _ (yt l);have m:=fun a0 a2 a3 a4 a7 a8 a9 g a c b i e h a23 a24 a25 a26 a27 a28 a29 => zBq f hf level succ pred tree f.blocks[k] q k f.blocks[k].phis.length 0 D a0 a2 a3 a4 a7 a8 a9 g a c b i e h a23 a24 a25 a26 a27 a28 a29 (by omega) (by omega);simp only [yr,yh] at m;rw [xl zbx rfl,zdT,hd,zc9];rcases e1 : zgT k D f.blocks[k].phis with ⟨D1,_ | p⟩
   ·have n:=fun a0 a2 a3 a4 a6 a7 a8 a9 g a c b i e h a20 j a22 a23 a24 a28 a29 => zBk f hf level succ pred tree f.blocks[k] q k f.blocks[k].ops.length 0 D1 a0 a2 a3 a4 a6 a7 a8 a9 g a c b i e h a20 j a22 a23 a24 a28 a29 (by omega) (by omega)
    simp only [yr,yh] at n;rcases e2 : zgv k 0 D1 f.blocks[k].ops with ⟨t,_ | o⟩
    ·have:=ih (k + 1) t vU vU vU vU vU vU vU vU vU vU vU vU vU vU vU vU vU vU vU vU vU vU vU vU vU vU (by omega) (by omega)
     simp -implicitDefEqProofs only [go_sem,stD,e1,e2] at m n this;simp -implicitDefEqProofs only [go_sem,stD,ilt l,zt l,rb,m,n,e2,zP,za l hf.blocks,this]
    ·simp -implicitDefEqProofs only [go_sem,stD,e1,e2] at m n
     simp -implicitDefEqProofs only [go_sem,stD,ilt l,zt l,rb,m,n,e2]
   ·simp -implicitDefEqProofs only [go_sem,stD,e1] at m
    simp -implicitDefEqProofs only [go_sem,stD,ilt l,zt l,rb,m]
end
attribute [go_sem] zBy O0 O2 P1 xS zS sD stD cM
def zj4 (f : PFunc) : ziO × Option (List Ob):=zc9 0 (zb4 0 [] f.params) f.blocks
theorem zpg (o : POp) : (zaa o).length ≤ o.args.length:=by
 unfold zaa;split
 ·rename_i h
  simp only [zeO,yc,decide_eq_true_eq] at h;omega
 ·simp
theorem zn3 (pred : List (List Int)) (tree : List Int) : ∀ (l : List PBlock) (i : Nat),ze2 pred tree i l = true → ∀ k (a : k < l.length),zsM pred tree (i + k) l[k] = true
 | [],_,_,k,a => by simp at a
 | b :: r,i,h,k,a => by
   simp only [ze2,yc] at h
   cases k with
   | zero => exact h.1
   | succ k =>
     have:=zn3 pred tree r (i + 1) h.2 k (by simpa using a);simpa [Nat.add_assoc,yF 1 k] using this
theorem zCR {f : PFunc} {pred : List (List Int)} {tree : List Int} (h : ze2 pred tree 0 f.blocks = true) : ∀ b ∈ f.blocks,zlj b:=fun b a => by
 obtain ⟨k,d,rfl⟩:=List.getElem_of_mem a;have:=zn3 pred tree f.blocks 0 h k d;simp only [zsM,yc,yu] at this;refine ⟨fun p c => ?_,fun o _ => zpg o⟩;have:=this.2.1 p c;simp only [zjr,yc,decide_eq_true_eq] at this;exact this.2
theorem zJD (f : PFunc) (level : Int) (succ pred : List (List Int)) (tree : List Int) (D : ziO) : Ok (sD f level succ pred tree D []):=by
 unfold Ok;simp -implicitDefEqProofs only [go_sem,stD,zP]
theorem zCh (f : PFunc) (level : Int) (succ pred : List (List Int)) (tree : List Int) (D : ziO) : Ok (sD f level succ pred tree D [P1]):=by
 unfold Ok;simp -implicitDefEqProofs only [go_sem,stD,zP]
section
variable (f : PFunc) (hf : okF f) (level : Int) (succ pred : List (List Int)) (tree : List Int) (hab : ∀ b ∈ f.blocks,zlj b)
include hf hab
theorem zvN : call T 161 [.one (.ptr 1 0 0 0)] [O0 f,zBy f level (xS succ) (xS pred) (zS tree) (.f (.lit (.map none))),O2] =
  some (vI (match zj4 f with | (D,none) => zab (zkR D) (zdU f) | (_,some _) => 7),sD f level succ pred tree (zj4 f).1 []):=by
 rw [ze (fn:=zbW) rfl];have i:=fun a0 a2 a3 a4 a5 a6 a7 a8 a9 d a c o m l g a20 b a22 a23 a24 a25 a26 a27 a28 a29 => zAd f hf level succ pred tree f.params.length 0 [] a0 a2 a3 a4 a5 a6 a7 a8 a9 d a c o m l g a20 b a22 a23 a24 a25 a26 a27 a28 a29 (by omega) (by omega);have h:=fun a0 a2 a3 a4 a5 a6 a7 a8 a9 d a k j n c g a20 b a22 a23 a24 a25 a26 a27 a28 a29 => zAU f hf level succ pred tree f.blocks.length 0 (zb4 0 [] f.params) a0 a2 a3 a4 a5 a6 a7 a8 a9 d a k j n c g a20 b a22 a23 a24 a25 a26 a27 a28 a29 (by omega) (by omega);have en : zgx zhn [] = []:=rfl;simp only [yr,yh] at i h;have ed : zj4 f = zc9 0 (zb4 0 [] f.params) f.blocks:=rfl;rw [ed];rcases e : zc9 0 (zb4 0 [] f.params) f.blocks with ⟨D,_ | G⟩
 ·have hu:=zrW f level (xS succ) (xS pred) (zS tree) (.map 4) 208 [.ptr 3 0 0 0] (sD f level succ pred tree D []) rfl (zJD _ _ _ _ _ _) rfl (zkR D)
   (fun r u p => zsD f level succ pred tree D r (by simpa [yF] using p) u) hf hab
  simp -implicitDefEqProofs only [go_sem,stD,e,en] at i h hu;simp -implicitDefEqProofs only [go_sem,zbW,i,h,hu,zP,e]
 ·simp -implicitDefEqProofs only [go_sem,stD,e,en] at i h
  simp -implicitDefEqProofs only [go_sem,zbW,i,h,zP,e,ya]
  by_cases q : G.length ≤ 0
  ·have : G = []:=yx (by omega)
   subst this;rfl
  ·rw [if_neg q]
   rfl
theorem zxF (D : ziO) : call T 162 [.one (.ptr 1 0 0 0)] (sD f level succ pred tree D []) = some (vI (zab (zbS D) (zdU f)),sD f level succ pred tree D []):=by
 rw [ze (fn:=zev) rfl]
 have hu:=zrW f level (xS succ) (xS pred) (zS tree) (.map 4) 209 [.ptr 5 0 0 0] (sD f level succ pred tree D [P1]) rfl (zCh _ _ _ _ _ _) rfl (zbS D)
  (fun r u a => zuN f level succ pred tree D r (by simpa [yF] using a) u) hf hab
 simp -implicitDefEqProofs only [go_sem,stD] at hu;simp -implicitDefEqProofs only [go_sem,zev,stD,hu,zP]
theorem zxS (a : tree.length ≤ 4294967296) (D : ziO) : call T 163 [.one (.ptr 1 0 0 0)] (sD f level succ pred tree D []) = some (vI (zab (za0 D tree) (zdU f)),sD f level succ pred tree D []):=by
 rw [ze (fn:=zeP) rfl]
 have hu:=zrW f level (xS succ) (xS pred) (zS tree) (.map 4) 210 [.ptr 5 0 0 0] (sD f level succ pred tree D [P1]) rfl (zCh _ _ _ _ _ _) rfl (za0 D tree)
  (fun r u b => zuM f level succ pred tree D r (by simpa [yF] using b) a u) hf hab
 simp -implicitDefEqProofs only [go_sem,stD] at hu;simp -implicitDefEqProofs only [go_sem,zeP,stD,hu,zP]
end
def ziQ (f : PFunc) (level : Int) (tree : List Int) : Int :=
 if zm8 f = false then 4 else if zgZ f tree = false then 5 else if zfB f level = false then 6 else
 match zj4 f with
 | (_,some _) => 7
 | (D,none) => if zab (zkR D) (zdU f) ≠ 0 then zab (zkR D) (zdU f) else if zab (zbS D) (zdU f) ≠ 0 then zab (zbS D) (zdU f) else zab (za0 D tree) (zdU f)
def zm6 (f : PFunc) (tree : List Int) : Prop:=tree.length ≤ 4294967296 ∧ (zaQ f = true → call T 195 [.agg [.f (.sl ((zn f).map rl)),.f (.sl ((z7 (zn f)).map rl))],vI 0] [] = some (vIs tree,[]))
theorem n5 : ((5 : Nat) : Int) = 5:=rfl
theorem wr1 : Go.IntKind.i64.wrap 1 = 1:=by decide
theorem wr2 : Go.IntKind.i64.wrap 2 = 2:=by decide
theorem wr3 : Go.IntKind.i64.wrap 3 = 3:=by decide
theorem wr4 : Go.IntKind.i64.wrap 4 = 4:=by decide
theorem wr5 : Go.IntKind.i64.wrap 5 = 5:=by decide
attribute [go_sem] n5 wr1 wr2 wr3 wr4 wr5
set_option maxRecDepth 10000 in
theorem zw3 (f : PFunc) (hf : okF f) (level : Int) (tree : List Int) (g : zm6 f tree) : ∃ σ',call T 110 [za9 f,vI level] [] = some (.tup [.one (.ptr 1 0 0 0),vI (ziQ f level tree)],σ') ∧ (ziQ f level tree = 0 → σ' = sD f level (zn f) (z7 (zn f)) tree (zj4 f).1 []):=by
 rw [ze (fn:=zbp) rfl];have hm:=zu1 f hf;cases e0 : zm8 f
 ·rw [e0] at hm
  simp -implicitDefEqProofs only [go_sem] at hm;simp -implicitDefEqProofs only [go_sem,zbp,hm,ziQ,e0];exact ⟨_,rfl,fun h => by first | exact h.elim | simp at h⟩
 rw [e0] at hm;cases e1 : zaQ f
 ·have a:=zst f hf level e1
  have e2 : zgZ f tree = false:=by simp [zgZ,e1]
  simp -implicitDefEqProofs only [go_sem] at hm a;simp -implicitDefEqProofs only [go_sem,zbp,hm,ziQ,e0,e2,xl zbU rfl,zbX,a];exact ⟨_,rfl,fun h => by first | exact h.elim | simp at h⟩
 have a:=zuF f hf level e1 tree g.1 (g.2 e1);cases e2 : ze2 (z7 (zn f)) tree 0 f.blocks
 ·have b : zgZ f tree = false:=by simp [zgZ,e2]
  rw [e2] at a;simp -implicitDefEqProofs only [go_sem] at hm a;simp -implicitDefEqProofs only [go_sem,zbp,hm,ziQ,e0,b,xl zbU rfl,zbX,a];exact ⟨_,rfl,fun h => by first | exact h.elim | simp at h⟩
 have b : zgZ f tree = true:=by simp [zgZ,e1,e2]
 have hab:=zCR e2;have c:=zAI f level (xS (zn f)) (xS (z7 (zn f))) (zS tree) (.f (.lit (.map none))) [O0 f,zBy f level (xS (zn f)) (xS (z7 (zn f))) (zS tree) (.f (.lit (.map none))),O2] rfl (by unfold Ok; simp -implicitDefEqProofs only [go_sem]) hf;rw [e2] at a;cases e3 : zfB f level
 ·rw [e3] at c
  simp -implicitDefEqProofs only [go_sem] at hm a c;simp -implicitDefEqProofs only [go_sem,zbp,hm,ziQ,e0,b,e3,xl zbU rfl,zbX,a,c];exact ⟨_,rfl,fun h => by first | exact h.elim | simp at h⟩
 rw [e3] at c;have hd:=zvN f hf level (zn f) (z7 (zn f)) tree hab;rcases e4 : zj4 f with ⟨D,_ | G⟩
 ·rw [e4] at hd
  by_cases e5 : zab (zkR D) (zdU f) = 0
  ·have d:=zxF f hf level (zn f) (z7 (zn f)) tree hab D
   by_cases e6 : zab (zbS D) (zdU f) = 0
   ·have e:=zxS f hf level (zn f) (z7 (zn f)) tree hab g.1 D
    by_cases e7 : zab (za0 D tree) (zdU f) = 0
    ·simp -implicitDefEqProofs only [go_sem,e5,e6,e7] at hm a c hd d e
     simp -implicitDefEqProofs only [go_sem,zbp,hm,ziQ,e0,b,e3,e4,e5,e6,e7,xl zbU rfl,zbX,a,c,hd,d,e,zP,ne_eq];exact ⟨_,rfl,fun _ => rfl⟩
    ·simp -implicitDefEqProofs only [go_sem,e5,e6] at hm a c hd d e
     simp -implicitDefEqProofs only [go_sem,zbp,hm,ziQ,e0,b,e3,e4,e5,e6,e7,xl zbU rfl,zbX,a,c,hd,d,e,zP,ne_eq];exact ⟨_,rfl,fun h => by first | exact absurd h e7 | exact h.elim⟩
   ·simp -implicitDefEqProofs only [go_sem,e5] at hm a c hd d
    simp -implicitDefEqProofs only [go_sem,zbp,hm,ziQ,e0,b,e3,e4,e5,e6,xl zbU rfl,zbX,a,c,hd,d,zP,ne_eq];exact ⟨_,rfl,fun h => by first | exact absurd h e6 | exact h.elim⟩
  ·simp -implicitDefEqProofs only [go_sem] at hm a c hd
   simp -implicitDefEqProofs only [go_sem,zbp,hm,ziQ,e0,b,e3,e4,e5,xl zbU rfl,zbX,a,c,hd,zP,ne_eq];exact ⟨_,rfl,fun h => by first | exact absurd h e5 | exact h.elim⟩
 ·rw [e4] at hd
  simp -implicitDefEqProofs only [go_sem] at hm a c hd;simp -implicitDefEqProofs only [go_sem,zbp,hm,ziQ,e0,b,e3,e4,xl zbU rfl,zbX,a,c,hd,zP,ne_eq];exact ⟨_,rfl,fun h => by first | exact h.elim | simp at h⟩
def zna (f : PFunc) (level : Int) (tree : List Int) : Int:=if level < 0 ∨ 2 < level then 1 else ziQ f level tree
@[go_sem] theorem zsT (f : PFunc) (b : okF f) (level : Int) (tree : List Int) (a : zm6 f tree) : call T 51 [za9 f,vI level] [] = some (vI (zna f level tree),[]):=by
  rw [ze (fn:=zgP) rfl]
  by_cases c1 : level < 0
  ·simp -implicitDefEqProofs only [go_sem,zgP,zna,c1]
  by_cases c2 : 2 < level
  ·simp -implicitDefEqProofs only [go_sem,zgP,zna,c1,c2]
  obtain ⟨σ',h,_⟩:=zw3 f b level tree a;simp -implicitDefEqProofs only [go_sem] at h;simp -implicitDefEqProofs only [go_sem,zgP,zna,c1,c2,h]
theorem zz6 (f : PFunc) (hf : okF f) : ∀ (d k : Nat) (a0 a2 a5 : V),f.blocks.length - k = d → k ≤ f.blocks.length →
  exec T zcZ ⟨[a0,.one (.ptr 0 0 0 0),a2,vI ((k + ((f.blocks.map fun b => b.phis.length + b.ops.length).take k).sum : Nat) : Int),vI k,a5],[.cells 0 3 [zaP f]],0,0⟩ =
   some (.exit 0,⟨[vU,vU,vU,vI (ziR f : Int),vU,vU],[.cells 0 3 [zaP f]],0,0⟩):=by
 intro d
 induction d with
 | zero =>
   intro k a0 a2 a5 j h;have a : k = f.blocks.length:=(by omega);subst a;rw [xl zcZ rfl,zfv];have e : (f.blocks.map fun b => b.phis.length + b.ops.length).take f.blocks.length = f.blocks.map fun b => b.phis.length + b.ops.length:=List.take_of_length_le (by simp);simp -implicitDefEqProofs only [go_sem,yq,e,ziR,yb]
 | succ d ih =>
   intro k a0 a2 a5 j h;have a : k < f.blocks.length:=(by omega);have c : k < (f.blocks.map fun b => b.phis.length + b.ops.length).length:=(by simpa using a);have e:=zoH (f.blocks.map fun b => b.phis.length + b.ops.length) k c;have e2:=zrj (f.blocks.map fun b => b.phis.length + b.ops.length) (k + 1);have e3:=hf.small;have e4:=hf.blocks;simp only [List.getElem_map] at e
   have g : Go.IntKind.i64.wrap (((k + ((f.blocks.map fun b => b.phis.length + b.ops.length).take k).sum : Nat) : Int) + (f.blocks[k].phis.length : Int)) = ((k + ((f.blocks.map fun b => b.phis.length + b.ops.length).take k).sum : Nat) : Int) + (f.blocks[k].phis.length : Int):=by
    rw [wrap_i64] <;> omega
   have l : Go.IntKind.i64.wrap (((k + ((f.blocks.map fun b => b.phis.length + b.ops.length).take k).sum : Nat) : Int) + (f.blocks[k].phis.length : Int) + (f.blocks[k].ops.length : Int)) = ((k + ((f.blocks.map fun b => b.phis.length + b.ops.length).take k).sum : Nat) : Int) + (f.blocks[k].phis.length : Int) + (f.blocks[k].ops.length : Int):=by
    rw [wrap_i64] <;> omega
   have i : Go.IntKind.i64.wrap (((k + ((f.blocks.map fun b => b.phis.length + b.ops.length).take k).sum : Nat) : Int) + (f.blocks[k].phis.length : Int) + (f.blocks[k].ops.length : Int) + 1) = ((k + 1 + ((f.blocks.map fun b => b.phis.length + b.ops.length).take (k + 1)).sum : Nat) : Int):=by
    rw [wrap_i64] <;> omega
   have:=ih (k + 1) vU vU vU (by omega) (by omega);rw [xl zcZ rfl,zfv];simp -implicitDefEqProofs only [go_sem] at this;simp -implicitDefEqProofs only [go_sem,ilt a,zt a,rb,g,l,i,za a hf.blocks,yb,this]
theorem zxd (f : PFunc) (hf : okF f) : call T 123 [za9 f] [] = some (vI (ziR f : Int),[]):=by
 rw [ze (fn:=zfP) rfl];have h:=fun a0 a2 a5 => zz6 f hf f.blocks.length 0 a0 a2 a5 (by omega) (by omega);simp only [List.take_zero,List.sum_nil,yG,yh] at h;simp -implicitDefEqProofs only [go_sem] at h;simp -implicitDefEqProofs only [go_sem,zfP,h]
section
variable (f : PFunc) (hf : okF f)
abbrev st4 (f : PFunc) (b : PBlock) : zd:=[.cells 0 3 [zaP f],.cells 0 5 [zx b]]
include hf
theorem zEB (b : PBlock) (m : okB b) (i : Int) : ∀ (d k : Nat) (a0 a2 a6 a7 a8 a9 j c g e l h : V),b.phis.length - k = d → k ≤ b.phis.length →
  exec T zdD ⟨[a0,.one (.ptr 0 0 0 0),a2,vI i,.one (.ptr 1 0 0 0),vI k,a6,a7,a8,a9,j,c,g,e,l,h],st4 f b,0,0⟩ =
   some (match (b.phis.drop k).find? (fun x => !ziU x) with | none => (.exit 2,⟨[vU,.one (.ptr 0 0 0 0),vU,vI i,.one (.ptr 1 0 0 0),vU,vU,vU,vU,vU,vU,vU,vU,vU,vU,vU],st4 f b,0,0⟩) | some x => (.ret,⟨[vU,vU,vB false,vU,vU,vU,vU,vU,vU,vU,vU,vU,vU,vU,vU,vU],st4 f b ++ [.cells 0 4 [zyy x]],0,0⟩)):=by
 intro d
 induction d with
 | zero =>
   intro k a0 a2 a6 a7 a8 a9 j c g e l h p o;have a : k = b.phis.length:=(by omega);subst a;rw [xl zdD rfl,zfO];simp -implicitDefEqProofs only [go_sem,st4,yq,yb,yo,yP]
 | succ d ih =>
   intro k a0 a2 a6 a7 a8 a9 j c g e l h p o;have a : k < b.phis.length:=(by omega);have hd : b.phis.drop k = b.phis[k] :: b.phis.drop (k + 1):=yg a;have n:=m.phi _ (yt a);have c1:=zdq b.phis[k].bits;have c2:=zdq b.phis[k].dst;have c3:=zhx b.phis[k].src n.1;have c4:=zhx b.phis[k].args n.2;have:=ih (k + 1) vU vU vU vU vU vU vU vU vU vU vU vU (by omega) (by omega);rw [xl zdD rfl,zfO,hd];simp -implicitDefEqProofs only [go_sem,st4] at this;cases e1 : num b.phis[k].bits
   ·simp -implicitDefEqProofs only [go_sem,e1] at c1
    simp -implicitDefEqProofs only [go_sem,st4,ilt a,zt a,rp,yb,c1,ziU,yi,e1]
   simp -implicitDefEqProofs only [go_sem,e1] at c1;cases e2 : num b.phis[k].dst
   ·simp -implicitDefEqProofs only [go_sem,e2] at c2
    simp -implicitDefEqProofs only [go_sem,st4,ilt a,zt a,rp,yb,c1,c2,ziU,yi,e1,e2]
   simp -implicitDefEqProofs only [go_sem,e2] at c2;cases e3 : zgf b.phis[k].src
   ·simp -implicitDefEqProofs only [go_sem,e3] at c3
    simp -implicitDefEqProofs only [go_sem,st4,ilt a,zt a,rp,yb,c1,c2,c3,ziU,yi,e1,e2,e3]
   simp -implicitDefEqProofs only [go_sem,e3] at c3;cases e4 : zgf b.phis[k].args
   ·simp -implicitDefEqProofs only [go_sem,e4] at c4
    simp -implicitDefEqProofs only [go_sem,st4,ilt a,zt a,rp,yb,c1,c2,c3,c4,ziU,yi,e1,e2,e3,e4]
   simp -implicitDefEqProofs only [go_sem,e4] at c4;simp -implicitDefEqProofs only [go_sem,st4,ilt a,zt a,rp,yb,c1,c2,c3,c4,ziU,yi,e1,e2,e3,e4,za a m.phis,this]
theorem zBJ (b : PBlock) (m : okB b) (i : Int) : ∀ (d k : Nat) (a0 a2 a5 a6 a8 a9 j c g e l h : V),b.ops.length - k = d → k ≤ b.ops.length →
  exec T zds ⟨[a0,.one (.ptr 0 0 0 0),a2,vI i,.one (.ptr 1 0 0 0),a5,a6,vI k,a8,a9,j,c,g,e,l,h],st4 f b,0,0⟩ =
   some (match (b.ops.drop k).find? (fun x => !zh5 x) with | none => (.exit 4,⟨[vU,.one (.ptr 0 0 0 0),vU,vI i,.one (.ptr 1 0 0 0),vU,vU,vU,vU,vU,vU,vU,vU,vU,vU,vU],st4 f b,0,0⟩) | some x => (.ret,⟨[vU,vU,vB false,vU,vU,vU,vU,vU,vU,vU,vU,vU,vU,vU,vU,vU],st4 f b ++ [.cells 0 6 [cOp x]],0,0⟩)):=by
 intro d
 induction d with
 | zero =>
   intro k a0 a2 a5 a6 a8 a9 j c g e l h p o;have a : k = b.ops.length:=(by omega);subst a;rw [xl zds rfl,zfD];simp -implicitDefEqProofs only [go_sem,st4,yq,yb,yo,yP]
 | succ d ih =>
   intro k a0 a2 a5 a6 a8 a9 j c g e l h p o;have a : k < b.ops.length:=(by omega);have hd : b.ops.drop k = b.ops[k] :: b.ops.drop (k + 1):=yg a;have n:=m.op _ (yt a);have c1:=zdq b.ops[k].kind;have c2:=zdq b.ops[k].bits;have c3:=zdq b.ops[k].lanes;have c4:=zdq b.ops[k].dst;have c5:=zhx b.ops[k].args n.2;have:=ih (k + 1) vU vU vU vU vU vU vU vU vU vU vU vU (by omega) (by omega);rw [xl zds rfl,zfD,hd];simp -implicitDefEqProofs only [go_sem,st4] at this;cases e1 : num b.ops[k].kind
   ·simp -implicitDefEqProofs only [go_sem,e1] at c1
    simp -implicitDefEqProofs only [go_sem,st4,ilt a,zt a,ro,yb,c1,zh5,yi,e1]
   simp -implicitDefEqProofs only [go_sem,e1] at c1;cases e2 : num b.ops[k].bits
   ·simp -implicitDefEqProofs only [go_sem,e2] at c2
    simp -implicitDefEqProofs only [go_sem,st4,ilt a,zt a,ro,yb,c1,c2,zh5,yi,e1,e2]
   simp -implicitDefEqProofs only [go_sem,e2] at c2;cases e3 : num b.ops[k].lanes
   ·simp -implicitDefEqProofs only [go_sem,e3] at c3
    simp -implicitDefEqProofs only [go_sem,st4,ilt a,zt a,ro,yb,c1,c2,c3,zh5,yi,e1,e2,e3]
   simp -implicitDefEqProofs only [go_sem,e3] at c3;cases e4 : num b.ops[k].dst
   ·simp -implicitDefEqProofs only [go_sem,e4] at c4
    simp -implicitDefEqProofs only [go_sem,st4,ilt a,zt a,ro,yb,c1,c2,c3,c4,zh5,yi,e1,e2,e3,e4]
   simp -implicitDefEqProofs only [go_sem,e4] at c4;cases e5 : zgf b.ops[k].args
   ·simp -implicitDefEqProofs only [go_sem,e5] at c5
    simp -implicitDefEqProofs only [go_sem,st4,ilt a,zt a,ro,yb,c1,c2,c3,c4,c5,zh5,yi,e1,e2,e3,e4,e5]
   simp -implicitDefEqProofs only [go_sem,e5] at c5;simp -implicitDefEqProofs only [go_sem,st4,ilt a,zt a,ro,yb,c1,c2,c3,c4,c5,zh5,yi,e1,e2,e3,e4,e5,za a m.ops,this]
theorem zBT : ∀ (d k : Nat),f.blocks.length - k = d → k ≤ f.blocks.length →
  ∃ r,∀ (a0 a2 a4 a5 a6 a7 a8 a9 g a c b h e : V),exec T z6 ⟨[a0,.one (.ptr 0 0 0 0),a2,vI k,a4,a5,a6,a7,a8,a9,g,a,c,b,h,e],[.cells 0 3 [zaP f]],0,0⟩ =
    some (if (f.blocks.drop k).all zsq = true then (.exit 0,⟨[vU,vU,vU,vU,vU,vU,vU,vU,vU,vU,vU,vU,vU,vU,vU,vU],[.cells 0 3 [zaP f]],0,0⟩) else (.ret,⟨[vU,vU,vB false,vU,vU,vU,vU,vU,vU,vU,vU,vU,vU,vU,vU,vU],.cells 0 3 [zaP f] :: r,0,0⟩)):=by
 intro d
 induction d with
 | zero =>
   intro k s q;have j : k = f.blocks.length:=(by omega);subst j;refine ⟨[],fun a0 a2 a4 a5 a6 a7 a8 a9 g a c b h e => ?_⟩;rw [xl z6 rfl,zai];simp -implicitDefEqProofs only [go_sem,yq,yb,yo,List.all_nil]
 | succ d ih =>
   intro k s q;have j : k < f.blocks.length:=(by omega);have hd : f.blocks.drop k = f.blocks[k] :: f.blocks.drop (k + 1):=yg j;have o:=hf.block _ (yt j);have l:=fun a0 a2 a6 a7 a8 a9 g a c b h e => zEB f hf f.blocks[k] o k f.blocks[k].phis.length 0 a0 a2 a6 a7 a8 a9 g a c b h e (by omega) (by omega);have i:=fun a0 a2 a5 a6 a8 a9 g a c b h e => zBJ f hf f.blocks[k] o k f.blocks[k].ops.length 0 a0 a2 a5 a6 a8 a9 g a c b h e (by omega) (by omega);have c1:=zdq f.blocks[k].kind;have c2:=zdq f.blocks[k].arg;have c3:=zhx f.blocks[k].to o.to;simp only [yr,yh] at l i;obtain ⟨r,p⟩:=ih (k + 1) (by omega) (by omega);simp -implicitDefEqProofs only [go_sem] at p
   cases e1 : f.blocks[k].phis.find? (fun x => !ziU x) with
   | some x =>
     have m:=zfp e1;simp -implicitDefEqProofs only [go_sem,st4,e1] at l;refine ⟨[.cells 0 5 [zx f.blocks[k]],.cells 0 4 [zyy x]],fun a0 a2 a4 a5 a6 a7 a8 a9 g a c b h e => ?_⟩;rw [xl z6 rfl,zai,hd,yy];simp -implicitDefEqProofs only [go_sem,ilt j,zt j,rb,yb,l,zsq,m]
   | none =>
   have m:=ze4 e1;simp -implicitDefEqProofs only [go_sem,st4,e1] at l
   cases e2 : f.blocks[k].ops.find? (fun x => !zh5 x) with
   | some x =>
     have n:=zfp e2;simp -implicitDefEqProofs only [go_sem,st4,e2] at i;refine ⟨[.cells 0 5 [zx f.blocks[k]],.cells 0 6 [cOp x]],fun a0 a2 a4 a5 a6 a7 a8 a9 g a c b h e => ?_⟩;rw [xl z6 rfl,zai,hd,yy];simp -implicitDefEqProofs only [go_sem,ilt j,zt j,rb,yb,l,i,zsq,m,n]
   | none =>
   have n:=ze4 e2;simp -implicitDefEqProofs only [go_sem,st4,e2] at i;cases e3 : num f.blocks[k].kind
   ·simp -implicitDefEqProofs only [go_sem,e3] at c1
    refine ⟨[.cells 0 5 [zx f.blocks[k]]],fun a0 a2 a4 a5 a6 a7 a8 a9 g a c b h e => ?_⟩;rw [xl z6 rfl,zai,hd,yy];simp -implicitDefEqProofs only [go_sem,ilt j,zt j,rb,yb,l,i,c1,zsq,zpJ,m,n,e3]
   simp -implicitDefEqProofs only [go_sem,e3] at c1;cases e4 : num f.blocks[k].arg
   ·simp -implicitDefEqProofs only [go_sem,e4] at c2
    refine ⟨[.cells 0 5 [zx f.blocks[k]]],fun a0 a2 a4 a5 a6 a7 a8 a9 g a c b h e => ?_⟩;rw [xl z6 rfl,zai,hd,yy];simp -implicitDefEqProofs only [go_sem,ilt j,zt j,rb,yb,l,i,c1,c2,zsq,zpJ,m,n,e3,e4]
   simp -implicitDefEqProofs only [go_sem,e4] at c2;cases e5 : zgf f.blocks[k].to
   ·simp -implicitDefEqProofs only [go_sem,e5] at c3
    refine ⟨[.cells 0 5 [zx f.blocks[k]]],fun a0 a2 a4 a5 a6 a7 a8 a9 g a c b h e => ?_⟩;rw [xl z6 rfl,zai,hd,yy];simp -implicitDefEqProofs only [go_sem,ilt j,zt j,rb,yb,l,i,c1,c2,c3,zsq,zpJ,m,n,e3,e4,e5]
   simp -implicitDefEqProofs only [go_sem,e5] at c3;refine ⟨r,fun a0 a2 a4 a5 a6 a7 a8 a9 g a c b h e => ?_⟩;rw [xl z6 rfl,zai,hd,yy];simp -implicitDefEqProofs only [go_sem,ilt j,zt j,rb,yb,l,i,c1,c2,c3,zsq,zpJ,m,n,e3,e4,e5,za j hf.blocks,p]
end
theorem zwU {l : List Int} (h : l.length ≤ 64) : zgf l = l.all num:=by
 unfold zgf;rw [decide_eq_true h,yS]
theorem zxu (f : PFunc) (hf : okF f) : call T 70 [za9 f] [] = some (vB (zm8 f),[]):=by
 rw [ze (fn:=zV) rfl];have i:=zxd f hf;have g:=zdq f.ret;have e:=zhx f.params hf.params;simp -implicitDefEqProofs only [go_sem] at i g e
 by_cases c1 : f.blocks.length < 1
 ·have a : (f.blocks.length : Int) = 0:=by omega
  simp -implicitDefEqProofs only [go_sem,zV,zm8,c1,eq_true a,yb]
 have a : ¬ (f.blocks.length : Int) = 0:=by omega
 by_cases c2 : 64 < f.blocks.length
 ·have b : (f.blocks.length : Int) > 64:=by omega
  simp -implicitDefEqProofs only [go_sem,zV,zm8,c1,a,c2,eq_true b,yb]
 have b : ¬ (f.blocks.length : Int) > 64:=by omega
 by_cases c3 : 16 < f.params.length
 ·have c : (f.params.length : Int) > 16:=by omega
  simp -implicitDefEqProofs only [go_sem,zV,zm8,c1,a,c2,b,c3,eq_true c,yb]
 have c : ¬ (f.params.length : Int) > 16:=by omega
 rw [zwU (by omega)] at e;cases c6 : f.params.all num
 ·simp -implicitDefEqProofs only [go_sem,c6] at e
  simp -implicitDefEqProofs only [go_sem,zV,zm8,c1,a,c2,b,c3,c,e,c6,yb,yT]
 simp -implicitDefEqProofs only [go_sem,c6] at e;cases c5 : num f.ret
 ·simp -implicitDefEqProofs only [go_sem,c5] at g
  simp -implicitDefEqProofs only [go_sem,zV,zm8,c1,a,c2,b,c3,c,e,g,c6,c5,yb,yT]
 simp -implicitDefEqProofs only [go_sem,c5] at g
 by_cases c4 : 512 < ziR f
 ·have d : (ziR f : Int) > 512:=by omega
  simp -implicitDefEqProofs only [go_sem,zV,zm8,c1,a,c2,b,c3,c,i,c4,eq_true d,e,g,c6,c5,yb]
 have d : ¬ (ziR f : Int) > 512:=by omega
 obtain ⟨r,h⟩:=zBT f hf f.blocks.length 0 (by omega) (by omega);simp only [yr,yh] at h;cases c7 : f.blocks.all zsq
 ·simp -implicitDefEqProofs only [go_sem,c7] at h
  simp -implicitDefEqProofs only [go_sem,zV,zm8,c1,a,c2,b,c3,c,i,c4,d,e,g,c6,c5,c7,h,yb]
 ·simp -implicitDefEqProofs only [go_sem,c7] at h
  simp -implicitDefEqProofs only [go_sem,zV,zm8,c1,a,c2,b,c3,c,i,c4,d,e,g,c6,c5,c7,h,yb]
theorem zii {f : PFunc} (h : zm8 f = true) : 1 ≤ f.blocks.length ∧ f.blocks.length ≤ 64 ∧ f.params.length ≤ 16 ∧ ziR f ≤ 512 ∧ ∀ b ∈ f.blocks,zsq b = true:=by
 unfold zm8 at h;simp only [yc,yz,yH,decide_eq_false_iff_not,yu] at h;exact ⟨by omega,by omega,by omega,by omega,h.2⟩
theorem zwu {l : List Int} (h : zgf l = true) : l.length ≤ 64:=by
 unfold zgf at h;simp only [yc,decide_eq_true_eq] at h;exact h.1
theorem zsP {b : PBlock} (h : zsq b = true) : (∀ p ∈ b.phis,p.args.length ≤ 64) ∧ ∀ o ∈ b.ops,o.args.length ≤ 64:=by
 unfold zsq at h;simp only [yc,yu] at h;refine ⟨fun p c => ?_,fun o a => ?_⟩
 ·have:=h.1 p c
  unfold ziU at this;simp only [yc] at this;exact zwu this.2.2
 ·have:=h.2.1 o a
  unfold zh5 at this;simp only [yc] at this;exact zwu this.2
theorem zq9 : ∀ (l : List PPhi),(∀ p ∈ l,p.args.length ≤ 64) → (zaF l).length ≤ 64 * l.length
 | [],_ => by simp [zaF]
 | p :: l,h => by
   have b:=zq9 l fun q c => h q (yk _ c);have d:=h p yj
   have a : ∀ (l : List Int) (j : Nat),(zX p j l).length = l.length:=by
    intro l
    induction l with
    | nil => intro j; rfl
    | cons x l b => intro j; rw [zX,yp,b,yp]
   have e : zaF (p :: l) = zg4 p ++ zaF l:=rfl;have e2 : (zg4 p).length = p.args.length:=a _ 0;rw [e,yl,e2,yp];omega
theorem zmX (o : POp) (i at' : Int) : ∀ (l : List (Int × Int)) (k : Nat),(zy o i at' k l).length = l.length
 | [],_ => rfl
 | s :: r,k => by rw [zy,yp,zmX o i at' r,yp]
theorem ztr (i : Int) : ∀ (l : List POp) (k : Nat),(∀ o ∈ l,o.args.length ≤ 64) → (zk i k l).length ≤ 64 * l.length
 | [],_,_ => by simp [zk]
 | o :: l,k,h => by
   have d:=ztr i l (k + 1) fun q a => h q (yk _ a);have b:=h o yj;have c:=zpg o;have e2 : (zln o i (k : Int)).length = (zaa o).length:=zmX _ _ _ _ _;rw [zk,yl,e2,yp];omega
theorem zrc (f : PFunc) : ∀ (l : List PBlock) (k : Nat),(∀ b ∈ l,zsq b = true) → (zaH f k l).length ≤ 64 * (l.map fun b => b.phis.length + b.ops.length).sum + l.length
 | [],_,_ => by simp [zaH]
 | b :: l,k,h => by
   have e:=zrc f l (k + 1) fun q a => h q (yk _ a);obtain ⟨c,d⟩:=zsP (h b yj);have e1:=zq9 b.phis c;have e2:=ztr (k : Int) b.ops 0 d
   have e3 : (zbP f k b).length ≤ 1:=by
    unfold zbP;split <;> simp
   rw [zaH,zgE,yl,yl,yl,yw,yK,yp];omega
theorem zFC {f : PFunc} (h : zm8 f = true) : (zdU f).length ≤ 40000:=by
 obtain ⟨c,e,d,b,a⟩:=zii h;have:=zrc f f.blocks 0 a;unfold ziR at b;unfold zdU;omega
theorem zFj {f : PFunc} (h : zm8 f = true) : (zD f).length ≤ 600:=by
 obtain ⟨c,g,e,a,d⟩:=zii h
 have key : ∀ (l : List PBlock) (k : Nat),(zah k l).length ≤ (l.map fun b => b.phis.length + b.ops.length).sum:=by
  intro l
  induction l with
  | nil => intro k; simp [zah]
  | cons b l ih =>
    intro k;have:=zkf (k : Int) b.ops 0;have:=ih (k + 1);rw [zah,yl,yl,yw,yK];simp only [zdk,yb];omega
 have:=key f.blocks 0;unfold ziR at a;rw [zD,yl,zhH];omega
theorem zm1 (pred : List (List Int)) (reach : List Bool) : ∀ (l : List PBlock) (i : Nat),zb0 pred reach i l = true → ∀ b ∈ l,∃ j,zlk pred reach j b = true
 | [],_,_ => by simp
 | b :: l,i,h => by
   rw [zb0,yc] at h;intro c a;rcases yA.1 a with rfl | a
   ·exact ⟨i,h.1⟩
   ·exact zm1 pred reach l (i + 1) h.2 c a
theorem zGR {f : PFunc} (h : zhu f = true) : ∀ b ∈ f.blocks,zlj b:=fun b d => by
 unfold zhu at h;rw [yc] at h;obtain ⟨j,a⟩:=zm1 _ _ _ _ h.2 b d;unfold zlk at a;simp only [yc,yu] at a;refine ⟨fun p c => ?_,fun o _ => zpg o⟩;have:=a.2.2 p c;unfold zjr at this;simp only [yc,decide_eq_true_eq] at this;exact this.2
def zec (f : PFunc) : List Use:=(zdU f).map zad
def zap (f : PFunc) (level : Int) : Int :=
 if level < 0 ∨ 2 < level then 1 else if zm8 f = false then 4 else if zhu f = false then 5 else if zfB f level = false then 6 else
 if zgj (zD f) 0 (zD f) = false then 7 else if (zec f).all (zl8 (zD f)) = false then 7 else if (zec f).all (sameShape (zD f)) = false then 6 else
 if (zec f).all (zhG (zD f) (zdK (zn f) 0)) = false then 7 else 0
theorem zJn {f : PFunc} {level : Int} (h : zfB f level = true) : ¬ f.ret = 0:=by
 unfold zfB at h;rw [yc] at h;have:=zaW h.1;omega
set_option maxRecDepth 10000 in
theorem zvd (f : PFunc) (v : okF f) (level : Int) : call T 30 [za9 f,vI level] [] = some (vI (zap f level),[]):=by
 rw [ze (fn:=zq) rfl]
 by_cases c1 : level < 0
 ·have e : zap f level = 1:=by unfold zap; rw [if_pos (.inl c1)]
  rw [e];simp -implicitDefEqProofs only [go_sem,zq,eq_true c1]
 by_cases c2 : 2 < level
 ·have e : zap f level = 1:=by unfold zap; rw [if_pos (.inr c2)]
  have c : level > 2:=c2;rw [e];simp -implicitDefEqProofs only [go_sem,zq,c1,eq_true c]
 have c : ¬ level > 2:=c2;have N : level = 0 ∨ level = 1 ∨ level = 2:=by omega
 have z:=zxu f v;cases m : zm8 f
 ·have e : zap f level = 4:=by unfold zap; rw [if_neg (by omega),if_pos m]
  simp -implicitDefEqProofs only [go_sem,m] at z;rw [e];simp -implicitDefEqProofs only [go_sem,zq,c1,c,z]
 simp -implicitDefEqProofs only [go_sem,m] at z;have A:=zt6 f v;cases s : zhu f
 ·have e : zap f level = 5:=by unfold zap; rw [if_neg (by omega),if_neg (by simp [m]),if_pos s]
  simp -implicitDefEqProofs only [go_sem,s] at A;rw [e];simp -implicitDefEqProofs only [go_sem,zq,c1,c,z,A]
 simp -implicitDefEqProofs only [go_sem,s] at A;have D:=zue f v level N;cases t : zfB f level
 ·have e : zap f level = 6:=by unfold zap; rw [if_neg (by omega),if_neg (by simp [m]),if_neg (by simp [s]),if_pos t]
  simp -implicitDefEqProofs only [go_sem,t] at D;rw [e];simp -implicitDefEqProofs only [go_sem,zq,c1,c,z,A,D]
 simp -implicitDefEqProofs only [go_sem,t] at D;obtain ⟨Z,n64,np,L,nb⟩:=zii m;have V:=zFj m;have U:=zFC m;have I:=zwP f v (by unfold ziR at L; omega)
 have R : ∀ b ∈ f.blocks,b.ops.length ≤ 1048576:=fun b W => by
  have E : b.phis.length + b.ops.length ≤ (f.blocks.map fun b => b.phis.length + b.ops.length).sum:=by
   have key : ∀ l : List PBlock,b ∈ l → b.phis.length + b.ops.length ≤ (l.map fun b => b.phis.length + b.ops.length).sum:=by
    intro l
    induction l with
    | nil => intro h; cases h
    | cons a l ih =>
      intro h;simp only [yw,yK];rcases yA.1 h with rfl | h
      ·omega
      ·have:=ih h; omega
   exact key _ W
  unfold ziR at L;omega
 have J:=zvP f v (zJn t) (zGR s) R (by omega);have G : (zec f).length ≤ 4294967296:=by unfold zec; rw [yb]; omega
 have Q : (zdU f).map zad = zec f:=rfl;rw [Q] at J;have C:=fun a0 a1 a3 a6 a7 a8 a9 p d i g w n y o j q a20 k a22 a23 a24 a25 a26 => zAM f v (zD f) (by omega) (zD f).length 0 a0 a1 a3 a6 a7 a8 a9 p d i g w n y o j q a20 k a22 a23 a24 a25 a26 (by omega) (by omega);have E:=fun a0 a1 a3 a5 a8 a9 p d i g w n y o j q a20 k a22 a23 a24 a25 a26 => zAO f v (zD f) (zec f) (by omega) G (zec f).length 0 a0 a1 a3 a5 a8 a9 p d i g w n y o j q a20 k a22 a23 a24 a25 a26 (by omega) (by omega);simp only [yh,yr] at C E;simp -implicitDefEqProofs only [go_sem] at I J
 have X : ∀ x,(if level < 0 ∨ 2 < level then (1 : Int) else if zm8 f = false then 4 else if zhu f = false then 5 else if zfB f level = false then 6 else x) = x:=fun x => by
  rw [if_neg (by omega),if_neg (by simp [m]),if_neg (by simp [s]),if_neg (by simp [t])]
 have e0 : zap f level = (if zgj (zD f) 0 (zD f) = false then 7 else if (zec f).all (zl8 (zD f)) = false then 7 else if (zec f).all (sameShape (zD f)) = false then 6 else
  if (zec f).all (zhG (zD f) (zdK (zn f) 0)) = false then 7 else 0):=by unfold zap; exact X _
 rw [e0];cases d0 : zgj (zD f) 0 (zD f)
 ·simp -implicitDefEqProofs only [go_sem,zjQ,d0,yv] at C
  simp -implicitDefEqProofs only [go_sem,zq,c1,c,z,A,D,I,C]
 simp -implicitDefEqProofs only [go_sem,zjQ,d0] at C;cases d1 : (zec f).all (zl8 (zD f))
 ·simp -implicitDefEqProofs only [go_sem,zjQ,d1,yv] at E
  simp -implicitDefEqProofs only [go_sem,zq,c1,c,z,A,D,I,C,J,E]
 simp -implicitDefEqProofs only [go_sem,zjQ,d1] at E;have B : ∀ u ∈ zec f,zl8 (zD f) u = true:=yu.1 d1;have K:=fun a0 a1 a3 a5 a7 a9 p d i g w n y o j q a20 k a22 a23 a24 a25 a26 => zAv f v (zD f) (zec f) (by omega) G B (zec f).length 0 a0 a1 a3 a5 a7 a9 p d i g w n y o j q a20 k a22 a23 a24 a25 a26 (by omega) (by omega);simp only [yh,yr] at K;cases d2 : (zec f).all (sameShape (zD f))
 ·simp -implicitDefEqProofs only [go_sem,zjQ,d2,yv] at K
  simp -implicitDefEqProofs only [go_sem,zq,c1,c,z,A,D,I,C,J,E,K]
 simp -implicitDefEqProofs only [go_sem,zjQ,d2] at K
 have S : zaQ f = true:=by
  unfold zhu at s;rw [yc] at s;exact s.1
 have hm:=zgr S;have Y : (zn f).length = f.blocks.length:=by simp [zn]
 have P:=ztg f v;have H:=zwB (zn f) (zjN v) hm 0 (by omega);have O : (zdK (zn f) 0).length ≤ 4294967296:=by simp [zdK]; omega
 obtain ⟨r,M⟩:=zAc f v (zD f) (zec f) (by omega) G B (zdK (zn f) 0) O (.sl ((zn f).map rl)) (.sl ((z7 (zn f)).map rl)) (zec f).length 0 (by omega) (by omega);simp only [yh,yr] at M;simp -implicitDefEqProofs only [go_sem,zhZ,S] at P;simp -implicitDefEqProofs only [go_sem] at H;cases d3 : (zec f).all (zhG (zD f) (zdK (zn f) 0))
 ·simp -implicitDefEqProofs only [go_sem,zjQ,d3,yv] at M
  simp -implicitDefEqProofs only [go_sem,zq,c1,c,z,A,D,I,C,J,E,K,P,H,M]
 ·simp -implicitDefEqProofs only [go_sem,zjQ,d3] at M
  simp -implicitDefEqProofs only [go_sem,zq,c1,c,z,A,D,I,C,J,E,K,P,H,M]
end AC
namespace AC
open Dm
section
variable {succ : List (List Int)} {root : Nat} {O : Int → Prop} {pos : Int → Nat} {t : List Int} (Q : TreeOf succ root O pos t)
include Q
theorem zo9 : (root : Int) < (succ.length : Int):=(Q.rng _ Q.ord.rt).2
theorem zrt {x : Int} (a : 0 ≤ x) : tr (t.set root (-1)) x = if x = (root : Int) then -1 else tr t x:=by
 have:=zzz (t:=t) (x:=(root : Int)) (-1) ⟨by omega,by rw [Q.len]; exact zo9 Q⟩ a
 rwa [ym] at this
theorem zLB {x : Int} (h : O x) : tf t x ≠ -2:=zIe Q.ord Q.inv Q.st h
theorem zv3 {x : Int} (h : O x) (a : x ≠ (root : Int)) : tr (t.set root (-1)) x = tf t x ∧ O (tf t x) ∧ pos (tf t x) < pos x ∧ tf t x ≠ -1:=by
 have rx:=Q.rng x h;obtain ⟨c,d⟩:=Q.inv.par x a (zLB Q h);have b:=zk3 Q.ord Q.inv c;exact ⟨by rw [zrt Q rx.1,if_neg a,zxB rx.1],b,d,by have:=(Q.rng _ b).1; omega⟩
theorem zDu {x : Int} (h : ¬ O x) (h0 : 0 ≤ x) : tr (t.set root (-1)) x = -2:=by
 rw [zrt Q h0,if_neg (by rintro rfl; exact h Q.ord.rt),← zxB h0];exact Q.inv.out x h
theorem zm2 : (t.set root (-1)).length = succ.length:=by simp [Q.len]
theorem zLa : ∀ (r : Nat) (x k : Int),O x → pos x < r → ∃ m,zao (t.set root (-1)) r k x = some m ∧ k ≤ m:=by
 intro r
 induction r with
 | zero => intro x k _ h; omega
 | succ r ih =>
   intro x k a f;have rx:=Q.rng x a;rw [zao,if_neg (by omega),if_neg (by rw [zm2 Q]; omega)]
   by_cases c : x = (root : Int)
   ·rw [if_pos (by rw [zrt Q rx.1,if_pos c])]
    exact ⟨k,rfl,Int.le_refl _⟩
   ·obtain ⟨b,e,g,d⟩:=zv3 Q a c
    rw [b,if_neg d];obtain ⟨m,m1,m2⟩:=ih _ (k + 1) e (by omega);exact ⟨m,m1,by omega⟩
theorem zsr {x : Int} (h : O x) : 0 ≤ zT (t.set root (-1)) x:=by
 obtain ⟨m,a,b⟩:=zLa Q (t.set root (-1)).length x 0 h (by rw [zm2 Q]; exact Q.low x h);rw [zT,a];exact b
theorem zJH {x : Int} (h : ¬ O x) : zT (t.set root (-1)) x < 0:=by
 by_cases c : 0 ≤ zT (t.set root (-1)) x
 ·have r:=ziK c
  have e:=zDu Q h r.1
  by_cases z : zT (t.set root (-1)) x = 0
  ·have:=ziy z
   omega
  ·have:=zgb c (by omega)
   rw [e] at this;have b:=ziK (t:=t.set root (-1)) (a:=-2) (by omega);omega
 ·omega
theorem zEo (x : Int) : 0 ≤ zT (t.set root (-1)) x ↔ O x:=by
 by_cases h : O x
 ·exact ⟨fun _ => h,fun _ => zsr Q h⟩
 ·exact ⟨fun c => absurd c (by have:=zJH Q h; omega),fun c => absurd c h⟩
omit Q in
theorem zqf {tree : List Int} : ∀ (l : List Int) (k m : Nat),(∀ j x,l[j]? = some x → x ≠ -2 → 0 ≤ zT tree ((k + j : Nat) : Int)) → zbc tree k m l = some (m + l.count (-1))
 | [],_,_,_ => by simp [zbc]
 | x :: l,k,m,h => by
   have hr:=fun m' => zqf l (k + 1) m' fun j y hj hy => by
    have:=h (j + 1) y (by simpa using hj) hy
    rwa [show k + (j + 1) = k + 1 + j by omega] at this
   rw [zbc]
   by_cases c : x = -2
   ·rw [if_pos c,hr m,c]
    rw [yn];simp
   ·have h0:=h 0 x rfl c
    rw [yG] at h0;rw [if_neg c,if_neg (by omega),hr _,yn]
    by_cases d : x = -1
    ·rw [if_pos d]
     simp [d];omega
    ·rw [if_neg d]
     simp [d]
theorem zzj : zhY (t.set root (-1)) = true:=by
 have h:=zqf (tree:=t.set root (-1)) (t.set root (-1)) 0 0 fun j x hj d => by
  rw [yL,zEo Q]
  by_cases c : O (j : Int)
  ·exact c
  ·have:=zDu Q c (by omega)
   unfold tr at this;rw [ym,yd,hj] at this;exact absurd this d
 have a : root < t.length:=by have:=zo9 Q; rw [Q.len]; omega
 have h0 : t.count (-1) = 0:=by
  rw [List.count_eq_zero];intro hm;obtain ⟨j,hj⟩:=List.mem_iff_getElem?.1 hm
  have e : tf t (j : Int) = -1:=by
   rw [zxB (by omega)];unfold tr;rw [ym,yd,hj];rfl
  have f : tf t (j : Int) ≠ -2:=by rw [e]; omega
  by_cases c : (j : Int) = (root : Int)
  ·rw [c,Q.inv.rt] at e
   omega
  ·exact (zv3 Q (zk3 Q.ord Q.inv f) c).2.2.2 e
 have b : (t.set root (-1)).count (-1) = 1:=by
  rw [yQ a,h0];simp
 unfold zhY;rw [h,b];rfl
theorem zqv {y x : Int} (h : Anc (root : Int) (tf t) y x) (b : O x) : O y ∧ (y = x ∨ zT (t.set root (-1)) y < zT (t.set root (-1)) x):=by
 induction h with
 | refl => exact ⟨b,.inl rfl⟩
 | step n h ih =>
   rename_i x;obtain ⟨c,f,g,d⟩:=zv3 Q b n;obtain ⟨e,a⟩:=ih f;have:=zgb (zsr Q b) (by rw [c]; exact d);rw [c] at this;refine ⟨e,.inr ?_⟩;rcases a with a | a
   ·rw [a]; omega
   ·omega
theorem zpV : ∀ (r : Nat) (a b : Int),O a → O b → zT (t.set root (-1)) a + zT (t.set root (-1)) b ≤ r → O (zkm (t.set root (-1)) r a b) ∧ ∀ y,Anc (root : Int) (tf t) y (zkm (t.set root (-1)) r a b) ↔ Anc (root : Int) (tf t) y a ∧ Anc (root : Int) (tf t) y b:=by
 have rt : ∀ a,O a → zT (t.set root (-1)) a = 0 → a = (root : Int):=fun a f h => by
  by_cases c : a = (root : Int)
  ·exact c
  ·obtain ⟨l,_,_,u⟩:=zv3 Q f c
   rw [ziy h] at l;exact absurd l.symm u
 intro r
 induction r with
 | zero =>
   intro a b f g h;have l:=zsr Q f;have q:=zsr Q g;have e1:=rt a f (by omega);have e2:=rt b g (by omega);subst e1 e2;exact ⟨f,fun y => ⟨fun h => ⟨h,h⟩,fun h => h.1⟩⟩
 | succ r ih =>
   intro a b f g h;have l:=zsr Q f;have q:=zsr Q g;rw [zkm]
   by_cases c : a = b
   ·subst c
    rw [if_pos rfl];exact ⟨f,fun y => ⟨fun h => ⟨h,h⟩,fun h => h.1⟩⟩
   ·rw [if_neg c]
    by_cases d : zT (t.set root (-1)) b ≤ zT (t.set root (-1)) a
    ·rw [if_pos d]
     have hr : a ≠ (root : Int):=by
      rintro rfl;have e0:=zmw (t:=t.set root (-1)) (a:=(root : Int)) (by omega) (by rw [zm2 Q]; exact zo9 Q) (by rw [zrt Q (by omega),if_pos rfl]);exact c (rt b g (by omega)).symm
     obtain ⟨k,p,s,o⟩:=zv3 Q f hr;have ds:=zgb l (by rw [k]; exact o);rw [k] at ds ⊢;obtain ⟨n,m⟩:=ih _ b p g (by omega);refine ⟨n,fun y => ?_⟩;rw [m y];constructor
     ·rintro ⟨i,j⟩
      exact ⟨.step hr i,j⟩
     ·rintro ⟨i,j⟩
      refine ⟨(zpL i ?_).2,j⟩;rintro rfl;rcases (zqv Q j g).2 with e | e
      ·exact c e
      ·omega
    ·rw [if_neg d]
     have hr : b ≠ (root : Int):=by
      rintro rfl;have e0:=zmw (t:=t.set root (-1)) (a:=(root : Int)) (by omega) (by rw [zm2 Q]; exact zo9 Q) (by rw [zrt Q (by omega),if_pos rfl]);omega
     obtain ⟨k,p,s,o⟩:=zv3 Q g hr;have ds:=zgb q (by rw [k]; exact o);rw [k] at ds ⊢;obtain ⟨n,m⟩:=ih a _ f p (by omega);refine ⟨n,fun y => ?_⟩;rw [m y];constructor
     ·rintro ⟨i,j⟩
      exact ⟨i,.step hr j⟩
     ·rintro ⟨i,j⟩
      refine ⟨i,(zpL j ?_).2⟩;rintro rfl;rcases (zqv Q i f).2 with e | e
      ·exact c e.symm
      ·omega
theorem zIy (a b : Int) : inS (t.set root (-1)) [a,b] = true ↔ O a ∧ O b:=by
 unfold inS;rw [zzj Q];have d:=zEo Q a;have c:=zEo Q b;simp only [yS,List.any_cons,List.any_nil,Bool.or_false,yz,yH,decide_eq_false_iff_not];rw [← d,← c];omega
theorem zyP (a b : Int) : zmM (t.set root (-1)) a b = true ↔ O a ∧ O b ∧ Anc (root : Int) (tf t) a b:=by
 unfold zmM;rw [yc,zIy Q,decide_eq_true_eq];constructor
 ·rintro ⟨⟨c,d⟩,h⟩
  have f:=zpV Q _ a b c d (by have:=zsr Q c; have:=zsr Q d; omega : zT (t.set root (-1)) a + zT (t.set root (-1)) b ≤ ((zT (t.set root (-1)) a + zT (t.set root (-1)) b).toNat : Int));rw [zAe,if_pos ((zIy Q a b).2 ⟨c,d⟩)] at h;rw [h] at f;exact ⟨c,d,((f.2 a).1 (.refl _)).2⟩
 ·rintro ⟨c,d,h⟩
  refine ⟨⟨c,d⟩,?_⟩;have f:=zpV Q _ a b c d (by have:=zsr Q c; have:=zsr Q d; omega : zT (t.set root (-1)) a + zT (t.set root (-1)) b ≤ ((zT (t.set root (-1)) a + zT (t.set root (-1)) b).toNat : Int));rw [zAe,if_pos ((zIy Q a b).2 ⟨c,d⟩)];have g:=(f.2 a).2 ⟨.refl _,h⟩;have i:=((f.2 _).1 (.refl _)).1;rcases (zqv Q g f.1).2 with e | e
  ·exact e.symm
  ·rcases (zqv Q i c).2 with e2 | e2
   ·exact e2
   ·omega
theorem zE0 (a b : Int) : zmM (t.set root (-1)) a b = true ↔ O a ∧ O b ∧ Dom (Eg succ) (root : Int) a b:=by
 rw [zyP Q];constructor
 ·rintro ⟨d,c,e⟩
  exact ⟨d,c,(zxL Q.ord Q.inv Q.st c).1 e⟩
 ·rintro ⟨d,c,e⟩
  exact ⟨d,c,(zxL Q.ord Q.inv Q.st c).2 e⟩
end
end AC
namespace AC
open Go Go.A Go.A.Lex
open Dm
inductive RW (succ : List (List Int)) (root w : Int) : Int → Prop
 | root : root ≠ w → RW succ root w root
 | step {p x : Int} : RW succ root w p → Eg succ p x → x ≠ w → RW succ root w x
def leB (a b : List Bool) : Prop:=∀ j : Nat,a.getD j false = true → b.getD j false = true
theorem leB.trans {a b c : List Bool} (h : leB a b) (k : leB b c) : leB a c:=fun j d => k j (h j d)
theorem zqK (w : Int) : ∀ (l : List Int) (out : List Bool),leB out (l.foldl (mark w) out)
 | [],out => fun j h => h
 | y :: l,out => fun j h => by
   rw [yI];exact zqK w l (mark w out y) j (zwZ h)
theorem zyI (w : Int) : ∀ (l : List Int) (out : List Bool),(∀ y ∈ l,0 ≤ y ∧ y < (out.length : Int)) → ∀ y ∈ l,y ≠ w → (l.foldl (mark w) out).getD y.toNat false = true
 | [],_,_ => by simp
 | x :: l,out,hr => fun y a hw => by
   rw [yI];have b : ∀ z ∈ l,0 ≤ z ∧ z < ((mark w out x).length : Int):=fun z c => by rw [znj]; exact hr z (yk _ c)
   rcases yA.1 a with rfl | a
   ·refine zqK w l _ _ ?_
    have:=hr y yj;unfold mark;rw [if_neg hw,zbO _ _ (by omega)]
   ·exact zyI w l _ b y a hw
theorem zod (w : Int) : ∀ (r : List (List Int)) (i : Nat) (out : List Bool),leB out (zk0 w i r out)
 | [],_,_ => fun j h => h
 | l :: r,i,out => by
   rw [zk0];refine leB.trans ?_ (zod w r (i + 1) _);split
   ·exact zqK w l out
   ·exact fun j h => h
theorem zp5 (w : Int) (n : Nat) : ∀ (r : List (List Int)) (i : Nat) (out : List Bool),out.length = n → (∀ l ∈ r,∀ y ∈ l,0 ≤ y ∧ y < (n : Int)) → leB (zk0 w i r out) out →
  ∀ (j : Nat) (l : List Int),r[j]? = some l → out.getD (i + j) false = true → ∀ y ∈ l,y ≠ w → out.getD y.toNat false = true
 | [],_,_,_,_,_ => by simp
 | l :: r,i,out,ho,hr,hle => by
   intro j q d e y f hw;rw [zk0] at hle;obtain ⟨b,a⟩ : ∃ b,b = (if out.getD i false = true then l.foldl (mark w) out else out):=⟨_,rfl⟩;rw [← a] at hle
   have h1 : leB out b:=by
    rw [a];split
    ·exact zqK w l out
    ·exact fun j h => h
   have h2 : leB b out:=leB.trans (zod w r (i + 1) b) hle
   have c : b.length = n:=by
    rw [a];split
    ·rw [zjd]; exact ho
    ·exact ho
   cases j with
   | zero =>
     simp only [List.getElem?_cons_zero,Option.some.injEq] at d;subst d;rw [yG] at e;refine h2 _ ?_;rw [a,if_pos e];exact zyI w l out (fun z g => by rw [ho]; exact hr l yj z g) y f hw
   | succ j =>
     have:=zp5 w n r (i + 1) b c (fun l k => hr l (yk _ k)) (leB.trans hle h1) j q (by simpa using d) (by rw [show i + 1 + j = i + (j + 1) by omega]; exact h1 _ e) y f hw;exact h2 _ this
theorem count_le : ∀ (a b : List Bool),a.length = b.length → leB a b → a.count true ≤ b.count true ∧ ((∃ j,b.getD j false = true ∧ a.getD j false = false) → a.count true < b.count true)
 | [],b,h,_ => by
   have : b = []:=yx (by simpa using h.symm);subst this;simp
 | x :: a,[],h,_ => by simp at h
 | x :: a,y :: b,h,hle => by
   have d : leB a b:=fun j c => by
    have:=hle (j + 1) (by simpa using c);simpa using this
   have h0:=hle 0;simp only [yJ] at h0;obtain ⟨i1,i2⟩:=count_le a b (by simpa using h) d;constructor
   ·rw [yn,yn]
    cases x <;> cases y <;> simp at h0 ⊢ <;> omega
   ·rintro ⟨j,h1,h2⟩
    cases j with
    | zero =>
      simp only [yJ] at h1 h2;subst h1 h2;rw [yn,yn];simp;omega
    | succ j =>
      have:=i2 ⟨j,by simpa using h1,by simpa using h2⟩;rw [yn,yn];cases x <;> cases y <;> simp at h0 ⊢ <;> omega
theorem zJu {a b : List Bool} (d : a.length = b.length) (h : leB a b) (k : leB b a) : a = b:=by
 apply ys;intro j
 by_cases c : j < a.length
 ·have cb : j < b.length:=by omega
  have e1 : a.getD j false = a[j]:=by rw [yd,yf c]; rfl
  have e2 : b.getD j false = b[j]:=by rw [yd,yf cb]; rfl
  have h1:=h j;have h2:=k j;rw [e1,e2] at h1 h2;rw [yf c,yf cb]
  congr 1
  cases ha : a[j] <;> cases hb : b[j] <;> simp_all
 ·rw [ye (by omega),ye (by omega)]
section
variable {succ : List (List Int)} (hr : ∀ l ∈ succ,∀ y ∈ l,0 ≤ y ∧ y < (succ.length : Int)) (root w : Int)
def zi0 (succ : List (List Int)) (w : Int) (out : List Bool) : Prop:=∀ (j : Nat) (l : List Int),succ[j]? = some l → out.getD j false = true → ∀ y ∈ l,y ≠ w → out.getD y.toNat false = true
include hr
theorem zoO : ∀ (r : Nat) (out : List Bool),out.length = succ.length → zi0 succ w (zfZ w succ r out) ∨ out.count true + r ≤ (zfZ w succ r out).count true
 | 0,out,_ => .inr (Nat.le_refl _)
 | r + 1,out,ho => by
   rw [zfZ];have b:=zi2 w succ 0 out
   by_cases c : leB (zk0 w 0 succ out) out
   ·have e:=zJu b c (zod w succ 0 out)
    have g : zi0 succ w out:=fun j l h1 h2 => zp5 w succ.length succ 0 out ho hr c j l h1 (by rw [yL]; exact h2)
    have st : ∀ k,zfZ w succ k out = out:=by
     intro k
     induction k with
     | zero => rfl
     | succ k ih => rw [zfZ,e,ih]
    left;rw [e,st];exact g
   ·have f : out.count true < (zk0 w 0 succ out).count true:=by
     refine (count_le out _ b.symm (zod w succ 0 out)).2 ?_;have hex : ∃ j,¬ ((zk0 w 0 succ out).getD j false = true → out.getD j false = true):=Classical.not_forall.1 c;obtain ⟨j,d⟩:=hex;have a:=Classical.not_imp.1 d;exact ⟨j,a.1,by simpa using a.2⟩
    rcases zoO r (zk0 w 0 succ out) (by rw [b]; exact ho) with h | h
    ·exact .inl h
    ·right; omega
theorem zBg {out : List Bool} (P : Int → Prop) (h : ∀ j : Nat,out.getD j false = true → P (j : Int)) {y : Int} (h0 : 0 ≤ y) (b : y ≠ w → P y) : ∀ j : Nat,(mark w out y).getD j false = true → P (j : Int):=by
 intro j a;unfold mark at a;split at a
 ·exact h j a
 ·rename_i c
  by_cases e : y.toNat = j
  ·rw [show (j : Int) = y by omega]
   exact b c
  ·rw [getD_set_ne _ _ e] at a
   exact h j a
theorem zrf (P : Int → Prop) : ∀ (l : List Int) (out : List Bool),(∀ j : Nat,out.getD j false = true → P (j : Int)) → (∀ y ∈ l,0 ≤ y ∧ (y ≠ w → P y)) → ∀ j : Nat,(l.foldl (mark w) out).getD j false = true → P (j : Int)
 | [],_,h,_ => h
 | y :: l,out,h,hl => by
   rw [yI];exact zrf P l _ (zBg hr w P h (hl y yj).1 (hl y yj).2) fun z a => hl z (yk _ a)
theorem zrC (P : Int → Prop) (e : ∀ p x,P p → Eg succ p x → x ≠ w → P x) : ∀ (r : List (List Int)) (i : Nat) (out : List Bool),(∀ j l,r[j]? = some l → succ[i + j]? = some l) → (∀ j : Nat,out.getD j false = true → P (j : Int)) → ∀ j : Nat,(zk0 w i r out).getD j false = true → P (j : Int)
 | [],_,_,_,h => h
 | l :: r,i,out,hs,h => by
   rw [zk0];refine zrC P e r (i + 1) _ (fun j q f => ?_) ?_
   ·have:=hs (j + 1) q (by simpa using f)
    rwa [show i + (j + 1) = i + 1 + j by omega] at this
   ·split
    ·rename_i c
     have a:=hs 0 l rfl;rw [yG] at a;have b:=List.mem_of_getElem? a;have g:=(yB.1 a).1;refine zrf hr w P l out h fun y d => ⟨(hr l b y d).1,fun hw => e (i : Int) y (h i c) ⟨by omega,by omega,?_⟩ hw⟩;rw [ym,yd,a];exact d
    ·exact h
theorem zp0 (P : Int → Prop) (a : ∀ p x,P p → Eg succ p x → x ≠ w → P x) : ∀ (r : Nat) (out : List Bool),(∀ j : Nat,out.getD j false = true → P (j : Int)) → ∀ j : Nat,(zfZ w succ r out).getD j false = true → P (j : Int)
 | 0,_,h => h
 | r + 1,out,h => by
   rw [zfZ];exact zp0 P a r _ (zrC hr w P a succ 0 out (fun j l b => by rw [yL]; exact b) h)
theorem zvD : ∀ (r : Nat) (out : List Bool),leB out (zfZ w succ r out)
 | 0,_ => fun j h => h
 | r + 1,out => by
   rw [zfZ];exact leB.trans (zod w succ 0 out) (zvD r _)
theorem zwW (h0 : 0 ≤ root ∧ root < (succ.length : Int)) (j : Nat) : (zef succ root w).getD j false = true ↔ RW succ root w (j : Int):=by
 unfold zef
 by_cases c : root = w
 ·rw [if_pos c]
  constructor
  ·intro h
   rw [yd,yD] at h;split at h <;> simp at h
  ·intro h
   exfalso
   have key : ∀ x,RW succ root w x → False:=fun x hx => by
    induction hx with
    | root h => exact h c
    | step _ _ _ ih => exact ih
   exact key _ h
 ·rw [if_neg c]
  obtain ⟨o0,b⟩ : ∃ o,o = (List.replicate succ.length false).set root.toNat true:=⟨_,rfl⟩;have g : o0.length = succ.length:=by rw [b]; simp
  have d : o0.getD root.toNat false = true:=by rw [b,zbO _ _ (by simp; omega)]
  rw [← b];constructor
  ·refine zp0 hr w (RW succ root w) (fun p x hp e hx => .step hp e hx) succ.length o0 (fun i k => ?_) j
   rw [b] at k
   by_cases e : root.toNat = i
   ·rw [show (i : Int) = root by omega]
    exact .root c
   ·rw [getD_set_ne _ _ e,yd,yD] at k
    split at k <;> simp at k
  ·have m : zi0 succ w (zfZ w succ succ.length o0):=by
    rcases zoO hr w succ.length o0 g with h | h
    ·exact h
    ·exfalso
     have h1 : 1 ≤ o0.count true:=by
      rw [b,yQ (by simp; omega)];simp
     have h2 : (zfZ w succ succ.length o0).count true ≤ succ.length:=by
      have:=List.count_le_length (a:=true) (l:=zfZ w succ succ.length o0);rw [zh0,g] at this;exact this
     omega
   have key : ∀ x,RW succ root w x → 0 ≤ x ∧ (zfZ w succ succ.length o0).getD x.toNat false = true:=fun x hx => by
    induction hx with
    | root _ => exact ⟨h0.1,zvD hr w _ _ _ d⟩
    | step _ e hx ih =>
      rename_i p x _;have rx:=zzt hr e;refine ⟨rx.1,?_⟩;obtain ⟨e1,e2,e3⟩:=e;have f : p.toNat < succ.length:=(by omega);rw [yd,yf f] at e3;exact m p.toNat succ[p.toNat] (yf f) ih.2 x e3 hx
   intro h;have:=(key _ h).2
   rwa [ym] at this
omit hr in
theorem zHk (x : Int) : RW succ root w x ↔ ∃ l,Way (Eg succ) root x l ∧ w ∉ l:=by
 constructor
 ·intro h
  induction h with
  | root h => exact ⟨_,.root,by simpa using fun e => h e.symm⟩
  | step _ e hx ih =>
    obtain ⟨l,h1,h2⟩:=ih;refine ⟨_,.step h1 e,fun hm => ?_⟩;rcases yA.1 hm with h | h
    ·exact hx h.symm
    ·exact h2 h
 ·rintro ⟨l,h1,h2⟩
  induction h1 with
  | root => exact .root fun e => h2 (by rw [e]; exact yj)
  | step h e ih => exact .step (ih fun hm => h2 (yk _ hm)) e fun e => h2 (by rw [e]; exact yj)
end
section
variable {succ : List (List Int)} (hm : zbY succ = true) {root : Nat} {O : Int → Prop} {pos : Int → Nat} {t : List Int} (Q : TreeOf succ (root : Int) O pos t)
include hm Q
theorem zxE (j : Nat) : (zef succ (root : Int) (-1)).getD j false = true ↔ O (j : Int):=by
 obtain ⟨b,n64,hr⟩:=zfA hm;rw [zwW hr (root : Int) (-1) ⟨by omega,zo9 Q⟩,zHk,Q.rch];constructor
 ·rintro ⟨l,h,_⟩; exact ⟨l,h⟩
 ·rintro ⟨l,h⟩
  refine ⟨l,h,fun a => ?_⟩;have:=Q.rng _ ((zzy Q.ord h).2 _ a);omega
theorem znt (c b : Nat) : ovB succ (root : Int) c b = true ↔ O (b : Int) ∧ Dom (Eg succ) (root : Int) (c : Int) (b : Int):=by
 obtain ⟨d,n64,hr⟩:=zfA hm;unfold ovB;rw [yc,zxE hm Q,yz,← yO,zwW hr (root : Int) (c : Int) ⟨by omega,zo9 Q⟩,zHk];constructor
 ·rintro ⟨h1,h2⟩
  refine ⟨h1,fun l w => ?_⟩
  by_cases a : (c : Int) ∈ l
  ·exact a
  ·exact absurd ⟨l,w,a⟩ h2
 ·rintro ⟨h1,h2⟩
  exact ⟨h1,fun ⟨l,w,a⟩ => a (h2 l w)⟩
theorem zua (b a : Nat) : ∀ (d k : Nat),zf8 succ (root : Int) b a k d = true ↔ ∀ c,k ≤ c → c < k + d → c = b ∨ ¬ ovB succ (root : Int) c b = true ∨ ovB succ (root : Int) c a = true
 | 0,k => by simp [zf8]; omega
 | d + 1,k => by
   rw [zf8,yc,zua b a d (k + 1)];simp only [Bool.or_eq_true,decide_eq_true_eq,yz,yO];constructor
   ·rintro ⟨h1,h2⟩ c f g
    by_cases e : c = k
    ·subst e; exact h1
    ·exact h2 c (by omega) (by omega)
   ·intro h
    exact ⟨h k (by omega) (by omega),fun c f g => h c (by omega) (by omega)⟩
omit hm Q in
theorem zrK (b : Nat) : ∀ (d k : Nat) (v : Int),(∀ c,k ≤ c → c < k + d → ¬ (c ≠ b ∧ ovB succ (root : Int) c b = true ∧ zf8 succ (root : Int) b c 0 succ.length = true)) → zhp succ (root : Int) b k d v = v
 | 0,_,_,_ => rfl
 | d + 1,k,v,h => by
   have h0:=h k (by omega) (by omega);rw [zhp,if_neg,zrK b d (k + 1) v fun c h1 h2 => h c (by omega) (by omega)];simpa using h0
omit hm Q in
theorem zzV (b k0 : Nat) : ∀ (d k : Nat) (v : Int),k ≤ k0 → k0 < k + d → (k0 ≠ b ∧ ovB succ (root : Int) k0 b = true ∧ zf8 succ (root : Int) b k0 0 succ.length = true) →
  (∀ c,k ≤ c → c < k + d → c ≠ k0 → ¬ (c ≠ b ∧ ovB succ (root : Int) c b = true ∧ zf8 succ (root : Int) b c 0 succ.length = true)) → zhp succ (root : Int) b k d v = (k0 : Int)
 | 0,k,v,h1,h2,_,_ => by omega
 | d + 1,k,v,h1,h2,hp,hu => by
   rw [zhp]
   by_cases e : k = k0
   ·subst e
    rw [if_pos (by simpa using hp)];exact zrK b d (k + 1) _ fun c h3 h4 => hu c (by omega) (by omega) (by omega)
   ·exact zzV b k0 d (k + 1) _ (by omega) (by omega) hp fun c h3 h4 => hu c (by omega) (by omega)
theorem zCa : zdK succ (root : Int) = t.set root (-1):=by
 obtain ⟨w,n64,hr⟩:=zfA hm;apply ys;intro b
 by_cases hb : b < succ.length
 ·have x:=zm2 Q
  have g : b < (t.set root (-1)).length:=by omega
  rw [zdK,List.getElem?_map,List.getElem?_range hb,yf g];simp only [Option.map_some]
  congr 1
  have e : (t.set root (-1))[b] = tr (t.set root (-1)) (b : Int):=by
   unfold tr;rw [ym,yd,yf g];rfl
  rw [e];unfold zun
  by_cases c : (b : Int) = (root : Int)
  ·rw [if_pos c,zrt Q (by omega),if_pos c]
  ·rw [if_neg c]
   by_cases f : O (b : Int)
   ·obtain ⟨h1,h2,h3,h4⟩:=zv3 Q f c
    have rp:=Q.rng _ h2;obtain ⟨p,hp⟩ : ∃ p : Nat,(p : Int) = tf t (b : Int):=⟨(tf t (b : Int)).toNat,by omega⟩;rw [h1,← hp];rw [← hp] at h2 h3 rp;have a : Dom (Eg succ) (root : Int) (p : Int) (b : Int):=(zxL Q.ord Q.inv Q.st f).1 (.step c (by rw [← hp]; exact .refl _))
    have o : ∀ d,Dom (Eg succ) (root : Int) d (b : Int) → d ≠ (b : Int) → Dom (Eg succ) (root : Int) d (p : Int):=fun d q r => by
     have:=Q.inv.A (b : Int) d c (zLB Q f) q r
     rwa [← hp] at this
    have hpb : p ≠ b:=fun e => by rw [e] at h3; omega
    refine zzV b p succ.length 0 (-2) (yU _) (by omega) ⟨hpb,(znt hm Q p b).2 ⟨f,a⟩,?_⟩ fun k _ s i => ?_
    ·rw [zua hm Q]
     intro k _ s
     by_cases e1 : k = b
     ·exact .inl e1
     ·by_cases e2 : ovB succ (root : Int) k b = true
      ·exact .inr (.inr ((znt hm Q k p).2 ⟨h2,o _ ((znt hm Q k b).1 e2).2 (by omega)⟩))
      ·exact .inr (.inl e2)
    ·rintro ⟨v,u,n⟩
     rw [zua hm Q] at n;have l:=((znt hm Q k b).1 u).2;rcases n p (yU _) (by omega) with e1 | e1 | e1
     ·exact hpb e1
     ·exact e1 ((znt hm Q p b).2 ⟨f,a⟩)
     ·obtain ⟨ok,m⟩:=(znt hm Q p k).1 e1
      have j:=o _ l (by omega);rcases ztX Q.ord ok m with e2 | e2
      ·exact i (by omega)
      ·rcases ztX Q.ord h2 j with e3 | e3
       ·exact i (by omega)
       ·omega
   ·rw [zDu Q f (by omega)]
    refine zrK b succ.length 0 (-2) fun k _ _ h => ?_;exact f ((znt hm Q k b).1 h.2.1).1
 ·rw [ye (by simp [zdK]; omega),ye (by rw [zm2 Q]; omega)]
omit hm in
theorem ztF : ∀ (r : Nat) (acc : List Int) (a : Int),O a → pos a < r → ∃ ch,pathFrom (t.set root (-1)) r acc a = acc ++ a :: ch ∧ ∀ x,x ∈ a :: ch ↔ Anc (root : Int) (tf t) x a:=by
 intro r
 induction r with
 | zero => intro acc a _ h; omega
 | succ r ih =>
   intro acc a ha h;have ra:=Q.rng a ha;rw [pathFrom,if_neg (by rw [zm2 Q]; omega)]
   by_cases c : a = (root : Int)
   ·rw [if_pos (by rw [zrt Q ra.1,if_pos c])]
    refine ⟨[],rfl,fun x => ?_⟩;rw [List.mem_singleton];constructor
    ·rintro rfl; exact .refl _
    ·intro hx
     by_cases e : x = a
     ·exact e
     ·exact absurd c (zpL hx e).1
   ·obtain ⟨h1,h2,h3,h4⟩:=zv3 Q ha c
    rw [h1,if_neg h4];obtain ⟨ch,e1,e2⟩:=ih (acc ++ [a]) (tf t a) h2 (by omega);refine ⟨tf t a :: ch,by rw [e1]; simp,fun x => ?_⟩;rw [yA,e2 x];constructor
    ·rintro (rfl | hx)
     ·exact .refl _
     ·exact .step c hx
    ·intro hx
     by_cases e : x = a
     ·exact .inl e
     ·exact .inr (zpL hx e).2
omit hm in
theorem zEy {a b : Int} (ha : O a) (hb : O b) : zkP (t.set root (-1)) a b = a ↔ zmM (t.set root (-1)) a b = true:=by
 rw [zyP Q];unfold zkP;rw [if_pos (zzj Q)];have hpa : pos a < (t.set root (-1)).length:=by rw [zm2 Q]; exact Q.low a ha
 have hpb : pos b < (t.set root (-1)).length:=by rw [zm2 Q]; exact Q.low b hb
 obtain ⟨ca,e1,e2⟩:=ztF Q _ [] a ha hpa;obtain ⟨cb,e3,e4⟩:=ztF Q _ [] b hb hpb;rw [List.nil_append] at e1 e3;have f1 : ziF (t.set root (-1)) a = a :: ca:=e1;have f2 : ziF (t.set root (-1)) b = b :: cb:=e3;rw [f1,f2,yi]
 by_cases c : a ∈ b :: cb
 ·rw [decide_eq_true c]
  simp only [yR,true_iff];exact ⟨ha,hb,(e4 a).1 c⟩
 ·rw [decide_eq_false c]
  simp only;constructor
  ·intro h
   exfalso
   cases hf : ca.find? (fun x => decide (x ∈ b :: cb)) with
   | none =>
     rw [hf] at h;have:=(Q.rng a ha).1;simp at h;omega
   | some x =>
     rw [hf] at h;have:=List.find?_some hf;simp only [yR] at h;subst h;exact c (by simpa using this)
  ·rintro ⟨_,_,h⟩
   exact absurd ((e4 a).2 h) c
end
end AC
namespace AC
open Go Go.A Go.A.Lex
def rvK (l : List Int) (k : Nat) : List Int:=(List.range l.length).map fun j => if j < k ∨ l.length - k ≤ j then l.getD (l.length - 1 - j) 0 else l.getD j 0
theorem zjM (l : List Int) (k : Nat) : (rvK l k).length = l.length:=by simp [rvK]
theorem zpa (l : List Int) (k j : Nat) (h : j < l.length) : (rvK l k)[j]? = some (if j < k ∨ l.length - k ≤ j then l.getD (l.length - 1 - j) 0 else l.getD j 0):=by simp [rvK,h]
theorem zFJ (l : List Int) : rvK l 0 = l:=by
 apply ys;intro j
 by_cases h : j < l.length
 ·rw [zpa l 0 j h,if_neg (by omega)]
  simp [h]
 ·rw [ye (by rw [zjM]; omega),ye (by omega)]
theorem zHI (l : List Int) (k : Nat) (h : l.length ≤ 2 * k + 1) : rvK l k = l.reverse:=by
 apply ys;intro j
 by_cases a : j < l.length
 ·rw [zpa l k j a,List.getElem?_reverse a]
  have b : l.length - 1 - j < l.length:=by omega
  by_cases c : j < k ∨ l.length - k ≤ j
  ·rw [if_pos c]
   simp [b]
  ·rw [if_neg c]
   have : l.length - 1 - j = j:=(by omega);rw [this];simp [a]
 ·rw [ye (by rw [zjM]; omega),ye (by simp; omega)]
theorem zGl (l : List Int) (k : Nat) (h : 2 * k + 1 < l.length) : ((rvK l k).set k (l.getD (l.length - 1 - k) 0)).set (l.length - 1 - k) (l.getD k 0) = rvK l (k + 1):=by
 apply ys;intro j
 by_cases a : j < l.length
 ·rw [zpa l (k + 1) j a,yE,yE,zpa l k j a]
  simp only [yC,zjM]
  by_cases c1 : l.length - 1 - k = j
  ·rw [if_pos c1,if_pos (by omega),if_pos (by omega)]
   have : l.length - 1 - j = k:=(by omega);rw [this]
  ·rw [if_neg c1]
   by_cases c2 : k = j
   ·rw [if_pos c2,if_pos (by omega),if_pos (by omega),c2]
   ·rw [if_neg c2]
    by_cases c3 : j < k ∨ l.length - k ≤ j
    ·rw [if_pos c3,if_pos (by omega)]
    ·rw [if_neg c3,if_neg (by omega)]
 ·rw [ye (by simp [zjM]; omega),ye (by rw [zjM]; omega)]
theorem zoi {l : List Int} {j : Nat} {x : Int} (h : l[j]? = some x) : (l.map zL)[j]? = some [.f (.lit (.int .i64 x))]:=by simp [h,zL]
theorem zw6 (σ : zd) (id a : Nat) (l : List Int) (t : l.length ≤ 4294967296) (m : id < σ.length) : ∀ (d k : Nat) (a3 : V),l.length - 2 * k ≤ d → 2 * k ≤ l.length →
  exec T zbn ⟨[.one (.own id a 0 l.length),vI k,vI ((l.length : Int) - 1 - k),a3],σ.set id (.cells a 1 ((rvK l k).map zL)),σ.length,σ.length⟩ =
   some (.exit 0,⟨[vU,vU,vU,vU],σ.set id (.cells a 1 (l.reverse.map zL)),σ.length,σ.length⟩):=by
 have b : ∀ k : Nat,¬ ((k : Int) < (l.length : Int) - 1 - k) → 2 * k ≤ l.length → ∀ (a3 : V),
  exec T zbn ⟨[.one (.own id a 0 l.length),vI k,vI ((l.length : Int) - 1 - k),a3],σ.set id (.cells a 1 ((rvK l k).map zL)),σ.length,σ.length⟩ =
   some (.exit 0,⟨[vU,vU,vU,vU],σ.set id (.cells a 1 (l.reverse.map zL)),σ.length,σ.length⟩):=by
  intro k e i a3;rw [xl zbn rfl,zfd,zHI l k (by omega)];simp -implicitDefEqProofs only [go_sem,e,yC]
 intro d
 induction d with
 | zero =>
   intro k a3 q g;exact b k (by omega) g _
 | succ d ih =>
   intro k a3 q g
   by_cases e : (k : Int) < (l.length : Int) - 1 - k
   ·have i : k < l.length:=by omega
    have h : l.length - 1 - k < l.length:=(by omega);have n:=zoi (zpa l k k i);have j:=zoi (zpa l k (l.length - 1 - k) h);rw [if_neg (by omega)] at n j;have e1 : ((l.length : Int) - 1 - k).toNat = l.length - 1 - k:=(by omega);have e2 : (0 : Int) ≤ (l.length : Int) - 1 - k:=(by omega);have e3 : ((l.length : Int) - 1 - k < (l.length : Int)) = True:=(by simp; omega);have o : Go.IntKind.i64.wrap ((k : Int) + 1) = ((k + 1 : Nat) : Int):=(by rw [wrap_i64] <;> omega);have r : Go.IntKind.i64.wrap ((l.length : Int) - 1 - k - 1) = (l.length : Int) - 1 - ((k + 1 : Nat) : Int):=(by rw [wrap_i64] <;> omega);have s : ((l.map zL).length) = l.length:=(by simp);have st:=congrArg (yW zL) (zGl l k (by omega));rw [yV,yV] at st;have:=ih (k + 1) vU (by omega) (by omega);rw [← st] at this;have p : ¬ l.length - 1 - k = k:=by omega
    have c : ((yW zL (rvK l k)).set k (zL (l.getD (l.length - 1 - k) 0)))[l.length - 1 - k]? = some [.f (.lit (.int .i64 (l.getD (l.length - 1 - k) 0)))]:=by
     rw [List.getElem?_set_ne (by omega)];exact j
    rw [xl zbn rfl,zfd];simp -implicitDefEqProofs only [go_sem,zL] at this c;simp -implicitDefEqProofs only [go_sem,e,e1,e2,e3,ilt i,Int.natCast_nonneg,ym,List.getElem?_set_self m,n,j,c,List.set_set,yC,o,r,this]
   ·exact b k e g _
theorem zv2 (σ : zd) (id a : Nat) (l : List Int) (f : l.length ≤ 4294967296) (c : σ[id]? = some (.cells a 1 (l.map zL))) (n : Nat) (g : n = l.length) :
  call T 149 [.one (.own id a 0 n)] σ = some (.tup [],σ.set id (.cells a 1 (l.reverse.map zL))):=by
 subst g;rw [ze (fn:=zfG) rfl];have b : id < σ.length:=(yB.1 c).1;have h:=fun a3 => zw6 σ id a l f b l.length 0 a3 (by omega) (by omega)
 have d : σ.set id (.cells a 1 (l.map zL)) = σ:=by
  apply ys;intro j;rw [yE]
  by_cases e : id = j
  ·subst e; rw [if_pos rfl,if_pos b,c]
  ·rw [if_neg e]
 rw [zFJ,d] at h;simp only [yh,Int.sub_zero] at h;have w : Go.IntKind.i64.wrap ((l.length : Int) - 1) = (l.length : Int) - 1:=by rw [wrap_i64] <;> omega
 simp -implicitDefEqProofs only [go_sem] at h;simp -implicitDefEqProofs only [go_sem,zfG,w,h,yC]
end AC

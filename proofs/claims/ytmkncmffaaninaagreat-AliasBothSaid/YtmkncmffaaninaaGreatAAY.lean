/- A part of the proof of AliasBoth. Conditions: none. -/
import Derived.Test.YtmkncmffaaninaaGreatAAX
import Derived.Test.YtmkncmffaaninaaGreatAAW
set_option linter.all false
open Nat renaming add_le_add_iff_right → ya,add_comm → yl
open List renaming getElem?_eq_none → yb,map_cons → yc,drop_eq_getElem_cons → yd,ext_getElem? → yf,drop_length → yg,length_set → yi,getElem?_set → yk,drop_zero → ym,getElem_mem → yp,mem_cons → yq,map → yr,map_set → ys
open Int renaming natCast_zero → ye,lt_irrefl → yj
open Bool renaming and_eq_true → yh
open Option renaming isNone_none → yn,isNone_some → yo
namespace AC
open Go Go.A Go.A.Lex
theorem zBS (n : Nat) : (1 < n + 5) = True:=by (first | (simp; omega) | simp)
theorem zBV (n : Nat) : (3 < n + 5) = True:=by (first | (simp; omega) | simp)
theorem zB9 (n : Nat) : (4 < n + 5) = True:=by (first | (simp; omega) | simp)
theorem zB5 (n : Nat) : (1 < n + 6) = True:=by (first | (simp; omega) | simp)
theorem zCj (n : Nat) : (3 < n + 6) = True:=by (first | (simp; omega) | simp)
theorem zCt (n : Nat) : (4 < n + 6) = True:=by (first | (simp; omega) | simp)
theorem zBO (n : Nat) : (1 < n + 7) = True:=by (first | (simp; omega) | simp)
theorem zCE (n : Nat) : (3 < n + 7) = True:=by (first | (simp; omega) | simp)
theorem zBM (n : Nat) : (4 < n + 7) = True:=by (first | (simp; omega) | simp)
theorem zCh (n : Nat) : (1 < n + 8) = True:=by (first | (simp; omega) | simp)
theorem zBH (n : Nat) : (3 < n + 8) = True:=by (first | (simp; omega) | simp)
theorem zCz (n : Nat) : (4 < n + 8) = True:=by (first | (simp; omega) | simp)
attribute [go_sem] zBS zBV zB9 zB5 zCj zCt zBO zCE zBM zCh zBH zCz
def getM {α : Type} (k : Int) : List (Int × α) → Option α
 | [] => none
 | e :: es => if e.1 = k then some e.2 else getM k es
def zfV {α : Type} (k : Int) (v : α) : List (Int × α) → List (Int × α)
 | [] => [(k,v)]
 | e :: es => if e.1 = k then (k,v) :: es else e :: zfV k v es
def zdj {α : Type} (enc : α → V) (D : List (Int × α)) : List (Int × V):=D.map fun e => (e.1,enc e.2)
theorem zjG {α : Type} (enc : α → V) (k : Int) : ∀ D : List (Int × α),zes k (zdj enc D) = (getM k D).map enc
 | [] => rfl
 | e :: es => by
   have a:=zjG enc k es;unfold zdj at a ⊢;simp only [yc,zes,getM]
   by_cases h : e.1 = k
   ·rw [if_pos h,if_pos h]; rfl
   ·rw [if_neg h,if_neg h,a]
theorem zkc {α : Type} (enc : α → V) (k : Int) (v : α) : ∀ D : List (Int × α),zdW k (enc v) (zdj enc D) = zdj enc (zfV k v D)
 | [] => rfl
 | e :: es => by
   have a:=zkc enc k v es;unfold zdj at a ⊢;simp only [yc,zdW,zfV]
   by_cases h : e.1 = k
   ·rw [if_pos h,if_pos h]; rfl
   ·rw [if_neg h,if_neg h,a]; rfl
theorem zmZ {α : Type} (enc : α → V) (n : Nat) (h : ∀ a,(enc a).lt n = true) : ∀ D : List (Int × α),C.ltm n (zdj enc D) = true
 | [] => rfl
 | e :: es => by
   have b:=zmZ enc n h es;unfold zdj at b ⊢;simp only [yc,C.ltm,h,b,Bool.and_self]
structure PDef where
 block : Int
 at' : Int
 shape : Int × Int
abbrev zfe:=List (Int × PDef)
def zd2 (d : PDef) : V:=.agg [.f (ei d.block),.f (ei d.at'),.f (ei d.shape.1),.f (ei d.shape.2)]
theorem zt (n : Nat) (D : zfe) : C.ltm n (zdj zd2 D) = true:=zmZ zd2 n (fun a => by simp [zd2,V.lt,C.lts,C.lt]) D
theorem zim (k : Int) (D : zfe) : zes k (zdj zd2 D) = (getM k D).map zd2:=zjG zd2 k D
theorem zzI (k : Int) (d : PDef) (D : zfe) : zdW k (V.agg [.f (.lit (.int .i64 d.block)),.f (.lit (.int .i64 d.at')),.f (.lit (.int .i64 d.shape.1)),.f (.lit (.int .i64 d.shape.2))]) (zdj zd2 D) = zdj zd2 (zfV k d D):=zkc zd2 k d D
abbrev P1 : Ob:=.cells 0 1 [[.ptr 1 0 0 0]]
abbrev stD (f : PFunc) (level : Int) (x y z : C) (D : zfe) (r : zb) : zb:=O0 f :: zvB f level x y z (.map 4) :: O2 :: P1 :: .mp (zdj zd2 D) :: r
section
variable (f : PFunc) (level : Int) (succ pred : List (List Int)) (tree : List Int) (D : zfe) (r : zb) (hr : Obs.lt (r.length + 5) r = true)
abbrev xS (l : List (List Int)) : C:=.f (.sl (l.map rl))
abbrev zS (l : List Int) : C:=.f (eI l)
include hr
theorem zpc (v : Int) (d : PDef) : call T 204 [.one (.ptr 1 0 0 0),vI v,zd2 d] (stD f level (xS succ) (xS pred) (zS tree) D r) = some (vB (getM v D).isNone,stD f level (xS succ) (xS pred) (zS tree) (zfV v d D) r):=by
 rw [zd (fn:=zbV) rfl];have a:=zzI v d D
 cases e : getM v D with
 | none => simp -implicitDefEqProofs only [go_sem,zbV,stD,zd2,zim,e,a,hr,zt,ya,yn]
 | some d0 => simp -implicitDefEqProofs only [go_sem,zbV,stD,zd2,zim,e,a,hr,zt,ya,yo]
theorem znR (u : Use) : call T 208 [vI u.v,.agg [.f (ei u.shape.1),.f (ei u.shape.2)],vI u.block,vI u.at',.one (.ptr 3 0 0 0)] (stD f level (xS succ) (xS pred) (zS tree) D r) =
  some (vI (if (getM u.v D).isNone then 7 else 0),stD f level (xS succ) (xS pred) (zS tree) D r):=by
 rw [zd (fn:=zaj) rfl]
 cases e : getM u.v D with
 | none => simp -implicitDefEqProofs only [go_sem,zaj,stD,zd2,zim,e,hr,zt,ya,yn]
 | some d0 => simp -implicitDefEqProofs only [go_sem,zaj,stD,zd2,zim,e,hr,zt,ya,yo]
end
def zg6 (D : zfe) (v : Int) : PDef:=(getM v D).getD ⟨0,0,(0,0)⟩
def zg1 (D : zfe) (u : Use) : Int:=if (getM u.v D).isNone = true then 7 else 0
def zaP (D : zfe) (u : Use) : Int:=if (zg6 D u.v).shape = u.shape then 0 else 6
def zab (D : zfe) (tree : List Int) (u : Use) : Int :=
 let d:=zg6 D u.v
 if d.block < 0 then 0 else if (d.block = u.block ∧ d.at' < u.at') ∨ (d.block ≠ u.block ∧ ziA tree d.block u.block = true) then 0 else 7
section
variable (f : PFunc) (level : Int) (succ pred : List (List Int)) (tree : List Int) (D : zfe) (r : zb) (hr : Obs.lt (r.length + 6) r = true)
include hr
theorem zps (u : Use) : call T 209 [vI u.v,.agg [.f (ei u.shape.1),.f (ei u.shape.2)],vI u.block,vI u.at',.one (.ptr 5 0 0 0)] (stD f level (xS succ) (xS pred) (zS tree) D (P1 :: r)) =
  some (vI (zaP D u),stD f level (xS succ) (xS pred) (zS tree) D (P1 :: r)):=by
 rw [zd (fn:=zp) rfl];have g : ∀ a b : Int × Int,(a = b) = (a.1 = b.1 ∧ a.2 = b.2):=fun a b => by rw [Prod.ext_iff]
 have key : ∀ d : PDef,zg6 D u.v = d → zes u.v (zdj zd2 D) = some (zd2 d) ∨ (zes u.v (zdj zd2 D) = none ∧ d = ⟨0,0,(0,0)⟩):=fun d hd => by
  rw [zim];unfold zg6 at hd
  cases e : getM u.v D with
  | none => rw [e] at hd; exact .inr ⟨rfl,hd.symm⟩
  | some d0 => rw [e] at hd; simp at hd; subst hd; exact .inl rfl
 by_cases c1 : (zg6 D u.v).shape.1 = u.shape.1
 ·by_cases c2 : (zg6 D u.v).shape.2 = u.shape.2
  ·rcases key _ rfl with h | ⟨h,c⟩
   ·simp -implicitDefEqProofs only [go_sem,zp,stD,zd2,h,hr,zt,ya,zaP,g,eq_true c1,eq_true c2]
   ·rw [c] at c1 c2
    simp -implicitDefEqProofs only [go_sem,zp,stD,zd2,h,hr,zt,ya,zaP,g,c,eq_true c1,eq_true c2]
  ·rcases key _ rfl with h | ⟨h,c⟩
   ·simp -implicitDefEqProofs only [go_sem,zp,stD,zd2,h,hr,zt,ya,zaP,g,eq_true c1,c2,and_false]
   ·rw [c] at c1 c2
    simp -implicitDefEqProofs only [go_sem,zp,stD,zd2,h,hr,zt,ya,zaP,g,c,eq_true c1,c2,and_false]
 ·rcases key _ rfl with h | ⟨h,c⟩
  ·simp -implicitDefEqProofs only [go_sem,zp,stD,zd2,h,hr,zt,ya,zaP,g,c1,false_and]
  ·rw [c] at c1
   simp -implicitDefEqProofs only [go_sem,zp,stD,zd2,h,hr,zt,ya,zaP,g,c,c1,false_and]
theorem zpE (c : tree.length ≤ 4294967296) (u : Use) : call T 210 [vI u.v,.agg [.f (ei u.shape.1),.f (ei u.shape.2)],vI u.block,vI u.at',.one (.ptr 5 0 0 0)] (stD f level (xS succ) (xS pred) (zS tree) D (P1 :: r)) =
  some (vI (zab D tree u),stD f level (xS succ) (xS pred) (zS tree) D (P1 :: r)):=by
 rw [zd (fn:=zh) rfl]
 have key : ∀ d : PDef,zg6 D u.v = d → zes u.v (zdj zd2 D) = some (zd2 d) ∨ (zes u.v (zdj zd2 D) = none ∧ d = ⟨0,0,(0,0)⟩):=fun d hd => by
  rw [zim];unfold zg6 at hd
  cases e : getM u.v D with
  | none => rw [e] at hd; exact .inr ⟨rfl,hd.symm⟩
  | some d0 => rw [e] at hd; simp at hd; subst hd; exact .inl rfl
 rcases key _ rfl with h | ⟨h,b⟩
 ·have a:=zmN tree (zg6 D u.v).block u.block c
  simp -implicitDefEqProofs only [go_sem] at a
  by_cases c1 : (zg6 D u.v).block < 0
  ·simp -implicitDefEqProofs only [go_sem,zh,stD,zd2,h,hr,zt,ya,zab,c1]
  by_cases c2 : (zg6 D u.v).block = u.block
  ·by_cases c3 : (zg6 D u.v).at' < u.at'
   ·simp -implicitDefEqProofs only [go_sem,zh,stD,zd2,h,hr,zt,ya,zab,c1,eq_true c2,c3,true_and,true_or]
   ·simp -implicitDefEqProofs only [go_sem,zh,stD,zd2,h,hr,zt,ya,zab,c1,eq_true c2,c3,and_false,false_and,or_self,ne_eq]
  ·cases c4 : ziA tree (zg6 D u.v).block u.block
   ·rw [c4] at a
    simp -implicitDefEqProofs only [go_sem,zh,stD,zd2,h,hr,zt,ya,zab,c1,c2,a,c4,and_false,false_and,or_self,ne_eq]
   ·rw [c4] at a
    simp -implicitDefEqProofs only [go_sem,zh,stD,zd2,h,hr,zt,ya,zab,c1,c2,a,c4,and_self,false_and,false_or,ne_eq]
 ·have a:=zmN tree (0 : Int) u.block c
  simp -implicitDefEqProofs only [go_sem] at a
  by_cases c1 : (0 : Int) < 0
  ·simp -implicitDefEqProofs only [go_sem,zh,stD,zd2,h,hr,zt,ya,zab,b,c1]
  by_cases c2 : (0 : Int) = u.block
  ·by_cases c3 : (0 : Int) < u.at'
   ·simp -implicitDefEqProofs only [go_sem,zh,stD,zd2,h,hr,zt,ya,zab,b,c1,eq_true c2,c3,true_and,true_or]
   ·simp -implicitDefEqProofs only [go_sem,zh,stD,zd2,h,hr,zt,ya,zab,b,c1,eq_true c2,c3,and_false,false_and,or_self,ne_eq]
  ·cases c4 : ziA tree (0 : Int) u.block
   ·rw [c4] at a
    simp -implicitDefEqProofs only [go_sem,zh,stD,zd2,h,hr,zt,ya,zab,b,c1,c2,a,c4,and_false,false_and,or_self,ne_eq]
   ·rw [c4] at a
    simp -implicitDefEqProofs only [go_sem,zh,stD,zd2,h,hr,zt,ya,zab,b,c1,c2,a,c4,and_self,false_and,false_or,ne_eq]
end
def zaX : Nat → zfe → List Int → zfe
 | _,D,[] => D
 | i,D,b :: r => zaX (i + 1) (zfV ((i : Int) + 1) ⟨-1,0,(b,1)⟩ D) r
def zdx (i : Int) : zfe → List PPhi → zfe × Option PPhi
 | D,[] => (D,none)
 | D,p :: r => if p.dst < 1 ∨ 1023 < p.dst then (D,some p) else if (getM p.dst D).isNone = true then zdx i (zfV p.dst ⟨i,-1,(p.bits,1)⟩ D) r else (zfV p.dst ⟨i,-1,(p.bits,1)⟩ D,some p)
def zdg (i : Int) : Nat → zfe → List POp → zfe × Option POp
 | _,D,[] => (D,none)
 | k,D,o :: r => if (zN o).1 ≤ 0 then zdg i (k + 1) D r else if (getM o.dst D).isNone = true then zdg i (k + 1) (zfV o.dst ⟨i,k,zN o⟩ D) r else (zfV o.dst ⟨i,k,zN o⟩ D,some o)
def zbp : Nat → zfe → List PBlock → zfe × Option (List Ob)
 | _,D,[] => (D,none)
 | i,D,b :: r => match zdx i D b.phis with
   | (D1,some p) => (D1,some [.cells 0 5 [zK b],.cells 0 4 [zxT p]])
   | (D1,none) => match zdg i 0 D1 b.ops with
     | (D2,some o) => (D2,some [.cells 0 5 [zK b],.cells 0 6 [cOp o]])
     | (D2,none) => zbp (i + 1) D2 r
section
variable (f : PFunc) (hf : okF f) (level : Int) (succ pred : List (List Int)) (tree : List Int)
abbrev sD (f : PFunc) (level : Int) (succ pred : List (List Int)) (tree : List Int) (D : zfe) (r : zb) : zb:=stD f level (xS succ) (xS pred) (zS tree) D r
include hf
theorem zuU : ∀ (d k : Nat) (D : zfe) (a0 a2 a3 a4 a5 a6 a7 a8 a9 j b h i c g a a20 e a22 a23 a24 a25 a26 a27 a28 a29 : V),f.params.length - k = d → k ≤ f.params.length →
  exec T zaB ⟨[a0,.one (.ptr 3 0 0 0),a2,a3,a4,a5,a6,a7,a8,a9,j,b,vIs f.params,vI f.params.length,vI k,h,i,c,g,a,a20,e,a22,a23,a24,a25,a26,a27,a28,a29],sD f level succ pred tree D [],3,5⟩ =
   some (.exit 0,⟨[vU,.one (.ptr 3 0 0 0),vU,vU,vU,vU,vU,vU,vU,vU,vU,vU,vU,vU,vU,vU,vU,vU,vU,vU,vU,vU,vU,vU,vU,vU,vU,vU,vU,vU],sD f level succ pred tree (zaX k D (f.params.drop k)) [],3,5⟩):=by
 intro d
 induction d with
 | zero =>
   intro k D a0 a2 a3 a4 a5 a6 a7 a8 a9 j b h i c g a a20 e a22 a23 a24 a25 a26 a27 a28 a29 q o;have l : k = f.params.length:=(by omega);subst l;rw [xl zaB rfl,zbH];simp -implicitDefEqProofs only [go_sem,stD,yj,yg,zaX]
 | succ d ih =>
   intro k D a0 a2 a3 a4 a5 a6 a7 a8 a9 j b h i c g a a20 e a22 a23 a24 a25 a26 a27 a28 a29 q o;have l : k < f.params.length:=(by omega);have hd : f.params.drop k = f.params[k] :: f.params.drop (k + 1):=yd l;have m:=zgk f.params[k];have n:=zpc f level succ pred tree D [] rfl ((k : Int) + 1) ⟨-1,0,(f.params[k],1)⟩;have hw:=zf l hf.params;have p : ((k + 1 : Nat) : Int) = (k : Int) + 1:=(by omega);have:=ih (k + 1) (zfV ((k : Int) + 1) ⟨-1,0,(f.params[k],1)⟩ D) vU vU vU vU vU vU vU vU vU vU vU vU vU vU vU vU vU vU vU vU vU vU vU vU vU vU (by omega) (by omega);rw [xl zaB rfl,zbH,hd,zaX];rw [p] at hw this;simp -implicitDefEqProofs only [go_sem,stD,zd2] at n m this;simp -implicitDefEqProofs only [go_sem,stD,ilt l,z6 l,ri,m,n,hw,this]
theorem zvz (b : PBlock) (r : okB b) (i : Int) : ∀ (d k : Nat) (D : zfe) (a0 a2 a3 a4 a7 a8 a9 n g j l c m e a23 a24 a25 a26 a27 a28 a29 : V),b.phis.length - k = d → k ≤ b.phis.length →
  exec T zaw ⟨[a0,.one (.ptr 3 0 0 0),a2,a3,a4,vI i,.one (.ptr 5 0 0 0),a7,a8,a9,n,g,j,l,c,m,vL (f.blocks.map rb),vI f.blocks.length,vI i,e,vL (b.phis.map rp),vI b.phis.length,vI k,a23,a24,a25,a26,a27,a28,a29],sD f level succ pred tree D [.cells 0 5 [zK b]],3,5⟩ =
   some (match zdx i D (b.phis.drop k) with
    | (D1,none) => (.exit 4,⟨[vU,.one (.ptr 3 0 0 0),vU,vU,vU,vI i,.one (.ptr 5 0 0 0),vU,vU,vU,vU,vU,vU,vU,vU,vU,vL (f.blocks.map rb),vI f.blocks.length,vI i,vU,vU,vU,vU,vU,vU,vU,vU,vU,vU,vU],sD f level succ pred tree D1 [.cells 0 5 [zK b]],3,5⟩)
    | (D1,some p) => (.ret,⟨[vU,vU,vI 7,vU,vU,vU,vU,vU,vU,vU,vU,vU,vU,vU,vU,vU,vU,vU,vU,vU,vU,vU,vU,vU,vU,vU,vU,vU,vU,vU],sD f level succ pred tree D1 [.cells 0 5 [zK b],.cells 0 4 [zxT p]],3,5⟩)):=by
 intro d
 induction d with
 | zero =>
   intro k D a0 a2 a3 a4 a7 a8 a9 n g j l c m e a23 a24 a25 a26 a27 a28 a29 s q;have a : k = b.phis.length:=(by omega);subst a;rw [xl zaw rfl,zbO];simp -implicitDefEqProofs only [go_sem,stD,yj,yg,zdx]
 | succ d ih =>
   intro k D a0 a2 a3 a4 a7 a8 a9 n g j l c m e a23 a24 a25 a26 a27 a28 a29 s q;have a : k < b.phis.length:=(by omega);have hd : b.phis.drop k = b.phis[k] :: b.phis.drop (k + 1):=yd a;have h:=zgk b.phis[k].bits;have o:=zpc f level succ pred tree D [.cells 0 5 [zK b],.cells 0 4 [zxT b.phis[k]]] (by simp -implicitDefEqProofs only [go_sem]) b.phis[k].dst ⟨i,-1,(b.phis[k].bits,1)⟩;rw [xl zaw rfl,zbO,hd,zdx];simp -implicitDefEqProofs only [go_sem,stD,zd2] at o h
   by_cases c1 : b.phis[k].dst < 1
   ·simp -implicitDefEqProofs only [go_sem,stD,ilt a,z6 a,rp,c1]
   by_cases c2 : 1023 < b.phis[k].dst
   ·simp -implicitDefEqProofs only [go_sem,stD,ilt a,z6 a,rp,c1,c2]
   cases c3 : (getM b.phis[k].dst D).isNone
   ·rw [c3] at o
    simp -implicitDefEqProofs only [go_sem,stD,ilt a,z6 a,rp,c1,c2,h,o]
   ·have:=ih (k + 1) (zfV b.phis[k].dst ⟨i,-1,(b.phis[k].bits,1)⟩ D) vU vU vU vU vU vU vU vU vU vU vU vU vU vU vU vU vU vU vU vU vU (by omega) (by omega)
    rw [c3] at o;simp -implicitDefEqProofs only [go_sem,stD] at this;simp -implicitDefEqProofs only [go_sem,stD,ilt a,z6 a,rp,c1,c2,h,o,zt,zf a r.phis,this]
theorem zvo (b : PBlock) (s : okB b) (i : Int) : ∀ (d k : Nat) (D : zfe) (a0 a2 a3 a4 a6 a7 a8 a9 q j l n g p h a20 m a22 a23 a24 a28 a29 : V),b.ops.length - k = d → k ≤ b.ops.length →
  exec T zaC ⟨[a0,.one (.ptr 3 0 0 0),a2,a3,a4,vI i,a6,a7,a8,a9,q,j,l,n,g,p,vL (f.blocks.map rb),vI f.blocks.length,vI i,h,a20,m,a22,a23,a24,vL (b.ops.map ro),vI b.ops.length,vI k,a28,a29],sD f level succ pred tree D [.cells 0 5 [zK b]],3,5⟩ =
   some (match zdg i k D (b.ops.drop k) with
    | (D1,none) => (.exit 6,⟨[vU,.one (.ptr 3 0 0 0),vU,vU,vU,vU,vU,vU,vU,vU,vU,vU,vU,vU,vU,vU,vL (f.blocks.map rb),vI f.blocks.length,vI i,vU,vU,vU,vU,vU,vU,vU,vU,vU,vU,vU],sD f level succ pred tree D1 [.cells 0 5 [zK b]],3,5⟩)
    | (D1,some o) => (.ret,⟨[vU,vU,vI 7,vU,vU,vU,vU,vU,vU,vU,vU,vU,vU,vU,vU,vU,vU,vU,vU,vU,vU,vU,vU,vU,vU,vU,vU,vU,vU,vU],sD f level succ pred tree D1 [.cells 0 5 [zK b],.cells 0 6 [cOp o]],3,5⟩)):=by
 intro d
 induction d with
 | zero =>
   intro k D a0 a2 a3 a4 a6 a7 a8 a9 q j l n g p h a20 m a22 a23 a24 a28 a29 v u;have a : k = b.ops.length:=(by omega);subst a;rw [xl zaC rfl,zbF];simp -implicitDefEqProofs only [go_sem,stD,yj,yg,zdg]
 | succ d ih =>
   intro k D a0 a2 a3 a4 a6 a7 a8 a9 q j l n g p h a20 m a22 a23 a24 a28 a29 v u;have a : k < b.ops.length:=(by omega);have hd : b.ops.drop k = b.ops[k] :: b.ops.drop (k + 1):=yd a;have t:=s.op _ (yp a);have e:=znJ b.ops[k] t.1 t.2;have r:=zpc f level succ pred tree D [.cells 0 5 [zK b],.cells 0 6 [cOp b.ops[k]]] (by simp -implicitDefEqProofs only [go_sem]) b.ops[k].dst ⟨i,k,zN b.ops[k]⟩;rw [xl zaC rfl,zbF,hd,zdg];simp -implicitDefEqProofs only [go_sem,stD,zd2] at r e
   by_cases c1 : (zN b.ops[k]).1 ≤ 0
   ·have c : ¬ 0 < (zN b.ops[k]).1:=by omega
    have:=ih (k + 1) D vU vU vU vU vU vU vU vU vU vU vU vU vU vU vU vU vU vU vU vU vU vU (by omega) (by omega);simp -implicitDefEqProofs only [go_sem,stD] at this;simp -implicitDefEqProofs only [go_sem,stD,ilt a,z6 a,ro,e,c1,c,zt,zf a s.ops,this]
   have c : 0 < (zN b.ops[k]).1:=(by omega);cases c3 : (getM b.ops[k].dst D).isNone
   ·rw [c3] at r
    simp -implicitDefEqProofs only [go_sem,stD,ilt a,z6 a,ro,e,c1,c,r]
   ·have:=ih (k + 1) (zfV b.ops[k].dst ⟨i,k,zN b.ops[k]⟩ D) vU vU vU vU vU vU vU vU vU vU vU vU vU vU vU vU vU vU vU vU vU vU (by omega) (by omega)
    rw [c3] at r;simp -implicitDefEqProofs only [go_sem,stD] at this;simp -implicitDefEqProofs only [go_sem,stD,ilt a,z6 a,ro,e,c1,c,r,zt,zf a s.ops,this]
theorem zvi : ∀ (d k : Nat) (D : zfe) (a0 a2 a3 a4 a5 a6 a7 a8 a9 i c e g a h b a20 j a22 a23 a24 a25 a26 a27 a28 a29 : V),f.blocks.length - k = d → k ≤ f.blocks.length →
  exec T zax ⟨[a0,.one (.ptr 3 0 0 0),a2,a3,a4,a5,a6,a7,a8,a9,i,c,e,g,a,h,vL (f.blocks.map rb),vI f.blocks.length,vI k,b,a20,j,a22,a23,a24,a25,a26,a27,a28,a29],sD f level succ pred tree D [],3,5⟩ =
   some (match zbp k D (f.blocks.drop k) with
    | (D1,none) => (.exit 2,⟨[vU,.one (.ptr 3 0 0 0),vU,vU,vU,vU,vU,vU,vU,vU,vU,vU,vU,vU,vU,vU,vU,vU,vU,vU,vU,vU,vU,vU,vU,vU,vU,vU,vU,vU],sD f level succ pred tree D1 [],3,5⟩)
    | (D1,some G) => (.ret,⟨[vU,vU,vI 7,vU,vU,vU,vU,vU,vU,vU,vU,vU,vU,vU,vU,vU,vU,vU,vU,vU,vU,vU,vU,vU,vU,vU,vU,vU,vU,vU],sD f level succ pred tree D1 G,3,5⟩)):=by
 intro d
 induction d with
 | zero =>
   intro k D a0 a2 a3 a4 a5 a6 a7 a8 a9 i c e g a h b a20 j a22 a23 a24 a25 a26 a27 a28 a29 t s;have l : k = f.blocks.length:=(by omega);subst l;rw [xl zax rfl,zbQ];simp -implicitDefEqProofs only [go_sem,stD,yj,yg,zbp]
 | succ d ih =>
   intro k D a0 a2 a3 a4 a5 a6 a7 a8 a9 i c e g a h b a20 j a22 a23 a24 a25 a26 a27 a28 a29 t s;have l : k < f.blocks.length:=(by omega);have hd : f.blocks.drop k = f.blocks[k] :: f.blocks.drop (k + 1):=yd l;have q:=hf.block _ (yp l);have m:=fun a0 a2 a3 a4 a7 a8 a9 i c e g a h b a23 a24 a25 a26 a27 a28 a29 => zvz f hf level succ pred tree f.blocks[k] q k f.blocks[k].phis.length 0 D a0 a2 a3 a4 a7 a8 a9 i c e g a h b a23 a24 a25 a26 a27 a28 a29 (by omega) (by omega);simp only [ym,ye] at m;rw [xl zax rfl,zbQ,hd,zbp];rcases e1 : zdx k D f.blocks[k].phis with ⟨D1,_ | p⟩
   ·have n:=fun a0 a2 a3 a4 a6 a7 a8 a9 i c e g a h b a20 j a22 a23 a24 a28 a29 => zvo f hf level succ pred tree f.blocks[k] q k f.blocks[k].ops.length 0 D1 a0 a2 a3 a4 a6 a7 a8 a9 i c e g a h b a20 j a22 a23 a24 a28 a29 (by omega) (by omega)
    simp only [ym,ye] at n;rcases e2 : zdg k 0 D1 f.blocks[k].ops with ⟨r,_ | o⟩
    ·have:=ih (k + 1) r vU vU vU vU vU vU vU vU vU vU vU vU vU vU vU vU vU vU vU vU vU vU vU vU vU vU (by omega) (by omega)
     simp -implicitDefEqProofs only [go_sem,stD,e1,e2] at m n this;simp -implicitDefEqProofs only [go_sem,stD,ilt l,z6 l,rb,m,n,e2,zt,zf l hf.blocks,this]
    ·simp -implicitDefEqProofs only [go_sem,stD,e1,e2] at m n
     simp -implicitDefEqProofs only [go_sem,stD,ilt l,z6 l,rb,m,n,e2]
   ·simp -implicitDefEqProofs only [go_sem,stD,e1] at m
    simp -implicitDefEqProofs only [go_sem,stD,ilt l,z6 l,rb,m]
end
attribute [go_sem] zvB O0 O2 P1 xS zS sD stD cM
def zgh (f : PFunc) : zfe × Option (List Ob):=zbp 0 (zaX 0 [] f.params) f.blocks
theorem zve (o : POp) : (zW o).length ≤ o.args.length:=by
 unfold zW;split
 ·rename_i h
  simp only [zeI,yh,decide_eq_true_eq] at h;omega
 ·simp
theorem zjQ (pred : List (List Int)) (tree : List Int) : ∀ (l : List PBlock) (i : Nat),zcF pred tree i l = true → ∀ k (a : k < l.length),zoC pred tree (i + k) l[k] = true
 | [],_,_,k,a => by simp at a
 | b :: r,i,h,k,a => by
   simp only [zcF,yh] at h
   cases k with
   | zero => exact h.1
   | succ k =>
     have:=zjQ pred tree r (i + 1) h.2 k (by simpa using a);simpa [Nat.add_assoc,yl 1 k] using this
theorem zw2 {f : PFunc} {pred : List (List Int)} {tree : List Int} (h : zcF pred tree 0 f.blocks = true) : ∀ b ∈ f.blocks,zoR b:=fun b c => by
 obtain ⟨k,d,rfl⟩:=List.getElem_of_mem c;have:=zjQ pred tree f.blocks 0 h k d;simp only [zoC,yh,List.all_eq_true] at this;refine ⟨fun p a => ?_,fun o _ => zve o⟩;have:=this.2.1 p a;simp only [zlO,yh,decide_eq_true_eq] at this;exact this.2
theorem zB0 (f : PFunc) (level : Int) (succ pred : List (List Int)) (tree : List Int) (D : zfe) : Ok (sD f level succ pred tree D []):=by
 unfold Ok;simp -implicitDefEqProofs only [go_sem,stD,zt]
theorem zww (f : PFunc) (level : Int) (succ pred : List (List Int)) (tree : List Int) (D : zfe) : Ok (sD f level succ pred tree D [P1]):=by
 unfold Ok;simp -implicitDefEqProofs only [go_sem,stD,zt]
section
variable (f : PFunc) (hf : okF f) (level : Int) (succ pred : List (List Int)) (tree : List Int) (hab : ∀ b ∈ f.blocks,zoR b)
include hf hab
theorem zrE : call T 161 [.one (.ptr 1 0 0 0)] [O0 f,zvB f level (xS succ) (xS pred) (zS tree) (.f (.lit (.map none))),O2] =
  some (vI (match zgh f with | (D,none) => zC (zg1 D) (zcV f) | (_,some _) => 7),sD f level succ pred tree (zgh f).1 []):=by
 rw [zd (fn:=zaL) rfl];have i:=fun a0 a2 a3 a4 a5 a6 a7 a8 a9 g b d o k n a a20 c a22 a23 a24 a25 a26 a27 a28 a29 => zuU f hf level succ pred tree f.params.length 0 [] a0 a2 a3 a4 a5 a6 a7 a8 a9 g b d o k n a a20 c a22 a23 a24 a25 a26 a27 a28 a29 (by omega) (by omega);have h:=fun a0 a2 a3 a4 a5 a6 a7 a8 a9 g b l m j d a a20 c a22 a23 a24 a25 a26 a27 a28 a29 => zvi f hf level succ pred tree f.blocks.length 0 (zaX 0 [] f.params) a0 a2 a3 a4 a5 a6 a7 a8 a9 g b l m j d a a20 c a22 a23 a24 a25 a26 a27 a28 a29 (by omega) (by omega);have p : zdj zd2 [] = []:=rfl;simp only [ym,ye] at i h;have s : zgh f = zbp 0 (zaX 0 [] f.params) f.blocks:=rfl;rw [s];rcases e : zbp 0 (zaX 0 [] f.params) f.blocks with ⟨D,_ | G⟩
 ·have hu:=zmp f level (xS succ) (xS pred) (zS tree) (.map 4) 208 [.ptr 3 0 0 0] (sD f level succ pred tree D []) rfl (zB0 _ _ _ _ _ _) rfl (zg1 D)
   (fun r u t => znR f level succ pred tree D r (by simpa [yl] using t) u) hf hab
  simp -implicitDefEqProofs only [go_sem,stD,e,p] at i h hu;simp -implicitDefEqProofs only [go_sem,zaL,i,h,hu,zt,e]
 ·simp -implicitDefEqProofs only [go_sem,stD,e,p] at i h
  simp -implicitDefEqProofs only [go_sem,zaL,i,h,zt,e,ya]
  by_cases q : G.length ≤ 0
  ·have : G = []:=List.eq_nil_of_length_eq_zero (by omega)
   subst this;rfl
  ·rw [if_neg q]
   rfl
theorem zsK (D : zfe) : call T 162 [.one (.ptr 1 0 0 0)] (sD f level succ pred tree D []) = some (vI (zC (zaP D) (zcV f)),sD f level succ pred tree D []):=by
 rw [zd (fn:=zce) rfl]
 have hu:=zmp f level (xS succ) (xS pred) (zS tree) (.map 4) 209 [.ptr 5 0 0 0] (sD f level succ pred tree D [P1]) rfl (zww _ _ _ _ _ _) rfl (zaP D)
  (fun r u a => zps f level succ pred tree D r (by simpa [yl] using a) u) hf hab
 simp -implicitDefEqProofs only [go_sem,stD] at hu;simp -implicitDefEqProofs only [go_sem,zce,stD,hu,zt]
theorem zr5 (a : tree.length ≤ 4294967296) (D : zfe) : call T 163 [.one (.ptr 1 0 0 0)] (sD f level succ pred tree D []) = some (vI (zC (zab D tree) (zcV f)),sD f level succ pred tree D []):=by
 rw [zd (fn:=zcf) rfl]
 have hu:=zmp f level (xS succ) (xS pred) (zS tree) (.map 4) 210 [.ptr 5 0 0 0] (sD f level succ pred tree D [P1]) rfl (zww _ _ _ _ _ _) rfl (zab D tree)
  (fun r u b => zpE f level succ pred tree D r (by simpa [yl] using b) a u) hf hab
 simp -implicitDefEqProofs only [go_sem,stD] at hu;simp -implicitDefEqProofs only [go_sem,zcf,stD,hu,zt]
end
def zfg (f : PFunc) (level : Int) (tree : List Int) : Int :=
 if zpM f = false then 4 else if zdM f tree = false then 5 else if zfn f level = false then 6 else
 match zgh f with
 | (_,some _) => 7
 | (D,none) => if zC (zg1 D) (zcV f) ≠ 0 then zC (zg1 D) (zcV f) else if zC (zaP D) (zcV f) ≠ 0 then zC (zaP D) (zcV f) else zC (zab D tree) (zcV f)
def ziN (f : PFunc) (tree : List Int) : Prop:=tree.length ≤ 4294967296 ∧ (zbA f = true → call T 195 [.agg [.f (.sl ((zA f).map rl)),.f (.sl ((zah (zA f)).map rl))],vI 0] [] = some (vIs tree,[]))
theorem n5 : ((5 : Nat) : Int) = 5:=rfl
theorem wr1 : Go.IntKind.i64.wrap 1 = 1:=by decide
theorem wr2 : Go.IntKind.i64.wrap 2 = 2:=by decide
theorem wr3 : Go.IntKind.i64.wrap 3 = 3:=by decide
theorem wr4 : Go.IntKind.i64.wrap 4 = 4:=by decide
theorem wr5 : Go.IntKind.i64.wrap 5 = 5:=by decide
attribute [go_sem] n5 wr1 wr2 wr3 wr4 wr5
set_option maxRecDepth 10000 in
theorem zqH (f : PFunc) (hf : okF f) (level : Int) (tree : List Int) (n : ziN f tree) : ∃ σ',call T 110 [zbS f,vI level] [] = some (.tup [.one (.ptr 1 0 0 0),vI (zfg f level tree)],σ') ∧ (zfg f level tree = 0 → σ' = sD f level (zA f) (zah (zA f)) tree (zgh f).1 []):=by
 rw [zd (fn:=zam) rfl];have hm:=zpl f hf;cases e : zpM f
 ·rw [e] at hm
  simp -implicitDefEqProofs only [go_sem] at hm;simp -implicitDefEqProofs only [go_sem,zam,hm,zfg,e];exact ⟨_,rfl,fun h => by first | exact h.elim | simp at h⟩
 rw [e] at hm;cases l : zbA f
 ·have a:=znQ f hf level l
  have e2 : zdM f tree = false:=by simp [zdM,l]
  simp -implicitDefEqProofs only [go_sem] at hm a;simp -implicitDefEqProofs only [go_sem,zam,hm,zfg,e,e2,xl zaO rfl,zaM,a];exact ⟨_,rfl,fun h => by first | exact h.elim | simp at h⟩
 have a:=zqb f hf level l tree n.1 (n.2 l);cases e2 : zcF (zah (zA f)) tree 0 f.blocks
 ·have b : zdM f tree = false:=by simp [zdM,e2]
  rw [e2] at a;simp -implicitDefEqProofs only [go_sem] at hm a;simp -implicitDefEqProofs only [go_sem,zam,hm,zfg,e,b,xl zaO rfl,zaM,a];exact ⟨_,rfl,fun h => by first | exact h.elim | simp at h⟩
 have b : zdM f tree = true:=by simp [zdM,l,e2]
 have hab:=zw2 e2;have c:=zuX f level (xS (zA f)) (xS (zah (zA f))) (zS tree) (.f (.lit (.map none))) [O0 f,zvB f level (xS (zA f)) (xS (zah (zA f))) (zS tree) (.f (.lit (.map none))),O2] rfl (by unfold Ok; simp -implicitDefEqProofs only [go_sem]) hf;rw [e2] at a;cases i : zfn f level
 ·rw [i] at c
  simp -implicitDefEqProofs only [go_sem] at hm a c;simp -implicitDefEqProofs only [go_sem,zam,hm,zfg,e,b,i,xl zaO rfl,zaM,a,c];exact ⟨_,rfl,fun h => by first | exact h.elim | simp at h⟩
 rw [i] at c;have hd:=zrE f hf level (zA f) (zah (zA f)) tree hab;rcases e4 : zgh f with ⟨D,_ | G⟩
 ·rw [e4] at hd
  by_cases j : zC (zg1 D) (zcV f) = 0
  ·have d:=zsK f hf level (zA f) (zah (zA f)) tree hab D
   by_cases k : zC (zaP D) (zcV f) = 0
   ·have g:=zr5 f hf level (zA f) (zah (zA f)) tree hab n.1 D
    by_cases m : zC (zab D tree) (zcV f) = 0
    ·simp -implicitDefEqProofs only [go_sem,j,k,m] at hm a c hd d g
     simp -implicitDefEqProofs only [go_sem,zam,hm,zfg,e,b,i,e4,j,k,m,xl zaO rfl,zaM,a,c,hd,d,g,zt,ne_eq];exact ⟨_,rfl,fun _ => rfl⟩
    ·simp -implicitDefEqProofs only [go_sem,j,k] at hm a c hd d g
     simp -implicitDefEqProofs only [go_sem,zam,hm,zfg,e,b,i,e4,j,k,m,xl zaO rfl,zaM,a,c,hd,d,g,zt,ne_eq];exact ⟨_,rfl,fun h => by first | exact absurd h m | exact h.elim⟩
   ·simp -implicitDefEqProofs only [go_sem,j] at hm a c hd d
    simp -implicitDefEqProofs only [go_sem,zam,hm,zfg,e,b,i,e4,j,k,xl zaO rfl,zaM,a,c,hd,d,zt,ne_eq];exact ⟨_,rfl,fun h => by first | exact absurd h k | exact h.elim⟩
  ·simp -implicitDefEqProofs only [go_sem] at hm a c hd
   simp -implicitDefEqProofs only [go_sem,zam,hm,zfg,e,b,i,e4,j,xl zaO rfl,zaM,a,c,hd,zt,ne_eq];exact ⟨_,rfl,fun h => by first | exact absurd h j | exact h.elim⟩
 ·rw [e4] at hd
  simp -implicitDefEqProofs only [go_sem] at hm a c hd;simp -implicitDefEqProofs only [go_sem,zam,hm,zfg,e,b,i,e4,xl zaO rfl,zaM,a,c,hd,zt,ne_eq];exact ⟨_,rfl,fun h => by first | exact h.elim | simp at h⟩
def ziO (f : PFunc) (level : Int) (tree : List Int) : Int:=if level < 0 ∨ 2 < level then 1 else zfg f level tree
@[go_sem] theorem zog (f : PFunc) (b : okF f) (level : Int) (tree : List Int) (a : ziN f tree) : call T 51 [zbS f,vI level] [] = some (vI (ziO f level tree),[]):=by
  rw [zd (fn:=zdF) rfl]
  by_cases c1 : level < 0
  ·simp -implicitDefEqProofs only [go_sem,zdF,ziO,c1]
  by_cases c2 : 2 < level
  ·simp -implicitDefEqProofs only [go_sem,zdF,ziO,c1,c2]
  obtain ⟨σ',h,_⟩:=zqH f b level tree a;simp -implicitDefEqProofs only [go_sem] at h;simp -implicitDefEqProofs only [go_sem,zdF,ziO,c1,c2,h]
theorem zsk {e : List C} {k : Nat} (c : C) (h : k < e.length) : e.take k ++ c :: e.drop (k + 1) = e.set k c:=by
 rw [List.set_eq_take_append_cons_drop,if_pos h]
theorem zxD {a b : Nat} (h : a < b) : (a + 1 ≤ b) = True:=by simp; omega
def vSh (s : Int × Int) : V:=.agg [.f (ei s.1),.f (ei s.2)]
abbrev SMap:=List (Int × (Int × Int))
def zoW : SMap → zfe → SMap
 | S,[] => S
 | S,e :: r => zoW (zfV e.1 e.2.shape S) r
theorem zui : ∀ (D : zfe) (S : SMap),zfB 2 (some 2) 4 (zdj zd2 D) (zdj vSh S) = some (zdj vSh (zoW S D))
 | [],S => rfl
 | e :: r,S => by
   have b : ∀ l : List (Int × PDef),zdj zd2 (e :: l) = (e.1,zd2 e.2) :: zdj zd2 l:=fun _ => rfl;rw [b,zfB];have c : (zd2 e.2).cells.length = 4 ∧ C.kns (zd2 e.2).cells = true:=⟨rfl,rfl⟩;rw [if_pos c];have a : ztB 2 (some 2) (zd2 e.2) = some (vSh e.2.shape):=rfl;rw [a,Option.bind_some,zkc,zui r,zoW]
theorem zeE {α : Type} (k v : Int) (a : α) : ∀ S : List (Int × α),getM v (zfV k a S) = if k = v then some a else getM v S
 | [] => rfl
 | e :: r => by
   simp only [zfV]
   by_cases h : e.1 = k
   ·rw [if_pos h]
    simp only [getM,h]
    by_cases b : k = v
    ·rw [if_pos b,if_pos b]
    ·rw [if_neg b,if_neg b,if_neg b]
   ·rw [if_neg h]
    simp only [getM]
    by_cases b : e.1 = v
    ·rw [if_pos b,if_pos b,if_neg (by omega)]
    ·rw [if_neg b,if_neg b,zeE k v a r]
theorem zqq {α : Type} {v : Int} : ∀ {S : List (Int × α)},v ∉ S.map Prod.fst → getM v S = none
 | [],_ => rfl
 | e :: r,h => by
   simp only [yc,yq,not_or] at h;rw [getM,if_neg (fun a => h.1 a.symm),zqq h.2]
theorem zoE (v : Int) : ∀ (D : zfe) (S : SMap),(D.map Prod.fst).Nodup → getM v (zoW S D) = match getM v D with
  | some d => some d.shape
  | none => getM v S
 | [],S,_ => rfl
 | e :: r,S,h => by
   simp only [yc,List.nodup_cons] at h;rw [zoW,zoE v r _ h.2,getM,zeE]
   by_cases a : e.1 = v
   ·rw [if_pos a,if_pos a,zqq (a ▸ h.1)]
   ·rw [if_neg a,if_neg a]
theorem zqR {α : Type} (k : Int) (a : α) : ∀ S : List (Int × α),(zfV k a S).map Prod.fst = if k ∈ S.map Prod.fst then S.map Prod.fst else S.map Prod.fst ++ [k]
 | [] => by simp [zfV]
 | e :: r => by
   simp only [zfV]
   by_cases h : e.1 = k
   ·rw [if_pos h]; simp [h]
   ·rw [if_neg h,yc,zqR k a r]
    by_cases b : k ∈ r.map Prod.fst
    ·rw [if_pos b,if_pos (by rw [yc]; exact List.mem_cons_of_mem _ b),yc]
    ·rw [if_neg b,if_neg (by rw [yc,yq]; rintro (c | c); exact h c.symm; exact b c)]; rfl
theorem zf8 {α : Type} (k : Int) (a : α) {S : List (Int × α)} (h : (S.map Prod.fst).Nodup) : ((zfV k a S).map Prod.fst).Nodup:=by
 rw [zqR];split
 ·exact h
 ·rename_i c
  rw [List.nodup_append];refine ⟨h,by simp,fun x d y b => ?_⟩;rw [List.mem_singleton] at b;intro e;exact c (by rw [← b,← e]; exact d)
theorem zlz : ∀ (l : List Int) (i : Nat) (D : zfe),(D.map Prod.fst).Nodup → ((zaX i D l).map Prod.fst).Nodup
 | [],_,_,h => h
 | _ :: r,_,_,h => zlz r _ _ (zf8 _ _ h)
theorem zo1 (i : Int) : ∀ (l : List PPhi) (D : zfe),(D.map Prod.fst).Nodup → ((zdx i D l).1.map Prod.fst).Nodup
 | [],_,h => h
 | p :: r,D,h => by
   unfold zdx;split
   ·exact h
   ·split
    ·exact zo1 i r _ (zf8 _ _ h)
    ·exact zf8 _ _ h
theorem znG (i : Int) : ∀ (l : List POp) (k : Nat) (D : zfe),(D.map Prod.fst).Nodup → ((zdg i k D l).1.map Prod.fst).Nodup
 | [],_,_,h => h
 | p :: r,k,D,h => by
   unfold zdg;split
   ·exact znG i r _ _ h
   ·split
    ·exact znG i r _ _ (zf8 _ _ h)
    ·exact zf8 _ _ h
theorem zlq : ∀ (l : List PBlock) (i : Nat) (D : zfe),(D.map Prod.fst).Nodup → ((zbp i D l).1.map Prod.fst).Nodup
 | [],_,_,h => h
 | b :: r,i,D,h => by
   unfold zbp;have c:=zo1 i b.phis D h;split
   ·rename_i e; rw [e] at c; exact c
   ·rename_i d e
    rw [e] at c;have a:=znG i b.ops 0 d c;split
    ·rename_i e2; rw [e2] at a; exact a
    ·rename_i e2; rw [e2] at a; exact zlq r _ _ a
theorem zuO (f : PFunc) : ((zgh f).1.map Prod.fst).Nodup:=zlq _ _ _ (zlz _ _ _ (by simp))
def zdU (f : PFunc) : SMap:=zoW [] (zgh f).1
theorem zkZ {α : Type} (enc : α → V) (n : Nat) (h : ∀ a,(enc a).shift n = enc a) : ∀ D : List (Int × α),yr (fun e => (e.fst,V.shift n e.snd)) (zdj enc D) = zdj enc D
 | [] => rfl
 | e :: r => by
   have b:=zkZ enc n h r;unfold zdj at b ⊢;simp only [yc,h,b]
theorem zhz (n : Nat) (D : zfe) : yr (fun e => (e.fst,V.shift n e.snd)) (zdj zd2 D) = zdj zd2 D:=zkZ zd2 n (fun _ => rfl) D
theorem zl3 (n : Nat) (D : SMap) : yr (fun e => (e.fst,V.shift n e.snd)) (zdj vSh D) = zdj vSh D:=zkZ vSh n (fun _ => rfl) D
abbrev zCT (f : PFunc) (tree : List Int) : zb:=[O0 f,O0 f,.cells 0 8 [[.f (.sl (f.params.map ri)),.f (.lit (.int .i64 f.ret)),.f (.sl (f.blocks.map rb)),.f (.lit (.int .i64 2)),.f (.sl ((zA f).map rl)),.f (.sl ((zah (zA f)).map rl)),.f (.sl (tree.map ri)),.map 5]],
 .cells 0 1 [[.fn 159 [.ptr 2 0 0 0] []],[.fn 160 [.ptr 2 0 0 0] []],[.fn 161 [.ptr 2 0 0 0] []],[.fn 162 [.ptr 2 0 0 0] []],[.fn 163 [.ptr 2 0 0 0] []]],
 .cells 0 1 [[.ptr 2 0 0 0]],.mp (zdj zd2 (zgh f).1),.mp (zdj vSh (zdU f))]
theorem zqp (f : PFunc) (e : okF f) (tree : List Int) (d : ziN f tree) (a : zfg f 2 tree = 0) :
  call T 84 [zbS f] [] = some (.one (.map 6),zCT f tree):=by
 rw [zd (fn:=zfO) rfl];obtain ⟨σ',h,b⟩:=zqH f e 2 tree d;rw [b a,a] at h;have c : zfB 2 (some 2) 4 (zdj zd2 (zgh f).1) [] = some (zdj vSh (zdU f)):=zui (zgh f).1 [];simp -implicitDefEqProofs only [go_sem] at h;simp -implicitDefEqProofs only [go_sem,zfO,h,zxb,zrn,zto,zhz,c,vSh,zCT]
def rvK (l : List Int) (k : Nat) : List Int:=(List.range l.length).map fun j => if j < k ∨ l.length - k ≤ j then l.getD (l.length - 1 - j) 0 else l.getD j 0
theorem zfW (l : List Int) (k : Nat) : (rvK l k).length = l.length:=by simp [rvK]
theorem zkz (l : List Int) (k j : Nat) (h : j < l.length) : (rvK l k)[j]? = some (if j < k ∨ l.length - k ≤ j then l.getD (l.length - 1 - j) 0 else l.getD j 0):=by simp [rvK,h]
theorem zzq (l : List Int) : rvK l 0 = l:=by
 apply yf;intro j
 by_cases h : j < l.length
 ·rw [zkz l 0 j h,if_neg (by omega)]
  simp [h]
 ·rw [yb (by rw [zfW]; omega),yb (by omega)]
theorem zA3 (l : List Int) (k : Nat) (h : l.length ≤ 2 * k + 1) : rvK l k = l.reverse:=by
 apply yf;intro j
 by_cases a : j < l.length
 ·rw [zkz l k j a,List.getElem?_reverse a]
  have b : l.length - 1 - j < l.length:=by omega
  by_cases c : j < k ∨ l.length - k ≤ j
  ·rw [if_pos c]
   simp [b]
  ·rw [if_neg c]
   have : l.length - 1 - j = j:=(by omega);rw [this];simp [a]
 ·rw [yb (by rw [zfW]; omega),yb (by simp; omega)]
theorem zz0 (l : List Int) (k : Nat) (h : 2 * k + 1 < l.length) : ((rvK l k).set k (l.getD (l.length - 1 - k) 0)).set (l.length - 1 - k) (l.getD k 0) = rvK l (k + 1):=by
 apply yf;intro j
 by_cases a : j < l.length
 ·rw [zkz l (k + 1) j a,yk,yk,zkz l k j a]
  simp only [yi,zfW]
  by_cases c1 : l.length - 1 - k = j
  ·rw [if_pos c1,if_pos (by omega),if_pos (by omega)]
   have : l.length - 1 - j = k:=(by omega);rw [this]
  ·rw [if_neg c1]
   by_cases c2 : k = j
   ·rw [if_pos c2,if_pos (by omega),if_pos (by omega),c2]
   ·rw [if_neg c2]
    by_cases c3 : j < k ∨ l.length - k ≤ j
    ·rw [if_pos c3,if_pos (by omega)]
    ·rw [if_neg c3,if_neg (by omega)]
 ·rw [yb (by simp [zfW]; omega),yb (by rw [zfW]; omega)]
theorem zjV {l : List Int} {j : Nat} {x : Int} (h : l[j]? = some x) : (l.map zF)[j]? = some [.f (.lit (.int .i64 x))]:=by simp [h,zF]
theorem zrC (σ : zb) (id a : Nat) (l : List Int) (v : l.length ≤ 4294967296) (i : id < σ.length) : ∀ (d k : Nat) (a3 : V),l.length - 2 * k ≤ d → 2 * k ≤ l.length →
  exec T zan ⟨[.one (.own id a 0 l.length),vI k,vI ((l.length : Int) - 1 - k),a3],σ.set id (.cells a 1 ((rvK l k).map zF)),σ.length,σ.length⟩ =
   some (.exit 0,⟨[vU,vU,vU,vU],σ.set id (.cells a 1 (l.reverse.map zF)),σ.length,σ.length⟩):=by
 have b : ∀ k : Nat,¬ ((k : Int) < (l.length : Int) - 1 - k) → 2 * k ≤ l.length → ∀ (a3 : V),
  exec T zan ⟨[.one (.own id a 0 l.length),vI k,vI ((l.length : Int) - 1 - k),a3],σ.set id (.cells a 1 ((rvK l k).map zF)),σ.length,σ.length⟩ =
   some (.exit 0,⟨[vU,vU,vU,vU],σ.set id (.cells a 1 (l.reverse.map zF)),σ.length,σ.length⟩):=by
  intro k e j a3;rw [xl zan rfl,zcz,zA3 l k (by omega)];simp -implicitDefEqProofs only [go_sem,e,yi]
 intro d
 induction d with
 | zero =>
   intro k a3 s g;exact b k (by omega) g _
 | succ d ih =>
   intro k a3 s g
   by_cases e : (k : Int) < (l.length : Int) - 1 - k
   ·have j : k < l.length:=by omega
    have m : l.length - 1 - k < l.length:=(by omega);have n:=zjV (zkz l k k j);have h:=zjV (zkz l k (l.length - 1 - k) m);rw [if_neg (by omega)] at n h;have q : ((l.length : Int) - 1 - k).toNat = l.length - 1 - k:=(by omega);have e2 : (0 : Int) ≤ (l.length : Int) - 1 - k:=(by omega);have t : ((l.length : Int) - 1 - k < (l.length : Int)) = True:=(by simp; omega);have r : Go.IntKind.i64.wrap ((k : Int) + 1) = ((k + 1 : Nat) : Int):=(by rw [wrap_i64] <;> omega);have o : Go.IntKind.i64.wrap ((l.length : Int) - 1 - k - 1) = (l.length : Int) - 1 - ((k + 1 : Nat) : Int):=(by rw [wrap_i64] <;> omega);have u : ((l.map zF).length) = l.length:=(by simp);have st:=congrArg (yr zF) (zz0 l k (by omega));rw [ys,ys] at st;have:=ih (k + 1) vU (by omega) (by omega);rw [← st] at this;have p : ¬ l.length - 1 - k = k:=by omega
    have c : ((yr zF (rvK l k)).set k (zF (l.getD (l.length - 1 - k) 0)))[l.length - 1 - k]? = some [.f (.lit (.int .i64 (l.getD (l.length - 1 - k) 0)))]:=by
     rw [List.getElem?_set_ne (by omega)];exact h
    rw [xl zan rfl,zcz];simp -implicitDefEqProofs only [go_sem,zF] at this c;simp -implicitDefEqProofs only [go_sem,e,q,e2,t,ilt j,Int.natCast_nonneg,Int.toNat_natCast,List.getElem?_set_self i,n,h,c,List.set_set,yi,r,o,this]
   ·exact b k e g _
theorem zq1 (σ : zb) (id a : Nat) (l : List Int) (g : l.length ≤ 4294967296) (c : σ[id]? = some (.cells a 1 (l.map zF))) (n : Nat) (f : n = l.length) :
  call T 149 [.one (.own id a 0 n)] σ = some (.tup [],σ.set id (.cells a 1 (l.reverse.map zF))):=by
 subst f;rw [zd (fn:=zcM) rfl];have b : id < σ.length:=(List.getElem?_eq_some_iff.1 c).1;have h:=fun a3 => zrC σ id a l g b l.length 0 a3 (by omega) (by omega)
 have d : σ.set id (.cells a 1 (l.map zF)) = σ:=by
  apply yf;intro j;rw [yk]
  by_cases e : id = j
  ·subst e; rw [if_pos rfl,if_pos b,c]
  ·rw [if_neg e]
 rw [zzq,d] at h;simp only [ye,Int.sub_zero] at h;have w : Go.IntKind.i64.wrap ((l.length : Int) - 1) = (l.length : Int) - 1:=by rw [wrap_i64] <;> omega
 simp -implicitDefEqProofs only [go_sem] at h;simp -implicitDefEqProofs only [go_sem,zcM,w,h,yi]
end AC

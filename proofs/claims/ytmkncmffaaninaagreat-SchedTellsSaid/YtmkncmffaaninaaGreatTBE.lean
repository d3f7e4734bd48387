/- A part of the proof of SchedTells. Conditions: none. -/
import Derived.Test.YtmkncmffaaninaaGreatTBC
import Derived.Test.YtmkncmffaaninaaGreatTBD
set_option linter.all false
open Nat renaming add_le_add_iff_right → ya,add_comm → yl
open Int renaming natCast_nonneg → yb,toNat_natCast → yd,lt_irrefl → yg,natCast_zero → yk
open List renaming length_map → yc,drop_eq_getElem_cons → ye,drop_length → yf,getElem_mem → yh,map_cons → yj,drop_zero → ym,all_cons → yn,length_cons → yo,all_nil → yr,map_nil → ys
open Bool renaming and_eq_true → yi
open Option renaming isNone_none → yp,isNone_some → yq
namespace AC
open Go Go.A Go.A.Lex
def zgm (defs : List Use) : Nat → List Use → Bool
 | _,[] => true
 | k,u :: r => (value u.v && decide (zl u.v 0 defs = (k : Int))) && zgm defs (k + 1) r
def ziM (defs : List Use) (v : Int) : Use:=defs.getD (zl v 0 defs).toNat ⟨0,(0,0),0,0⟩
def zk8 (defs : List Use) (u : Use) : Bool:=!decide (zl u.v 0 defs < 0)
def sameShape (defs : List Use) (u : Use) : Bool:=decide ((ziM defs u.v).shape = u.shape)
def zhd (defs : List Use) (tree : List Int) (u : Use) : Bool :=
 (decide ((ziM defs u.v).block < 0) || (decide ((ziM defs u.v).block = u.block) && decide ((ziM defs u.v).at' < u.at'))) || !(decide ((ziM defs u.v).block = u.block) || !decide (znk tree (ziM defs u.v).block u.block = (ziM defs u.v).block))
theorem zj2 (v : Int) : ∀ (l : List Use) (k : Nat),0 ≤ zl v k l → (k : Int) ≤ zl v k l ∧ zl v k l < ((k + l.length : Nat) : Int)
 | [],k,h => by simp [zl] at h
 | u :: r,k,h => by
   rw [zl] at h ⊢;split
   ·simp only [yo]; omega
   ·rename_i c
    rw [if_neg c] at h;have:=zj2 v r (k + 1) h;simp only [yo];omega
section
variable (f : PFunc) (hf : okF f) (defs uses : List Use) (hdl : defs.length ≤ 4294967296) (hul : uses.length ≤ 4294967296)
abbrev zi2 (r : zd) : zd:=.cells 0 3 [z6 f] :: r
include hf hdl
theorem zyC : ∀ (d k : Nat) (a0 a1 a3 a6 a7 a8 a9 q j o m h n g l b i a20 p a22 a23 a24 a25 a26 : V),defs.length - k = d → k ≤ defs.length →
  exec T zbW ⟨[a0,a1,.one (.ptr 0 0 0 0),a3,vUs defs,vI k,a6,a7,a8,a9,q,j,o,m,h,n,g,l,b,i,a20,p,a22,a23,a24,a25,a26],zi2 f [],0,0⟩ =
   some (if zgm defs k (defs.drop k) = true then (.exit 0,⟨[vU,vU,.one (.ptr 0 0 0 0),vU,vUs defs,vU,vU,vU,vU,vU,vU,vU,vU,vU,vU,vU,vU,vU,vU,vU,vU,vU,vU,vU,vU,vU,vU],zi2 f [],0,0⟩) else (.ret,⟨[vU,vU,vU,vI 7,vU,vU,vU,vU,vU,vU,vU,vU,vU,vU,vU,vU,vU,vU,vU,vU,vU,vU,vU,vU,vU,vU,vU],zi2 f [],0,0⟩)):=by
 intro d
 induction d with
 | zero =>
   intro k a0 a1 a3 a6 a7 a8 a9 q j o m h n g l b i a20 p a22 a23 a24 a25 a26 h1 t;have a : k = defs.length:=(by omega);subst a;rw [xl zbW rfl,zdZ];simp -implicitDefEqProofs only [go_sem,zi2,yg,yc,yf,zgm]
 | succ d ih =>
   intro k a0 a1 a3 a6 a7 a8 a9 q j o m h n g l b i a20 p a22 a23 a24 a25 a26 h1 t;have a : k < defs.length:=(by omega);have hd : defs.drop k = defs[k] :: defs.drop (k + 1):=ye a;have r:=zjU defs[k].v;have s:=zir defs defs[k].v hdl;have:=ih (k + 1) vU vU vU vU vU vU vU vU vU vU vU vU vU vU vU vU vU vU vU vU vU vU vU vU (by omega) (by omega);rw [xl zbW rfl,zdZ,hd,zgm];simp -implicitDefEqProofs only [go_sem,zi2] at this;simp -implicitDefEqProofs only [go_sem] at s;cases c : value defs[k].v
   ·simp -implicitDefEqProofs only [go_sem,c] at r
    simp -implicitDefEqProofs only [go_sem,zi2,ilt a,zj a,rU,yc,r,c,yb,yd]
   ·simp -implicitDefEqProofs only [go_sem,c] at r
    by_cases e : zl defs[k].v 0 defs = (k : Int)
    ·simp -implicitDefEqProofs only [go_sem,zi2,ilt a,zj a,rU,yc,r,s,c,eq_true e,yb,yd,za a hdl,this]
    ·simp -implicitDefEqProofs only [go_sem,zi2,ilt a,zj a,rU,yc,r,s,c,e,yb,yd]
include hul
theorem zyU : ∀ (d k : Nat) (a0 a1 a3 a5 a8 a9 p j n l g m c i b h a20 o a22 a23 a24 a25 a26 : V),uses.length - k = d → k ≤ uses.length →
  exec T zbT ⟨[a0,a1,.one (.ptr 0 0 0 0),a3,vUs defs,a5,vUs uses,vI k,a8,a9,p,j,n,l,g,m,c,i,b,h,a20,o,a22,a23,a24,a25,a26],zi2 f [],0,0⟩ =
   some (if (uses.drop k).all (zk8 defs) = true then (.exit 2,⟨[vU,vU,.one (.ptr 0 0 0 0),vU,vUs defs,vU,vUs uses,vU,vU,vU,vU,vU,vU,vU,vU,vU,vU,vU,vU,vU,vU,vU,vU,vU,vU,vU,vU],zi2 f [],0,0⟩) else (.ret,⟨[vU,vU,vU,vI 7,vU,vU,vU,vU,vU,vU,vU,vU,vU,vU,vU,vU,vU,vU,vU,vU,vU,vU,vU,vU,vU,vU,vU],zi2 f [],0,0⟩)):=by
 intro d
 induction d with
 | zero =>
   intro k a0 a1 a3 a5 a8 a9 p j n l g m c i b h a20 o a22 a23 a24 a25 a26 h1 r;have a : k = uses.length:=(by omega);subst a;rw [xl zbT rfl,zdX];simp -implicitDefEqProofs only [go_sem,zi2,yg,yc,yf,yr]
 | succ d ih =>
   intro k a0 a1 a3 a5 a8 a9 p j n l g m c i b h a20 o a22 a23 a24 a25 a26 h1 r;have a : k < uses.length:=(by omega);have hd : uses.drop k = uses[k] :: uses.drop (k + 1):=ye a;have q:=zir defs uses[k].v hdl;have:=ih (k + 1) vU vU vU vU vU vU vU vU vU vU vU vU vU vU vU vU vU vU vU vU vU vU vU (by omega) (by omega);rw [xl zbT rfl,zdX,hd,yn,zk8];simp -implicitDefEqProofs only [go_sem,zi2] at this;simp -implicitDefEqProofs only [go_sem] at q
   by_cases e : zl uses[k].v 0 defs < 0
   ·simp -implicitDefEqProofs only [go_sem,zi2,ilt a,zj a,rU,yc,q,eq_true e,yb,yd]
   ·simp -implicitDefEqProofs only [go_sem,zi2,ilt a,zj a,rU,yc,q,e,yb,yd,za a hul,this]
variable (hall : ∀ u ∈ uses,zk8 defs u = true)
omit hf hdl hul in
theorem zEx (u : Use) (h : zk8 defs u = true) : 0 ≤ zl u.v 0 defs ∧ zl u.v 0 defs < (defs.length : Int) ∧ (defs.map rU)[(zl u.v 0 defs).toNat]? = some (rU (ziM defs u.v)):=by
 have h0 : 0 ≤ zl u.v 0 defs:=by
  unfold zk8 at h;simp at h;exact h
 have h1:=zj2 u.v defs 0 h0;have hlt : (zl u.v 0 defs).toNat < defs.length:=by omega
 refine ⟨h0,by omega,?_⟩;rw [zj hlt];unfold ziM;rw [List.getD_eq_getElem?_getD,List.getElem?_eq_getElem hlt];rfl
include hall
theorem zxY : ∀ (d k : Nat) (a0 a1 a3 a5 a7 a9 q j n l g m c i b h a20 o a22 a23 a24 a25 a26 : V),uses.length - k = d → k ≤ uses.length →
  exec T zbY ⟨[a0,a1,.one (.ptr 0 0 0 0),a3,vUs defs,a5,vUs uses,a7,vI k,a9,q,j,n,l,g,m,c,i,b,h,a20,o,a22,a23,a24,a25,a26],zi2 f [],0,0⟩ =
   some (if (uses.drop k).all (sameShape defs) = true then (.exit 4,⟨[vU,vU,.one (.ptr 0 0 0 0),vU,vUs defs,vU,vUs uses,vU,vU,vU,vU,vU,vU,vU,vU,vU,vU,vU,vU,vU,vU,vU,vU,vU,vU,vU,vU],zi2 f [],0,0⟩) else (.ret,⟨[vU,vU,vU,vI 6,vU,vU,vU,vU,vU,vU,vU,vU,vU,vU,vU,vU,vU,vU,vU,vU,vU,vU,vU,vU,vU,vU,vU],zi2 f [],0,0⟩)):=by
 intro d
 induction d with
 | zero =>
   intro k a0 a1 a3 a5 a7 a9 q j n l g m c i b h a20 o a22 a23 a24 a25 a26 h1 t;have a : k = uses.length:=(by omega);subst a;rw [xl zbY rfl,zej];simp -implicitDefEqProofs only [go_sem,zi2,yg,yc,yf,yr]
 | succ d ih =>
   intro k a0 a1 a3 a5 a7 a9 q j n l g m c i b h a20 o a22 a23 a24 a25 a26 h1 t;have a : k < uses.length:=(by omega);have hd : uses.drop k = uses[k] :: uses.drop (k + 1):=ye a;have s:=zir defs uses[k].v hdl;obtain ⟨p1,p2,r⟩:=zEx defs uses[k] (hall _ (yh a));have:=ih (k + 1) vU vU vU vU vU vU vU vU vU vU vU vU vU vU vU vU vU vU vU vU vU vU vU (by omega) (by omega);rw [xl zbY rfl,zej,hd,yn,sameShape];simp -implicitDefEqProofs only [go_sem,zi2] at this;simp -implicitDefEqProofs only [go_sem] at s;obtain ⟨e,he⟩ : ∃ e,e = ziM defs uses[k].v:=⟨_,rfl⟩;rw [← he] at r ⊢;have p : (e.shape = uses[k].shape) = (e.shape.1 = uses[k].shape.1 ∧ e.shape.2 = uses[k].shape.2):=by rw [Prod.ext_iff]
   by_cases s1 : e.shape.1 = uses[k].shape.1
   ·by_cases s2 : e.shape.2 = uses[k].shape.2
    ·simp -implicitDefEqProofs only [go_sem,zi2,ilt a,zj a,rU,yc,s,p1,p2,r,p,eq_true s1,eq_true s2,yb,yd,za a hul,this]
    ·simp -implicitDefEqProofs only [go_sem,zi2,ilt a,zj a,rU,yc,s,p1,p2,r,p,eq_true s1,s2,and_false,yb,yd]
   ·simp -implicitDefEqProofs only [go_sem,zi2,ilt a,zj a,rU,yc,s,p1,p2,r,p,s1,false_and,yb,yd]
theorem zyk (tree : List Int) (w : tree.length ≤ 4294967296) (y t : Fz) : ∀ (d k : Nat),uses.length - k = d → k ≤ uses.length → ∃ r,∀ (a0 a1 a2 a3 a5 a7 a8 a9 l i c j b h a g a20 m a22 a23 a24 a25 a26 : V),
  exec T zI ⟨[a0,a1,a2,a3,vUs defs,a5,vUs uses,a7,a8,a9,vIs tree,vI k,l,i,c,j,b,h,a,g,a20,m,a22,a23,a24,a25,a26],zi2 f [.cells 0 2 [[.f y,.f t]]],0,0⟩ =
   some (if (uses.drop k).all (zhd defs tree) = true then (.exit 6,⟨[vU,vU,vU,vU,vU,vU,vU,vU,vU,vU,vU,vU,vU,vU,vU,vU,vU,vU,vU,vU,vU,vU,vU,vU,vU,vU,vU],zi2 f [.cells 0 2 [[.f y,.f t]]],0,0⟩) else (.ret,⟨[vU,vU,vU,vI 7,vU,vU,vU,vU,vU,vU,vU,vU,vU,vU,vU,vU,vU,vU,vU,vU,vU,vU,vU,vU,vU,vU,vU],zi2 f (.cells 0 2 [[.f y,.f t]] :: r),0,0⟩)):=by
 intro d
 induction d with
 | zero =>
   intro k h1 z;have n : k = uses.length:=(by omega);subst n;refine ⟨[],fun a0 a1 a2 a3 a5 a7 a8 a9 l i c j b h a g a20 m a22 a23 a24 a25 a26 => ?_⟩;rw [xl zI rfl,zZ];simp -implicitDefEqProofs only [go_sem,zi2,yg,yc,yf,yr]
 | succ d ih =>
   intro k h1 z;have n : k < uses.length:=(by omega);have hd : uses.drop k = uses[k] :: uses.drop (k + 1):=ye n;have p:=zir defs uses[k].v hdl;obtain ⟨p1,p2,o⟩:=zEx defs uses[k] (hall _ (yh n));obtain ⟨r,s⟩:=ih (k + 1) (by omega) (by omega);simp -implicitDefEqProofs only [go_sem,zi2] at s;simp -implicitDefEqProofs only [go_sem] at p;rw [hd,yn,zhd];obtain ⟨e,he⟩ : ∃ e,e = ziM defs uses[k].v:=⟨_,rfl⟩;obtain ⟨u,hu⟩ : ∃ u,u = uses[k]:=⟨_,rfl⟩;have q:=zj (r:=rU) n;rw [← he] at o ⊢;rw [← hu] at q p p1 p2 o ⊢;have x:=zuP tree w e.block u.block;simp -implicitDefEqProofs only [go_sem] at x
   by_cases c1 : e.block < 0
   ·refine ⟨r,fun a0 a1 a2 a3 a5 a7 a8 a9 l i c j b h a g a20 m a22 a23 a24 a25 a26 => ?_⟩
    rw [xl zI rfl,zZ];simp -implicitDefEqProofs only [go_sem,zi2,ilt n,q,rU,yc,p,p1,p2,o,eq_true c1,yb,yd,za n hul,s]
   ·by_cases c2 : e.block = u.block
    ·by_cases c3 : e.at' < u.at'
     ·refine ⟨r,fun a0 a1 a2 a3 a5 a7 a8 a9 l i c j b h a g a20 m a22 a23 a24 a25 a26 => ?_⟩
      rw [xl zI rfl,zZ];simp -implicitDefEqProofs only [go_sem,zi2,ilt n,q,rU,yc,p,p1,p2,o,c1,eq_true c2,eq_true c3,yb,yd,za n hul,s]
     ·refine ⟨[.cells 0 5 [(rU u).map C.f],.cells 0 5 [(rU e).map C.f]],fun a0 a1 a2 a3 a5 a7 a8 a9 l i c j b h a g a20 m a22 a23 a24 a25 a26 => ?_⟩
      rw [xl zI rfl,zZ];simp -implicitDefEqProofs only [go_sem,zi2,ilt n,q,rU,yc,yj,ys,p,p1,p2,o,c1,eq_true c2,c3,yb,yd]
    ·by_cases c4 : znk tree e.block u.block = e.block
     ·refine ⟨r,fun a0 a1 a2 a3 a5 a7 a8 a9 l i c j b h a g a20 m a22 a23 a24 a25 a26 => ?_⟩
      rw [xl zI rfl,zZ];simp -implicitDefEqProofs only [go_sem,zi2,ilt n,q,rU,yc,p,x,p1,p2,o,c1,c2,eq_true c4,yb,yd,za n hul,s]
     ·refine ⟨[.cells 0 5 [(rU u).map C.f],.cells 0 5 [(rU e).map C.f]],fun a0 a1 a2 a3 a5 a7 a8 a9 l i c j b h a g a20 m a22 a23 a24 a25 a26 => ?_⟩
      rw [xl zI rfl,zZ];simp -implicitDefEqProofs only [go_sem,zi2,ilt n,q,rU,yc,yj,ys,p,x,p1,p2,o,c1,c2,c4,yb,yd]
end
theorem zGJ (n : Nat) : (1 < n + 5) = True:=by (first | (simp; omega) | simp)
theorem zGE (n : Nat) : (3 < n + 5) = True:=by (first | (simp; omega) | simp)
theorem zGO (n : Nat) : (4 < n + 5) = True:=by (first | (simp; omega) | simp)
theorem zG6 (n : Nat) : (1 < n + 6) = True:=by (first | (simp; omega) | simp)
theorem zGM (n : Nat) : (3 < n + 6) = True:=by (first | (simp; omega) | simp)
theorem zGm (n : Nat) : (4 < n + 6) = True:=by (first | (simp; omega) | simp)
theorem zGs (n : Nat) : (1 < n + 7) = True:=by (first | (simp; omega) | simp)
theorem zGj (n : Nat) : (3 < n + 7) = True:=by (first | (simp; omega) | simp)
theorem zG2 (n : Nat) : (4 < n + 7) = True:=by (first | (simp; omega) | simp)
theorem zGb (n : Nat) : (1 < n + 8) = True:=by (first | (simp; omega) | simp)
theorem zGQ (n : Nat) : (3 < n + 8) = True:=by (first | (simp; omega) | simp)
theorem zGC (n : Nat) : (4 < n + 8) = True:=by (first | (simp; omega) | simp)
attribute [go_sem] zGJ zGE zGO zG6 zGM zGm zGs zGj zG2 zGb zGQ zGC
def getM {α : Type} (k : Int) : List (Int × α) → Option α
 | [] => none
 | e :: es => if e.1 = k then some e.2 else getM k es
def zkf {α : Type} (k : Int) (v : α) : List (Int × α) → List (Int × α)
 | [] => [(k,v)]
 | e :: es => if e.1 = k then (k,v) :: es else e :: zkf k v es
def ziS {α : Type} (enc : α → V) (D : List (Int × α)) : List (Int × V):=D.map fun e => (e.1,enc e.2)
theorem zpD {α : Type} (enc : α → V) (k : Int) : ∀ D : List (Int × α),zh6 k (ziS enc D) = (getM k D).map enc
 | [] => rfl
 | e :: es => by
   have a:=zpD enc k es;unfold ziS at a ⊢;simp only [yj,zh6,getM]
   by_cases h : e.1 = k
   ·rw [if_pos h,if_pos h]; rfl
   ·rw [if_neg h,if_neg h,a]
theorem zpz {α : Type} (enc : α → V) (k : Int) (v : α) : ∀ D : List (Int × α),zmP k (enc v) (ziS enc D) = ziS enc (zkf k v D)
 | [] => rfl
 | e :: es => by
   have a:=zpz enc k v es;unfold ziS at a ⊢;simp only [yj,zmP,zkf]
   by_cases h : e.1 = k
   ·rw [if_pos h,if_pos h]; rfl
   ·rw [if_neg h,if_neg h,a]; rfl
theorem zwo {α : Type} (enc : α → V) (n : Nat) (h : ∀ a,(enc a).lt n = true) : ∀ D : List (Int × α),C.ltm n (ziS enc D) = true
 | [] => rfl
 | e :: es => by
   have b:=zwo enc n h es;unfold ziS at b ⊢;simp only [yj,C.ltm,h,b,Bool.and_self]
structure PDef where
 block : Int
 at' : Int
 shape : Int × Int
abbrev zlD:=List (Int × PDef)
def zjf (d : PDef) : V:=.agg [.f (ei d.block),.f (ei d.at'),.f (ei d.shape.1),.f (ei d.shape.2)]
theorem zag (n : Nat) (D : zlD) : C.ltm n (ziS zjf D) = true:=zwo zjf n (fun a => by simp [zjf,V.lt,C.lts,C.lt]) D
theorem zlC (k : Int) (D : zlD) : zh6 k (ziS zjf D) = (getM k D).map zjf:=zpD zjf k D
theorem zDh (k : Int) (d : PDef) (D : zlD) : zmP k (V.agg [.f (.lit (.int .i64 d.block)),.f (.lit (.int .i64 d.at')),.f (.lit (.int .i64 d.shape.1)),.f (.lit (.int .i64 d.shape.2))]) (ziS zjf D) = ziS zjf (zkf k d D):=zpz zjf k d D
abbrev P1 : Ob:=.cells 0 1 [[.ptr 1 0 0 0]]
abbrev stD (f : PFunc) (level : Int) (x y z : C) (D : zlD) (r : zd) : zd:=O0 f :: zze f level x y z (.map 4) :: O2 :: P1 :: .mp (ziS zjf D) :: r
section
variable (f : PFunc) (level : Int) (succ pred : List (List Int)) (tree : List Int) (D : zlD) (r : zd) (hr : Obs.lt (r.length + 5) r = true)
abbrev xS (l : List (List Int)) : C:=.f (.sl (l.map rl))
abbrev zS (l : List Int) : C:=.f (eI l)
include hr
theorem zsD (v : Int) (d : PDef) : call T 204 [.one (.ptr 1 0 0 0),vI v,zjf d] (stD f level (xS succ) (xS pred) (zS tree) D r) = some (vB (getM v D).isNone,stD f level (xS succ) (xS pred) (zS tree) (zkf v d D) r):=by
 rw [ze (fn:=zdP) rfl];have a:=zDh v d D
 cases e : getM v D with
 | none => simp -implicitDefEqProofs only [go_sem,zdP,stD,zjf,zlC,e,a,hr,zag,ya,yp]
 | some d0 => simp -implicitDefEqProofs only [go_sem,zdP,stD,zjf,zlC,e,a,hr,zag,ya,yq]
theorem zro (u : Use) : call T 208 [vI u.v,.agg [.f (ei u.shape.1),.f (ei u.shape.2)],vI u.block,vI u.at',.one (.ptr 3 0 0 0)] (stD f level (xS succ) (xS pred) (zS tree) D r) =
  some (vI (if (getM u.v D).isNone then 7 else 0),stD f level (xS succ) (xS pred) (zS tree) D r):=by
 rw [ze (fn:=zaS) rfl]
 cases e : getM u.v D with
 | none => simp -implicitDefEqProofs only [go_sem,zaS,stD,zjf,zlC,e,hr,zag,ya,yp]
 | some d0 => simp -implicitDefEqProofs only [go_sem,zaS,stD,zjf,zlC,e,hr,zag,ya,yq]
end
def zmt (D : zlD) (v : Int) : PDef:=(getM v D).getD ⟨0,0,(0,0)⟩
def zlR (D : zlD) (u : Use) : Int:=if (getM u.v D).isNone = true then 7 else 0
def zcJ (D : zlD) (u : Use) : Int:=if (zmt D u.v).shape = u.shape then 0 else 6
def zbb (D : zlD) (tree : List Int) (u : Use) : Int :=
 let d:=zmt D u.v
 if d.block < 0 then 0 else if (d.block = u.block ∧ d.at' < u.at') ∨ (d.block ≠ u.block ∧ zlP tree d.block u.block = true) then 0 else 7
section
variable (f : PFunc) (level : Int) (succ pred : List (List Int)) (tree : List Int) (D : zlD) (r : zd) (hr : Obs.lt (r.length + 6) r = true)
include hr
theorem ztw (u : Use) : call T 209 [vI u.v,.agg [.f (ei u.shape.1),.f (ei u.shape.2)],vI u.block,vI u.at',.one (.ptr 5 0 0 0)] (stD f level (xS succ) (xS pred) (zS tree) D (P1 :: r)) =
  some (vI (zcJ D u),stD f level (xS succ) (xS pred) (zS tree) D (P1 :: r)):=by
 rw [ze (fn:=zy) rfl];have g : ∀ a b : Int × Int,(a = b) = (a.1 = b.1 ∧ a.2 = b.2):=fun a b => by rw [Prod.ext_iff]
 have key : ∀ d : PDef,zmt D u.v = d → zh6 u.v (ziS zjf D) = some (zjf d) ∨ (zh6 u.v (ziS zjf D) = none ∧ d = ⟨0,0,(0,0)⟩):=fun d hd => by
  rw [zlC];unfold zmt at hd
  cases e : getM u.v D with
  | none => rw [e] at hd; exact .inr ⟨rfl,hd.symm⟩
  | some d0 => rw [e] at hd; simp at hd; subst hd; exact .inl rfl
 by_cases c1 : (zmt D u.v).shape.1 = u.shape.1
 ·by_cases c2 : (zmt D u.v).shape.2 = u.shape.2
  ·rcases key _ rfl with h | ⟨h,c⟩
   ·simp -implicitDefEqProofs only [go_sem,zy,stD,zjf,h,hr,zag,ya,zcJ,g,eq_true c1,eq_true c2]
   ·rw [c] at c1 c2
    simp -implicitDefEqProofs only [go_sem,zy,stD,zjf,h,hr,zag,ya,zcJ,g,c,eq_true c1,eq_true c2]
  ·rcases key _ rfl with h | ⟨h,c⟩
   ·simp -implicitDefEqProofs only [go_sem,zy,stD,zjf,h,hr,zag,ya,zcJ,g,eq_true c1,c2,and_false]
   ·rw [c] at c1 c2
    simp -implicitDefEqProofs only [go_sem,zy,stD,zjf,h,hr,zag,ya,zcJ,g,c,eq_true c1,c2,and_false]
 ·rcases key _ rfl with h | ⟨h,c⟩
  ·simp -implicitDefEqProofs only [go_sem,zy,stD,zjf,h,hr,zag,ya,zcJ,g,c1,false_and]
  ·rw [c] at c1
   simp -implicitDefEqProofs only [go_sem,zy,stD,zjf,h,hr,zag,ya,zcJ,g,c,c1,false_and]
theorem zs8 (c : tree.length ≤ 4294967296) (u : Use) : call T 210 [vI u.v,.agg [.f (ei u.shape.1),.f (ei u.shape.2)],vI u.block,vI u.at',.one (.ptr 5 0 0 0)] (stD f level (xS succ) (xS pred) (zS tree) D (P1 :: r)) =
  some (vI (zbb D tree u),stD f level (xS succ) (xS pred) (zS tree) D (P1 :: r)):=by
 rw [ze (fn:=zh) rfl]
 have key : ∀ d : PDef,zmt D u.v = d → zh6 u.v (ziS zjf D) = some (zjf d) ∨ (zh6 u.v (ziS zjf D) = none ∧ d = ⟨0,0,(0,0)⟩):=fun d hd => by
  rw [zlC];unfold zmt at hd
  cases e : getM u.v D with
  | none => rw [e] at hd; exact .inr ⟨rfl,hd.symm⟩
  | some d0 => rw [e] at hd; simp at hd; subst hd; exact .inl rfl
 rcases key _ rfl with h | ⟨h,b⟩
 ·have a:=zpR tree (zmt D u.v).block u.block c
  simp -implicitDefEqProofs only [go_sem] at a
  by_cases c1 : (zmt D u.v).block < 0
  ·simp -implicitDefEqProofs only [go_sem,zh,stD,zjf,h,hr,zag,ya,zbb,c1]
  by_cases c2 : (zmt D u.v).block = u.block
  ·by_cases c3 : (zmt D u.v).at' < u.at'
   ·simp -implicitDefEqProofs only [go_sem,zh,stD,zjf,h,hr,zag,ya,zbb,c1,eq_true c2,c3,true_and,true_or]
   ·simp -implicitDefEqProofs only [go_sem,zh,stD,zjf,h,hr,zag,ya,zbb,c1,eq_true c2,c3,and_false,false_and,or_self,ne_eq]
  ·cases c4 : zlP tree (zmt D u.v).block u.block
   ·rw [c4] at a
    simp -implicitDefEqProofs only [go_sem,zh,stD,zjf,h,hr,zag,ya,zbb,c1,c2,a,c4,and_false,false_and,or_self,ne_eq]
   ·rw [c4] at a
    simp -implicitDefEqProofs only [go_sem,zh,stD,zjf,h,hr,zag,ya,zbb,c1,c2,a,c4,and_self,false_and,false_or,ne_eq]
 ·have a:=zpR tree (0 : Int) u.block c
  simp -implicitDefEqProofs only [go_sem] at a
  by_cases c1 : (0 : Int) < 0
  ·simp -implicitDefEqProofs only [go_sem,zh,stD,zjf,h,hr,zag,ya,zbb,b,c1]
  by_cases c2 : (0 : Int) = u.block
  ·by_cases c3 : (0 : Int) < u.at'
   ·simp -implicitDefEqProofs only [go_sem,zh,stD,zjf,h,hr,zag,ya,zbb,b,c1,eq_true c2,c3,true_and,true_or]
   ·simp -implicitDefEqProofs only [go_sem,zh,stD,zjf,h,hr,zag,ya,zbb,b,c1,eq_true c2,c3,and_false,false_and,or_self,ne_eq]
  ·cases c4 : zlP tree (0 : Int) u.block
   ·rw [c4] at a
    simp -implicitDefEqProofs only [go_sem,zh,stD,zjf,h,hr,zag,ya,zbb,b,c1,c2,a,c4,and_false,false_and,or_self,ne_eq]
   ·rw [c4] at a
    simp -implicitDefEqProofs only [go_sem,zh,stD,zjf,h,hr,zag,ya,zbb,b,c1,c2,a,c4,and_self,false_and,false_or,ne_eq]
end
def zeS : Nat → zlD → List Int → zlD
 | _,D,[] => D
 | i,D,b :: r => zeS (i + 1) (zkf ((i : Int) + 1) ⟨-1,0,(b,1)⟩ D) r
def zhX (i : Int) : zlD → List PPhi → zlD × Option PPhi
 | D,[] => (D,none)
 | D,p :: r => if p.dst < 1 ∨ 1023 < p.dst then (D,some p) else if (getM p.dst D).isNone = true then zhX i (zkf p.dst ⟨i,-1,(p.bits,1)⟩ D) r else (zkf p.dst ⟨i,-1,(p.bits,1)⟩ D,some p)
def zka (i : Int) : Nat → zlD → List POp → zlD × Option POp
 | _,D,[] => (D,none)
 | k,D,o :: r => if (zT o).1 ≤ 0 then zka i (k + 1) D r else if (getM o.dst D).isNone = true then zka i (k + 1) (zkf o.dst ⟨i,k,zT o⟩ D) r else (zkf o.dst ⟨i,k,zT o⟩ D,some o)
def zeT : Nat → zlD → List PBlock → zlD × Option (List Ob)
 | _,D,[] => (D,none)
 | i,D,b :: r => match zhX i D b.phis with
   | (D1,some p) => (D1,some [.cells 0 5 [zg b],.cells 0 4 [zuh p]])
   | (D1,none) => match zka i 0 D1 b.ops with
     | (D2,some o) => (D2,some [.cells 0 5 [zg b],.cells 0 6 [cOp o]])
     | (D2,none) => zeT (i + 1) D2 r
section
variable (f : PFunc) (hf : okF f) (level : Int) (succ pred : List (List Int)) (tree : List Int)
abbrev sD (f : PFunc) (level : Int) (succ pred : List (List Int)) (tree : List Int) (D : zlD) (r : zd) : zd:=stD f level (xS succ) (xS pred) (zS tree) D r
include hf
theorem zxM : ∀ (d k : Nat) (D : zlD) (a0 a2 a3 a4 a5 a6 a7 a8 a9 j g h b e a c a20 i a22 a23 a24 a25 a26 a27 a28 a29 : V),f.params.length - k = d → k ≤ f.params.length →
  exec T zba ⟨[a0,.one (.ptr 3 0 0 0),a2,a3,a4,a5,a6,a7,a8,a9,j,g,vIs f.params,vI f.params.length,vI k,h,b,e,a,c,a20,i,a22,a23,a24,a25,a26,a27,a28,a29],sD f level succ pred tree D [],3,5⟩ =
   some (.exit 0,⟨[vU,.one (.ptr 3 0 0 0),vU,vU,vU,vU,vU,vU,vU,vU,vU,vU,vU,vU,vU,vU,vU,vU,vU,vU,vU,vU,vU,vU,vU,vU,vU,vU,vU,vU],sD f level succ pred tree (zeS k D (f.params.drop k)) [],3,5⟩):=by
 intro d
 induction d with
 | zero =>
   intro k D a0 a2 a3 a4 a5 a6 a7 a8 a9 j g h b e a c a20 i a22 a23 a24 a25 a26 a27 a28 a29 p q;have l : k = f.params.length:=(by omega);subst l;rw [xl zba rfl,zdp];simp -implicitDefEqProofs only [go_sem,stD,yg,yf,zeS]
 | succ d ih =>
   intro k D a0 a2 a3 a4 a5 a6 a7 a8 a9 j g h b e a c a20 i a22 a23 a24 a25 a26 a27 a28 a29 p q;have l : k < f.params.length:=(by omega);have hd : f.params.drop k = f.params[k] :: f.params.drop (k + 1):=ye l;have m:=zj3 f.params[k];have n:=zsD f level succ pred tree D [] rfl ((k : Int) + 1) ⟨-1,0,(f.params[k],1)⟩;have hw:=za l hf.params;have o : ((k + 1 : Nat) : Int) = (k : Int) + 1:=(by omega);have:=ih (k + 1) (zkf ((k : Int) + 1) ⟨-1,0,(f.params[k],1)⟩ D) vU vU vU vU vU vU vU vU vU vU vU vU vU vU vU vU vU vU vU vU vU vU vU vU vU vU (by omega) (by omega);rw [xl zba rfl,zdp,hd,zeS];rw [o] at hw this;simp -implicitDefEqProofs only [go_sem,stD,zjf] at n m this;simp -implicitDefEqProofs only [go_sem,stD,ilt l,zj l,ri,m,n,hw,this]
theorem zy8 (b : PBlock) (r : okB b) (i : Int) : ∀ (d k : Nat) (D : zlD) (a0 a2 a3 a4 a7 a8 a9 n h m j e l g a23 a24 a25 a26 a27 a28 a29 : V),b.phis.length - k = d → k ≤ b.phis.length →
  exec T za6 ⟨[a0,.one (.ptr 3 0 0 0),a2,a3,a4,vI i,.one (.ptr 5 0 0 0),a7,a8,a9,n,h,m,j,e,l,vL (f.blocks.map rb),vI f.blocks.length,vI i,g,vL (b.phis.map rp),vI b.phis.length,vI k,a23,a24,a25,a26,a27,a28,a29],sD f level succ pred tree D [.cells 0 5 [zg b]],3,5⟩ =
   some (match zhX i D (b.phis.drop k) with
    | (D1,none) => (.exit 4,⟨[vU,.one (.ptr 3 0 0 0),vU,vU,vU,vI i,.one (.ptr 5 0 0 0),vU,vU,vU,vU,vU,vU,vU,vU,vU,vL (f.blocks.map rb),vI f.blocks.length,vI i,vU,vU,vU,vU,vU,vU,vU,vU,vU,vU,vU],sD f level succ pred tree D1 [.cells 0 5 [zg b]],3,5⟩)
    | (D1,some p) => (.ret,⟨[vU,vU,vI 7,vU,vU,vU,vU,vU,vU,vU,vU,vU,vU,vU,vU,vU,vU,vU,vU,vU,vU,vU,vU,vU,vU,vU,vU,vU,vU,vU],sD f level succ pred tree D1 [.cells 0 5 [zg b],.cells 0 4 [zuh p]],3,5⟩)):=by
 intro d
 induction d with
 | zero =>
   intro k D a0 a2 a3 a4 a7 a8 a9 n h m j e l g a23 a24 a25 a26 a27 a28 a29 q s;have a : k = b.phis.length:=(by omega);subst a;rw [xl za6 rfl,zdl];simp -implicitDefEqProofs only [go_sem,stD,yg,yf,zhX]
 | succ d ih =>
   intro k D a0 a2 a3 a4 a7 a8 a9 n h m j e l g a23 a24 a25 a26 a27 a28 a29 q s;have a : k < b.phis.length:=(by omega);have hd : b.phis.drop k = b.phis[k] :: b.phis.drop (k + 1):=ye a;have c:=zj3 b.phis[k].bits;have o:=zsD f level succ pred tree D [.cells 0 5 [zg b],.cells 0 4 [zuh b.phis[k]]] (by simp -implicitDefEqProofs only [go_sem]) b.phis[k].dst ⟨i,-1,(b.phis[k].bits,1)⟩;rw [xl za6 rfl,zdl,hd,zhX];simp -implicitDefEqProofs only [go_sem,stD,zjf] at o c
   by_cases c1 : b.phis[k].dst < 1
   ·simp -implicitDefEqProofs only [go_sem,stD,ilt a,zj a,rp,c1]
   by_cases c2 : 1023 < b.phis[k].dst
   ·simp -implicitDefEqProofs only [go_sem,stD,ilt a,zj a,rp,c1,c2]
   cases c3 : (getM b.phis[k].dst D).isNone
   ·rw [c3] at o
    simp -implicitDefEqProofs only [go_sem,stD,ilt a,zj a,rp,c1,c2,c,o]
   ·have:=ih (k + 1) (zkf b.phis[k].dst ⟨i,-1,(b.phis[k].bits,1)⟩ D) vU vU vU vU vU vU vU vU vU vU vU vU vU vU vU vU vU vU vU vU vU (by omega) (by omega)
    rw [c3] at o;simp -implicitDefEqProofs only [go_sem,stD] at this;simp -implicitDefEqProofs only [go_sem,stD,ilt a,zj a,rp,c1,c2,c,o,zag,za a r.phis,this]
theorem zxZ (b : PBlock) (s : okB b) (i : Int) : ∀ (d k : Nat) (D : zlD) (a0 a2 a3 a4 a6 a7 a8 a9 q j n l g m h a20 p a22 a23 a24 a28 a29 : V),b.ops.length - k = d → k ≤ b.ops.length →
  exec T za8 ⟨[a0,.one (.ptr 3 0 0 0),a2,a3,a4,vI i,a6,a7,a8,a9,q,j,n,l,g,m,vL (f.blocks.map rb),vI f.blocks.length,vI i,h,a20,p,a22,a23,a24,vL (b.ops.map ro),vI b.ops.length,vI k,a28,a29],sD f level succ pred tree D [.cells 0 5 [zg b]],3,5⟩ =
   some (match zka i k D (b.ops.drop k) with
    | (D1,none) => (.exit 6,⟨[vU,.one (.ptr 3 0 0 0),vU,vU,vU,vU,vU,vU,vU,vU,vU,vU,vU,vU,vU,vU,vL (f.blocks.map rb),vI f.blocks.length,vI i,vU,vU,vU,vU,vU,vU,vU,vU,vU,vU,vU],sD f level succ pred tree D1 [.cells 0 5 [zg b]],3,5⟩)
    | (D1,some o) => (.ret,⟨[vU,vU,vI 7,vU,vU,vU,vU,vU,vU,vU,vU,vU,vU,vU,vU,vU,vU,vU,vU,vU,vU,vU,vU,vU,vU,vU,vU,vU,vU,vU],sD f level succ pred tree D1 [.cells 0 5 [zg b],.cells 0 6 [cOp o]],3,5⟩)):=by
 intro d
 induction d with
 | zero =>
   intro k D a0 a2 a3 a4 a6 a7 a8 a9 q j n l g m h a20 p a22 a23 a24 a28 a29 u v;have a : k = b.ops.length:=(by omega);subst a;rw [xl za8 rfl,zdh];simp -implicitDefEqProofs only [go_sem,stD,yg,yf,zka]
 | succ d ih =>
   intro k D a0 a2 a3 a4 a6 a7 a8 a9 q j n l g m h a20 p a22 a23 a24 a28 a29 u v;have a : k < b.ops.length:=(by omega);have hd : b.ops.drop k = b.ops[k] :: b.ops.drop (k + 1):=ye a;have t:=s.op _ (yh a);have e:=zpS b.ops[k] t.1 t.2;have r:=zsD f level succ pred tree D [.cells 0 5 [zg b],.cells 0 6 [cOp b.ops[k]]] (by simp -implicitDefEqProofs only [go_sem]) b.ops[k].dst ⟨i,k,zT b.ops[k]⟩;rw [xl za8 rfl,zdh,hd,zka];simp -implicitDefEqProofs only [go_sem,stD,zjf] at r e
   by_cases c1 : (zT b.ops[k]).1 ≤ 0
   ·have c : ¬ 0 < (zT b.ops[k]).1:=by omega
    have:=ih (k + 1) D vU vU vU vU vU vU vU vU vU vU vU vU vU vU vU vU vU vU vU vU vU vU (by omega) (by omega);simp -implicitDefEqProofs only [go_sem,stD] at this;simp -implicitDefEqProofs only [go_sem,stD,ilt a,zj a,ro,e,c1,c,zag,za a s.ops,this]
   have c : 0 < (zT b.ops[k]).1:=(by omega);cases c3 : (getM b.ops[k].dst D).isNone
   ·rw [c3] at r
    simp -implicitDefEqProofs only [go_sem,stD,ilt a,zj a,ro,e,c1,c,r]
   ·have:=ih (k + 1) (zkf b.ops[k].dst ⟨i,k,zT b.ops[k]⟩ D) vU vU vU vU vU vU vU vU vU vU vU vU vU vU vU vU vU vU vU vU vU vU (by omega) (by omega)
    rw [c3] at r;simp -implicitDefEqProofs only [go_sem,stD] at this;simp -implicitDefEqProofs only [go_sem,stD,ilt a,zj a,ro,e,c1,c,r,zag,za a s.ops,this]
theorem zys : ∀ (d k : Nat) (D : zlD) (a0 a2 a3 a4 a5 a6 a7 a8 a9 i c h e a g b a20 l a22 a23 a24 a25 a26 a27 a28 a29 : V),f.blocks.length - k = d → k ≤ f.blocks.length →
  exec T za9 ⟨[a0,.one (.ptr 3 0 0 0),a2,a3,a4,a5,a6,a7,a8,a9,i,c,h,e,a,g,vL (f.blocks.map rb),vI f.blocks.length,vI k,b,a20,l,a22,a23,a24,a25,a26,a27,a28,a29],sD f level succ pred tree D [],3,5⟩ =
   some (match zeT k D (f.blocks.drop k) with
    | (D1,none) => (.exit 2,⟨[vU,.one (.ptr 3 0 0 0),vU,vU,vU,vU,vU,vU,vU,vU,vU,vU,vU,vU,vU,vU,vU,vU,vU,vU,vU,vU,vU,vU,vU,vU,vU,vU,vU,vU],sD f level succ pred tree D1 [],3,5⟩)
    | (D1,some G) => (.ret,⟨[vU,vU,vI 7,vU,vU,vU,vU,vU,vU,vU,vU,vU,vU,vU,vU,vU,vU,vU,vU,vU,vU,vU,vU,vU,vU,vU,vU,vU,vU,vU],sD f level succ pred tree D1 G,3,5⟩)):=by
 intro d
 induction d with
 | zero =>
   intro k D a0 a2 a3 a4 a5 a6 a7 a8 a9 i c h e a g b a20 l a22 a23 a24 a25 a26 a27 a28 a29 r s;have j : k = f.blocks.length:=(by omega);subst j;rw [xl za9 rfl,zdk];simp -implicitDefEqProofs only [go_sem,stD,yg,yf,zeT]
 | succ d ih =>
   intro k D a0 a2 a3 a4 a5 a6 a7 a8 a9 i c h e a g b a20 l a22 a23 a24 a25 a26 a27 a28 a29 r s;have j : k < f.blocks.length:=(by omega);have hd : f.blocks.drop k = f.blocks[k] :: f.blocks.drop (k + 1):=ye j;have q:=hf.block _ (yh j);have m:=fun a0 a2 a3 a4 a7 a8 a9 i c h e a g b a23 a24 a25 a26 a27 a28 a29 => zy8 f hf level succ pred tree f.blocks[k] q k f.blocks[k].phis.length 0 D a0 a2 a3 a4 a7 a8 a9 i c h e a g b a23 a24 a25 a26 a27 a28 a29 (by omega) (by omega);simp only [ym,yk] at m;rw [xl za9 rfl,zdk,hd,zeT];rcases e1 : zhX k D f.blocks[k].phis with ⟨D1,_ | p⟩
   ·have n:=fun a0 a2 a3 a4 a6 a7 a8 a9 i c h e a g b a20 l a22 a23 a24 a28 a29 => zxZ f hf level succ pred tree f.blocks[k] q k f.blocks[k].ops.length 0 D1 a0 a2 a3 a4 a6 a7 a8 a9 i c h e a g b a20 l a22 a23 a24 a28 a29 (by omega) (by omega)
    simp only [ym,yk] at n;rcases e2 : zka k 0 D1 f.blocks[k].ops with ⟨t,_ | o⟩
    ·have:=ih (k + 1) t vU vU vU vU vU vU vU vU vU vU vU vU vU vU vU vU vU vU vU vU vU vU vU vU vU vU (by omega) (by omega)
     simp -implicitDefEqProofs only [go_sem,stD,e1,e2] at m n this;simp -implicitDefEqProofs only [go_sem,stD,ilt j,zj j,rb,m,n,e2,zag,za j hf.blocks,this]
    ·simp -implicitDefEqProofs only [go_sem,stD,e1,e2] at m n
     simp -implicitDefEqProofs only [go_sem,stD,ilt j,zj j,rb,m,n,e2]
   ·simp -implicitDefEqProofs only [go_sem,stD,e1] at m
    simp -implicitDefEqProofs only [go_sem,stD,ilt j,zj j,rb,m]
end
attribute [go_sem] zze O0 O2 P1 xS zS sD stD cM
def ztn (f : PFunc) : zlD × Option (List Ob):=zeT 0 (zeS 0 [] f.params) f.blocks
theorem zoq (o : POp) : (zaN o).length ≤ o.args.length:=by
 unfold zaN;split
 ·rename_i h
  simp only [zgN,yi,decide_eq_true_eq] at h;omega
 ·simp
theorem znl (pred : List (List Int)) (tree : List Int) : ∀ (l : List PBlock) (i : Nat),zeH pred tree i l = true → ∀ k (a : k < l.length),zsy pred tree (i + k) l[k] = true
 | [],_,_,k,a => by simp at a
 | b :: r,i,h,k,a => by
   simp only [zeH,yi] at h
   cases k with
   | zero => exact h.1
   | succ k =>
     have:=znl pred tree r (i + 1) h.2 k (by simpa using a);simpa [Nat.add_assoc,yl 1 k] using this
theorem zA0 {f : PFunc} {pred : List (List Int)} {tree : List Int} (h : zeH pred tree 0 f.blocks = true) : ∀ b ∈ f.blocks,zkq b:=fun b d => by
 obtain ⟨k,a,rfl⟩:=List.getElem_of_mem d;have:=znl pred tree f.blocks 0 h k a;simp only [zsy,yi,List.all_eq_true] at this;refine ⟨fun p c => ?_,fun o _ => zoq o⟩;have:=this.2.1 p c;simp only [ziH,yi,decide_eq_true_eq] at this;exact this.2
theorem zGG (f : PFunc) (level : Int) (succ pred : List (List Int)) (tree : List Int) (D : zlD) : Ok (sD f level succ pred tree D []):=by
 unfold Ok;simp -implicitDefEqProofs only [go_sem,stD,zag]
theorem zzr (f : PFunc) (level : Int) (succ pred : List (List Int)) (tree : List Int) (D : zlD) : Ok (sD f level succ pred tree D [P1]):=by
 unfold Ok;simp -implicitDefEqProofs only [go_sem,stD,zag]
section
variable (f : PFunc) (hf : okF f) (level : Int) (succ pred : List (List Int)) (tree : List Int) (hab : ∀ b ∈ f.blocks,zkq b)
include hf hab
theorem zt1 : call T 161 [.one (.ptr 1 0 0 0)] [O0 f,zze f level (xS succ) (xS pred) (zS tree) (.f (.lit (.map none))),O2] =
  some (vI (match ztn f with | (D,none) => zaa (zlR D) (zfJ f) | (_,some _) => 7),sD f level succ pred tree (ztn f).1 []):=by
 rw [ze (fn:=zbr) rfl];have h:=fun a0 a2 a3 a4 a5 a6 a7 a8 a9 g b c k m j a a20 d a22 a23 a24 a25 a26 a27 a28 a29 => zxM f hf level succ pred tree f.params.length 0 [] a0 a2 a3 a4 a5 a6 a7 a8 a9 g b c k m j a a20 d a22 a23 a24 a25 a26 a27 a28 a29 (by omega) (by omega);have i:=fun a0 a2 a3 a4 a5 a6 a7 a8 a9 g b o n l c a a20 d a22 a23 a24 a25 a26 a27 a28 a29 => zys f hf level succ pred tree f.blocks.length 0 (zeS 0 [] f.params) a0 a2 a3 a4 a5 a6 a7 a8 a9 g b o n l c a a20 d a22 a23 a24 a25 a26 a27 a28 a29 (by omega) (by omega);have en : ziS zjf [] = []:=rfl;simp only [ym,yk] at h i;have ed : ztn f = zeT 0 (zeS 0 [] f.params) f.blocks:=rfl;rw [ed];rcases e : zeT 0 (zeS 0 [] f.params) f.blocks with ⟨D,_ | G⟩
 ·have hu:=zqZ f level (xS succ) (xS pred) (zS tree) (.map 4) 208 [.ptr 3 0 0 0] (sD f level succ pred tree D []) rfl (zGG _ _ _ _ _ _) rfl (zlR D)
   (fun r u q => zro f level succ pred tree D r (by simpa [yl] using q) u) hf hab
  simp -implicitDefEqProofs only [go_sem,stD,e,en] at h i hu;simp -implicitDefEqProofs only [go_sem,zbr,h,i,hu,zag,e]
 ·simp -implicitDefEqProofs only [go_sem,stD,e,en] at h i
  simp -implicitDefEqProofs only [go_sem,zbr,h,i,zag,e,ya]
  by_cases p : G.length ≤ 0
  ·have : G = []:=List.eq_nil_of_length_eq_zero (by omega)
   subst this;rfl
  ·rw [if_neg p]
   rfl
theorem zvF (D : zlD) : call T 162 [.one (.ptr 1 0 0 0)] (sD f level succ pred tree D []) = some (vI (zaa (zcJ D) (zfJ f)),sD f level succ pred tree D []):=by
 rw [ze (fn:=zee) rfl]
 have hu:=zqZ f level (xS succ) (xS pred) (zS tree) (.map 4) 209 [.ptr 5 0 0 0] (sD f level succ pred tree D [P1]) rfl (zzr _ _ _ _ _ _) rfl (zcJ D)
  (fun r u a => ztw f level succ pred tree D r (by simpa [yl] using a) u) hf hab
 simp -implicitDefEqProofs only [go_sem,stD] at hu;simp -implicitDefEqProofs only [go_sem,zee,stD,hu,zag]
theorem zwt (a : tree.length ≤ 4294967296) (D : zlD) : call T 163 [.one (.ptr 1 0 0 0)] (sD f level succ pred tree D []) = some (vI (zaa (zbb D tree) (zfJ f)),sD f level succ pred tree D []):=by
 rw [ze (fn:=zd7) rfl]
 have hu:=zqZ f level (xS succ) (xS pred) (zS tree) (.map 4) 210 [.ptr 5 0 0 0] (sD f level succ pred tree D [P1]) rfl (zzr _ _ _ _ _ _) rfl (zbb D tree)
  (fun r u b => zs8 f level succ pred tree D r (by simpa [yl] using b) a u) hf hab
 simp -implicitDefEqProofs only [go_sem,stD] at hu;simp -implicitDefEqProofs only [go_sem,zd7,stD,hu,zag]
end
def zmM (f : PFunc) (level : Int) (tree : List Int) : Int :=
 if zmQ f = false then 4 else if zhV f tree = false then 5 else if zgc f level = false then 6 else
 match ztn f with
 | (_,some _) => 7
 | (D,none) => if zaa (zlR D) (zfJ f) ≠ 0 then zaa (zlR D) (zfJ f) else if zaa (zcJ D) (zfJ f) ≠ 0 then zaa (zcJ D) (zfJ f) else zaa (zbb D tree) (zfJ f)
def zuN (f : PFunc) (tree : List Int) : Prop:=tree.length ≤ 4294967296 ∧ (zaI f = true → call T 195 [.agg [.f (.sl ((zq f).map rl)),.f (.sl ((zR (zq f)).map rl))],vI 0] [] = some (vIs tree,[]))
theorem n5 : ((5 : Nat) : Int) = 5:=rfl
theorem wr1 : Go.IntKind.i64.wrap 1 = 1:=by decide
theorem wr2 : Go.IntKind.i64.wrap 2 = 2:=by decide
theorem wr3 : Go.IntKind.i64.wrap 3 = 3:=by decide
theorem wr4 : Go.IntKind.i64.wrap 4 = 4:=by decide
theorem wr5 : Go.IntKind.i64.wrap 5 = 5:=by decide
attribute [go_sem] n5 wr1 wr2 wr3 wr4 wr5
set_option maxRecDepth 10000 in
theorem zBt (f : PFunc) (hf : okF f) (level : Int) (tree : List Int) (g : zuN f tree) : ∃ σ',call T 110 [zd4 f,vI level] [] = some (.tup [.one (.ptr 1 0 0 0),vI (zmM f level tree)],σ') ∧ (zmM f level tree = 0 → σ' = sD f level (zq f) (zR (zq f)) tree (ztn f).1 []):=by
 rw [ze (fn:=za3) rfl];have hm:=zte f hf;cases e0 : zmQ f
 ·rw [e0] at hm
  simp -implicitDefEqProofs only [go_sem] at hm;simp -implicitDefEqProofs only [go_sem,za3,hm,zmM,e0];exact ⟨_,rfl,fun h => by first | exact h.elim | simp at h⟩
 rw [e0] at hm;cases e1 : zaI f
 ·have a:=zru f hf level e1
  have e2 : zhV f tree = false:=by simp [zhV,e1]
  simp -implicitDefEqProofs only [go_sem] at hm a;simp -implicitDefEqProofs only [go_sem,za3,hm,zmM,e0,e2,xl zbq rfl,zbp,a];exact ⟨_,rfl,fun h => by first | exact h.elim | simp at h⟩
 have a:=zs2 f hf level e1 tree g.1 (g.2 e1);cases e2 : zeH (zR (zq f)) tree 0 f.blocks
 ·have b : zhV f tree = false:=by simp [zhV,e2]
  rw [e2] at a;simp -implicitDefEqProofs only [go_sem] at hm a;simp -implicitDefEqProofs only [go_sem,za3,hm,zmM,e0,b,xl zbq rfl,zbp,a];exact ⟨_,rfl,fun h => by first | exact h.elim | simp at h⟩
 have b : zhV f tree = true:=by simp [zhV,e1,e2]
 have hab:=zA0 e2;have c:=zxL f level (xS (zq f)) (xS (zR (zq f))) (zS tree) (.f (.lit (.map none))) [O0 f,zze f level (xS (zq f)) (xS (zR (zq f))) (zS tree) (.f (.lit (.map none))),O2] rfl (by unfold Ok; simp -implicitDefEqProofs only [go_sem]) hf;rw [e2] at a;cases e3 : zgc f level
 ·rw [e3] at c
  simp -implicitDefEqProofs only [go_sem] at hm a c;simp -implicitDefEqProofs only [go_sem,za3,hm,zmM,e0,b,e3,xl zbq rfl,zbp,a,c];exact ⟨_,rfl,fun h => by first | exact h.elim | simp at h⟩
 rw [e3] at c;have hd:=zt1 f hf level (zq f) (zR (zq f)) tree hab;rcases e4 : ztn f with ⟨D,_ | G⟩
 ·rw [e4] at hd
  by_cases e5 : zaa (zlR D) (zfJ f) = 0
  ·have d:=zvF f hf level (zq f) (zR (zq f)) tree hab D
   by_cases e6 : zaa (zcJ D) (zfJ f) = 0
   ·have e:=zwt f hf level (zq f) (zR (zq f)) tree hab g.1 D
    by_cases e7 : zaa (zbb D tree) (zfJ f) = 0
    ·simp -implicitDefEqProofs only [go_sem,e5,e6,e7] at hm a c hd d e
     simp -implicitDefEqProofs only [go_sem,za3,hm,zmM,e0,b,e3,e4,e5,e6,e7,xl zbq rfl,zbp,a,c,hd,d,e,zag,ne_eq];exact ⟨_,rfl,fun _ => rfl⟩
    ·simp -implicitDefEqProofs only [go_sem,e5,e6] at hm a c hd d e
     simp -implicitDefEqProofs only [go_sem,za3,hm,zmM,e0,b,e3,e4,e5,e6,e7,xl zbq rfl,zbp,a,c,hd,d,e,zag,ne_eq];exact ⟨_,rfl,fun h => by first | exact absurd h e7 | exact h.elim⟩
   ·simp -implicitDefEqProofs only [go_sem,e5] at hm a c hd d
    simp -implicitDefEqProofs only [go_sem,za3,hm,zmM,e0,b,e3,e4,e5,e6,xl zbq rfl,zbp,a,c,hd,d,zag,ne_eq];exact ⟨_,rfl,fun h => by first | exact absurd h e6 | exact h.elim⟩
  ·simp -implicitDefEqProofs only [go_sem] at hm a c hd
   simp -implicitDefEqProofs only [go_sem,za3,hm,zmM,e0,b,e3,e4,e5,xl zbq rfl,zbp,a,c,hd,zag,ne_eq];exact ⟨_,rfl,fun h => by first | exact absurd h e5 | exact h.elim⟩
 ·rw [e4] at hd
  simp -implicitDefEqProofs only [go_sem] at hm a c hd;simp -implicitDefEqProofs only [go_sem,za3,hm,zmM,e0,b,e3,e4,xl zbq rfl,zbp,a,c,hd,zag,ne_eq];exact ⟨_,rfl,fun h => by first | exact h.elim | simp at h⟩
def zpZ (f : PFunc) (level : Int) (tree : List Int) : Int:=if level < 0 ∨ 2 < level then 1 else zmM f level tree
@[go_sem] theorem zyQ (f : PFunc) (a : okF f) (level : Int) (tree : List Int) (b : zuN f tree) : call T 51 [zd4 f,vI level] [] = some (vI (zpZ f level tree),[]):=by
  rw [ze (fn:=zgn) rfl]
  by_cases c1 : level < 0
  ·simp -implicitDefEqProofs only [go_sem,zgn,zpZ,c1]
  by_cases c2 : 2 < level
  ·simp -implicitDefEqProofs only [go_sem,zgn,zpZ,c1,c2]
  obtain ⟨σ',h,_⟩:=zBt f a level tree b;simp -implicitDefEqProofs only [go_sem] at h;simp -implicitDefEqProofs only [go_sem,zgn,zpZ,c1,c2,h]
end AC

/- A part of the proof of SchedFlat. Conditions: none. -/
import Derived.Test.YtmkncmffaaninaaGreatFBC
import Derived.Test.YtmkncmffaaninaaGreatFBD
set_option linter.all false
open Nat renaming add_le_add_iff_right → ya,add_comm → yl
open Int renaming natCast_nonneg → yb,toNat_natCast → yd,lt_irrefl → yg,natCast_zero → yk
open List renaming length_map → yc,drop_eq_getElem_cons → ye,drop_length → yf,getElem_mem → yh,map_cons → yj,drop_zero → ym,all_cons → yn,length_cons → yo,all_nil → yr,map_nil → ys
open Bool renaming and_eq_true → yi
open Option renaming isNone_none → yp,isNone_some → yq
namespace AC
open Go Go.A Go.A.Lex
def zfG (defs : List Use) : Nat → List Use → Bool
 | _,[] => true
 | k,u :: r => (value u.v && decide (zj u.v 0 defs = (k : Int))) && zfG defs (k + 1) r
def zhZ (defs : List Use) (v : Int) : Use:=defs.getD (zj v 0 defs).toNat ⟨0,(0,0),0,0⟩
def zjS (defs : List Use) (u : Use) : Bool:=!decide (zj u.v 0 defs < 0)
def sameShape (defs : List Use) (u : Use) : Bool:=decide ((zhZ defs u.v).shape = u.shape)
def zgq (defs : List Use) (tree : List Int) (u : Use) : Bool :=
 (decide ((zhZ defs u.v).block < 0) || (decide ((zhZ defs u.v).block = u.block) && decide ((zhZ defs u.v).at' < u.at'))) || !(decide ((zhZ defs u.v).block = u.block) || !decide (zmk tree (zhZ defs u.v).block u.block = (zhZ defs u.v).block))
theorem zi4 (v : Int) : ∀ (l : List Use) (k : Nat),0 ≤ zj v k l → (k : Int) ≤ zj v k l ∧ zj v k l < ((k + l.length : Nat) : Int)
 | [],k,h => by simp [zj] at h
 | u :: r,k,h => by
   rw [zj] at h ⊢;split
   ·simp only [yo]; omega
   ·rename_i c
    rw [if_neg c] at h;have:=zi4 v r (k + 1) h;simp only [yo];omega
section
variable (f : PFunc) (hf : okF f) (defs uses : List Use) (hdl : defs.length ≤ 4294967296) (hul : uses.length ≤ 4294967296)
abbrev zif (r : zd) : zd:=.cells 0 3 [zc4 f] :: r
include hf hdl
theorem zxK : ∀ (d k : Nat) (a0 a1 a3 a6 a7 a8 a9 i m n g b j h o p l a20 q a22 a23 a24 a25 a26 : V),defs.length - k = d → k ≤ defs.length →
  exec T zbN ⟨[a0,a1,.one (.ptr 0 0 0 0),a3,vUs defs,vI k,a6,a7,a8,a9,i,m,n,g,b,j,h,o,p,l,a20,q,a22,a23,a24,a25,a26],zif f [],0,0⟩ =
   some (if zfG defs k (defs.drop k) = true then (.exit 0,⟨[vU,vU,.one (.ptr 0 0 0 0),vU,vUs defs,vU,vU,vU,vU,vU,vU,vU,vU,vU,vU,vU,vU,vU,vU,vU,vU,vU,vU,vU,vU,vU,vU],zif f [],0,0⟩) else (.ret,⟨[vU,vU,vU,vI 7,vU,vU,vU,vU,vU,vU,vU,vU,vU,vU,vU,vU,vU,vU,vU,vU,vU,vU,vU,vU,vU,vU,vU],zif f [],0,0⟩)):=by
 intro d
 induction d with
 | zero =>
   intro k a0 a1 a3 a6 a7 a8 a9 i m n g b j h o p l a20 q a22 a23 a24 a25 a26 h1 t;have a : k = defs.length:=(by omega);subst a;rw [xl zbN rfl,zdz];simp -implicitDefEqProofs only [go_sem,zif,yg,yc,yf,zfG]
 | succ d ih =>
   intro k a0 a1 a3 a6 a7 a8 a9 i m n g b j h o p l a20 q a22 a23 a24 a25 a26 h1 t;have a : k < defs.length:=(by omega);have hd : defs.drop k = defs[k] :: defs.drop (k + 1):=ye a;have r:=zi1 defs[k].v;have s:=zhB defs defs[k].v hdl;have:=ih (k + 1) vU vU vU vU vU vU vU vU vU vU vU vU vU vU vU vU vU vU vU vU vU vU vU vU (by omega) (by omega);rw [xl zbN rfl,zdz,hd,zfG];simp -implicitDefEqProofs only [go_sem,zif] at this;simp -implicitDefEqProofs only [go_sem] at s;cases c : value defs[k].v
   ·simp -implicitDefEqProofs only [go_sem,c] at r
    simp -implicitDefEqProofs only [go_sem,zif,ilt a,zm a,rU,yc,r,c,yb,yd]
   ·simp -implicitDefEqProofs only [go_sem,c] at r
    by_cases e : zj defs[k].v 0 defs = (k : Int)
    ·simp -implicitDefEqProofs only [go_sem,zif,ilt a,zm a,rU,yc,r,s,c,eq_true e,yb,yd,za a hdl,this]
    ·simp -implicitDefEqProofs only [go_sem,zif,ilt a,zm a,rU,yc,r,s,c,e,yb,yd]
include hul
theorem zxL : ∀ (d k : Nat) (a0 a1 a3 a5 a8 a9 h l m c b i g o n j a20 p a22 a23 a24 a25 a26 : V),uses.length - k = d → k ≤ uses.length →
  exec T zbv ⟨[a0,a1,.one (.ptr 0 0 0 0),a3,vUs defs,a5,vUs uses,vI k,a8,a9,h,l,m,c,b,i,g,o,n,j,a20,p,a22,a23,a24,a25,a26],zif f [],0,0⟩ =
   some (if (uses.drop k).all (zjS defs) = true then (.exit 2,⟨[vU,vU,.one (.ptr 0 0 0 0),vU,vUs defs,vU,vUs uses,vU,vU,vU,vU,vU,vU,vU,vU,vU,vU,vU,vU,vU,vU,vU,vU,vU,vU,vU,vU],zif f [],0,0⟩) else (.ret,⟨[vU,vU,vU,vI 7,vU,vU,vU,vU,vU,vU,vU,vU,vU,vU,vU,vU,vU,vU,vU,vU,vU,vU,vU,vU,vU,vU,vU],zif f [],0,0⟩)):=by
 intro d
 induction d with
 | zero =>
   intro k a0 a1 a3 a5 a8 a9 h l m c b i g o n j a20 p a22 a23 a24 a25 a26 h1 r;have a : k = uses.length:=(by omega);subst a;rw [xl zbv rfl,zdN];simp -implicitDefEqProofs only [go_sem,zif,yg,yc,yf,yr]
 | succ d ih =>
   intro k a0 a1 a3 a5 a8 a9 h l m c b i g o n j a20 p a22 a23 a24 a25 a26 h1 r;have a : k < uses.length:=(by omega);have hd : uses.drop k = uses[k] :: uses.drop (k + 1):=ye a;have q:=zhB defs uses[k].v hdl;have:=ih (k + 1) vU vU vU vU vU vU vU vU vU vU vU vU vU vU vU vU vU vU vU vU vU vU vU (by omega) (by omega);rw [xl zbv rfl,zdN,hd,yn,zjS];simp -implicitDefEqProofs only [go_sem,zif] at this;simp -implicitDefEqProofs only [go_sem] at q
   by_cases e : zj uses[k].v 0 defs < 0
   ·simp -implicitDefEqProofs only [go_sem,zif,ilt a,zm a,rU,yc,q,eq_true e,yb,yd]
   ·simp -implicitDefEqProofs only [go_sem,zif,ilt a,zm a,rU,yc,q,e,yb,yd,za a hul,this]
variable (hall : ∀ u ∈ uses,zjS defs u = true)
omit hf hdl hul in
theorem zCW (u : Use) (h : zjS defs u = true) : 0 ≤ zj u.v 0 defs ∧ zj u.v 0 defs < (defs.length : Int) ∧ (defs.map rU)[(zj u.v 0 defs).toNat]? = some (rU (zhZ defs u.v)):=by
 have h0 : 0 ≤ zj u.v 0 defs:=by
  unfold zjS at h;simp at h;exact h
 have h1:=zi4 u.v defs 0 h0;have hlt : (zj u.v 0 defs).toNat < defs.length:=by omega
 refine ⟨h0,by omega,?_⟩;rw [zm hlt];unfold zhZ;rw [List.getD_eq_getElem?_getD,List.getElem?_eq_getElem hlt];rfl
include hall
theorem zwF : ∀ (d k : Nat) (a0 a1 a3 a5 a7 a9 h l m c b i g o n j a20 p a22 a23 a24 a25 a26 : V),uses.length - k = d → k ≤ uses.length →
  exec T zbE ⟨[a0,a1,.one (.ptr 0 0 0 0),a3,vUs defs,a5,vUs uses,a7,vI k,a9,h,l,m,c,b,i,g,o,n,j,a20,p,a22,a23,a24,a25,a26],zif f [],0,0⟩ =
   some (if (uses.drop k).all (sameShape defs) = true then (.exit 4,⟨[vU,vU,.one (.ptr 0 0 0 0),vU,vUs defs,vU,vUs uses,vU,vU,vU,vU,vU,vU,vU,vU,vU,vU,vU,vU,vU,vU,vU,vU,vU,vU,vU,vU],zif f [],0,0⟩) else (.ret,⟨[vU,vU,vU,vI 6,vU,vU,vU,vU,vU,vU,vU,vU,vU,vU,vU,vU,vU,vU,vU,vU,vU,vU,vU,vU,vU,vU,vU],zif f [],0,0⟩)):=by
 intro d
 induction d with
 | zero =>
   intro k a0 a1 a3 a5 a7 a9 h l m c b i g o n j a20 p a22 a23 a24 a25 a26 h1 t;have a : k = uses.length:=(by omega);subst a;rw [xl zbE rfl,zdJ];simp -implicitDefEqProofs only [go_sem,zif,yg,yc,yf,yr]
 | succ d ih =>
   intro k a0 a1 a3 a5 a7 a9 h l m c b i g o n j a20 p a22 a23 a24 a25 a26 h1 t;have a : k < uses.length:=(by omega);have hd : uses.drop k = uses[k] :: uses.drop (k + 1):=ye a;have s:=zhB defs uses[k].v hdl;obtain ⟨p1,p2,r⟩:=zCW defs uses[k] (hall _ (yh a));have:=ih (k + 1) vU vU vU vU vU vU vU vU vU vU vU vU vU vU vU vU vU vU vU vU vU vU vU (by omega) (by omega);rw [xl zbE rfl,zdJ,hd,yn,sameShape];simp -implicitDefEqProofs only [go_sem,zif] at this;simp -implicitDefEqProofs only [go_sem] at s;obtain ⟨e,he⟩ : ∃ e,e = zhZ defs uses[k].v:=⟨_,rfl⟩;rw [← he] at r ⊢;have q : (e.shape = uses[k].shape) = (e.shape.1 = uses[k].shape.1 ∧ e.shape.2 = uses[k].shape.2):=by rw [Prod.ext_iff]
   by_cases s1 : e.shape.1 = uses[k].shape.1
   ·by_cases s2 : e.shape.2 = uses[k].shape.2
    ·simp -implicitDefEqProofs only [go_sem,zif,ilt a,zm a,rU,yc,s,p1,p2,r,q,eq_true s1,eq_true s2,yb,yd,za a hul,this]
    ·simp -implicitDefEqProofs only [go_sem,zif,ilt a,zm a,rU,yc,s,p1,p2,r,q,eq_true s1,s2,and_false,yb,yd]
   ·simp -implicitDefEqProofs only [go_sem,zif,ilt a,zm a,rU,yc,s,p1,p2,r,q,s1,false_and,yb,yd]
theorem zws (tree : List Int) (w : tree.length ≤ 4294967296) (y x : Fz) : ∀ (d k : Nat),uses.length - k = d → k ≤ uses.length → ∃ r,∀ (a0 a1 a2 a3 a5 a7 a8 a9 i b a g c l j h a20 m a22 a23 a24 a25 a26 : V),
  exec T zH ⟨[a0,a1,a2,a3,vUs defs,a5,vUs uses,a7,a8,a9,vIs tree,vI k,i,b,a,g,c,l,j,h,a20,m,a22,a23,a24,a25,a26],zif f [.cells 0 2 [[.f y,.f x]]],0,0⟩ =
   some (if (uses.drop k).all (zgq defs tree) = true then (.exit 6,⟨[vU,vU,vU,vU,vU,vU,vU,vU,vU,vU,vU,vU,vU,vU,vU,vU,vU,vU,vU,vU,vU,vU,vU,vU,vU,vU,vU],zif f [.cells 0 2 [[.f y,.f x]]],0,0⟩) else (.ret,⟨[vU,vU,vU,vI 7,vU,vU,vU,vU,vU,vU,vU,vU,vU,vU,vU,vU,vU,vU,vU,vU,vU,vU,vU,vU,vU,vU,vU],zif f (.cells 0 2 [[.f y,.f x]] :: r),0,0⟩)):=by
 intro d
 induction d with
 | zero =>
   intro k h1 z;have n : k = uses.length:=(by omega);subst n;refine ⟨[],fun a0 a1 a2 a3 a5 a7 a8 a9 i b a g c l j h a20 m a22 a23 a24 a25 a26 => ?_⟩;rw [xl zH rfl,zU];simp -implicitDefEqProofs only [go_sem,zif,yg,yc,yf,yr]
 | succ d ih =>
   intro k h1 z;have n : k < uses.length:=(by omega);have hd : uses.drop k = uses[k] :: uses.drop (k + 1):=ye n;have p:=zhB defs uses[k].v hdl;obtain ⟨p1,p2,o⟩:=zCW defs uses[k] (hall _ (yh n));obtain ⟨r,s⟩:=ih (k + 1) (by omega) (by omega);simp -implicitDefEqProofs only [go_sem,zif] at s;simp -implicitDefEqProofs only [go_sem] at p;rw [hd,yn,zgq];obtain ⟨e,he⟩ : ∃ e,e = zhZ defs uses[k].v:=⟨_,rfl⟩;obtain ⟨u,hu⟩ : ∃ u,u = uses[k]:=⟨_,rfl⟩;have q:=zm (r:=rU) n;rw [← he] at o ⊢;rw [← hu] at q p p1 p2 o ⊢;have t:=ztj tree w e.block u.block;simp -implicitDefEqProofs only [go_sem] at t
   by_cases c1 : e.block < 0
   ·refine ⟨r,fun a0 a1 a2 a3 a5 a7 a8 a9 i b a g c l j h a20 m a22 a23 a24 a25 a26 => ?_⟩
    rw [xl zH rfl,zU];simp -implicitDefEqProofs only [go_sem,zif,ilt n,q,rU,yc,p,p1,p2,o,eq_true c1,yb,yd,za n hul,s]
   ·by_cases c2 : e.block = u.block
    ·by_cases c3 : e.at' < u.at'
     ·refine ⟨r,fun a0 a1 a2 a3 a5 a7 a8 a9 i b a g c l j h a20 m a22 a23 a24 a25 a26 => ?_⟩
      rw [xl zH rfl,zU];simp -implicitDefEqProofs only [go_sem,zif,ilt n,q,rU,yc,p,p1,p2,o,c1,eq_true c2,eq_true c3,yb,yd,za n hul,s]
     ·refine ⟨[.cells 0 5 [(rU u).map C.f],.cells 0 5 [(rU e).map C.f]],fun a0 a1 a2 a3 a5 a7 a8 a9 i b a g c l j h a20 m a22 a23 a24 a25 a26 => ?_⟩
      rw [xl zH rfl,zU];simp -implicitDefEqProofs only [go_sem,zif,ilt n,q,rU,yc,yj,ys,p,p1,p2,o,c1,eq_true c2,c3,yb,yd]
    ·by_cases c4 : zmk tree e.block u.block = e.block
     ·refine ⟨r,fun a0 a1 a2 a3 a5 a7 a8 a9 i b a g c l j h a20 m a22 a23 a24 a25 a26 => ?_⟩
      rw [xl zH rfl,zU];simp -implicitDefEqProofs only [go_sem,zif,ilt n,q,rU,yc,p,t,p1,p2,o,c1,c2,eq_true c4,yb,yd,za n hul,s]
     ·refine ⟨[.cells 0 5 [(rU u).map C.f],.cells 0 5 [(rU e).map C.f]],fun a0 a1 a2 a3 a5 a7 a8 a9 i b a g c l j h a20 m a22 a23 a24 a25 a26 => ?_⟩
      rw [xl zH rfl,zU];simp -implicitDefEqProofs only [go_sem,zif,ilt n,q,rU,yc,yj,ys,p,t,p1,p2,o,c1,c2,c4,yb,yd]
end
theorem zEv (n : Nat) : (1 < n + 5) = True:=by (first | (simp; omega) | simp)
theorem zEx (n : Nat) : (3 < n + 5) = True:=by (first | (simp; omega) | simp)
theorem zEt (n : Nat) : (4 < n + 5) = True:=by (first | (simp; omega) | simp)
theorem zET (n : Nat) : (1 < n + 6) = True:=by (first | (simp; omega) | simp)
theorem zER (n : Nat) : (3 < n + 6) = True:=by (first | (simp; omega) | simp)
theorem zEE (n : Nat) : (4 < n + 6) = True:=by (first | (simp; omega) | simp)
theorem zEU (n : Nat) : (1 < n + 7) = True:=by (first | (simp; omega) | simp)
theorem zE8 (n : Nat) : (3 < n + 7) = True:=by (first | (simp; omega) | simp)
theorem zFk (n : Nat) : (4 < n + 7) = True:=by (first | (simp; omega) | simp)
theorem zEI (n : Nat) : (1 < n + 8) = True:=by (first | (simp; omega) | simp)
theorem zEo (n : Nat) : (3 < n + 8) = True:=by (first | (simp; omega) | simp)
theorem zE1 (n : Nat) : (4 < n + 8) = True:=by (first | (simp; omega) | simp)
attribute [go_sem] zEv zEx zEt zET zER zEE zEU zE8 zFk zEI zEo zE1
def getM {α : Type} (k : Int) : List (Int × α) → Option α
 | [] => none
 | e :: es => if e.1 = k then some e.2 else getM k es
def zjr {α : Type} (k : Int) (v : α) : List (Int × α) → List (Int × α)
 | [] => [(k,v)]
 | e :: es => if e.1 = k then (k,v) :: es else e :: zjr k v es
def zh4 {α : Type} (enc : α → V) (D : List (Int × α)) : List (Int × V):=D.map fun e => (e.1,enc e.2)
theorem zor {α : Type} (enc : α → V) (k : Int) : ∀ D : List (Int × α),zhj k (zh4 enc D) = (getM k D).map enc
 | [] => rfl
 | e :: es => by
   have a:=zor enc k es;unfold zh4 at a ⊢;simp only [yj,zhj,getM]
   by_cases h : e.1 = k
   ·rw [if_pos h,if_pos h]; rfl
   ·rw [if_neg h,if_neg h,a]
theorem zoj {α : Type} (enc : α → V) (k : Int) (v : α) : ∀ D : List (Int × α),zlV k (enc v) (zh4 enc D) = zh4 enc (zjr k v D)
 | [] => rfl
 | e :: es => by
   have a:=zoj enc k v es;unfold zh4 at a ⊢;simp only [yj,zlV,zjr]
   by_cases h : e.1 = k
   ·rw [if_pos h,if_pos h]; rfl
   ·rw [if_neg h,if_neg h,a]; rfl
theorem zuI {α : Type} (enc : α → V) (n : Nat) (h : ∀ a,(enc a).lt n = true) : ∀ D : List (Int × α),C.ltm n (zh4 enc D) = true
 | [] => rfl
 | e :: es => by
   have b:=zuI enc n h es;unfold zh4 at b ⊢;simp only [yj,C.ltm,h,b,Bool.and_self]
structure PDef where
 block : Int
 at' : Int
 shape : Int × Int
abbrev zkI:=List (Int × PDef)
def zia (d : PDef) : V:=.agg [.f (ei d.block),.f (ei d.at'),.f (ei d.shape.1),.f (ei d.shape.2)]
theorem zab (n : Nat) (D : zkI) : C.ltm n (zh4 zia D) = true:=zuI zia n (fun a => by simp [zia,V.lt,C.lts,C.lt]) D
theorem zkx (k : Int) (D : zkI) : zhj k (zh4 zia D) = (getM k D).map zia:=zor zia k D
theorem zBk (k : Int) (d : PDef) (D : zkI) : zlV k (V.agg [.f (.lit (.int .i64 d.block)),.f (.lit (.int .i64 d.at')),.f (.lit (.int .i64 d.shape.1)),.f (.lit (.int .i64 d.shape.2))]) (zh4 zia D) = zh4 zia (zjr k d D):=zoj zia k d D
abbrev P1 : Ob:=.cells 0 1 [[.ptr 1 0 0 0]]
abbrev stD (f : PFunc) (level : Int) (x y z : C) (D : zkI) (r : zd) : zd:=O0 f :: zxT f level x y z (.map 4) :: O2 :: P1 :: .mp (zh4 zia D) :: r
section
variable (f : PFunc) (level : Int) (succ pred : List (List Int)) (tree : List Int) (D : zkI) (r : zd) (hr : Obs.lt (r.length + 5) r = true)
abbrev xS (l : List (List Int)) : C:=.f (.sl (l.map rl))
abbrev zS (l : List Int) : C:=.f (eI l)
include hr
theorem zrZ (v : Int) (d : PDef) : call T 204 [.one (.ptr 1 0 0 0),vI v,zia d] (stD f level (xS succ) (xS pred) (zS tree) D r) = some (vB (getM v D).isNone,stD f level (xS succ) (xS pred) (zS tree) (zjr v d D) r):=by
 rw [ze (fn:=zdc) rfl];have a:=zBk v d D
 cases e : getM v D with
 | none => simp -implicitDefEqProofs only [go_sem,zdc,stD,zia,zkx,e,a,hr,zab,ya,yp]
 | some d0 => simp -implicitDefEqProofs only [go_sem,zdc,stD,zia,zkx,e,a,hr,zab,ya,yq]
theorem zp8 (u : Use) : call T 208 [vI u.v,.agg [.f (ei u.shape.1),.f (ei u.shape.2)],vI u.block,vI u.at',.one (.ptr 3 0 0 0)] (stD f level (xS succ) (xS pred) (zS tree) D r) =
  some (vI (if (getM u.v D).isNone then 7 else 0),stD f level (xS succ) (xS pred) (zS tree) D r):=by
 rw [ze (fn:=zaK) rfl]
 cases e : getM u.v D with
 | none => simp -implicitDefEqProofs only [go_sem,zaK,stD,zia,zkx,e,hr,zab,ya,yp]
 | some d0 => simp -implicitDefEqProofs only [go_sem,zaK,stD,zia,zkx,e,hr,zab,ya,yq]
end
def zlT (D : zkI) (v : Int) : PDef:=(getM v D).getD ⟨0,0,(0,0)⟩
def zk8 (D : zkI) (u : Use) : Int:=if (getM u.v D).isNone = true then 7 else 0
def zcs (D : zkI) (u : Use) : Int:=if (zlT D u.v).shape = u.shape then 0 else 6
def zaZ (D : zkI) (tree : List Int) (u : Use) : Int :=
 let d:=zlT D u.v
 if d.block < 0 then 0 else if (d.block = u.block ∧ d.at' < u.at') ∨ (d.block ≠ u.block ∧ zkR tree d.block u.block = true) then 0 else 7
section
variable (f : PFunc) (level : Int) (succ pred : List (List Int)) (tree : List Int) (D : zkI) (r : zd) (hr : Obs.lt (r.length + 6) r = true)
include hr
theorem zsw (u : Use) : call T 209 [vI u.v,.agg [.f (ei u.shape.1),.f (ei u.shape.2)],vI u.block,vI u.at',.one (.ptr 5 0 0 0)] (stD f level (xS succ) (xS pred) (zS tree) D (P1 :: r)) =
  some (vI (zcs D u),stD f level (xS succ) (xS pred) (zS tree) D (P1 :: r)):=by
 rw [ze (fn:=zx) rfl];have g : ∀ a b : Int × Int,(a = b) = (a.1 = b.1 ∧ a.2 = b.2):=fun a b => by rw [Prod.ext_iff]
 have key : ∀ d : PDef,zlT D u.v = d → zhj u.v (zh4 zia D) = some (zia d) ∨ (zhj u.v (zh4 zia D) = none ∧ d = ⟨0,0,(0,0)⟩):=fun d hd => by
  rw [zkx];unfold zlT at hd
  cases e : getM u.v D with
  | none => rw [e] at hd; exact .inr ⟨rfl,hd.symm⟩
  | some d0 => rw [e] at hd; simp at hd; subst hd; exact .inl rfl
 by_cases c1 : (zlT D u.v).shape.1 = u.shape.1
 ·by_cases c2 : (zlT D u.v).shape.2 = u.shape.2
  ·rcases key _ rfl with h | ⟨h,c⟩
   ·simp -implicitDefEqProofs only [go_sem,zx,stD,zia,h,hr,zab,ya,zcs,g,eq_true c1,eq_true c2]
   ·rw [c] at c1 c2
    simp -implicitDefEqProofs only [go_sem,zx,stD,zia,h,hr,zab,ya,zcs,g,c,eq_true c1,eq_true c2]
  ·rcases key _ rfl with h | ⟨h,c⟩
   ·simp -implicitDefEqProofs only [go_sem,zx,stD,zia,h,hr,zab,ya,zcs,g,eq_true c1,c2,and_false]
   ·rw [c] at c1 c2
    simp -implicitDefEqProofs only [go_sem,zx,stD,zia,h,hr,zab,ya,zcs,g,c,eq_true c1,c2,and_false]
 ·rcases key _ rfl with h | ⟨h,c⟩
  ·simp -implicitDefEqProofs only [go_sem,zx,stD,zia,h,hr,zab,ya,zcs,g,c1,false_and]
  ·rw [c] at c1
   simp -implicitDefEqProofs only [go_sem,zx,stD,zia,h,hr,zab,ya,zcs,g,c,c1,false_and]
theorem zrQ (c : tree.length ≤ 4294967296) (u : Use) : call T 210 [vI u.v,.agg [.f (ei u.shape.1),.f (ei u.shape.2)],vI u.block,vI u.at',.one (.ptr 5 0 0 0)] (stD f level (xS succ) (xS pred) (zS tree) D (P1 :: r)) =
  some (vI (zaZ D tree u),stD f level (xS succ) (xS pred) (zS tree) D (P1 :: r)):=by
 rw [ze (fn:=zg) rfl]
 have key : ∀ d : PDef,zlT D u.v = d → zhj u.v (zh4 zia D) = some (zia d) ∨ (zhj u.v (zh4 zia D) = none ∧ d = ⟨0,0,(0,0)⟩):=fun d hd => by
  rw [zkx];unfold zlT at hd
  cases e : getM u.v D with
  | none => rw [e] at hd; exact .inr ⟨rfl,hd.symm⟩
  | some d0 => rw [e] at hd; simp at hd; subst hd; exact .inl rfl
 rcases key _ rfl with h | ⟨h,b⟩
 ·have a:=zpc tree (zlT D u.v).block u.block c
  simp -implicitDefEqProofs only [go_sem] at a
  by_cases c1 : (zlT D u.v).block < 0
  ·simp -implicitDefEqProofs only [go_sem,zg,stD,zia,h,hr,zab,ya,zaZ,c1]
  by_cases c2 : (zlT D u.v).block = u.block
  ·by_cases c3 : (zlT D u.v).at' < u.at'
   ·simp -implicitDefEqProofs only [go_sem,zg,stD,zia,h,hr,zab,ya,zaZ,c1,eq_true c2,c3,true_and,true_or]
   ·simp -implicitDefEqProofs only [go_sem,zg,stD,zia,h,hr,zab,ya,zaZ,c1,eq_true c2,c3,and_false,false_and,or_self,ne_eq]
  ·cases c4 : zkR tree (zlT D u.v).block u.block
   ·rw [c4] at a
    simp -implicitDefEqProofs only [go_sem,zg,stD,zia,h,hr,zab,ya,zaZ,c1,c2,a,c4,and_false,false_and,or_self,ne_eq]
   ·rw [c4] at a
    simp -implicitDefEqProofs only [go_sem,zg,stD,zia,h,hr,zab,ya,zaZ,c1,c2,a,c4,and_self,false_and,false_or,ne_eq]
 ·have a:=zpc tree (0 : Int) u.block c
  simp -implicitDefEqProofs only [go_sem] at a
  by_cases c1 : (0 : Int) < 0
  ·simp -implicitDefEqProofs only [go_sem,zg,stD,zia,h,hr,zab,ya,zaZ,b,c1]
  by_cases c2 : (0 : Int) = u.block
  ·by_cases c3 : (0 : Int) < u.at'
   ·simp -implicitDefEqProofs only [go_sem,zg,stD,zia,h,hr,zab,ya,zaZ,b,c1,eq_true c2,c3,true_and,true_or]
   ·simp -implicitDefEqProofs only [go_sem,zg,stD,zia,h,hr,zab,ya,zaZ,b,c1,eq_true c2,c3,and_false,false_and,or_self,ne_eq]
  ·cases c4 : zkR tree (0 : Int) u.block
   ·rw [c4] at a
    simp -implicitDefEqProofs only [go_sem,zg,stD,zia,h,hr,zab,ya,zaZ,b,c1,c2,a,c4,and_false,false_and,or_self,ne_eq]
   ·rw [c4] at a
    simp -implicitDefEqProofs only [go_sem,zg,stD,zia,h,hr,zab,ya,zaZ,b,c1,c2,a,c4,and_self,false_and,false_or,ne_eq]
end
def zd4 : Nat → zkI → List Int → zkI
 | _,D,[] => D
 | i,D,b :: r => zd4 (i + 1) (zjr ((i : Int) + 1) ⟨-1,0,(b,1)⟩ D) r
def zha (i : Int) : zkI → List PPhi → zkI × Option PPhi
 | D,[] => (D,none)
 | D,p :: r => if p.dst < 1 ∨ 1023 < p.dst then (D,some p) else if (getM p.dst D).isNone = true then zha i (zjr p.dst ⟨i,-1,(p.bits,1)⟩ D) r else (zjr p.dst ⟨i,-1,(p.bits,1)⟩ D,some p)
def zje (i : Int) : Nat → zkI → List POp → zkI × Option POp
 | _,D,[] => (D,none)
 | k,D,o :: r => if (zad o).1 ≤ 0 then zje i (k + 1) D r else if (getM o.dst D).isNone = true then zje i (k + 1) (zjr o.dst ⟨i,k,zad o⟩ D) r else (zjr o.dst ⟨i,k,zad o⟩ D,some o)
def zev : Nat → zkI → List PBlock → zkI × Option (List Ob)
 | _,D,[] => (D,none)
 | i,D,b :: r => match zha i D b.phis with
   | (D1,some p) => (D1,some [.cells 0 5 [zh b],.cells 0 4 [zuR p]])
   | (D1,none) => match zje i 0 D1 b.ops with
     | (D2,some o) => (D2,some [.cells 0 5 [zh b],.cells 0 6 [cOp o]])
     | (D2,none) => zev (i + 1) D2 r
section
variable (f : PFunc) (hf : okF f) (level : Int) (succ pred : List (List Int)) (tree : List Int)
abbrev sD (f : PFunc) (level : Int) (succ pred : List (List Int)) (tree : List Int) (D : zkI) (r : zd) : zd:=stD f level (xS succ) (xS pred) (zS tree) D r
include hf
theorem zxk : ∀ (d k : Nat) (D : zkI) (a0 a2 a3 a4 a5 a6 a7 a8 a9 b g c a h i e a20 j a22 a23 a24 a25 a26 a27 a28 a29 : V),f.params.length - k = d → k ≤ f.params.length →
  exec T zaU ⟨[a0,.one (.ptr 3 0 0 0),a2,a3,a4,a5,a6,a7,a8,a9,b,g,vIs f.params,vI f.params.length,vI k,c,a,h,i,e,a20,j,a22,a23,a24,a25,a26,a27,a28,a29],sD f level succ pred tree D [],3,5⟩ =
   some (.exit 0,⟨[vU,.one (.ptr 3 0 0 0),vU,vU,vU,vU,vU,vU,vU,vU,vU,vU,vU,vU,vU,vU,vU,vU,vU,vU,vU,vU,vU,vU,vU,vU,vU,vU,vU,vU],sD f level succ pred tree (zd4 k D (f.params.drop k)) [],3,5⟩):=by
 intro d
 induction d with
 | zero =>
   intro k D a0 a2 a3 a4 a5 a6 a7 a8 a9 b g c a h i e a20 j a22 a23 a24 a25 a26 a27 a28 a29 q o;have l : k = f.params.length:=(by omega);subst l;rw [xl zaU rfl,zcY];simp -implicitDefEqProofs only [go_sem,stD,yg,yf,zd4]
 | succ d ih =>
   intro k D a0 a2 a3 a4 a5 a6 a7 a8 a9 b g c a h i e a20 j a22 a23 a24 a25 a26 a27 a28 a29 q o;have l : k < f.params.length:=(by omega);have hd : f.params.drop k = f.params[k] :: f.params.drop (k + 1):=ye l;have m:=zi8 f.params[k];have n:=zrZ f level succ pred tree D [] rfl ((k : Int) + 1) ⟨-1,0,(f.params[k],1)⟩;have hw:=za l hf.params;have p : ((k + 1 : Nat) : Int) = (k : Int) + 1:=(by omega);have:=ih (k + 1) (zjr ((k : Int) + 1) ⟨-1,0,(f.params[k],1)⟩ D) vU vU vU vU vU vU vU vU vU vU vU vU vU vU vU vU vU vU vU vU vU vU vU vU vU vU (by omega) (by omega);rw [xl zaU rfl,zcY,hd,zd4];rw [p] at hw this;simp -implicitDefEqProofs only [go_sem,stD,zia] at n m this;simp -implicitDefEqProofs only [go_sem,stD,ilt l,zm l,ri,m,n,hw,this]
theorem zxu (b : PBlock) (q : okB b) (i : Int) : ∀ (d k : Nat) (D : zkI) (a0 a2 a3 a4 a7 a8 a9 g l m e c h j a23 a24 a25 a26 a27 a28 a29 : V),b.phis.length - k = d → k ≤ b.phis.length →
  exec T za1 ⟨[a0,.one (.ptr 3 0 0 0),a2,a3,a4,vI i,.one (.ptr 5 0 0 0),a7,a8,a9,g,l,m,e,c,h,vL (f.blocks.map rb),vI f.blocks.length,vI i,j,vL (b.phis.map rp),vI b.phis.length,vI k,a23,a24,a25,a26,a27,a28,a29],sD f level succ pred tree D [.cells 0 5 [zh b]],3,5⟩ =
   some (match zha i D (b.phis.drop k) with
    | (D1,none) => (.exit 4,⟨[vU,.one (.ptr 3 0 0 0),vU,vU,vU,vI i,.one (.ptr 5 0 0 0),vU,vU,vU,vU,vU,vU,vU,vU,vU,vL (f.blocks.map rb),vI f.blocks.length,vI i,vU,vU,vU,vU,vU,vU,vU,vU,vU,vU,vU],sD f level succ pred tree D1 [.cells 0 5 [zh b]],3,5⟩)
    | (D1,some p) => (.ret,⟨[vU,vU,vI 7,vU,vU,vU,vU,vU,vU,vU,vU,vU,vU,vU,vU,vU,vU,vU,vU,vU,vU,vU,vU,vU,vU,vU,vU,vU,vU,vU],sD f level succ pred tree D1 [.cells 0 5 [zh b],.cells 0 4 [zuR p]],3,5⟩)):=by
 intro d
 induction d with
 | zero =>
   intro k D a0 a2 a3 a4 a7 a8 a9 g l m e c h j a23 a24 a25 a26 a27 a28 a29 s r;have a : k = b.phis.length:=(by omega);subst a;rw [xl za1 rfl,zc0];simp -implicitDefEqProofs only [go_sem,stD,yg,yf,zha]
 | succ d ih =>
   intro k D a0 a2 a3 a4 a7 a8 a9 g l m e c h j a23 a24 a25 a26 a27 a28 a29 s r;have a : k < b.phis.length:=(by omega);have hd : b.phis.drop k = b.phis[k] :: b.phis.drop (k + 1):=ye a;have n:=zi8 b.phis[k].bits;have o:=zrZ f level succ pred tree D [.cells 0 5 [zh b],.cells 0 4 [zuR b.phis[k]]] (by simp -implicitDefEqProofs only [go_sem]) b.phis[k].dst ⟨i,-1,(b.phis[k].bits,1)⟩;rw [xl za1 rfl,zc0,hd,zha];simp -implicitDefEqProofs only [go_sem,stD,zia] at o n
   by_cases c1 : b.phis[k].dst < 1
   ·simp -implicitDefEqProofs only [go_sem,stD,ilt a,zm a,rp,c1]
   by_cases c2 : 1023 < b.phis[k].dst
   ·simp -implicitDefEqProofs only [go_sem,stD,ilt a,zm a,rp,c1,c2]
   cases c3 : (getM b.phis[k].dst D).isNone
   ·rw [c3] at o
    simp -implicitDefEqProofs only [go_sem,stD,ilt a,zm a,rp,c1,c2,n,o]
   ·have:=ih (k + 1) (zjr b.phis[k].dst ⟨i,-1,(b.phis[k].bits,1)⟩ D) vU vU vU vU vU vU vU vU vU vU vU vU vU vU vU vU vU vU vU vU vU (by omega) (by omega)
    rw [c3] at o;simp -implicitDefEqProofs only [go_sem,stD] at this;simp -implicitDefEqProofs only [go_sem,stD,ilt a,zm a,rp,c1,c2,n,o,zab,za a q.phis,this]
theorem zw2 (b : PBlock) (s : okB b) (i : Int) : ∀ (d k : Nat) (D : zkI) (a0 a2 a3 a4 a6 a7 a8 a9 j n p h g l m a20 q a22 a23 a24 a28 a29 : V),b.ops.length - k = d → k ≤ b.ops.length →
  exec T zaV ⟨[a0,.one (.ptr 3 0 0 0),a2,a3,a4,vI i,a6,a7,a8,a9,j,n,p,h,g,l,vL (f.blocks.map rb),vI f.blocks.length,vI i,m,a20,q,a22,a23,a24,vL (b.ops.map ro),vI b.ops.length,vI k,a28,a29],sD f level succ pred tree D [.cells 0 5 [zh b]],3,5⟩ =
   some (match zje i k D (b.ops.drop k) with
    | (D1,none) => (.exit 6,⟨[vU,.one (.ptr 3 0 0 0),vU,vU,vU,vU,vU,vU,vU,vU,vU,vU,vU,vU,vU,vU,vL (f.blocks.map rb),vI f.blocks.length,vI i,vU,vU,vU,vU,vU,vU,vU,vU,vU,vU,vU],sD f level succ pred tree D1 [.cells 0 5 [zh b]],3,5⟩)
    | (D1,some o) => (.ret,⟨[vU,vU,vI 7,vU,vU,vU,vU,vU,vU,vU,vU,vU,vU,vU,vU,vU,vU,vU,vU,vU,vU,vU,vU,vU,vU,vU,vU,vU,vU,vU],sD f level succ pred tree D1 [.cells 0 5 [zh b],.cells 0 6 [cOp o]],3,5⟩)):=by
 intro d
 induction d with
 | zero =>
   intro k D a0 a2 a3 a4 a6 a7 a8 a9 j n p h g l m a20 q a22 a23 a24 a28 a29 v u;have a : k = b.ops.length:=(by omega);subst a;rw [xl zaV rfl,zcV];simp -implicitDefEqProofs only [go_sem,stD,yg,yf,zje]
 | succ d ih =>
   intro k D a0 a2 a3 a4 a6 a7 a8 a9 j n p h g l m a20 q a22 a23 a24 a28 a29 v u;have a : k < b.ops.length:=(by omega);have hd : b.ops.drop k = b.ops[k] :: b.ops.drop (k + 1):=ye a;have t:=s.op _ (yh a);have e:=zpJ b.ops[k] t.1 t.2;have r:=zrZ f level succ pred tree D [.cells 0 5 [zh b],.cells 0 6 [cOp b.ops[k]]] (by simp -implicitDefEqProofs only [go_sem]) b.ops[k].dst ⟨i,k,zad b.ops[k]⟩;rw [xl zaV rfl,zcV,hd,zje];simp -implicitDefEqProofs only [go_sem,stD,zia] at r e
   by_cases c1 : (zad b.ops[k]).1 ≤ 0
   ·have c : ¬ 0 < (zad b.ops[k]).1:=by omega
    have:=ih (k + 1) D vU vU vU vU vU vU vU vU vU vU vU vU vU vU vU vU vU vU vU vU vU vU (by omega) (by omega);simp -implicitDefEqProofs only [go_sem,stD] at this;simp -implicitDefEqProofs only [go_sem,stD,ilt a,zm a,ro,e,c1,c,zab,za a s.ops,this]
   have c : 0 < (zad b.ops[k]).1:=(by omega);cases c3 : (getM b.ops[k].dst D).isNone
   ·rw [c3] at r
    simp -implicitDefEqProofs only [go_sem,stD,ilt a,zm a,ro,e,c1,c,r]
   ·have:=ih (k + 1) (zjr b.ops[k].dst ⟨i,k,zad b.ops[k]⟩ D) vU vU vU vU vU vU vU vU vU vU vU vU vU vU vU vU vU vU vU vU vU vU (by omega) (by omega)
    rw [c3] at r;simp -implicitDefEqProofs only [go_sem,stD] at this;simp -implicitDefEqProofs only [go_sem,stD,ilt a,zm a,ro,e,c1,c,r,zab,za a s.ops,this]
theorem zwq : ∀ (d k : Nat) (D : zkI) (a0 a2 a3 a4 a5 a6 a7 a8 a9 c h i b a e g a20 l a22 a23 a24 a25 a26 a27 a28 a29 : V),f.blocks.length - k = d → k ≤ f.blocks.length →
  exec T zaT ⟨[a0,.one (.ptr 3 0 0 0),a2,a3,a4,a5,a6,a7,a8,a9,c,h,i,b,a,e,vL (f.blocks.map rb),vI f.blocks.length,vI k,g,a20,l,a22,a23,a24,a25,a26,a27,a28,a29],sD f level succ pred tree D [],3,5⟩ =
   some (match zev k D (f.blocks.drop k) with
    | (D1,none) => (.exit 2,⟨[vU,.one (.ptr 3 0 0 0),vU,vU,vU,vU,vU,vU,vU,vU,vU,vU,vU,vU,vU,vU,vU,vU,vU,vU,vU,vU,vU,vU,vU,vU,vU,vU,vU,vU],sD f level succ pred tree D1 [],3,5⟩)
    | (D1,some G) => (.ret,⟨[vU,vU,vI 7,vU,vU,vU,vU,vU,vU,vU,vU,vU,vU,vU,vU,vU,vU,vU,vU,vU,vU,vU,vU,vU,vU,vU,vU,vU,vU,vU],sD f level succ pred tree D1 G,3,5⟩)):=by
 intro d
 induction d with
 | zero =>
   intro k D a0 a2 a3 a4 a5 a6 a7 a8 a9 c h i b a e g a20 l a22 a23 a24 a25 a26 a27 a28 a29 t r;have j : k = f.blocks.length:=(by omega);subst j;rw [xl zaT rfl,zcT];simp -implicitDefEqProofs only [go_sem,stD,yg,yf,zev]
 | succ d ih =>
   intro k D a0 a2 a3 a4 a5 a6 a7 a8 a9 c h i b a e g a20 l a22 a23 a24 a25 a26 a27 a28 a29 t r;have j : k < f.blocks.length:=(by omega);have hd : f.blocks.drop k = f.blocks[k] :: f.blocks.drop (k + 1):=ye j;have q:=hf.block _ (yh j);have m:=fun a0 a2 a3 a4 a7 a8 a9 c h i b a e g a23 a24 a25 a26 a27 a28 a29 => zxu f hf level succ pred tree f.blocks[k] q k f.blocks[k].phis.length 0 D a0 a2 a3 a4 a7 a8 a9 c h i b a e g a23 a24 a25 a26 a27 a28 a29 (by omega) (by omega);simp only [ym,yk] at m;rw [xl zaT rfl,zcT,hd,zev];rcases e1 : zha k D f.blocks[k].phis with ⟨D1,_ | p⟩
   ·have n:=fun a0 a2 a3 a4 a6 a7 a8 a9 c h i b a e g a20 l a22 a23 a24 a28 a29 => zw2 f hf level succ pred tree f.blocks[k] q k f.blocks[k].ops.length 0 D1 a0 a2 a3 a4 a6 a7 a8 a9 c h i b a e g a20 l a22 a23 a24 a28 a29 (by omega) (by omega)
    simp only [ym,yk] at n;rcases e2 : zje k 0 D1 f.blocks[k].ops with ⟨s,_ | o⟩
    ·have:=ih (k + 1) s vU vU vU vU vU vU vU vU vU vU vU vU vU vU vU vU vU vU vU vU vU vU vU vU vU vU (by omega) (by omega)
     simp -implicitDefEqProofs only [go_sem,stD,e1,e2] at m n this;simp -implicitDefEqProofs only [go_sem,stD,ilt j,zm j,rb,m,n,e2,zab,za j hf.blocks,this]
    ·simp -implicitDefEqProofs only [go_sem,stD,e1,e2] at m n
     simp -implicitDefEqProofs only [go_sem,stD,ilt j,zm j,rb,m,n,e2]
   ·simp -implicitDefEqProofs only [go_sem,stD,e1] at m
    simp -implicitDefEqProofs only [go_sem,stD,ilt j,zm j,rb,m]
end
attribute [go_sem] zxT O0 O2 P1 xS zS sD stD cM
def zsh (f : PFunc) : zkI × Option (List Ob):=zev 0 (zd4 0 [] f.params) f.blocks
theorem znf (o : POp) : (zaY o).length ≤ o.args.length:=by
 unfold zaY;split
 ·rename_i h
  simp only [zgx,yi,decide_eq_true_eq] at h;omega
 ·simp
theorem zmt (pred : List (List Int)) (tree : List Int) : ∀ (l : List PBlock) (i : Nat),zd1 pred tree i l = true → ∀ k (a : k < l.length),zq1 pred tree (i + k) l[k] = true
 | [],_,_,k,a => by simp at a
 | b :: r,i,h,k,a => by
   simp only [zd1,yi] at h
   cases k with
   | zero => exact h.1
   | succ k =>
     have:=zmt pred tree r (i + 1) h.2 k (by simpa using a);simpa [Nat.add_assoc,yl 1 k] using this
theorem zzX {f : PFunc} {pred : List (List Int)} {tree : List Int} (h : zd1 pred tree 0 f.blocks = true) : ∀ b ∈ f.blocks,zjJ b:=fun b a => by
 obtain ⟨k,d,rfl⟩:=List.getElem_of_mem a;have:=zmt pred tree f.blocks 0 h k d;simp only [zq1,yi,List.all_eq_true] at this;refine ⟨fun p c => ?_,fun o _ => znf o⟩;have:=this.2.1 p c;simp only [zhU,yi,decide_eq_true_eq] at this;exact this.2
theorem zEZ (f : PFunc) (level : Int) (succ pred : List (List Int)) (tree : List Int) (D : zkI) : Ok (sD f level succ pred tree D []):=by
 unfold Ok;simp -implicitDefEqProofs only [go_sem,stD,zab]
theorem zAa (f : PFunc) (level : Int) (succ pred : List (List Int)) (tree : List Int) (D : zkI) : Ok (sD f level succ pred tree D [P1]):=by
 unfold Ok;simp -implicitDefEqProofs only [go_sem,stD,zab]
section
variable (f : PFunc) (hf : okF f) (level : Int) (succ pred : List (List Int)) (tree : List Int) (hab : ∀ b ∈ f.blocks,zjJ b)
include hf hab
theorem ztv : call T 161 [.one (.ptr 1 0 0 0)] [O0 f,zxT f level (xS succ) (xS pred) (zS tree) (.f (.lit (.map none))),O2] =
  some (vI (match zsh f with | (D,none) => zW (zk8 D) (zfe f) | (_,some _) => 7),sD f level succ pred tree (zsh f).1 []):=by
 rw [ze (fn:=zbg) rfl];have h:=fun a0 a2 a3 a4 a5 a6 a7 a8 a9 a d b l n o c a20 g a22 a23 a24 a25 a26 a27 a28 a29 => zxk f hf level succ pred tree f.params.length 0 [] a0 a2 a3 a4 a5 a6 a7 a8 a9 a d b l n o c a20 g a22 a23 a24 a25 a26 a27 a28 a29 (by omega) (by omega);have i:=fun a0 a2 a3 a4 a5 a6 a7 a8 a9 a d m k j b c a20 g a22 a23 a24 a25 a26 a27 a28 a29 => zwq f hf level succ pred tree f.blocks.length 0 (zd4 0 [] f.params) a0 a2 a3 a4 a5 a6 a7 a8 a9 a d m k j b c a20 g a22 a23 a24 a25 a26 a27 a28 a29 (by omega) (by omega);have en : zh4 zia [] = []:=rfl;simp only [ym,yk] at h i;have ed : zsh f = zev 0 (zd4 0 [] f.params) f.blocks:=rfl;rw [ed];rcases e : zev 0 (zd4 0 [] f.params) f.blocks with ⟨D,_ | G⟩
 ·have hu:=zoF f level (xS succ) (xS pred) (zS tree) (.map 4) 208 [.ptr 3 0 0 0] (sD f level succ pred tree D []) rfl (zEZ _ _ _ _ _ _) rfl (zk8 D)
   (fun r u q => zp8 f level succ pred tree D r (by simpa [yl] using q) u) hf hab
  simp -implicitDefEqProofs only [go_sem,stD,e,en] at h i hu;simp -implicitDefEqProofs only [go_sem,zbg,h,i,hu,zab,e]
 ·simp -implicitDefEqProofs only [go_sem,stD,e,en] at h i
  simp -implicitDefEqProofs only [go_sem,zbg,h,i,zab,e,ya]
  by_cases p : G.length ≤ 0
  ·have : G = []:=List.eq_nil_of_length_eq_zero (by omega)
   subst this;rfl
  ·rw [if_neg p]
   rfl
theorem zuC (D : zkI) : call T 162 [.one (.ptr 1 0 0 0)] (sD f level succ pred tree D []) = some (vI (zW (zcs D) (zfe f)),sD f level succ pred tree D []):=by
 rw [ze (fn:=zdP) rfl]
 have hu:=zoF f level (xS succ) (xS pred) (zS tree) (.map 4) 209 [.ptr 5 0 0 0] (sD f level succ pred tree D [P1]) rfl (zAa _ _ _ _ _ _) rfl (zcs D)
  (fun r u a => zsw f level succ pred tree D r (by simpa [yl] using a) u) hf hab
 simp -implicitDefEqProofs only [go_sem,stD] at hu;simp -implicitDefEqProofs only [go_sem,zdP,stD,hu,zab]
theorem zvm (a : tree.length ≤ 4294967296) (D : zkI) : call T 163 [.one (.ptr 1 0 0 0)] (sD f level succ pred tree D []) = some (vI (zW (zaZ D tree) (zfe f)),sD f level succ pred tree D []):=by
 rw [ze (fn:=zdA) rfl]
 have hu:=zoF f level (xS succ) (xS pred) (zS tree) (.map 4) 210 [.ptr 5 0 0 0] (sD f level succ pred tree D [P1]) rfl (zAa _ _ _ _ _ _) rfl (zaZ D tree)
  (fun r u b => zrQ f level succ pred tree D r (by simpa [yl] using b) a u) hf hab
 simp -implicitDefEqProofs only [go_sem,stD] at hu;simp -implicitDefEqProofs only [go_sem,zdA,stD,hu,zab]
end
def zlz (f : PFunc) (level : Int) (tree : List Int) : Int :=
 if zlU f = false then 4 else if zhc f tree = false then 5 else if zfu f level = false then 6 else
 match zsh f with
 | (_,some _) => 7
 | (D,none) => if zW (zk8 D) (zfe f) ≠ 0 then zW (zk8 D) (zfe f) else if zW (zcs D) (zfe f) ≠ 0 then zW (zcs D) (zfe f) else zW (zaZ D tree) (zfe f)
def zto (f : PFunc) (tree : List Int) : Prop:=tree.length ≤ 4294967296 ∧ (zay f = true → call T 195 [.agg [.f (.sl ((zp f).map rl)),.f (.sl ((zN (zp f)).map rl))],vI 0] [] = some (vIs tree,[]))
theorem n5 : ((5 : Nat) : Int) = 5:=rfl
theorem wr1 : Go.IntKind.i64.wrap 1 = 1:=by decide
theorem wr2 : Go.IntKind.i64.wrap 2 = 2:=by decide
theorem wr3 : Go.IntKind.i64.wrap 3 = 3:=by decide
theorem wr4 : Go.IntKind.i64.wrap 4 = 4:=by decide
theorem wr5 : Go.IntKind.i64.wrap 5 = 5:=by decide
attribute [go_sem] n5 wr1 wr2 wr3 wr4 wr5
set_option maxRecDepth 10000 in
theorem zyG (f : PFunc) (hf : okF f) (level : Int) (tree : List Int) (g : zto f tree) : ∃ σ',call T 110 [zfZ f,vI level] [] = some (.tup [.one (.ptr 1 0 0 0),vI (zlz f level tree)],σ') ∧ (zlz f level tree = 0 → σ' = sD f level (zp f) (zN (zp f)) tree (zsh f).1 []):=by
 rw [ze (fn:=zaQ) rfl];have hm:=zr4 f hf;cases e0 : zlU f
 ·rw [e0] at hm
  simp -implicitDefEqProofs only [go_sem] at hm;simp -implicitDefEqProofs only [go_sem,zaQ,hm,zlz,e0];exact ⟨_,rfl,fun h => by first | exact h.elim | simp at h⟩
 rw [e0] at hm;cases e1 : zay f
 ·have a:=zqi f hf level e1
  have e2 : zhc f tree = false:=by simp [zhc,e1]
  simp -implicitDefEqProofs only [go_sem] at hm a;simp -implicitDefEqProofs only [go_sem,zaQ,hm,zlz,e0,e2,xl zbi rfl,zbc,a];exact ⟨_,rfl,fun h => by first | exact h.elim | simp at h⟩
 have a:=zsg f hf level e1 tree g.1 (g.2 e1);cases e2 : zd1 (zN (zp f)) tree 0 f.blocks
 ·have b : zhc f tree = false:=by simp [zhc,e2]
  rw [e2] at a;simp -implicitDefEqProofs only [go_sem] at hm a;simp -implicitDefEqProofs only [go_sem,zaQ,hm,zlz,e0,b,xl zbi rfl,zbc,a];exact ⟨_,rfl,fun h => by first | exact h.elim | simp at h⟩
 have b : zhc f tree = true:=by simp [zhc,e1,e2]
 have hab:=zzX e2;have c:=zxh f level (xS (zp f)) (xS (zN (zp f))) (zS tree) (.f (.lit (.map none))) [O0 f,zxT f level (xS (zp f)) (xS (zN (zp f))) (zS tree) (.f (.lit (.map none))),O2] rfl (by unfold Ok; simp -implicitDefEqProofs only [go_sem]) hf;rw [e2] at a;cases e3 : zfu f level
 ·rw [e3] at c
  simp -implicitDefEqProofs only [go_sem] at hm a c;simp -implicitDefEqProofs only [go_sem,zaQ,hm,zlz,e0,b,e3,xl zbi rfl,zbc,a,c];exact ⟨_,rfl,fun h => by first | exact h.elim | simp at h⟩
 rw [e3] at c;have hd:=ztv f hf level (zp f) (zN (zp f)) tree hab;rcases e4 : zsh f with ⟨D,_ | G⟩
 ·rw [e4] at hd
  by_cases e5 : zW (zk8 D) (zfe f) = 0
  ·have d:=zuC f hf level (zp f) (zN (zp f)) tree hab D
   by_cases e6 : zW (zcs D) (zfe f) = 0
   ·have e:=zvm f hf level (zp f) (zN (zp f)) tree hab g.1 D
    by_cases e7 : zW (zaZ D tree) (zfe f) = 0
    ·simp -implicitDefEqProofs only [go_sem,e5,e6,e7] at hm a c hd d e
     simp -implicitDefEqProofs only [go_sem,zaQ,hm,zlz,e0,b,e3,e4,e5,e6,e7,xl zbi rfl,zbc,a,c,hd,d,e,zab,ne_eq];exact ⟨_,rfl,fun _ => rfl⟩
    ·simp -implicitDefEqProofs only [go_sem,e5,e6] at hm a c hd d e
     simp -implicitDefEqProofs only [go_sem,zaQ,hm,zlz,e0,b,e3,e4,e5,e6,e7,xl zbi rfl,zbc,a,c,hd,d,e,zab,ne_eq];exact ⟨_,rfl,fun h => by first | exact absurd h e7 | exact h.elim⟩
   ·simp -implicitDefEqProofs only [go_sem,e5] at hm a c hd d
    simp -implicitDefEqProofs only [go_sem,zaQ,hm,zlz,e0,b,e3,e4,e5,e6,xl zbi rfl,zbc,a,c,hd,d,zab,ne_eq];exact ⟨_,rfl,fun h => by first | exact absurd h e6 | exact h.elim⟩
  ·simp -implicitDefEqProofs only [go_sem] at hm a c hd
   simp -implicitDefEqProofs only [go_sem,zaQ,hm,zlz,e0,b,e3,e4,e5,xl zbi rfl,zbc,a,c,hd,zab,ne_eq];exact ⟨_,rfl,fun h => by first | exact absurd h e5 | exact h.elim⟩
 ·rw [e4] at hd
  simp -implicitDefEqProofs only [go_sem] at hm a c hd;simp -implicitDefEqProofs only [go_sem,zaQ,hm,zlz,e0,b,e3,e4,xl zbi rfl,zbc,a,c,hd,zab,ne_eq];exact ⟨_,rfl,fun h => by first | exact h.elim | simp at h⟩
def zpx (f : PFunc) (level : Int) (tree : List Int) : Int:=if level < 0 ∨ 2 < level then 1 else zlz f level tree
@[go_sem] theorem zwC (f : PFunc) (a : okF f) (level : Int) (tree : List Int) (b : zto f tree) : call T 51 [zfZ f,vI level] [] = some (vI (zpx f level tree),[]):=by
  rw [ze (fn:=zfx) rfl]
  by_cases c1 : level < 0
  ·simp -implicitDefEqProofs only [go_sem,zfx,zpx,c1]
  by_cases c2 : 2 < level
  ·simp -implicitDefEqProofs only [go_sem,zfx,zpx,c1,c2]
  obtain ⟨σ',h,_⟩:=zyG f a level tree b;simp -implicitDefEqProofs only [go_sem] at h;simp -implicitDefEqProofs only [go_sem,zfx,zpx,c1,c2,h]
end AC

/- A part of the proof of AffineFinds. Conditions: none. -/
import Derived.Test.YtmkncmffaaninaaGreatXBC
import Derived.Test.YtmkncmffaaninaaGreatXBD
set_option linter.all false
open Nat renaming add_le_add_iff_right → ya,add_comm → yl
open Int renaming natCast_nonneg → yb,toNat_natCast → yd,lt_irrefl → yg,natCast_zero → yk
open List renaming length_map → yc,drop_eq_getElem_cons → ye,drop_length → yf,getElem_mem → yh,map_cons → yj,drop_zero → ym,all_cons → yn,length_cons → yo,all_nil → yr,map_nil → ys
open Bool renaming and_eq_true → yi
open Option renaming isNone_none → yp,isNone_some → yq
namespace AC
open Go Go.A Go.A.Lex
def zfE (defs : List Use) : Nat → List Use → Bool
 | _,[] => true
 | k,u :: r => (value u.v && decide (zl u.v 0 defs = (k : Int))) && zfE defs (k + 1) r
def ziI (defs : List Use) (v : Int) : Use:=defs.getD (zl v 0 defs).toNat ⟨0,(0,0),0,0⟩
def zkO (defs : List Use) (u : Use) : Bool:=!decide (zl u.v 0 defs < 0)
def sameShape (defs : List Use) (u : Use) : Bool:=decide ((ziI defs u.v).shape = u.shape)
def zg1 (defs : List Use) (tree : List Int) (u : Use) : Bool :=
 (decide ((ziI defs u.v).block < 0) || (decide ((ziI defs u.v).block = u.block) && decide ((ziI defs u.v).at' < u.at'))) || !(decide ((ziI defs u.v).block = u.block) || !decide (zj2 tree (ziI defs u.v).block u.block = (ziI defs u.v).block))
theorem zjU (v : Int) : ∀ (l : List Use) (k : Nat),0 ≤ zl v k l → (k : Int) ≤ zl v k l ∧ zl v k l < ((k + l.length : Nat) : Int)
 | [],k,h => by simp [zl] at h
 | u :: r,k,h => by
   rw [zl] at h ⊢;split
   ·simp only [yo]; omega
   ·rename_i c
    rw [if_neg c] at h;have:=zjU v r (k + 1) h;simp only [yo];omega
section
variable (f : PFunc) (hf : okF f) (defs uses : List Use) (hdl : defs.length ≤ 4294967296) (hul : uses.length ≤ 4294967296)
abbrev ziU (r : zd) : zd:=.cells 0 3 [zcz f] :: r
include hf hdl
theorem zyW : ∀ (d k : Nat) (a0 a1 a3 a6 a7 a8 a9 p j g i q m n b o h a20 l a22 a23 a24 a25 a26 : V),defs.length - k = d → k ≤ defs.length →
  exec T zbW ⟨[a0,a1,.one (.ptr 0 0 0 0),a3,vUs defs,vI k,a6,a7,a8,a9,p,j,g,i,q,m,n,b,o,h,a20,l,a22,a23,a24,a25,a26],ziU f [],0,0⟩ =
   some (if zfE defs k (defs.drop k) = true then (.exit 0,⟨[vU,vU,.one (.ptr 0 0 0 0),vU,vUs defs,vU,vU,vU,vU,vU,vU,vU,vU,vU,vU,vU,vU,vU,vU,vU,vU,vU,vU,vU,vU,vU,vU],ziU f [],0,0⟩) else (.ret,⟨[vU,vU,vU,vI 7,vU,vU,vU,vU,vU,vU,vU,vU,vU,vU,vU,vU,vU,vU,vU,vU,vU,vU,vU,vU,vU,vU,vU],ziU f [],0,0⟩)):=by
 intro d
 induction d with
 | zero =>
   intro k a0 a1 a3 a6 a7 a8 a9 p j g i q m n b o h a20 l a22 a23 a24 a25 a26 h1 t;have a : k = defs.length:=(by omega);subst a;rw [xl zbW rfl,zek];simp -implicitDefEqProofs only [go_sem,ziU,yg,yc,yf,zfE]
 | succ d ih =>
   intro k a0 a1 a3 a6 a7 a8 a9 p j g i q m n b o h a20 l a22 a23 a24 a25 a26 h1 t;have a : k < defs.length:=(by omega);have hd : defs.drop k = defs[k] :: defs.drop (k + 1):=ye a;have r:=zjN defs[k].v;have s:=zfT defs defs[k].v hdl;have:=ih (k + 1) vU vU vU vU vU vU vU vU vU vU vU vU vU vU vU vU vU vU vU vU vU vU vU vU (by omega) (by omega);rw [xl zbW rfl,zek,hd,zfE];simp -implicitDefEqProofs only [go_sem,ziU] at this;simp -implicitDefEqProofs only [go_sem] at s;cases c : value defs[k].v
   ·simp -implicitDefEqProofs only [go_sem,c] at r
    simp -implicitDefEqProofs only [go_sem,ziU,ilt a,zy a,rU,yc,r,c,yb,yd]
   ·simp -implicitDefEqProofs only [go_sem,c] at r
    by_cases e : zl defs[k].v 0 defs = (k : Int)
    ·simp -implicitDefEqProofs only [go_sem,ziU,ilt a,zy a,rU,yc,r,s,c,eq_true e,yb,yd,za a hdl,this]
    ·simp -implicitDefEqProofs only [go_sem,ziU,ilt a,zy a,rU,yc,r,s,c,e,yb,yd]
include hul
theorem zyR : ∀ (d k : Nat) (a0 a1 a3 a5 a8 a9 o i c h p l m b n g a20 j a22 a23 a24 a25 a26 : V),uses.length - k = d → k ≤ uses.length →
  exec T zb5 ⟨[a0,a1,.one (.ptr 0 0 0 0),a3,vUs defs,a5,vUs uses,vI k,a8,a9,o,i,c,h,p,l,m,b,n,g,a20,j,a22,a23,a24,a25,a26],ziU f [],0,0⟩ =
   some (if (uses.drop k).all (zkO defs) = true then (.exit 2,⟨[vU,vU,.one (.ptr 0 0 0 0),vU,vUs defs,vU,vUs uses,vU,vU,vU,vU,vU,vU,vU,vU,vU,vU,vU,vU,vU,vU,vU,vU,vU,vU,vU,vU],ziU f [],0,0⟩) else (.ret,⟨[vU,vU,vU,vI 7,vU,vU,vU,vU,vU,vU,vU,vU,vU,vU,vU,vU,vU,vU,vU,vU,vU,vU,vU,vU,vU,vU,vU],ziU f [],0,0⟩)):=by
 intro d
 induction d with
 | zero =>
   intro k a0 a1 a3 a5 a8 a9 o i c h p l m b n g a20 j a22 a23 a24 a25 a26 h1 r;have a : k = uses.length:=(by omega);subst a;rw [xl zb5 rfl,zd8];simp -implicitDefEqProofs only [go_sem,ziU,yg,yc,yf,yr]
 | succ d ih =>
   intro k a0 a1 a3 a5 a8 a9 o i c h p l m b n g a20 j a22 a23 a24 a25 a26 h1 r;have a : k < uses.length:=(by omega);have hd : uses.drop k = uses[k] :: uses.drop (k + 1):=ye a;have q:=zfT defs uses[k].v hdl;have:=ih (k + 1) vU vU vU vU vU vU vU vU vU vU vU vU vU vU vU vU vU vU vU vU vU vU vU (by omega) (by omega);rw [xl zb5 rfl,zd8,hd,yn,zkO];simp -implicitDefEqProofs only [go_sem,ziU] at this;simp -implicitDefEqProofs only [go_sem] at q
   by_cases e : zl uses[k].v 0 defs < 0
   ·simp -implicitDefEqProofs only [go_sem,ziU,ilt a,zy a,rU,yc,q,eq_true e,yb,yd]
   ·simp -implicitDefEqProofs only [go_sem,ziU,ilt a,zy a,rU,yc,q,e,yb,yd,za a hul,this]
variable (hall : ∀ u ∈ uses,zkO defs u = true)
omit hf hdl hul in
theorem zFp (u : Use) (h : zkO defs u = true) : 0 ≤ zl u.v 0 defs ∧ zl u.v 0 defs < (defs.length : Int) ∧ (defs.map rU)[(zl u.v 0 defs).toNat]? = some (rU (ziI defs u.v)):=by
 have h0 : 0 ≤ zl u.v 0 defs:=by
  unfold zkO at h;simp at h;exact h
 have h1:=zjU u.v defs 0 h0;have hlt : (zl u.v 0 defs).toNat < defs.length:=by omega
 refine ⟨h0,by omega,?_⟩;rw [zy hlt];unfold ziI;rw [List.getD_eq_getElem?_getD,List.getElem?_eq_getElem hlt];rfl
include hall
theorem zzn : ∀ (d k : Nat) (a0 a1 a3 a5 a7 a9 p j c i q m n b o h a20 l a22 a23 a24 a25 a26 : V),uses.length - k = d → k ≤ uses.length →
  exec T zbT ⟨[a0,a1,.one (.ptr 0 0 0 0),a3,vUs defs,a5,vUs uses,a7,vI k,a9,p,j,c,i,q,m,n,b,o,h,a20,l,a22,a23,a24,a25,a26],ziU f [],0,0⟩ =
   some (if (uses.drop k).all (sameShape defs) = true then (.exit 4,⟨[vU,vU,.one (.ptr 0 0 0 0),vU,vUs defs,vU,vUs uses,vU,vU,vU,vU,vU,vU,vU,vU,vU,vU,vU,vU,vU,vU,vU,vU,vU,vU,vU,vU],ziU f [],0,0⟩) else (.ret,⟨[vU,vU,vU,vI 6,vU,vU,vU,vU,vU,vU,vU,vU,vU,vU,vU,vU,vU,vU,vU,vU,vU,vU,vU,vU,vU,vU,vU],ziU f [],0,0⟩)):=by
 intro d
 induction d with
 | zero =>
   intro k a0 a1 a3 a5 a7 a9 p j c i q m n b o h a20 l a22 a23 a24 a25 a26 h1 t;have a : k = uses.length:=(by omega);subst a;rw [xl zbT rfl,zd6];simp -implicitDefEqProofs only [go_sem,ziU,yg,yc,yf,yr]
 | succ d ih =>
   intro k a0 a1 a3 a5 a7 a9 p j c i q m n b o h a20 l a22 a23 a24 a25 a26 h1 t;have a : k < uses.length:=(by omega);have hd : uses.drop k = uses[k] :: uses.drop (k + 1):=ye a;have s:=zfT defs uses[k].v hdl;obtain ⟨p1,p2,r⟩:=zFp defs uses[k] (hall _ (yh a));have:=ih (k + 1) vU vU vU vU vU vU vU vU vU vU vU vU vU vU vU vU vU vU vU vU vU vU vU (by omega) (by omega);rw [xl zbT rfl,zd6,hd,yn,sameShape];simp -implicitDefEqProofs only [go_sem,ziU] at this;simp -implicitDefEqProofs only [go_sem] at s;obtain ⟨e,he⟩ : ∃ e,e = ziI defs uses[k].v:=⟨_,rfl⟩;rw [← he] at r ⊢;have g : (e.shape = uses[k].shape) = (e.shape.1 = uses[k].shape.1 ∧ e.shape.2 = uses[k].shape.2):=by rw [Prod.ext_iff]
   by_cases s1 : e.shape.1 = uses[k].shape.1
   ·by_cases s2 : e.shape.2 = uses[k].shape.2
    ·simp -implicitDefEqProofs only [go_sem,ziU,ilt a,zy a,rU,yc,s,p1,p2,r,g,eq_true s1,eq_true s2,yb,yd,za a hul,this]
    ·simp -implicitDefEqProofs only [go_sem,ziU,ilt a,zy a,rU,yc,s,p1,p2,r,g,eq_true s1,s2,and_false,yb,yd]
   ·simp -implicitDefEqProofs only [go_sem,ziU,ilt a,zy a,rU,yc,s,p1,p2,r,g,s1,false_and,yb,yd]
theorem zzk (tree : List Int) (w : tree.length ≤ 4294967296) (y x : Fz) : ∀ (d k : Nat),uses.length - k = d → k ≤ uses.length → ∃ r,∀ (a0 a1 a2 a3 a5 a7 a8 a9 b g m i j a l c a20 h a22 a23 a24 a25 a26 : V),
  exec T zR ⟨[a0,a1,a2,a3,vUs defs,a5,vUs uses,a7,a8,a9,vIs tree,vI k,b,g,m,i,j,a,l,c,a20,h,a22,a23,a24,a25,a26],ziU f [.cells 0 2 [[.f y,.f x]]],0,0⟩ =
   some (if (uses.drop k).all (zg1 defs tree) = true then (.exit 6,⟨[vU,vU,vU,vU,vU,vU,vU,vU,vU,vU,vU,vU,vU,vU,vU,vU,vU,vU,vU,vU,vU,vU,vU,vU,vU,vU,vU],ziU f [.cells 0 2 [[.f y,.f x]]],0,0⟩) else (.ret,⟨[vU,vU,vU,vI 7,vU,vU,vU,vU,vU,vU,vU,vU,vU,vU,vU,vU,vU,vU,vU,vU,vU,vU,vU,vU,vU,vU,vU],ziU f (.cells 0 2 [[.f y,.f x]] :: r),0,0⟩)):=by
 intro d
 induction d with
 | zero =>
   intro k h1 z;have n : k = uses.length:=(by omega);subst n;refine ⟨[],fun a0 a1 a2 a3 a5 a7 a8 a9 b g m i j a l c a20 h a22 a23 a24 a25 a26 => ?_⟩;rw [xl zR rfl,zaf];simp -implicitDefEqProofs only [go_sem,ziU,yg,yc,yf,yr]
 | succ d ih =>
   intro k h1 z;have n : k < uses.length:=(by omega);have hd : uses.drop k = uses[k] :: uses.drop (k + 1):=ye n;have p:=zfT defs uses[k].v hdl;obtain ⟨p1,p2,o⟩:=zFp defs uses[k] (hall _ (yh n));obtain ⟨r,s⟩:=ih (k + 1) (by omega) (by omega);simp -implicitDefEqProofs only [go_sem,ziU] at s;simp -implicitDefEqProofs only [go_sem] at p;rw [hd,yn,zg1];obtain ⟨e,he⟩ : ∃ e,e = ziI defs uses[k].v:=⟨_,rfl⟩;obtain ⟨u,hu⟩ : ∃ u,u = uses[k]:=⟨_,rfl⟩;have q:=zy (r:=rU) n;rw [← he] at o ⊢;rw [← hu] at q p p1 p2 o ⊢;have t:=zvf tree w e.block u.block;simp -implicitDefEqProofs only [go_sem] at t
   by_cases c1 : e.block < 0
   ·refine ⟨r,fun a0 a1 a2 a3 a5 a7 a8 a9 b g m i j a l c a20 h a22 a23 a24 a25 a26 => ?_⟩
    rw [xl zR rfl,zaf];simp -implicitDefEqProofs only [go_sem,ziU,ilt n,q,rU,yc,p,p1,p2,o,eq_true c1,yb,yd,za n hul,s]
   ·by_cases c2 : e.block = u.block
    ·by_cases c3 : e.at' < u.at'
     ·refine ⟨r,fun a0 a1 a2 a3 a5 a7 a8 a9 b g m i j a l c a20 h a22 a23 a24 a25 a26 => ?_⟩
      rw [xl zR rfl,zaf];simp -implicitDefEqProofs only [go_sem,ziU,ilt n,q,rU,yc,p,p1,p2,o,c1,eq_true c2,eq_true c3,yb,yd,za n hul,s]
     ·refine ⟨[.cells 0 5 [(rU u).map C.f],.cells 0 5 [(rU e).map C.f]],fun a0 a1 a2 a3 a5 a7 a8 a9 b g m i j a l c a20 h a22 a23 a24 a25 a26 => ?_⟩
      rw [xl zR rfl,zaf];simp -implicitDefEqProofs only [go_sem,ziU,ilt n,q,rU,yc,yj,ys,p,p1,p2,o,c1,eq_true c2,c3,yb,yd]
    ·by_cases c4 : zj2 tree e.block u.block = e.block
     ·refine ⟨r,fun a0 a1 a2 a3 a5 a7 a8 a9 b g m i j a l c a20 h a22 a23 a24 a25 a26 => ?_⟩
      rw [xl zR rfl,zaf];simp -implicitDefEqProofs only [go_sem,ziU,ilt n,q,rU,yc,p,t,p1,p2,o,c1,c2,eq_true c4,yb,yd,za n hul,s]
     ·refine ⟨[.cells 0 5 [(rU u).map C.f],.cells 0 5 [(rU e).map C.f]],fun a0 a1 a2 a3 a5 a7 a8 a9 b g m i j a l c a20 h a22 a23 a24 a25 a26 => ?_⟩
      rw [xl zR rfl,zaf];simp -implicitDefEqProofs only [go_sem,ziU,ilt n,q,rU,yc,yj,ys,p,t,p1,p2,o,c1,c2,c4,yb,yd]
end
theorem zId (n : Nat) : (1 < n + 5) = True:=by (first | (simp; omega) | simp)
theorem zHB (n : Nat) : (3 < n + 5) = True:=by (first | (simp; omega) | simp)
theorem zIc (n : Nat) : (4 < n + 5) = True:=by (first | (simp; omega) | simp)
theorem zHM (n : Nat) : (1 < n + 6) = True:=by (first | (simp; omega) | simp)
theorem zHI (n : Nat) : (3 < n + 6) = True:=by (first | (simp; omega) | simp)
theorem zHf (n : Nat) : (4 < n + 6) = True:=by (first | (simp; omega) | simp)
theorem zHK (n : Nat) : (1 < n + 7) = True:=by (first | (simp; omega) | simp)
theorem zHY (n : Nat) : (3 < n + 7) = True:=by (first | (simp; omega) | simp)
theorem zHy (n : Nat) : (4 < n + 7) = True:=by (first | (simp; omega) | simp)
theorem zHW (n : Nat) : (1 < n + 8) = True:=by (first | (simp; omega) | simp)
theorem zHU (n : Nat) : (3 < n + 8) = True:=by (first | (simp; omega) | simp)
theorem zHD (n : Nat) : (4 < n + 8) = True:=by (first | (simp; omega) | simp)
attribute [go_sem] zId zHB zIc zHM zHI zHf zHK zHY zHy zHW zHU zHD
def getM {α : Type} (k : Int) : List (Int × α) → Option α
 | [] => none
 | e :: es => if e.1 = k then some e.2 else getM k es
def zkc {α : Type} (k : Int) (v : α) : List (Int × α) → List (Int × α)
 | [] => [(k,v)]
 | e :: es => if e.1 = k then (k,v) :: es else e :: zkc k v es
def zf5 {α : Type} (enc : α → V) (D : List (Int × α)) : List (Int × V):=D.map fun e => (e.1,enc e.2)
theorem zna {α : Type} (enc : α → V) (k : Int) : ∀ D : List (Int × α),zhb k (zf5 enc D) = (getM k D).map enc
 | [] => rfl
 | e :: es => by
   have a:=zna enc k es;unfold zf5 at a ⊢;simp only [yj,zhb,getM]
   by_cases h : e.1 = k
   ·rw [if_pos h,if_pos h]; rfl
   ·rw [if_neg h,if_neg h,a]
theorem znA {α : Type} (enc : α → V) (k : Int) (v : α) : ∀ D : List (Int × α),zgq k (enc v) (zf5 enc D) = zf5 enc (zkc k v D)
 | [] => rfl
 | e :: es => by
   have a:=znA enc k v es;unfold zf5 at a ⊢;simp only [yj,zgq,zkc]
   by_cases h : e.1 = k
   ·rw [if_pos h,if_pos h]; rfl
   ·rw [if_neg h,if_neg h,a]; rfl
theorem zrf {α : Type} (enc : α → V) (n : Nat) (h : ∀ a,(enc a).lt n = true) : ∀ D : List (Int × α),C.ltm n (zf5 enc D) = true
 | [] => rfl
 | e :: es => by
   have b:=zrf enc n h es;unfold zf5 at b ⊢;simp only [yj,C.ltm,h,b,Bool.and_self]
structure PDef where
 block : Int
 at' : Int
 shape : Int × Int
abbrev ziR:=List (Int × PDef)
def zgC (d : PDef) : V:=.agg [.f (ei d.block),.f (ei d.at'),.f (ei d.shape.1),.f (ei d.shape.2)]
theorem zI (n : Nat) (D : ziR) : C.ltm n (zf5 zgC D) = true:=zrf zgC n (fun a => by simp [zgC,V.lt,C.lts,C.lt]) D
theorem zlr (k : Int) (D : ziR) : zhb k (zf5 zgC D) = (getM k D).map zgC:=zna zgC k D
theorem zEc (k : Int) (d : PDef) (D : ziR) : zgq k (V.agg [.f (.lit (.int .i64 d.block)),.f (.lit (.int .i64 d.at')),.f (.lit (.int .i64 d.shape.1)),.f (.lit (.int .i64 d.shape.2))]) (zf5 zgC D) = zf5 zgC (zkc k d D):=znA zgC k d D
abbrev P1 : Ob:=.cells 0 1 [[.ptr 1 0 0 0]]
abbrev stD (f : PFunc) (level : Int) (x y z : C) (D : ziR) (r : zd) : zd:=O0 f :: zzX f level x y z (.map 4) :: O2 :: P1 :: .mp (zf5 zgC D) :: r
section
variable (f : PFunc) (level : Int) (succ pred : List (List Int)) (tree : List Int) (D : ziR) (r : zd) (hr : Obs.lt (r.length + 5) r = true)
abbrev xS (l : List (List Int)) : C:=.f (.sl (l.map rl))
abbrev zS (l : List Int) : C:=.f (eI l)
include hr
theorem zsP (v : Int) (d : PDef) : call T 204 [.one (.ptr 1 0 0 0),vI v,zgC d] (stD f level (xS succ) (xS pred) (zS tree) D r) = some (vB (getM v D).isNone,stD f level (xS succ) (xS pred) (zS tree) (zkc v d D) r):=by
 rw [ze (fn:=zdL) rfl];have a:=zEc v d D
 cases e : getM v D with
 | none => simp -implicitDefEqProofs only [go_sem,zdL,stD,zgC,zlr,e,a,hr,zI,ya,yp]
 | some d0 => simp -implicitDefEqProofs only [go_sem,zdL,stD,zgC,zlr,e,a,hr,zI,ya,yq]
theorem zrw (u : Use) : call T 208 [vI u.v,.agg [.f (ei u.shape.1),.f (ei u.shape.2)],vI u.block,vI u.at',.one (.ptr 3 0 0 0)] (stD f level (xS succ) (xS pred) (zS tree) D r) =
  some (vI (if (getM u.v D).isNone then 7 else 0),stD f level (xS succ) (xS pred) (zS tree) D r):=by
 rw [ze (fn:=za0) rfl]
 cases e : getM u.v D with
 | none => simp -implicitDefEqProofs only [go_sem,za0,stD,zgC,zlr,e,hr,zI,ya,yp]
 | some d0 => simp -implicitDefEqProofs only [go_sem,za0,stD,zgC,zlr,e,hr,zI,ya,yq]
end
def zmo (D : ziR) (v : Int) : PDef:=(getM v D).getD ⟨0,0,(0,0)⟩
def zmc (D : ziR) (u : Use) : Int:=if (getM u.v D).isNone = true then 7 else 0
def zcQ (D : ziR) (u : Use) : Int:=if (zmo D u.v).shape = u.shape then 0 else 6
def zbd (D : ziR) (tree : List Int) (u : Use) : Int :=
 let d:=zmo D u.v
 if d.block < 0 then 0 else if (d.block = u.block ∧ d.at' < u.at') ∨ (d.block ≠ u.block ∧ zlU tree d.block u.block = true) then 0 else 7
section
variable (f : PFunc) (level : Int) (succ pred : List (List Int)) (tree : List Int) (D : ziR) (r : zd) (hr : Obs.lt (r.length + 6) r = true)
include hr
theorem ztr (u : Use) : call T 209 [vI u.v,.agg [.f (ei u.shape.1),.f (ei u.shape.2)],vI u.block,vI u.at',.one (.ptr 5 0 0 0)] (stD f level (xS succ) (xS pred) (zS tree) D (P1 :: r)) =
  some (vI (zcQ D u),stD f level (xS succ) (xS pred) (zS tree) D (P1 :: r)):=by
 rw [ze (fn:=zD) rfl];have g : ∀ a b : Int × Int,(a = b) = (a.1 = b.1 ∧ a.2 = b.2):=fun a b => by rw [Prod.ext_iff]
 have key : ∀ d : PDef,zmo D u.v = d → zhb u.v (zf5 zgC D) = some (zgC d) ∨ (zhb u.v (zf5 zgC D) = none ∧ d = ⟨0,0,(0,0)⟩):=fun d hd => by
  rw [zlr];unfold zmo at hd
  cases e : getM u.v D with
  | none => rw [e] at hd; exact .inr ⟨rfl,hd.symm⟩
  | some d0 => rw [e] at hd; simp at hd; subst hd; exact .inl rfl
 by_cases c1 : (zmo D u.v).shape.1 = u.shape.1
 ·by_cases c2 : (zmo D u.v).shape.2 = u.shape.2
  ·rcases key _ rfl with h | ⟨h,c⟩
   ·simp -implicitDefEqProofs only [go_sem,zD,stD,zgC,h,hr,zI,ya,zcQ,g,eq_true c1,eq_true c2]
   ·rw [c] at c1 c2
    simp -implicitDefEqProofs only [go_sem,zD,stD,zgC,h,hr,zI,ya,zcQ,g,c,eq_true c1,eq_true c2]
  ·rcases key _ rfl with h | ⟨h,c⟩
   ·simp -implicitDefEqProofs only [go_sem,zD,stD,zgC,h,hr,zI,ya,zcQ,g,eq_true c1,c2,and_false]
   ·rw [c] at c1 c2
    simp -implicitDefEqProofs only [go_sem,zD,stD,zgC,h,hr,zI,ya,zcQ,g,c,eq_true c1,c2,and_false]
 ·rcases key _ rfl with h | ⟨h,c⟩
  ·simp -implicitDefEqProofs only [go_sem,zD,stD,zgC,h,hr,zI,ya,zcQ,g,c1,false_and]
  ·rw [c] at c1
   simp -implicitDefEqProofs only [go_sem,zD,stD,zgC,h,hr,zI,ya,zcQ,g,c,c1,false_and]
theorem ztP (b : tree.length ≤ 4294967296) (u : Use) : call T 210 [vI u.v,.agg [.f (ei u.shape.1),.f (ei u.shape.2)],vI u.block,vI u.at',.one (.ptr 5 0 0 0)] (stD f level (xS succ) (xS pred) (zS tree) D (P1 :: r)) =
  some (vI (zbd D tree u),stD f level (xS succ) (xS pred) (zS tree) D (P1 :: r)):=by
 rw [ze (fn:=zk) rfl]
 have key : ∀ d : PDef,zmo D u.v = d → zhb u.v (zf5 zgC D) = some (zgC d) ∨ (zhb u.v (zf5 zgC D) = none ∧ d = ⟨0,0,(0,0)⟩):=fun d hd => by
  rw [zlr];unfold zmo at hd
  cases e : getM u.v D with
  | none => rw [e] at hd; exact .inr ⟨rfl,hd.symm⟩
  | some d0 => rw [e] at hd; simp at hd; subst hd; exact .inl rfl
 rcases key _ rfl with h | ⟨h,c⟩
 ·have a:=zpK tree (zmo D u.v).block u.block b
  simp -implicitDefEqProofs only [go_sem] at a
  by_cases c1 : (zmo D u.v).block < 0
  ·simp -implicitDefEqProofs only [go_sem,zk,stD,zgC,h,hr,zI,ya,zbd,c1]
  by_cases c2 : (zmo D u.v).block = u.block
  ·by_cases c3 : (zmo D u.v).at' < u.at'
   ·simp -implicitDefEqProofs only [go_sem,zk,stD,zgC,h,hr,zI,ya,zbd,c1,eq_true c2,c3,true_and,true_or]
   ·simp -implicitDefEqProofs only [go_sem,zk,stD,zgC,h,hr,zI,ya,zbd,c1,eq_true c2,c3,and_false,false_and,or_self,ne_eq]
  ·cases c4 : zlU tree (zmo D u.v).block u.block
   ·rw [c4] at a
    simp -implicitDefEqProofs only [go_sem,zk,stD,zgC,h,hr,zI,ya,zbd,c1,c2,a,c4,and_false,false_and,or_self,ne_eq]
   ·rw [c4] at a
    simp -implicitDefEqProofs only [go_sem,zk,stD,zgC,h,hr,zI,ya,zbd,c1,c2,a,c4,and_self,false_and,false_or,ne_eq]
 ·have a:=zpK tree (0 : Int) u.block b
  simp -implicitDefEqProofs only [go_sem] at a
  by_cases c1 : (0 : Int) < 0
  ·simp -implicitDefEqProofs only [go_sem,zk,stD,zgC,h,hr,zI,ya,zbd,c,c1]
  by_cases c2 : (0 : Int) = u.block
  ·by_cases c3 : (0 : Int) < u.at'
   ·simp -implicitDefEqProofs only [go_sem,zk,stD,zgC,h,hr,zI,ya,zbd,c,c1,eq_true c2,c3,true_and,true_or]
   ·simp -implicitDefEqProofs only [go_sem,zk,stD,zgC,h,hr,zI,ya,zbd,c,c1,eq_true c2,c3,and_false,false_and,or_self,ne_eq]
  ·cases c4 : zlU tree (0 : Int) u.block
   ·rw [c4] at a
    simp -implicitDefEqProofs only [go_sem,zk,stD,zgC,h,hr,zI,ya,zbd,c,c1,c2,a,c4,and_false,false_and,or_self,ne_eq]
   ·rw [c4] at a
    simp -implicitDefEqProofs only [go_sem,zk,stD,zgC,h,hr,zI,ya,zbd,c,c1,c2,a,c4,and_self,false_and,false_or,ne_eq]
end
def zdN : Nat → ziR → List Int → ziR
 | _,D,[] => D
 | i,D,b :: r => zdN (i + 1) (zkc ((i : Int) + 1) ⟨-1,0,(b,1)⟩ D) r
def zgu (i : Int) : ziR → List PPhi → ziR × Option PPhi
 | D,[] => (D,none)
 | D,p :: r => if p.dst < 1 ∨ 1023 < p.dst then (D,some p) else if (getM p.dst D).isNone = true then zgu i (zkc p.dst ⟨i,-1,(p.bits,1)⟩ D) r else (zkc p.dst ⟨i,-1,(p.bits,1)⟩ D,some p)
def zir (i : Int) : Nat → ziR → List POp → ziR × Option POp
 | _,D,[] => (D,none)
 | k,D,o :: r => if (zad o).1 ≤ 0 then zir i (k + 1) D r else if (getM o.dst D).isNone = true then zir i (k + 1) (zkc o.dst ⟨i,k,zad o⟩ D) r else (zkc o.dst ⟨i,k,zad o⟩ D,some o)
def zdj : Nat → ziR → List PBlock → ziR × Option (List Ob)
 | _,D,[] => (D,none)
 | i,D,b :: r => match zgu i D b.phis with
   | (D1,some p) => (D1,some [.cells 0 5 [zw b],.cells 0 4 [zw6 p]])
   | (D1,none) => match zir i 0 D1 b.ops with
     | (D2,some o) => (D2,some [.cells 0 5 [zw b],.cells 0 6 [cOp o]])
     | (D2,none) => zdj (i + 1) D2 r
section
variable (f : PFunc) (hf : okF f) (level : Int) (succ pred : List (List Int)) (tree : List Int)
abbrev sD (f : PFunc) (level : Int) (succ pred : List (List Int)) (tree : List Int) (D : ziR) (r : zd) : zd:=stD f level (xS succ) (xS pred) (zS tree) D r
include hf
theorem zzf : ∀ (d k : Nat) (D : ziR) (a0 a2 a3 a4 a5 a6 a7 a8 a9 j c g h a i b a20 e a22 a23 a24 a25 a26 a27 a28 a29 : V),f.params.length - k = d → k ≤ f.params.length →
  exec T zbf ⟨[a0,.one (.ptr 3 0 0 0),a2,a3,a4,a5,a6,a7,a8,a9,j,c,vIs f.params,vI f.params.length,vI k,g,h,a,i,b,a20,e,a22,a23,a24,a25,a26,a27,a28,a29],sD f level succ pred tree D [],3,5⟩ =
   some (.exit 0,⟨[vU,.one (.ptr 3 0 0 0),vU,vU,vU,vU,vU,vU,vU,vU,vU,vU,vU,vU,vU,vU,vU,vU,vU,vU,vU,vU,vU,vU,vU,vU,vU,vU,vU,vU],sD f level succ pred tree (zdN k D (f.params.drop k)) [],3,5⟩):=by
 intro d
 induction d with
 | zero =>
   intro k D a0 a2 a3 a4 a5 a6 a7 a8 a9 j c g h a i b a20 e a22 a23 a24 a25 a26 a27 a28 a29 p q;have l : k = f.params.length:=(by omega);subst l;rw [xl zbf rfl,zdm];simp -implicitDefEqProofs only [go_sem,stD,yg,yf,zdN]
 | succ d ih =>
   intro k D a0 a2 a3 a4 a5 a6 a7 a8 a9 j c g h a i b a20 e a22 a23 a24 a25 a26 a27 a28 a29 p q;have l : k < f.params.length:=(by omega);have hd : f.params.drop k = f.params[k] :: f.params.drop (k + 1):=ye l;have m:=zju f.params[k];have n:=zsP f level succ pred tree D [] rfl ((k : Int) + 1) ⟨-1,0,(f.params[k],1)⟩;have hw:=za l hf.params;have o : ((k + 1 : Nat) : Int) = (k : Int) + 1:=(by omega);have:=ih (k + 1) (zkc ((k : Int) + 1) ⟨-1,0,(f.params[k],1)⟩ D) vU vU vU vU vU vU vU vU vU vU vU vU vU vU vU vU vU vU vU vU vU vU vU vU vU vU (by omega) (by omega);rw [xl zbf rfl,zdm,hd,zdN];rw [o] at hw this;simp -implicitDefEqProofs only [go_sem,stD,zgC] at n m this;simp -implicitDefEqProofs only [go_sem,stD,ilt l,zy l,ri,m,n,hw,this]
theorem zzD (b : PBlock) (q : okB b) (i : Int) : ∀ (d k : Nat) (D : ziR) (a0 a2 a3 a4 a7 a8 a9 m h c g n l e a23 a24 a25 a26 a27 a28 a29 : V),b.phis.length - k = d → k ≤ b.phis.length →
  exec T zbl ⟨[a0,.one (.ptr 3 0 0 0),a2,a3,a4,vI i,.one (.ptr 5 0 0 0),a7,a8,a9,m,h,c,g,n,l,vL (f.blocks.map rb),vI f.blocks.length,vI i,e,vL (b.phis.map rp),vI b.phis.length,vI k,a23,a24,a25,a26,a27,a28,a29],sD f level succ pred tree D [.cells 0 5 [zw b]],3,5⟩ =
   some (match zgu i D (b.phis.drop k) with
    | (D1,none) => (.exit 4,⟨[vU,.one (.ptr 3 0 0 0),vU,vU,vU,vI i,.one (.ptr 5 0 0 0),vU,vU,vU,vU,vU,vU,vU,vU,vU,vL (f.blocks.map rb),vI f.blocks.length,vI i,vU,vU,vU,vU,vU,vU,vU,vU,vU,vU,vU],sD f level succ pred tree D1 [.cells 0 5 [zw b]],3,5⟩)
    | (D1,some p) => (.ret,⟨[vU,vU,vI 7,vU,vU,vU,vU,vU,vU,vU,vU,vU,vU,vU,vU,vU,vU,vU,vU,vU,vU,vU,vU,vU,vU,vU,vU,vU,vU,vU],sD f level succ pred tree D1 [.cells 0 5 [zw b],.cells 0 4 [zw6 p]],3,5⟩)):=by
 intro d
 induction d with
 | zero =>
   intro k D a0 a2 a3 a4 a7 a8 a9 m h c g n l e a23 a24 a25 a26 a27 a28 a29 r s;have a : k = b.phis.length:=(by omega);subst a;rw [xl zbl rfl,zdu];simp -implicitDefEqProofs only [go_sem,stD,yg,yf,zgu]
 | succ d ih =>
   intro k D a0 a2 a3 a4 a7 a8 a9 m h c g n l e a23 a24 a25 a26 a27 a28 a29 r s;have a : k < b.phis.length:=(by omega);have hd : b.phis.drop k = b.phis[k] :: b.phis.drop (k + 1):=ye a;have j:=zju b.phis[k].bits;have o:=zsP f level succ pred tree D [.cells 0 5 [zw b],.cells 0 4 [zw6 b.phis[k]]] (by simp -implicitDefEqProofs only [go_sem]) b.phis[k].dst ⟨i,-1,(b.phis[k].bits,1)⟩;rw [xl zbl rfl,zdu,hd,zgu];simp -implicitDefEqProofs only [go_sem,stD,zgC] at o j
   by_cases c1 : b.phis[k].dst < 1
   ·simp -implicitDefEqProofs only [go_sem,stD,ilt a,zy a,rp,c1]
   by_cases c2 : 1023 < b.phis[k].dst
   ·simp -implicitDefEqProofs only [go_sem,stD,ilt a,zy a,rp,c1,c2]
   cases c3 : (getM b.phis[k].dst D).isNone
   ·rw [c3] at o
    simp -implicitDefEqProofs only [go_sem,stD,ilt a,zy a,rp,c1,c2,j,o]
   ·have:=ih (k + 1) (zkc b.phis[k].dst ⟨i,-1,(b.phis[k].bits,1)⟩ D) vU vU vU vU vU vU vU vU vU vU vU vU vU vU vU vU vU vU vU vU vU (by omega) (by omega)
    rw [c3] at o;simp -implicitDefEqProofs only [go_sem,stD] at this;simp -implicitDefEqProofs only [go_sem,stD,ilt a,zy a,rp,c1,c2,j,o,zI,za a q.phis,this]
theorem zyT (b : PBlock) (s : okB b) (i : Int) : ∀ (d k : Nat) (D : ziR) (a0 a2 a3 a4 a6 a7 a8 a9 p l g j q n h a20 m a22 a23 a24 a28 a29 : V),b.ops.length - k = d → k ≤ b.ops.length →
  exec T zbh ⟨[a0,.one (.ptr 3 0 0 0),a2,a3,a4,vI i,a6,a7,a8,a9,p,l,g,j,q,n,vL (f.blocks.map rb),vI f.blocks.length,vI i,h,a20,m,a22,a23,a24,vL (b.ops.map ro),vI b.ops.length,vI k,a28,a29],sD f level succ pred tree D [.cells 0 5 [zw b]],3,5⟩ =
   some (match zir i k D (b.ops.drop k) with
    | (D1,none) => (.exit 6,⟨[vU,.one (.ptr 3 0 0 0),vU,vU,vU,vU,vU,vU,vU,vU,vU,vU,vU,vU,vU,vU,vL (f.blocks.map rb),vI f.blocks.length,vI i,vU,vU,vU,vU,vU,vU,vU,vU,vU,vU,vU],sD f level succ pred tree D1 [.cells 0 5 [zw b]],3,5⟩)
    | (D1,some o) => (.ret,⟨[vU,vU,vI 7,vU,vU,vU,vU,vU,vU,vU,vU,vU,vU,vU,vU,vU,vU,vU,vU,vU,vU,vU,vU,vU,vU,vU,vU,vU,vU,vU],sD f level succ pred tree D1 [.cells 0 5 [zw b],.cells 0 6 [cOp o]],3,5⟩)):=by
 intro d
 induction d with
 | zero =>
   intro k D a0 a2 a3 a4 a6 a7 a8 a9 p l g j q n h a20 m a22 a23 a24 a28 a29 u v;have a : k = b.ops.length:=(by omega);subst a;rw [xl zbh rfl,zdt];simp -implicitDefEqProofs only [go_sem,stD,yg,yf,zir]
 | succ d ih =>
   intro k D a0 a2 a3 a4 a6 a7 a8 a9 p l g j q n h a20 m a22 a23 a24 a28 a29 u v;have a : k < b.ops.length:=(by omega);have hd : b.ops.drop k = b.ops[k] :: b.ops.drop (k + 1):=ye a;have t:=s.op _ (yh a);have c:=zqq b.ops[k] t.1 t.2;have r:=zsP f level succ pred tree D [.cells 0 5 [zw b],.cells 0 6 [cOp b.ops[k]]] (by simp -implicitDefEqProofs only [go_sem]) b.ops[k].dst ⟨i,k,zad b.ops[k]⟩;rw [xl zbh rfl,zdt,hd,zir];simp -implicitDefEqProofs only [go_sem,stD,zgC] at r c
   by_cases c1 : (zad b.ops[k]).1 ≤ 0
   ·have e : ¬ 0 < (zad b.ops[k]).1:=by omega
    have:=ih (k + 1) D vU vU vU vU vU vU vU vU vU vU vU vU vU vU vU vU vU vU vU vU vU vU (by omega) (by omega);simp -implicitDefEqProofs only [go_sem,stD] at this;simp -implicitDefEqProofs only [go_sem,stD,ilt a,zy a,ro,c,c1,e,zI,za a s.ops,this]
   have e : 0 < (zad b.ops[k]).1:=(by omega);cases c3 : (getM b.ops[k].dst D).isNone
   ·rw [c3] at r
    simp -implicitDefEqProofs only [go_sem,stD,ilt a,zy a,ro,c,c1,e,r]
   ·have:=ih (k + 1) (zkc b.ops[k].dst ⟨i,k,zad b.ops[k]⟩ D) vU vU vU vU vU vU vU vU vU vU vU vU vU vU vU vU vU vU vU vU vU vU (by omega) (by omega)
    rw [c3] at r;simp -implicitDefEqProofs only [go_sem,stD] at this;simp -implicitDefEqProofs only [go_sem,stD,ilt a,zy a,ro,c,c1,e,r,zI,za a s.ops,this]
theorem zze : ∀ (d k : Nat) (D : ziR) (a0 a2 a3 a4 a5 a6 a7 a8 a9 h e a c i g b a20 l a22 a23 a24 a25 a26 a27 a28 a29 : V),f.blocks.length - k = d → k ≤ f.blocks.length →
  exec T zbm ⟨[a0,.one (.ptr 3 0 0 0),a2,a3,a4,a5,a6,a7,a8,a9,h,e,a,c,i,g,vL (f.blocks.map rb),vI f.blocks.length,vI k,b,a20,l,a22,a23,a24,a25,a26,a27,a28,a29],sD f level succ pred tree D [],3,5⟩ =
   some (match zdj k D (f.blocks.drop k) with
    | (D1,none) => (.exit 2,⟨[vU,.one (.ptr 3 0 0 0),vU,vU,vU,vU,vU,vU,vU,vU,vU,vU,vU,vU,vU,vU,vU,vU,vU,vU,vU,vU,vU,vU,vU,vU,vU,vU,vU,vU],sD f level succ pred tree D1 [],3,5⟩)
    | (D1,some G) => (.ret,⟨[vU,vU,vI 7,vU,vU,vU,vU,vU,vU,vU,vU,vU,vU,vU,vU,vU,vU,vU,vU,vU,vU,vU,vU,vU,vU,vU,vU,vU,vU,vU],sD f level succ pred tree D1 G,3,5⟩)):=by
 intro d
 induction d with
 | zero =>
   intro k D a0 a2 a3 a4 a5 a6 a7 a8 a9 h e a c i g b a20 l a22 a23 a24 a25 a26 a27 a28 a29 s t;have j : k = f.blocks.length:=(by omega);subst j;rw [xl zbm rfl,zdn];simp -implicitDefEqProofs only [go_sem,stD,yg,yf,zdj]
 | succ d ih =>
   intro k D a0 a2 a3 a4 a5 a6 a7 a8 a9 h e a c i g b a20 l a22 a23 a24 a25 a26 a27 a28 a29 s t;have j : k < f.blocks.length:=(by omega);have hd : f.blocks.drop k = f.blocks[k] :: f.blocks.drop (k + 1):=ye j;have q:=hf.block _ (yh j);have m:=fun a0 a2 a3 a4 a7 a8 a9 h e a c i g b a23 a24 a25 a26 a27 a28 a29 => zzD f hf level succ pred tree f.blocks[k] q k f.blocks[k].phis.length 0 D a0 a2 a3 a4 a7 a8 a9 h e a c i g b a23 a24 a25 a26 a27 a28 a29 (by omega) (by omega);simp only [ym,yk] at m;rw [xl zbm rfl,zdn,hd,zdj];rcases e1 : zgu k D f.blocks[k].phis with ⟨D1,_ | p⟩
   ·have n:=fun a0 a2 a3 a4 a6 a7 a8 a9 h e a c i g b a20 l a22 a23 a24 a28 a29 => zyT f hf level succ pred tree f.blocks[k] q k f.blocks[k].ops.length 0 D1 a0 a2 a3 a4 a6 a7 a8 a9 h e a c i g b a20 l a22 a23 a24 a28 a29 (by omega) (by omega)
    simp only [ym,yk] at n;rcases e2 : zir k 0 D1 f.blocks[k].ops with ⟨r,_ | o⟩
    ·have:=ih (k + 1) r vU vU vU vU vU vU vU vU vU vU vU vU vU vU vU vU vU vU vU vU vU vU vU vU vU vU (by omega) (by omega)
     simp -implicitDefEqProofs only [go_sem,stD,e1,e2] at m n this;simp -implicitDefEqProofs only [go_sem,stD,ilt j,zy j,rb,m,n,e2,zI,za j hf.blocks,this]
    ·simp -implicitDefEqProofs only [go_sem,stD,e1,e2] at m n
     simp -implicitDefEqProofs only [go_sem,stD,ilt j,zy j,rb,m,n,e2]
   ·simp -implicitDefEqProofs only [go_sem,stD,e1] at m
    simp -implicitDefEqProofs only [go_sem,stD,ilt j,zy j,rb,m]
end
attribute [go_sem] zzX O0 O2 P1 xS zS sD stD cM
def zmt (f : PFunc) : ziR × Option (List Ob):=zdj 0 (zdN 0 [] f.params) f.blocks
theorem zos (o : POp) : (zaC o).length ≤ o.args.length:=by
 unfold zaC;split
 ·rename_i h
  simp only [zgh,yi,decide_eq_true_eq] at h;omega
 ·simp
theorem znz (pred : List (List Int)) (tree : List Int) : ∀ (l : List PBlock) (i : Nat),zeH pred tree i l = true → ∀ k (a : k < l.length),zsy pred tree (i + k) l[k] = true
 | [],_,_,k,a => by simp at a
 | b :: r,i,h,k,a => by
   simp only [zeH,yi] at h
   cases k with
   | zero => exact h.1
   | succ k =>
     have:=znz pred tree r (i + 1) h.2 k (by simpa using a);simpa [Nat.add_assoc,yl 1 k] using this
theorem zBR {f : PFunc} {pred : List (List Int)} {tree : List Int} (h : zeH pred tree 0 f.blocks = true) : ∀ b ∈ f.blocks,zkI b:=fun b a => by
 obtain ⟨k,c,rfl⟩:=List.getElem_of_mem a;have:=znz pred tree f.blocks 0 h k c;simp only [zsy,yi,List.all_eq_true] at this;refine ⟨fun p d => ?_,fun o _ => zos o⟩;have:=this.2.1 p d;simp only [ziz,yi,decide_eq_true_eq] at this;exact this.2
theorem zHQ (f : PFunc) (level : Int) (succ pred : List (List Int)) (tree : List Int) (D : ziR) : Ok (sD f level succ pred tree D []):=by
 unfold Ok;simp -implicitDefEqProofs only [go_sem,stD,zI]
theorem zA9 (f : PFunc) (level : Int) (succ pred : List (List Int)) (tree : List Int) (D : ziR) : Ok (sD f level succ pred tree D [P1]):=by
 unfold Ok;simp -implicitDefEqProofs only [go_sem,stD,zI]
section
variable (f : PFunc) (hf : okF f) (level : Int) (succ pred : List (List Int)) (tree : List Int) (hab : ∀ b ∈ f.blocks,zkI b)
include hf hab
theorem zu0 : call T 161 [.one (.ptr 1 0 0 0)] [O0 f,zzX f level (xS succ) (xS pred) (zS tree) (.f (.lit (.map none))),O2] =
  some (vI (match zmt f with | (D,none) => zah (zmc D) (zfj f) | (_,some _) => 7),sD f level succ pred tree (zmt f).1 []):=by
 rw [ze (fn:=zbF) rfl];have h:=fun a0 a2 a3 a4 a5 a6 a7 a8 a9 g b d m j n a a20 c a22 a23 a24 a25 a26 a27 a28 a29 => zzf f hf level succ pred tree f.params.length 0 [] a0 a2 a3 a4 a5 a6 a7 a8 a9 g b d m j n a a20 c a22 a23 a24 a25 a26 a27 a28 a29 (by omega) (by omega);have i:=fun a0 a2 a3 a4 a5 a6 a7 a8 a9 g b k l o d a a20 c a22 a23 a24 a25 a26 a27 a28 a29 => zze f hf level succ pred tree f.blocks.length 0 (zdN 0 [] f.params) a0 a2 a3 a4 a5 a6 a7 a8 a9 g b k l o d a a20 c a22 a23 a24 a25 a26 a27 a28 a29 (by omega) (by omega);have en : zf5 zgC [] = []:=rfl;simp only [ym,yk] at h i;have ed : zmt f = zdj 0 (zdN 0 [] f.params) f.blocks:=rfl;rw [ed];rcases e : zdj 0 (zdN 0 [] f.params) f.blocks with ⟨D,_ | G⟩
 ·have hu:=zqc f level (xS succ) (xS pred) (zS tree) (.map 4) 208 [.ptr 3 0 0 0] (sD f level succ pred tree D []) rfl (zHQ _ _ _ _ _ _) rfl (zmc D)
   (fun r u p => zrw f level succ pred tree D r (by simpa [yl] using p) u) hf hab
  simp -implicitDefEqProofs only [go_sem,stD,e,en] at h i hu;simp -implicitDefEqProofs only [go_sem,zbF,h,i,hu,zI,e]
 ·simp -implicitDefEqProofs only [go_sem,stD,e,en] at h i
  simp -implicitDefEqProofs only [go_sem,zbF,h,i,zI,e,ya]
  by_cases q : G.length ≤ 0
  ·have : G = []:=List.eq_nil_of_length_eq_zero (by omega)
   subst this;rfl
  ·rw [if_neg q]
   rfl
theorem zv1 (D : ziR) : call T 162 [.one (.ptr 1 0 0 0)] (sD f level succ pred tree D []) = some (vI (zah (zcQ D) (zfj f)),sD f level succ pred tree D []):=by
 rw [ze (fn:=zee) rfl]
 have hu:=zqc f level (xS succ) (xS pred) (zS tree) (.map 4) 209 [.ptr 5 0 0 0] (sD f level succ pred tree D [P1]) rfl (zA9 _ _ _ _ _ _) rfl (zcQ D)
  (fun r u a => ztr f level succ pred tree D r (by simpa [yl] using a) u) hf hab
 simp -implicitDefEqProofs only [go_sem,stD] at hu;simp -implicitDefEqProofs only [go_sem,zee,stD,hu,zI]
theorem zwS (a : tree.length ≤ 4294967296) (D : ziR) : call T 163 [.one (.ptr 1 0 0 0)] (sD f level succ pred tree D []) = some (vI (zah (zbd D tree) (zfj f)),sD f level succ pred tree D []):=by
 rw [ze (fn:=zej) rfl]
 have hu:=zqc f level (xS succ) (xS pred) (zS tree) (.map 4) 210 [.ptr 5 0 0 0] (sD f level succ pred tree D [P1]) rfl (zA9 _ _ _ _ _ _) rfl (zbd D tree)
  (fun r u b => ztP f level succ pred tree D r (by simpa [yl] using b) a u) hf hab
 simp -implicitDefEqProofs only [go_sem,stD] at hu;simp -implicitDefEqProofs only [go_sem,zej,stD,hu,zI]
end
def zh4 (f : PFunc) (level : Int) (tree : List Int) : Int :=
 if zmU f = false then 4 else if zh0 f tree = false then 5 else if zfY f level = false then 6 else
 match zmt f with
 | (_,some _) => 7
 | (D,none) => if zah (zmc D) (zfj f) ≠ 0 then zah (zmc D) (zfj f) else if zah (zcQ D) (zfj f) ≠ 0 then zah (zcQ D) (zfj f) else zah (zbd D tree) (zfj f)
def zm6 (f : PFunc) (tree : List Int) : Prop:=tree.length ≤ 4294967296 ∧ (zaM f = true → call T 195 [.agg [.f (.sl ((zo f).map rl)),.f (.sl ((zZ (zo f)).map rl))],vI 0] [] = some (vIs tree,[]))
theorem n5 : ((5 : Nat) : Int) = 5:=rfl
theorem wr1 : Go.IntKind.i64.wrap 1 = 1:=by decide
theorem wr2 : Go.IntKind.i64.wrap 2 = 2:=by decide
theorem wr3 : Go.IntKind.i64.wrap 3 = 3:=by decide
theorem wr4 : Go.IntKind.i64.wrap 4 = 4:=by decide
theorem wr5 : Go.IntKind.i64.wrap 5 = 5:=by decide
attribute [go_sem] n5 wr1 wr2 wr3 wr4 wr5
set_option maxRecDepth 10000 in
theorem zvi (f : PFunc) (hf : okF f) (level : Int) (tree : List Int) (g : zm6 f tree) : ∃ σ',call T 110 [zfg f,vI level] [] = some (.tup [.one (.ptr 1 0 0 0),vI (zh4 f level tree)],σ') ∧ (zh4 f level tree = 0 → σ' = sD f level (zo f) (zZ (zo f)) tree (zmt f).1 []):=by
 rw [ze (fn:=zav) rfl];have hm:=zsU f hf;cases e0 : zmU f
 ·rw [e0] at hm
  simp -implicitDefEqProofs only [go_sem] at hm;simp -implicitDefEqProofs only [go_sem,zav,hm,zh4,e0];exact ⟨_,rfl,fun h => by first | exact h.elim | simp at h⟩
 rw [e0] at hm;cases e1 : zaM f
 ·have a:=zrt f hf level e1
  have e2 : zh0 f tree = false:=by simp [zh0,e1]
  simp -implicitDefEqProofs only [go_sem] at hm a;simp -implicitDefEqProofs only [go_sem,zav,hm,zh4,e0,e2,xl zbB rfl,zbz,a];exact ⟨_,rfl,fun h => by first | exact h.elim | simp at h⟩
 have a:=ztI f hf level e1 tree g.1 (g.2 e1);cases e2 : zeH (zZ (zo f)) tree 0 f.blocks
 ·have b : zh0 f tree = false:=by simp [zh0,e2]
  rw [e2] at a;simp -implicitDefEqProofs only [go_sem] at hm a;simp -implicitDefEqProofs only [go_sem,zav,hm,zh4,e0,b,xl zbB rfl,zbz,a];exact ⟨_,rfl,fun h => by first | exact h.elim | simp at h⟩
 have b : zh0 f tree = true:=by simp [zh0,e1,e2]
 have hab:=zBR e2;have c:=zzh f level (xS (zo f)) (xS (zZ (zo f))) (zS tree) (.f (.lit (.map none))) [O0 f,zzX f level (xS (zo f)) (xS (zZ (zo f))) (zS tree) (.f (.lit (.map none))),O2] rfl (by unfold Ok; simp -implicitDefEqProofs only [go_sem]) hf;rw [e2] at a;cases e3 : zfY f level
 ·rw [e3] at c
  simp -implicitDefEqProofs only [go_sem] at hm a c;simp -implicitDefEqProofs only [go_sem,zav,hm,zh4,e0,b,e3,xl zbB rfl,zbz,a,c];exact ⟨_,rfl,fun h => by first | exact h.elim | simp at h⟩
 rw [e3] at c;have hd:=zu0 f hf level (zo f) (zZ (zo f)) tree hab;rcases e4 : zmt f with ⟨D,_ | G⟩
 ·rw [e4] at hd
  by_cases e5 : zah (zmc D) (zfj f) = 0
  ·have d:=zv1 f hf level (zo f) (zZ (zo f)) tree hab D
   by_cases e6 : zah (zcQ D) (zfj f) = 0
   ·have e:=zwS f hf level (zo f) (zZ (zo f)) tree hab g.1 D
    by_cases e7 : zah (zbd D tree) (zfj f) = 0
    ·simp -implicitDefEqProofs only [go_sem,e5,e6,e7] at hm a c hd d e
     simp -implicitDefEqProofs only [go_sem,zav,hm,zh4,e0,b,e3,e4,e5,e6,e7,xl zbB rfl,zbz,a,c,hd,d,e,zI,ne_eq];exact ⟨_,rfl,fun _ => rfl⟩
    ·simp -implicitDefEqProofs only [go_sem,e5,e6] at hm a c hd d e
     simp -implicitDefEqProofs only [go_sem,zav,hm,zh4,e0,b,e3,e4,e5,e6,e7,xl zbB rfl,zbz,a,c,hd,d,e,zI,ne_eq];exact ⟨_,rfl,fun h => by first | exact absurd h e7 | exact h.elim⟩
   ·simp -implicitDefEqProofs only [go_sem,e5] at hm a c hd d
    simp -implicitDefEqProofs only [go_sem,zav,hm,zh4,e0,b,e3,e4,e5,e6,xl zbB rfl,zbz,a,c,hd,d,zI,ne_eq];exact ⟨_,rfl,fun h => by first | exact absurd h e6 | exact h.elim⟩
  ·simp -implicitDefEqProofs only [go_sem] at hm a c hd
   simp -implicitDefEqProofs only [go_sem,zav,hm,zh4,e0,b,e3,e4,e5,xl zbB rfl,zbz,a,c,hd,zI,ne_eq];exact ⟨_,rfl,fun h => by first | exact absurd h e5 | exact h.elim⟩
 ·rw [e4] at hd
  simp -implicitDefEqProofs only [go_sem] at hm a c hd;simp -implicitDefEqProofs only [go_sem,zav,hm,zh4,e0,b,e3,e4,xl zbB rfl,zbz,a,c,hd,zI,ne_eq];exact ⟨_,rfl,fun h => by first | exact h.elim | simp at h⟩
def zx1 (f : PFunc) (level : Int) (tree : List Int) : Int:=if level < 0 ∨ 2 < level then 1 else zh4 f level tree
end AC

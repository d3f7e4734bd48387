/- A part of the proof of SchedDepth. Conditions: none. -/
import Derived.Test.YtmkncmffaaninaaGreatDAZ
import Derived.Test.YtmkncmffaaninaaGreatDBA
set_option linter.unusedVariables false
set_option linter.unusedSimpArgs false
set_option linter.unusedSectionVars false
open Nat renaming add_le_add_iff_right → ya,add_comm → yl
open Int renaming natCast_nonneg → yb,toNat_natCast → yd,lt_irrefl → yg,natCast_zero → yk
open List renaming length_map → yc,drop_eq_getElem_cons → ye,drop_length → yf,getElem_mem → yh,map_cons → yj,drop_zero → ym,all_cons → yn,length_cons → yo,all_nil → yr,map_nil → ys
open Bool renaming and_eq_true → yi
open Option renaming isNone_none → yp,isNone_some → yq
namespace AC
open Go Go.A Go.A.Lex
def zft (defs : List Use) : Nat → List Use → Bool
 | _,[] => true
 | k,u :: r => (value u.v && decide (zh u.v 0 defs = (k : Int))) && zft defs (k + 1) r
def zhC (defs : List Use) (v : Int) : Use:=defs.getD (zh v 0 defs).toNat ⟨0,(0,0),0,0⟩
def zjL (defs : List Use) (u : Use) : Bool:=!decide (zh u.v 0 defs < 0)
def sameShape (defs : List Use) (u : Use) : Bool:=decide ((zhC defs u.v).shape = u.shape)
def zgc (defs : List Use) (tree : List Int) (u : Use) : Bool :=
 (decide ((zhC defs u.v).block < 0) || (decide ((zhC defs u.v).block = u.block) && decide ((zhC defs u.v).at' < u.at'))) || !(decide ((zhC defs u.v).block = u.block) || !decide (zmu tree (zhC defs u.v).block u.block = (zhC defs u.v).block))
theorem zig (v : Int) : ∀ (l : List Use) (k : Nat),0 ≤ zh v k l → (k : Int) ≤ zh v k l ∧ zh v k l < ((k + l.length : Nat) : Int)
 | [],k,h => by simp [zh] at h
 | u :: r,k,h => by
   rw [zh] at h ⊢
   split
   ·simp only [yo]; omega
   ·rename_i c
    rw [if_neg c] at h
    have:=zig v r (k + 1) h
    simp only [yo]
    omega
section
variable (f : PFunc) (hf : okF f) (defs uses : List Use) (hdl : defs.length ≤ 4294967296) (hul : uses.length ≤ 4294967296)
abbrev zh7 (r : zd) : zd:=.cells 0 3 [zcJ f] :: r
include hf hdl
theorem zw7 : ∀ (d k : Nat) (a0 a1 a3 a6 a7 a8 a9 a10 a11 a12 a13 a14 a15 a16 a17 a18 a19 a20 a21 a22 a23 a24 a25 a26 : V),defs.length - k = d → k ≤ defs.length →
  exec T zbM ⟨[a0,a1,.one (.ptr 0 0 0 0),a3,vUs defs,vI k,a6,a7,a8,a9,a10,a11,a12,a13,a14,a15,a16,a17,a18,a19,a20,a21,a22,a23,a24,a25,a26],zh7 f [],0,0⟩ =
   some (if zft defs k (defs.drop k) = true then (.exit 0,⟨[vU,vU,.one (.ptr 0 0 0 0),vU,vUs defs,vU,vU,vU,vU,vU,vU,vU,vU,vU,vU,vU,vU,vU,vU,vU,vU,vU,vU,vU,vU,vU,vU],zh7 f [],0,0⟩) else (.ret,⟨[vU,vU,vU,vI 7,vU,vU,vU,vU,vU,vU,vU,vU,vU,vU,vU,vU,vU,vU,vU,vU,vU,vU,vU,vU,vU,vU,vU],zh7 f [],0,0⟩)):=by
 intro d
 induction d with
 | zero =>
   intro k a0 a1 a3 a6 a7 a8 a9 a10 a11 a12 a13 a14 a15 a16 a17 a18 a19 a20 a21 a22 a23 a24 a25 a26 h1 h2
   have hk : k = defs.length:=by omega
   subst hk
   rw [xl zbM rfl,zdN]
   simp -implicitDefEqProofs only [go_sem,zh7,yg,yc,yf,zft]
 | succ d ih =>
   intro k a0 a1 a3 a6 a7 a8 a9 a10 a11 a12 a13 a14 a15 a16 a17 a18 a19 a20 a21 a22 a23 a24 a25 a26 h1 h2
   have hk : k < defs.length:=by omega
   have hd : defs.drop k = defs[k] :: defs.drop (k + 1):=ye hk
   have hV:=ziX defs[k].v
   have hF:=zhm defs defs[k].v hdl
   have:=ih (k + 1) vU vU vU vU vU vU vU vU vU vU vU vU vU vU vU vU vU vU vU vU vU vU vU vU (by omega) (by omega)
   rw [xl zbM rfl,zdN,hd,zft]
   simp -implicitDefEqProofs only [go_sem,zh7] at this
   simp -implicitDefEqProofs only [go_sem] at hF
   cases c : value defs[k].v
   ·simp -implicitDefEqProofs only [go_sem,c] at hV
    simp -implicitDefEqProofs only [go_sem,zh7,ilt hk,zp hk,rU,yc,hV,c,yb,yd]
   ·simp -implicitDefEqProofs only [go_sem,c] at hV
    by_cases e : zh defs[k].v 0 defs = (k : Int)
    ·simp -implicitDefEqProofs only [go_sem,zh7,ilt hk,zp hk,rU,yc,hV,hF,c,eq_true e,yb,yd,za hk hdl,this]
    ·simp -implicitDefEqProofs only [go_sem,zh7,ilt hk,zp hk,rU,yc,hV,hF,c,e,yb,yd]
include hul
theorem zwc : ∀ (d k : Nat) (a0 a1 a3 a5 a8 a9 a10 a11 a12 a13 a14 a15 a16 a17 a18 a19 a20 a21 a22 a23 a24 a25 a26 : V),uses.length - k = d → k ≤ uses.length →
  exec T zbC ⟨[a0,a1,.one (.ptr 0 0 0 0),a3,vUs defs,a5,vUs uses,vI k,a8,a9,a10,a11,a12,a13,a14,a15,a16,a17,a18,a19,a20,a21,a22,a23,a24,a25,a26],zh7 f [],0,0⟩ =
   some (if (uses.drop k).all (zjL defs) = true then (.exit 2,⟨[vU,vU,.one (.ptr 0 0 0 0),vU,vUs defs,vU,vUs uses,vU,vU,vU,vU,vU,vU,vU,vU,vU,vU,vU,vU,vU,vU,vU,vU,vU,vU,vU,vU],zh7 f [],0,0⟩) else (.ret,⟨[vU,vU,vU,vI 7,vU,vU,vU,vU,vU,vU,vU,vU,vU,vU,vU,vU,vU,vU,vU,vU,vU,vU,vU,vU,vU,vU,vU],zh7 f [],0,0⟩)):=by
 intro d
 induction d with
 | zero =>
   intro k a0 a1 a3 a5 a8 a9 a10 a11 a12 a13 a14 a15 a16 a17 a18 a19 a20 a21 a22 a23 a24 a25 a26 h1 h2
   have hk : k = uses.length:=by omega
   subst hk
   rw [xl zbC rfl,zdB]
   simp -implicitDefEqProofs only [go_sem,zh7,yg,yc,yf,yr]
 | succ d ih =>
   intro k a0 a1 a3 a5 a8 a9 a10 a11 a12 a13 a14 a15 a16 a17 a18 a19 a20 a21 a22 a23 a24 a25 a26 h1 h2
   have hk : k < uses.length:=by omega
   have hd : uses.drop k = uses[k] :: uses.drop (k + 1):=ye hk
   have hF:=zhm defs uses[k].v hdl
   have:=ih (k + 1) vU vU vU vU vU vU vU vU vU vU vU vU vU vU vU vU vU vU vU vU vU vU vU (by omega) (by omega)
   rw [xl zbC rfl,zdB,hd,yn,zjL]
   simp -implicitDefEqProofs only [go_sem,zh7] at this
   simp -implicitDefEqProofs only [go_sem] at hF
   by_cases e : zh uses[k].v 0 defs < 0
   ·simp -implicitDefEqProofs only [go_sem,zh7,ilt hk,zp hk,rU,yc,hF,eq_true e,yb,yd]
   ·simp -implicitDefEqProofs only [go_sem,zh7,ilt hk,zp hk,rU,yc,hF,e,yb,yd,za hk hul,this]
variable (hall : ∀ u ∈ uses,zjL defs u = true)
omit hf hdl hul in
theorem zCu (u : Use) (h : zjL defs u = true) : 0 ≤ zh u.v 0 defs ∧ zh u.v 0 defs < (defs.length : Int) ∧ (defs.map rU)[(zh u.v 0 defs).toNat]? = some (rU (zhC defs u.v)):=by
 have h0 : 0 ≤ zh u.v 0 defs:=by
  unfold zjL at h
  simp at h
  exact h
 have h1:=zig u.v defs 0 h0
 have hlt : (zh u.v 0 defs).toNat < defs.length:=by omega
 refine ⟨h0,by omega,?_⟩
 rw [zp hlt]
 unfold zhC
 rw [List.getD_eq_getElem?_getD,List.getElem?_eq_getElem hlt]
 rfl
include hall
theorem zxd : ∀ (d k : Nat) (a0 a1 a3 a5 a7 a9 a10 a11 a12 a13 a14 a15 a16 a17 a18 a19 a20 a21 a22 a23 a24 a25 a26 : V),uses.length - k = d → k ≤ uses.length →
  exec T zby ⟨[a0,a1,.one (.ptr 0 0 0 0),a3,vUs defs,a5,vUs uses,a7,vI k,a9,a10,a11,a12,a13,a14,a15,a16,a17,a18,a19,a20,a21,a22,a23,a24,a25,a26],zh7 f [],0,0⟩ =
   some (if (uses.drop k).all (sameShape defs) = true then (.exit 4,⟨[vU,vU,.one (.ptr 0 0 0 0),vU,vUs defs,vU,vUs uses,vU,vU,vU,vU,vU,vU,vU,vU,vU,vU,vU,vU,vU,vU,vU,vU,vU,vU,vU,vU],zh7 f [],0,0⟩) else (.ret,⟨[vU,vU,vU,vI 6,vU,vU,vU,vU,vU,vU,vU,vU,vU,vU,vU,vU,vU,vU,vU,vU,vU,vU,vU,vU,vU,vU,vU],zh7 f [],0,0⟩)):=by
 intro d
 induction d with
 | zero =>
   intro k a0 a1 a3 a5 a7 a9 a10 a11 a12 a13 a14 a15 a16 a17 a18 a19 a20 a21 a22 a23 a24 a25 a26 h1 h2
   have hk : k = uses.length:=by omega
   subst hk
   rw [xl zby rfl,zdt]
   simp -implicitDefEqProofs only [go_sem,zh7,yg,yc,yf,yr]
 | succ d ih =>
   intro k a0 a1 a3 a5 a7 a9 a10 a11 a12 a13 a14 a15 a16 a17 a18 a19 a20 a21 a22 a23 a24 a25 a26 h1 h2
   have hk : k < uses.length:=by omega
   have hd : uses.drop k = uses[k] :: uses.drop (k + 1):=ye hk
   have hF:=zhm defs uses[k].v hdl
   obtain ⟨p1,p2,p3⟩:=zCu defs uses[k] (hall _ (yh hk))
   have:=ih (k + 1) vU vU vU vU vU vU vU vU vU vU vU vU vU vU vU vU vU vU vU vU vU vU vU (by omega) (by omega)
   rw [xl zby rfl,zdt,hd,yn,sameShape]
   simp -implicitDefEqProofs only [go_sem,zh7] at this
   simp -implicitDefEqProofs only [go_sem] at hF
   obtain ⟨e,he⟩ : ∃ e,e = zhC defs uses[k].v:=⟨_,rfl⟩
   rw [← he] at p3 ⊢
   have hsh : (e.shape = uses[k].shape) = (e.shape.1 = uses[k].shape.1 ∧ e.shape.2 = uses[k].shape.2):=by rw [Prod.ext_iff]
   by_cases s1 : e.shape.1 = uses[k].shape.1
   ·by_cases s2 : e.shape.2 = uses[k].shape.2
    ·simp -implicitDefEqProofs only [go_sem,zh7,ilt hk,zp hk,rU,yc,hF,p1,p2,p3,hsh,eq_true s1,eq_true s2,yb,yd,za hk hul,this]
    ·simp -implicitDefEqProofs only [go_sem,zh7,ilt hk,zp hk,rU,yc,hF,p1,p2,p3,hsh,eq_true s1,s2,and_false,yb,yd]
   ·simp -implicitDefEqProofs only [go_sem,zh7,ilt hk,zp hk,rU,yc,hF,p1,p2,p3,hsh,s1,false_and,yb,yd]
theorem zwi (tree : List Int) (htl : tree.length ≤ 4294967296) (x1 y1 : Fz) : ∀ (d k : Nat),uses.length - k = d → k ≤ uses.length → ∃ r,∀ (a0 a1 a2 a3 a5 a7 a8 a9 a12 a13 a14 a15 a16 a17 a18 a19 a20 a21 a22 a23 a24 a25 a26 : V),
  exec T zI ⟨[a0,a1,a2,a3,vUs defs,a5,vUs uses,a7,a8,a9,vIs tree,vI k,a12,a13,a14,a15,a16,a17,a18,a19,a20,a21,a22,a23,a24,a25,a26],zh7 f [.cells 0 2 [[.f x1,.f y1]]],0,0⟩ =
   some (if (uses.drop k).all (zgc defs tree) = true then (.exit 6,⟨[vU,vU,vU,vU,vU,vU,vU,vU,vU,vU,vU,vU,vU,vU,vU,vU,vU,vU,vU,vU,vU,vU,vU,vU,vU,vU,vU],zh7 f [.cells 0 2 [[.f x1,.f y1]]],0,0⟩) else (.ret,⟨[vU,vU,vU,vI 7,vU,vU,vU,vU,vU,vU,vU,vU,vU,vU,vU,vU,vU,vU,vU,vU,vU,vU,vU,vU,vU,vU,vU],zh7 f (.cells 0 2 [[.f x1,.f y1]] :: r),0,0⟩)):=by
 intro d
 induction d with
 | zero =>
   intro k h1 h2
   have hk : k = uses.length:=by omega
   subst hk
   refine ⟨[],fun a0 a1 a2 a3 a5 a7 a8 a9 a12 a13 a14 a15 a16 a17 a18 a19 a20 a21 a22 a23 a24 a25 a26 => ?_⟩
   rw [xl zI rfl,zT]
   simp -implicitDefEqProofs only [go_sem,zh7,yg,yc,yf,yr]
 | succ d ih =>
   intro k h1 h2
   have hk : k < uses.length:=by omega
   have hd : uses.drop k = uses[k] :: uses.drop (k + 1):=ye hk
   have hF:=zhm defs uses[k].v hdl
   obtain ⟨p1,p2,p3⟩:=zCu defs uses[k] (hall _ (yh hk))
   obtain ⟨r,hr⟩:=ih (k + 1) (by omega) (by omega)
   simp -implicitDefEqProofs only [go_sem,zh7] at hr
   simp -implicitDefEqProofs only [go_sem] at hF
   rw [hd,yn,zgc]
   obtain ⟨e,he⟩ : ∃ e,e = zhC defs uses[k].v:=⟨_,rfl⟩
   obtain ⟨u,hu⟩ : ∃ u,u = uses[k]:=⟨_,rfl⟩
   have gk:=zp (r:=rU) hk
   rw [← he] at p3 ⊢
   rw [← hu] at gk hF p1 p2 p3 ⊢
   have hM:=zs5 tree htl e.block u.block
   simp -implicitDefEqProofs only [go_sem] at hM
   by_cases c1 : e.block < 0
   ·refine ⟨r,fun a0 a1 a2 a3 a5 a7 a8 a9 a12 a13 a14 a15 a16 a17 a18 a19 a20 a21 a22 a23 a24 a25 a26 => ?_⟩
    rw [xl zI rfl,zT]
    simp -implicitDefEqProofs only [go_sem,zh7,ilt hk,gk,rU,yc,hF,p1,p2,p3,eq_true c1,yb,yd,za hk hul,hr]
   ·by_cases c2 : e.block = u.block
    ·by_cases c3 : e.at' < u.at'
     ·refine ⟨r,fun a0 a1 a2 a3 a5 a7 a8 a9 a12 a13 a14 a15 a16 a17 a18 a19 a20 a21 a22 a23 a24 a25 a26 => ?_⟩
      rw [xl zI rfl,zT]
      simp -implicitDefEqProofs only [go_sem,zh7,ilt hk,gk,rU,yc,hF,p1,p2,p3,c1,eq_true c2,eq_true c3,yb,yd,za hk hul,hr]
     ·refine ⟨[.cells 0 5 [(rU u).map C.f],.cells 0 5 [(rU e).map C.f]],fun a0 a1 a2 a3 a5 a7 a8 a9 a12 a13 a14 a15 a16 a17 a18 a19 a20 a21 a22 a23 a24 a25 a26 => ?_⟩
      rw [xl zI rfl,zT]
      simp -implicitDefEqProofs only [go_sem,zh7,ilt hk,gk,rU,yc,yj,ys,hF,p1,p2,p3,c1,eq_true c2,c3,yb,yd]
    ·by_cases c4 : zmu tree e.block u.block = e.block
     ·refine ⟨r,fun a0 a1 a2 a3 a5 a7 a8 a9 a12 a13 a14 a15 a16 a17 a18 a19 a20 a21 a22 a23 a24 a25 a26 => ?_⟩
      rw [xl zI rfl,zT]
      simp -implicitDefEqProofs only [go_sem,zh7,ilt hk,gk,rU,yc,hF,hM,p1,p2,p3,c1,c2,eq_true c4,yb,yd,za hk hul,hr]
     ·refine ⟨[.cells 0 5 [(rU u).map C.f],.cells 0 5 [(rU e).map C.f]],fun a0 a1 a2 a3 a5 a7 a8 a9 a12 a13 a14 a15 a16 a17 a18 a19 a20 a21 a22 a23 a24 a25 a26 => ?_⟩
      rw [xl zI rfl,zT]
      simp -implicitDefEqProofs only [go_sem,zh7,ilt hk,gk,rU,yc,yj,ys,hF,hM,p1,p2,p3,c1,c2,c4,yb,yd]
end
end AC
namespace AC
open Go Go.A Go.A.Lex
theorem zEE (n : Nat) : (1 < n + 5) = True:=by (first | (simp; omega) | simp)
theorem zD3 (n : Nat) : (3 < n + 5) = True:=by (first | (simp; omega) | simp)
theorem zEz (n : Nat) : (4 < n + 5) = True:=by (first | (simp; omega) | simp)
theorem zEq (n : Nat) : (1 < n + 6) = True:=by (first | (simp; omega) | simp)
theorem zEc (n : Nat) : (3 < n + 6) = True:=by (first | (simp; omega) | simp)
theorem zEM (n : Nat) : (4 < n + 6) = True:=by (first | (simp; omega) | simp)
theorem zEt (n : Nat) : (1 < n + 7) = True:=by (first | (simp; omega) | simp)
theorem zDZ (n : Nat) : (3 < n + 7) = True:=by (first | (simp; omega) | simp)
theorem zEB (n : Nat) : (4 < n + 7) = True:=by (first | (simp; omega) | simp)
theorem zEJ (n : Nat) : (1 < n + 8) = True:=by (first | (simp; omega) | simp)
theorem zEQ (n : Nat) : (3 < n + 8) = True:=by (first | (simp; omega) | simp)
theorem zDX (n : Nat) : (4 < n + 8) = True:=by (first | (simp; omega) | simp)
attribute [go_sem] zEE zD3 zEz zEq zEc zEM zEt zDZ zEB zEJ zEQ zDX
def getM {α : Type} (k : Int) : List (Int × α) → Option α
 | [] => none
 | e :: es => if e.1 = k then some e.2 else getM k es
def zlq {α : Type} (k : Int) (v : α) : List (Int × α) → List (Int × α)
 | [] => [(k,v)]
 | e :: es => if e.1 = k then (k,v) :: es else e :: zlq k v es
def zof {α : Type} (enc : α → V) (D : List (Int × α)) : List (Int × V):=D.map fun e => (e.1,enc e.2)
theorem zr2 {α : Type} (enc : α → V) (k : Int) : ∀ D : List (Int × α),zif k (zof enc D) = (getM k D).map enc
 | [] => rfl
 | e :: es => by
   have ih:=zr2 enc k es
   unfold zof at ih ⊢
   simp only [yj,zif,getM]
   by_cases h : e.1 = k
   ·rw [if_pos h,if_pos h]; rfl
   ·rw [if_neg h,if_neg h,ih]
theorem zrp {α : Type} (enc : α → V) (k : Int) (v : α) : ∀ D : List (Int × α),zmg k (enc v) (zof enc D) = zof enc (zlq k v D)
 | [] => rfl
 | e :: es => by
   have ih:=zrp enc k v es
   unfold zof at ih ⊢
   simp only [yj,zmg,zlq]
   by_cases h : e.1 = k
   ·rw [if_pos h,if_pos h]; rfl
   ·rw [if_neg h,if_neg h,ih]; rfl
theorem zy6 {α : Type} (enc : α → V) (n : Nat) (h : ∀ a,(enc a).lt n = true) : ∀ D : List (Int × α),C.ltm n (zof enc D) = true
 | [] => rfl
 | e :: es => by
   have ih:=zy6 enc n h es
   unfold zof at ih ⊢
   simp only [yj,C.ltm,h,ih,Bool.and_self]
structure PDef where
 block : Int
 at' : Int
 shape : Int × Int
abbrev zkq:=List (Int × PDef)
def zia (d : PDef) : V:=.agg [.f (ei d.block),.f (ei d.at'),.f (ei d.shape.1),.f (ei d.shape.2)]
theorem z7 (n : Nat) (D : zkq) : C.ltm n (zof zia D) = true:=zy6 zia n (fun a => by simp [zia,V.lt,C.lts,C.lt]) D
theorem zko (k : Int) (D : zkq) : zif k (zof zia D) = (getM k D).map zia:=zr2 zia k D
theorem zA2 (k : Int) (d : PDef) (D : zkq) : zmg k (V.agg [.f (.lit (.int .i64 d.block)),.f (.lit (.int .i64 d.at')),.f (.lit (.int .i64 d.shape.1)),.f (.lit (.int .i64 d.shape.2))]) (zof zia D) = zof zia (zlq k d D):=zrp zia k d D
abbrev P1 : Ob:=.cells 0 1 [[.ptr 1 0 0 0]]
abbrev stD (f : PFunc) (level : Int) (x y z : C) (D : zkq) (r : zd) : zd:=O0 f :: zxE f level x y z (.map 4) :: O2 :: P1 :: .mp (zof zia D) :: r
section
variable (f : PFunc) (level : Int) (succ pred : List (List Int)) (tree : List Int) (D : zkq) (r : zd) (hr : Obs.lt (r.length + 5) r = true)
abbrev xS (l : List (List Int)) : C:=.f (.sl (l.map rl))
abbrev zS (l : List Int) : C:=.f (eI l)
include hr
theorem zrb (v : Int) (d : PDef) : call T 204 [.one (.ptr 1 0 0 0),vI v,zia d] (stD f level (xS succ) (xS pred) (zS tree) D r) = some (vB (getM v D).isNone,stD f level (xS succ) (xS pred) (zS tree) (zlq v d D) r):=by
 rw [ze (fn:=zc8) rfl]
 have hp:=zA2 v d D
 cases e : getM v D with
 | none => simp -implicitDefEqProofs only [go_sem,zc8,stD,zia,zko,e,hp,hr,z7,ya,yp]
 | some d0 => simp -implicitDefEqProofs only [go_sem,zc8,stD,zia,zko,e,hp,hr,z7,ya,yq]
theorem zpL (u : Use) : call T 208 [vI u.v,.agg [.f (ei u.shape.1),.f (ei u.shape.2)],vI u.block,vI u.at',.one (.ptr 3 0 0 0)] (stD f level (xS succ) (xS pred) (zS tree) D r) =
  some (vI (if (getM u.v D).isNone then 7 else 0),stD f level (xS succ) (xS pred) (zS tree) D r):=by
 rw [ze (fn:=zaI) rfl]
 cases e : getM u.v D with
 | none => simp -implicitDefEqProofs only [go_sem,zaI,stD,zia,zko,e,hr,z7,ya,yp]
 | some d0 => simp -implicitDefEqProofs only [go_sem,zaI,stD,zia,zko,e,hr,z7,ya,yq]
end
def zk3 (D : zkq) (v : Int) : PDef:=(getM v D).getD ⟨0,0,(0,0)⟩
def zkH (D : zkq) (u : Use) : Int:=if (getM u.v D).isNone = true then 7 else 0
def zb8 (D : zkq) (u : Use) : Int:=if (zk3 D u.v).shape = u.shape then 0 else 6
def za0 (D : zkq) (tree : List Int) (u : Use) : Int :=
 let d:=zk3 D u.v
 if d.block < 0 then 0 else if (d.block = u.block ∧ d.at' < u.at') ∨ (d.block ≠ u.block ∧ zky tree d.block u.block = true) then 0 else 7
section
variable (f : PFunc) (level : Int) (succ pred : List (List Int)) (tree : List Int) (D : zkq) (r : zd) (hr : Obs.lt (r.length + 6) r = true)
include hr
theorem zsj (u : Use) : call T 209 [vI u.v,.agg [.f (ei u.shape.1),.f (ei u.shape.2)],vI u.block,vI u.at',.one (.ptr 5 0 0 0)] (stD f level (xS succ) (xS pred) (zS tree) D (P1 :: r)) =
  some (vI (zb8 D u),stD f level (xS succ) (xS pred) (zS tree) D (P1 :: r)):=by
 rw [ze (fn:=zy) rfl]
 have hp : ∀ a b : Int × Int,(a = b) = (a.1 = b.1 ∧ a.2 = b.2):=fun a b => by rw [Prod.ext_iff]
 have key : ∀ d : PDef,zk3 D u.v = d → zif u.v (zof zia D) = some (zia d) ∨ (zif u.v (zof zia D) = none ∧ d = ⟨0,0,(0,0)⟩):=fun d hd => by
  rw [zko]
  unfold zk3 at hd
  cases e : getM u.v D with
  | none => rw [e] at hd; exact .inr ⟨rfl,hd.symm⟩
  | some d0 => rw [e] at hd; simp at hd; subst hd; exact .inl rfl
 by_cases c1 : (zk3 D u.v).shape.1 = u.shape.1
 ·by_cases c2 : (zk3 D u.v).shape.2 = u.shape.2
  ·rcases key _ rfl with h | ⟨h,h2⟩
   ·simp -implicitDefEqProofs only [go_sem,zy,stD,zia,h,hr,z7,ya,zb8,hp,eq_true c1,eq_true c2]
   ·rw [h2] at c1 c2
    simp -implicitDefEqProofs only [go_sem,zy,stD,zia,h,hr,z7,ya,zb8,hp,h2,eq_true c1,eq_true c2]
  ·rcases key _ rfl with h | ⟨h,h2⟩
   ·simp -implicitDefEqProofs only [go_sem,zy,stD,zia,h,hr,z7,ya,zb8,hp,eq_true c1,c2,and_false]
   ·rw [h2] at c1 c2
    simp -implicitDefEqProofs only [go_sem,zy,stD,zia,h,hr,z7,ya,zb8,hp,h2,eq_true c1,c2,and_false]
 ·rcases key _ rfl with h | ⟨h,h2⟩
  ·simp -implicitDefEqProofs only [go_sem,zy,stD,zia,h,hr,z7,ya,zb8,hp,c1,false_and]
  ·rw [h2] at c1
   simp -implicitDefEqProofs only [go_sem,zy,stD,zia,h,hr,z7,ya,zb8,hp,h2,c1,false_and]
theorem zsk (htl : tree.length ≤ 4294967296) (u : Use) : call T 210 [vI u.v,.agg [.f (ei u.shape.1),.f (ei u.shape.2)],vI u.block,vI u.at',.one (.ptr 5 0 0 0)] (stD f level (xS succ) (xS pred) (zS tree) D (P1 :: r)) =
  some (vI (za0 D tree u),stD f level (xS succ) (xS pred) (zS tree) D (P1 :: r)):=by
 rw [ze (fn:=zg) rfl]
 have key : ∀ d : PDef,zk3 D u.v = d → zif u.v (zof zia D) = some (zia d) ∨ (zif u.v (zof zia D) = none ∧ d = ⟨0,0,(0,0)⟩):=fun d hd => by
  rw [zko]
  unfold zk3 at hd
  cases e : getM u.v D with
  | none => rw [e] at hd; exact .inr ⟨rfl,hd.symm⟩
  | some d0 => rw [e] at hd; simp at hd; subst hd; exact .inl rfl
 rcases key _ rfl with h | ⟨h,h2⟩
 ·have ho:=zoS tree (zk3 D u.v).block u.block htl
  simp -implicitDefEqProofs only [go_sem] at ho
  by_cases c1 : (zk3 D u.v).block < 0
  ·simp -implicitDefEqProofs only [go_sem,zg,stD,zia,h,hr,z7,ya,za0,c1]
  by_cases c2 : (zk3 D u.v).block = u.block
  ·by_cases c3 : (zk3 D u.v).at' < u.at'
   ·simp -implicitDefEqProofs only [go_sem,zg,stD,zia,h,hr,z7,ya,za0,c1,eq_true c2,c3,true_and,true_or]
   ·simp -implicitDefEqProofs only [go_sem,zg,stD,zia,h,hr,z7,ya,za0,c1,eq_true c2,c3,and_false,false_and,or_self,ne_eq]
  ·cases c4 : zky tree (zk3 D u.v).block u.block
   ·rw [c4] at ho
    simp -implicitDefEqProofs only [go_sem,zg,stD,zia,h,hr,z7,ya,za0,c1,c2,ho,c4,and_false,false_and,or_self,ne_eq]
   ·rw [c4] at ho
    simp -implicitDefEqProofs only [go_sem,zg,stD,zia,h,hr,z7,ya,za0,c1,c2,ho,c4,and_self,false_and,false_or,ne_eq]
 ·have ho:=zoS tree (0 : Int) u.block htl
  simp -implicitDefEqProofs only [go_sem] at ho
  by_cases c1 : (0 : Int) < 0
  ·simp -implicitDefEqProofs only [go_sem,zg,stD,zia,h,hr,z7,ya,za0,h2,c1]
  by_cases c2 : (0 : Int) = u.block
  ·by_cases c3 : (0 : Int) < u.at'
   ·simp -implicitDefEqProofs only [go_sem,zg,stD,zia,h,hr,z7,ya,za0,h2,c1,eq_true c2,c3,true_and,true_or]
   ·simp -implicitDefEqProofs only [go_sem,zg,stD,zia,h,hr,z7,ya,za0,h2,c1,eq_true c2,c3,and_false,false_and,or_self,ne_eq]
  ·cases c4 : zky tree (0 : Int) u.block
   ·rw [c4] at ho
    simp -implicitDefEqProofs only [go_sem,zg,stD,zia,h,hr,z7,ya,za0,h2,c1,c2,ho,c4,and_false,false_and,or_self,ne_eq]
   ·rw [c4] at ho
    simp -implicitDefEqProofs only [go_sem,zg,stD,zia,h,hr,z7,ya,za0,h2,c1,c2,ho,c4,and_self,false_and,false_or,ne_eq]
end
end AC
namespace AC
open Go Go.A Go.A.Lex
def zef : Nat → zkq → List Int → zkq
 | _,D,[] => D
 | i,D,b :: r => zef (i + 1) (zlq ((i : Int) + 1) ⟨-1,0,(b,1)⟩ D) r
def zg5 (i : Int) : zkq → List PPhi → zkq × Option PPhi
 | D,[] => (D,none)
 | D,p :: r => if p.dst < 1 ∨ 1023 < p.dst then (D,some p) else if (getM p.dst D).isNone = true then zg5 i (zlq p.dst ⟨i,-1,(p.bits,1)⟩ D) r else (zlq p.dst ⟨i,-1,(p.bits,1)⟩ D,some p)
def zi5 (i : Int) : Nat → zkq → List POp → zkq × Option POp
 | _,D,[] => (D,none)
 | k,D,o :: r => if (zab o).1 ≤ 0 then zi5 i (k + 1) D r else if (getM o.dst D).isNone = true then zi5 i (k + 1) (zlq o.dst ⟨i,k,zab o⟩ D) r else (zlq o.dst ⟨i,k,zab o⟩ D,some o)
def zd7 : Nat → zkq → List PBlock → zkq × Option (List Ob)
 | _,D,[] => (D,none)
 | i,D,b :: r => match zg5 i D b.phis with
   | (D1,some p) => (D1,some [.cells 0 5 [zq b],.cells 0 4 [zub p]])
   | (D1,none) => match zi5 i 0 D1 b.ops with
     | (D2,some o) => (D2,some [.cells 0 5 [zq b],.cells 0 6 [cOp o]])
     | (D2,none) => zd7 (i + 1) D2 r
section
variable (f : PFunc) (hf : okF f) (level : Int) (succ pred : List (List Int)) (tree : List Int)
abbrev sD (f : PFunc) (level : Int) (succ pred : List (List Int)) (tree : List Int) (D : zkq) (r : zd) : zd:=stD f level (xS succ) (xS pred) (zS tree) D r
include hf
theorem zwD : ∀ (d k : Nat) (D : zkq) (a0 a2 a3 a4 a5 a6 a7 a8 a9 a10 a11 a15 a16 a17 a18 a19 a20 a21 a22 a23 a24 a25 a26 a27 a28 a29 : V),f.params.length - k = d → k ≤ f.params.length →
  exec T zaT ⟨[a0,.one (.ptr 3 0 0 0),a2,a3,a4,a5,a6,a7,a8,a9,a10,a11,vIs f.params,vI f.params.length,vI k,a15,a16,a17,a18,a19,a20,a21,a22,a23,a24,a25,a26,a27,a28,a29],sD f level succ pred tree D [],3,5⟩ =
   some (.exit 0,⟨[vU,.one (.ptr 3 0 0 0),vU,vU,vU,vU,vU,vU,vU,vU,vU,vU,vU,vU,vU,vU,vU,vU,vU,vU,vU,vU,vU,vU,vU,vU,vU,vU,vU,vU],sD f level succ pred tree (zef k D (f.params.drop k)) [],3,5⟩):=by
 intro d
 induction d with
 | zero =>
   intro k D a0 a2 a3 a4 a5 a6 a7 a8 a9 a10 a11 a15 a16 a17 a18 a19 a20 a21 a22 a23 a24 a25 a26 a27 a28 a29 h1 h2
   have hk : k = f.params.length:=by omega
   subst hk
   rw [xl zaT rfl,zcU]
   simp -implicitDefEqProofs only [go_sem,stD,yg,yf,zef]
 | succ d ih =>
   intro k D a0 a2 a3 a4 a5 a6 a7 a8 a9 a10 a11 a15 a16 a17 a18 a19 a20 a21 a22 a23 a24 a25 a26 a27 a28 a29 h1 h2
   have hk : k < f.params.length:=by omega
   have hd : f.params.drop k = f.params[k] :: f.params.drop (k + 1):=ye hk
   have hsc:=ziI f.params[k]
   have hp:=zrb f level succ pred tree D [] rfl ((k : Int) + 1) ⟨-1,0,(f.params[k],1)⟩
   have hw:=za hk hf.params
   have hc : ((k + 1 : Nat) : Int) = (k : Int) + 1:=by omega
   have:=ih (k + 1) (zlq ((k : Int) + 1) ⟨-1,0,(f.params[k],1)⟩ D) vU vU vU vU vU vU vU vU vU vU vU vU vU vU vU vU vU vU vU vU vU vU vU vU vU vU (by omega) (by omega)
   rw [xl zaT rfl,zcU,hd,zef]
   rw [hc] at hw this
   simp -implicitDefEqProofs only [go_sem,stD,zia] at hp hsc this
   simp -implicitDefEqProofs only [go_sem,stD,ilt hk,zp hk,ri,hsc,hp,hw,this]
theorem zwv (b : PBlock) (hb : okB b) (i : Int) : ∀ (d k : Nat) (D : zkq) (a0 a2 a3 a4 a7 a8 a9 a10 a11 a12 a13 a14 a15 a19 a23 a24 a25 a26 a27 a28 a29 : V),b.phis.length - k = d → k ≤ b.phis.length →
  exec T za3 ⟨[a0,.one (.ptr 3 0 0 0),a2,a3,a4,vI i,.one (.ptr 5 0 0 0),a7,a8,a9,a10,a11,a12,a13,a14,a15,vL (f.blocks.map rb),vI f.blocks.length,vI i,a19,vL (b.phis.map rp),vI b.phis.length,vI k,a23,a24,a25,a26,a27,a28,a29],sD f level succ pred tree D [.cells 0 5 [zq b]],3,5⟩ =
   some (match zg5 i D (b.phis.drop k) with
    | (D1,none) => (.exit 4,⟨[vU,.one (.ptr 3 0 0 0),vU,vU,vU,vI i,.one (.ptr 5 0 0 0),vU,vU,vU,vU,vU,vU,vU,vU,vU,vL (f.blocks.map rb),vI f.blocks.length,vI i,vU,vU,vU,vU,vU,vU,vU,vU,vU,vU,vU],sD f level succ pred tree D1 [.cells 0 5 [zq b]],3,5⟩)
    | (D1,some p) => (.ret,⟨[vU,vU,vI 7,vU,vU,vU,vU,vU,vU,vU,vU,vU,vU,vU,vU,vU,vU,vU,vU,vU,vU,vU,vU,vU,vU,vU,vU,vU,vU,vU],sD f level succ pred tree D1 [.cells 0 5 [zq b],.cells 0 4 [zub p]],3,5⟩)):=by
 intro d
 induction d with
 | zero =>
   intro k D a0 a2 a3 a4 a7 a8 a9 a10 a11 a12 a13 a14 a15 a19 a23 a24 a25 a26 a27 a28 a29 h1 h2
   have hk : k = b.phis.length:=by omega
   subst hk
   rw [xl za3 rfl,zcQ]
   simp -implicitDefEqProofs only [go_sem,stD,yg,yf,zg5]
 | succ d ih =>
   intro k D a0 a2 a3 a4 a7 a8 a9 a10 a11 a12 a13 a14 a15 a19 a23 a24 a25 a26 a27 a28 a29 h1 h2
   have hk : k < b.phis.length:=by omega
   have hd : b.phis.drop k = b.phis[k] :: b.phis.drop (k + 1):=ye hk
   have hsc:=ziI b.phis[k].bits
   have hp:=zrb f level succ pred tree D [.cells 0 5 [zq b],.cells 0 4 [zub b.phis[k]]] (by simp -implicitDefEqProofs only [go_sem]) b.phis[k].dst ⟨i,-1,(b.phis[k].bits,1)⟩
   rw [xl za3 rfl,zcQ,hd,zg5]
   simp -implicitDefEqProofs only [go_sem,stD,zia] at hp hsc
   by_cases c1 : b.phis[k].dst < 1
   ·simp -implicitDefEqProofs only [go_sem,stD,ilt hk,zp hk,rp,c1]
   by_cases c2 : 1023 < b.phis[k].dst
   ·simp -implicitDefEqProofs only [go_sem,stD,ilt hk,zp hk,rp,c1,c2]
   cases c3 : (getM b.phis[k].dst D).isNone
   ·rw [c3] at hp
    simp -implicitDefEqProofs only [go_sem,stD,ilt hk,zp hk,rp,c1,c2,hsc,hp]
   ·have:=ih (k + 1) (zlq b.phis[k].dst ⟨i,-1,(b.phis[k].bits,1)⟩ D) vU vU vU vU vU vU vU vU vU vU vU vU vU vU vU vU vU vU vU vU vU (by omega) (by omega)
    rw [c3] at hp
    simp -implicitDefEqProofs only [go_sem,stD] at this
    simp -implicitDefEqProofs only [go_sem,stD,ilt hk,zp hk,rp,c1,c2,hsc,hp,z7,za hk hb.phis,this]
theorem zxa (b : PBlock) (hb : okB b) (i : Int) : ∀ (d k : Nat) (D : zkq) (a0 a2 a3 a4 a6 a7 a8 a9 a10 a11 a12 a13 a14 a15 a19 a20 a21 a22 a23 a24 a28 a29 : V),b.ops.length - k = d → k ≤ b.ops.length →
  exec T zaY ⟨[a0,.one (.ptr 3 0 0 0),a2,a3,a4,vI i,a6,a7,a8,a9,a10,a11,a12,a13,a14,a15,vL (f.blocks.map rb),vI f.blocks.length,vI i,a19,a20,a21,a22,a23,a24,vL (b.ops.map ro),vI b.ops.length,vI k,a28,a29],sD f level succ pred tree D [.cells 0 5 [zq b]],3,5⟩ =
   some (match zi5 i k D (b.ops.drop k) with
    | (D1,none) => (.exit 6,⟨[vU,.one (.ptr 3 0 0 0),vU,vU,vU,vU,vU,vU,vU,vU,vU,vU,vU,vU,vU,vU,vL (f.blocks.map rb),vI f.blocks.length,vI i,vU,vU,vU,vU,vU,vU,vU,vU,vU,vU,vU],sD f level succ pred tree D1 [.cells 0 5 [zq b]],3,5⟩)
    | (D1,some o) => (.ret,⟨[vU,vU,vI 7,vU,vU,vU,vU,vU,vU,vU,vU,vU,vU,vU,vU,vU,vU,vU,vU,vU,vU,vU,vU,vU,vU,vU,vU,vU,vU,vU],sD f level succ pred tree D1 [.cells 0 5 [zq b],.cells 0 6 [cOp o]],3,5⟩)):=by
 intro d
 induction d with
 | zero =>
   intro k D a0 a2 a3 a4 a6 a7 a8 a9 a10 a11 a12 a13 a14 a15 a19 a20 a21 a22 a23 a24 a28 a29 h1 h2
   have hk : k = b.ops.length:=by omega
   subst hk
   rw [xl zaY rfl,zcT]
   simp -implicitDefEqProofs only [go_sem,stD,yg,yf,zi5]
 | succ d ih =>
   intro k D a0 a2 a3 a4 a6 a7 a8 a9 a10 a11 a12 a13 a14 a15 a19 a20 a21 a22 a23 a24 a28 a29 h1 h2
   have hk : k < b.ops.length:=by omega
   have hd : b.ops.drop k = b.ops[k] :: b.ops.drop (k + 1):=ye hk
   have ho:=hb.op _ (yh hk)
   have hgv:=zpg b.ops[k] ho.1 ho.2
   have hp:=zrb f level succ pred tree D [.cells 0 5 [zq b],.cells 0 6 [cOp b.ops[k]]] (by simp -implicitDefEqProofs only [go_sem]) b.ops[k].dst ⟨i,k,zab b.ops[k]⟩
   rw [xl zaY rfl,zcT,hd,zi5]
   simp -implicitDefEqProofs only [go_sem,stD,zia] at hp hgv
   by_cases c1 : (zab b.ops[k]).1 ≤ 0
   ·have c1' : ¬ 0 < (zab b.ops[k]).1:=by omega
    have:=ih (k + 1) D vU vU vU vU vU vU vU vU vU vU vU vU vU vU vU vU vU vU vU vU vU vU (by omega) (by omega)
    simp -implicitDefEqProofs only [go_sem,stD] at this
    simp -implicitDefEqProofs only [go_sem,stD,ilt hk,zp hk,ro,hgv,c1,c1',z7,za hk hb.ops,this]
   have c1' : 0 < (zab b.ops[k]).1:=by omega
   cases c3 : (getM b.ops[k].dst D).isNone
   ·rw [c3] at hp
    simp -implicitDefEqProofs only [go_sem,stD,ilt hk,zp hk,ro,hgv,c1,c1',hp]
   ·have:=ih (k + 1) (zlq b.ops[k].dst ⟨i,k,zab b.ops[k]⟩ D) vU vU vU vU vU vU vU vU vU vU vU vU vU vU vU vU vU vU vU vU vU vU (by omega) (by omega)
    rw [c3] at hp
    simp -implicitDefEqProofs only [go_sem,stD] at this
    simp -implicitDefEqProofs only [go_sem,stD,ilt hk,zp hk,ro,hgv,c1,c1',hp,z7,za hk hb.ops,this]
theorem zxy : ∀ (d k : Nat) (D : zkq) (a0 a2 a3 a4 a5 a6 a7 a8 a9 a10 a11 a12 a13 a14 a15 a19 a20 a21 a22 a23 a24 a25 a26 a27 a28 a29 : V),f.blocks.length - k = d → k ≤ f.blocks.length →
  exec T za2 ⟨[a0,.one (.ptr 3 0 0 0),a2,a3,a4,a5,a6,a7,a8,a9,a10,a11,a12,a13,a14,a15,vL (f.blocks.map rb),vI f.blocks.length,vI k,a19,a20,a21,a22,a23,a24,a25,a26,a27,a28,a29],sD f level succ pred tree D [],3,5⟩ =
   some (match zd7 k D (f.blocks.drop k) with
    | (D1,none) => (.exit 2,⟨[vU,.one (.ptr 3 0 0 0),vU,vU,vU,vU,vU,vU,vU,vU,vU,vU,vU,vU,vU,vU,vU,vU,vU,vU,vU,vU,vU,vU,vU,vU,vU,vU,vU,vU],sD f level succ pred tree D1 [],3,5⟩)
    | (D1,some G) => (.ret,⟨[vU,vU,vI 7,vU,vU,vU,vU,vU,vU,vU,vU,vU,vU,vU,vU,vU,vU,vU,vU,vU,vU,vU,vU,vU,vU,vU,vU,vU,vU,vU],sD f level succ pred tree D1 G,3,5⟩)):=by
 intro d
 induction d with
 | zero =>
   intro k D a0 a2 a3 a4 a5 a6 a7 a8 a9 a10 a11 a12 a13 a14 a15 a19 a20 a21 a22 a23 a24 a25 a26 a27 a28 a29 h1 h2
   have hk : k = f.blocks.length:=by omega
   subst hk
   rw [xl za2 rfl,zcK]
   simp -implicitDefEqProofs only [go_sem,stD,yg,yf,zd7]
 | succ d ih =>
   intro k D a0 a2 a3 a4 a5 a6 a7 a8 a9 a10 a11 a12 a13 a14 a15 a19 a20 a21 a22 a23 a24 a25 a26 a27 a28 a29 h1 h2
   have hk : k < f.blocks.length:=by omega
   have hd : f.blocks.drop k = f.blocks[k] :: f.blocks.drop (k + 1):=ye hk
   have hb:=hf.block _ (yh hk)
   have q1:=fun a0 a2 a3 a4 a7 a8 a9 a10 a11 a12 a13 a14 a15 a19 a23 a24 a25 a26 a27 a28 a29 => zwv f hf level succ pred tree f.blocks[k] hb k f.blocks[k].phis.length 0 D a0 a2 a3 a4 a7 a8 a9 a10 a11 a12 a13 a14 a15 a19 a23 a24 a25 a26 a27 a28 a29 (by omega) (by omega)
   simp only [ym,yk] at q1
   rw [xl za2 rfl,zcK,hd,zd7]
   rcases e1 : zg5 k D f.blocks[k].phis with ⟨D1,_ | p⟩
   ·have q2:=fun a0 a2 a3 a4 a6 a7 a8 a9 a10 a11 a12 a13 a14 a15 a19 a20 a21 a22 a23 a24 a28 a29 => zxa f hf level succ pred tree f.blocks[k] hb k f.blocks[k].ops.length 0 D1 a0 a2 a3 a4 a6 a7 a8 a9 a10 a11 a12 a13 a14 a15 a19 a20 a21 a22 a23 a24 a28 a29 (by omega) (by omega)
    simp only [ym,yk] at q2
    rcases e2 : zi5 k 0 D1 f.blocks[k].ops with ⟨D2,_ | o⟩
    ·have:=ih (k + 1) D2 vU vU vU vU vU vU vU vU vU vU vU vU vU vU vU vU vU vU vU vU vU vU vU vU vU vU (by omega) (by omega)
     simp -implicitDefEqProofs only [go_sem,stD,e1,e2] at q1 q2 this
     simp -implicitDefEqProofs only [go_sem,stD,ilt hk,zp hk,rb,q1,q2,e2,z7,za hk hf.blocks,this]
    ·simp -implicitDefEqProofs only [go_sem,stD,e1,e2] at q1 q2
     simp -implicitDefEqProofs only [go_sem,stD,ilt hk,zp hk,rb,q1,q2,e2]
   ·simp -implicitDefEqProofs only [go_sem,stD,e1] at q1
    simp -implicitDefEqProofs only [go_sem,stD,ilt hk,zp hk,rb,q1]
end
end AC
namespace AC
open Go Go.A Go.A.Lex
attribute [go_sem] zxE O0 O2 P1 xS zS sD stD cM
def zrv (f : PFunc) : zkq × Option (List Ob):=zd7 0 (zef 0 [] f.params) f.blocks
theorem zmE (o : POp) : (zaX o).length ≤ o.args.length:=by
 unfold zaX
 split
 ·rename_i h
  simp only [zgq,yi,decide_eq_true_eq] at h
  omega
 ·simp
theorem zlE (pred : List (List Int)) (tree : List Int) : ∀ (l : List PBlock) (i : Nat),zd2 pred tree i l = true → ∀ k (hk : k < l.length),zp7 pred tree (i + k) l[k] = true
 | [],_,_,k,hk => by simp at hk
 | b :: r,i,h,k,hk => by
   simp only [zd2,yi] at h
   cases k with
   | zero => exact h.1
   | succ k =>
     have:=zlE pred tree r (i + 1) h.2 k (by simpa using hk)
     simpa [Nat.add_assoc,yl 1 k] using this
theorem zzJ {f : PFunc} {pred : List (List Int)} {tree : List Int} (h : zd2 pred tree 0 f.blocks = true) : ∀ b ∈ f.blocks,zjf b:=fun b hb => by
 obtain ⟨k,hk,rfl⟩:=List.getElem_of_mem hb
 have:=zlE pred tree f.blocks 0 h k hk
 simp only [zp7,yi,List.all_eq_true] at this
 refine ⟨fun p hp => ?_,fun o _ => zmE o⟩
 have:=this.2.1 p hp
 simp only [zhQ,yi,decide_eq_true_eq] at this
 exact this.2
theorem zEw (f : PFunc) (level : Int) (succ pred : List (List Int)) (tree : List Int) (D : zkq) : Ok (sD f level succ pred tree D []):=by
 unfold Ok
 simp -implicitDefEqProofs only [go_sem,stD,z7]
theorem zzO (f : PFunc) (level : Int) (succ pred : List (List Int)) (tree : List Int) (D : zkq) : Ok (sD f level succ pred tree D [P1]):=by
 unfold Ok
 simp -implicitDefEqProofs only [go_sem,stD,z7]
section
variable (f : PFunc) (hf : okF f) (level : Int) (succ pred : List (List Int)) (tree : List Int) (hab : ∀ b ∈ f.blocks,zjf b)
include hf hab
theorem ztx : call T 161 [.one (.ptr 1 0 0 0)] [O0 f,zxE f level (xS succ) (xS pred) (zS tree) (.f (.lit (.map none))),O2] =
  some (vI (match zrv f with | (D,none) => zU (zkH D) (ze4 f) | (_,some _) => 7),sD f level succ pred tree (zrv f).1 []):=by
 rw [ze (fn:=zbc) rfl]
 have q0:=fun a0 a2 a3 a4 a5 a6 a7 a8 a9 a10 a11 a15 a16 a17 a18 a19 a20 a21 a22 a23 a24 a25 a26 a27 a28 a29 => zwD f hf level succ pred tree f.params.length 0 [] a0 a2 a3 a4 a5 a6 a7 a8 a9 a10 a11 a15 a16 a17 a18 a19 a20 a21 a22 a23 a24 a25 a26 a27 a28 a29 (by omega) (by omega)
 have q3:=fun a0 a2 a3 a4 a5 a6 a7 a8 a9 a10 a11 a12 a13 a14 a15 a19 a20 a21 a22 a23 a24 a25 a26 a27 a28 a29 => zxy f hf level succ pred tree f.blocks.length 0 (zef 0 [] f.params) a0 a2 a3 a4 a5 a6 a7 a8 a9 a10 a11 a12 a13 a14 a15 a19 a20 a21 a22 a23 a24 a25 a26 a27 a28 a29 (by omega) (by omega)
 have en : zof zia [] = []:=rfl
 simp only [ym,yk] at q0 q3
 have ed : zrv f = zd7 0 (zef 0 [] f.params) f.blocks:=rfl
 rw [ed]
 rcases e : zd7 0 (zef 0 [] f.params) f.blocks with ⟨D,_ | G⟩
 ·have hu:=zo5 f level (xS succ) (xS pred) (zS tree) (.map 4) 208 [.ptr 3 0 0 0] (sD f level succ pred tree D []) rfl (zEw _ _ _ _ _ _) rfl (zkH D)
   (fun r u hr => zpL f level succ pred tree D r (by simpa [yl] using hr) u) hf hab
  simp -implicitDefEqProofs only [go_sem,stD,e,en] at q0 q3 hu
  simp -implicitDefEqProofs only [go_sem,zbc,q0,q3,hu,z7,e]
 ·simp -implicitDefEqProofs only [go_sem,stD,e,en] at q0 q3
  simp -implicitDefEqProofs only [go_sem,zbc,q0,q3,z7,e,ya]
  by_cases hG : G.length ≤ 0
  ·have : G = []:=List.eq_nil_of_length_eq_zero (by omega)
   subst this
   rfl
  ·rw [if_neg hG]
   rfl
theorem zuI (D : zkq) : call T 162 [.one (.ptr 1 0 0 0)] (sD f level succ pred tree D []) = some (vI (zU (zb8 D) (ze4 f)),sD f level succ pred tree D []):=by
 rw [ze (fn:=zdu) rfl]
 have hu:=zo5 f level (xS succ) (xS pred) (zS tree) (.map 4) 209 [.ptr 5 0 0 0] (sD f level succ pred tree D [P1]) rfl (zzO _ _ _ _ _ _) rfl (zb8 D)
  (fun r u hr => zsj f level succ pred tree D r (by simpa [yl] using hr) u) hf hab
 simp -implicitDefEqProofs only [go_sem,stD] at hu
 simp -implicitDefEqProofs only [go_sem,zdu,stD,hu,z7]
theorem zuh (htl : tree.length ≤ 4294967296) (D : zkq) : call T 163 [.one (.ptr 1 0 0 0)] (sD f level succ pred tree D []) = some (vI (zU (za0 D tree) (ze4 f)),sD f level succ pred tree D []):=by
 rw [ze (fn:=zdy) rfl]
 have hu:=zo5 f level (xS succ) (xS pred) (zS tree) (.map 4) 210 [.ptr 5 0 0 0] (sD f level succ pred tree D [P1]) rfl (zzO _ _ _ _ _ _) rfl (za0 D tree)
  (fun r u hr => zsk f level succ pred tree D r (by simpa [yl] using hr) htl u) hf hab
 simp -implicitDefEqProofs only [go_sem,stD] at hu
 simp -implicitDefEqProofs only [go_sem,zdy,stD,hu,z7]
end
def zln (f : PFunc) (level : Int) (tree : List Int) : Int :=
 if zlx f = false then 4 else if zg7 f tree = false then 5 else if zfk f level = false then 6 else
 match zrv f with
 | (_,some _) => 7
 | (D,none) => if zU (zkH D) (ze4 f) ≠ 0 then zU (zkH D) (ze4 f) else if zU (zb8 D) (ze4 f) ≠ 0 then zU (zb8 D) (ze4 f) else zU (za0 D tree) (ze4 f)
def ztM (f : PFunc) (tree : List Int) : Prop:=tree.length ≤ 4294967296 ∧ (zat f = true → call T 195 [.agg [.f (.sl ((zl f).map rl)),.f (.sl ((zM (zl f)).map rl))],vI 0] [] = some (vIs tree,[]))
theorem n5 : ((5 : Nat) : Int) = 5:=rfl
theorem wr1 : Go.IntKind.i64.wrap 1 = 1:=by decide
theorem wr2 : Go.IntKind.i64.wrap 2 = 2:=by decide
theorem wr3 : Go.IntKind.i64.wrap 3 = 3:=by decide
theorem wr4 : Go.IntKind.i64.wrap 4 = 4:=by decide
theorem wr5 : Go.IntKind.i64.wrap 5 = 5:=by decide
attribute [go_sem] n5 wr1 wr2 wr3 wr4 wr5
set_option maxRecDepth 10000 in
theorem zyJ (f : PFunc) (hf : okF f) (level : Int) (tree : List Int) (hT : ztM f tree) : ∃ σ',call T 110 [zgS f,vI level] [] = some (.tup [.one (.ptr 1 0 0 0),vI (zln f level tree)],σ') ∧ (zln f level tree = 0 → σ' = sD f level (zl f) (zM (zl f)) tree (zrv f).1 []):=by
 rw [ze (fn:=zaN) rfl]
 have hm:=zrV f hf
 cases e0 : zlx f
 ·rw [e0] at hm
  simp -implicitDefEqProofs only [go_sem] at hm
  simp -implicitDefEqProofs only [go_sem,zaN,hm,zln,e0]
  exact ⟨_,rfl,fun h => by first | exact h.elim | simp at h⟩
 rw [e0] at hm
 cases e1 : zat f
 ·have hs:=zp1 f hf level e1
  have e2 : zg7 f tree = false:=by simp [zg7,e1]
  simp -implicitDefEqProofs only [go_sem] at hm hs
  simp -implicitDefEqProofs only [go_sem,zaN,hm,zln,e0,e2,xl zbi rfl,zbg,hs]
  exact ⟨_,rfl,fun h => by first | exact h.elim | simp at h⟩
 have hs:=zrt f hf level e1 tree hT.1 (hT.2 e1)
 cases e2 : zd2 (zM (zl f)) tree 0 f.blocks
 ·have e2' : zg7 f tree = false:=by simp [zg7,e2]
  rw [e2] at hs
  simp -implicitDefEqProofs only [go_sem] at hm hs
  simp -implicitDefEqProofs only [go_sem,zaN,hm,zln,e0,e2',xl zbi rfl,zbg,hs]
  exact ⟨_,rfl,fun h => by first | exact h.elim | simp at h⟩
 have e2' : zg7 f tree = true:=by simp [zg7,e1,e2]
 have hab:=zzJ e2
 have ht:=zwP f level (xS (zl f)) (xS (zM (zl f))) (zS tree) (.f (.lit (.map none))) [O0 f,zxE f level (xS (zl f)) (xS (zM (zl f))) (zS tree) (.f (.lit (.map none))),O2] rfl (by unfold Ok; simp -implicitDefEqProofs only [go_sem]) hf
 rw [e2] at hs
 cases e3 : zfk f level
 ·rw [e3] at ht
  simp -implicitDefEqProofs only [go_sem] at hm hs ht
  simp -implicitDefEqProofs only [go_sem,zaN,hm,zln,e0,e2',e3,xl zbi rfl,zbg,hs,ht]
  exact ⟨_,rfl,fun h => by first | exact h.elim | simp at h⟩
 rw [e3] at ht
 have hd:=ztx f hf level (zl f) (zM (zl f)) tree hab
 rcases e4 : zrv f with ⟨D,_ | G⟩
 ·rw [e4] at hd
  by_cases e5 : zU (zkH D) (ze4 f) = 0
  ·have hsh:=zuI f hf level (zl f) (zM (zl f)) tree hab D
   by_cases e6 : zU (zb8 D) (ze4 f) = 0
   ·have hpl:=zuh f hf level (zl f) (zM (zl f)) tree hab hT.1 D
    by_cases e7 : zU (za0 D tree) (ze4 f) = 0
    ·simp -implicitDefEqProofs only [go_sem,e5,e6,e7] at hm hs ht hd hsh hpl
     simp -implicitDefEqProofs only [go_sem,zaN,hm,zln,e0,e2',e3,e4,e5,e6,e7,xl zbi rfl,zbg,hs,ht,hd,hsh,hpl,z7,ne_eq]
     exact ⟨_,rfl,fun _ => rfl⟩
    ·simp -implicitDefEqProofs only [go_sem,e5,e6] at hm hs ht hd hsh hpl
     simp -implicitDefEqProofs only [go_sem,zaN,hm,zln,e0,e2',e3,e4,e5,e6,e7,xl zbi rfl,zbg,hs,ht,hd,hsh,hpl,z7,ne_eq]
     exact ⟨_,rfl,fun h => by first | exact absurd h e7 | exact h.elim⟩
   ·simp -implicitDefEqProofs only [go_sem,e5] at hm hs ht hd hsh
    simp -implicitDefEqProofs only [go_sem,zaN,hm,zln,e0,e2',e3,e4,e5,e6,xl zbi rfl,zbg,hs,ht,hd,hsh,z7,ne_eq]
    exact ⟨_,rfl,fun h => by first | exact absurd h e6 | exact h.elim⟩
  ·simp -implicitDefEqProofs only [go_sem] at hm hs ht hd
   simp -implicitDefEqProofs only [go_sem,zaN,hm,zln,e0,e2',e3,e4,e5,xl zbi rfl,zbg,hs,ht,hd,z7,ne_eq]
   exact ⟨_,rfl,fun h => by first | exact absurd h e5 | exact h.elim⟩
 ·rw [e4] at hd
  simp -implicitDefEqProofs only [go_sem] at hm hs ht hd
  simp -implicitDefEqProofs only [go_sem,zaN,hm,zln,e0,e2',e3,e4,xl zbi rfl,zbg,hs,ht,hd,z7,ne_eq]
  exact ⟨_,rfl,fun h => by first | exact h.elim | simp at h⟩
end AC
namespace AC
open Go Go.A Go.A.Lex
def zpl (f : PFunc) (level : Int) (tree : List Int) : Int:=if level < 0 ∨ 2 < level then 1 else zln f level tree
@[go_sem] theorem zwT (f : PFunc) (hf : okF f) (level : Int) (tree : List Int) (hT : ztM f tree) : call T 51 [zgS f,vI level] [] = some (vI (zpl f level tree),[]):=by
  rw [ze (fn:=zfo) rfl]
  by_cases c1 : level < 0
  ·simp -implicitDefEqProofs only [go_sem,zfo,zpl,c1]
  by_cases c2 : 2 < level
  ·simp -implicitDefEqProofs only [go_sem,zfo,zpl,c1,c2]
  obtain ⟨σ',h,_⟩:=zyJ f hf level tree hT
  simp -implicitDefEqProofs only [go_sem] at h
  simp -implicitDefEqProofs only [go_sem,zfo,zpl,c1,c2,h]
end AC

/- A part of the proof of AliasTells. Conditions: none. -/
import Derived.Test.YtmkncmffaaninaaGreatLAN
import Derived.Test.YtmkncmffaaninaaGreatLAJ
set_option linter.all false
open List renaming drop_eq_getElem_cons → ya,length_map → yb,drop_length → yd,getElem_mem → yg,drop_zero → yh,replicate → yi,all_cons → yj,take_of_length_le → yl,find?_cons → ym,getElem?_eq_some_iff → yo,all_nil → yp,length_cons → yq,map_cons → yr,set_append_right → yt,length_replicate → yu,count_cons_self → yv,range → yw,map_append → yx,length → yy,map_nil → yz,getElem_cons_succ → yA,sum_cons → yB,mem_cons → yC,count_cons_of_ne → yE,getElem?_eq_none → yF,range_succ → yG,take_succ_cons → yH,length_append → yK,take_append → yO,foldl_cons → yP,find?_nil → yQ,take_zero → yR,any_cons → yT,map_set → yW,map → yY
open Int renaming natCast_zero → yc,lt_irrefl → ye,natCast_nonneg → yI,toNat_natCast → yL,reduceEq → yN
open Bool renaming and_eq_true → yf,and_true → yk,or_eq_false_iff → yn,not_eq_true' → ys,and_eq_false_iff → yD,and_false → yJ,not_eq_false → yM,not_not → yV,not_or → yX
open Nat renaming add_assoc → yS,add_comm → yU
namespace AC
open Go Go.A Go.A.Lex
def zeO (o : POp) : Bool:=zdS o.bits o.lanes && ((zr o).2 && ((if zdr o.kind then decide (o.dst = 0) else value o.dst) && (decide ((zr o).1.length = o.args.length) && !o.args.any fun v => !value v)))
@[go_sem] theorem zBW (v : Int) (σ : zd) : call T 254 [vI v] σ = some (vB (!value v),σ):=by
  rw [ze (fn:=zlA) rfl];simp -implicitDefEqProofs only [go_sem,zlA]
@[go_sem] theorem zkI (o : POp) (i : zFs o) (j : o.args.length ≤ 4294967296) : call T 236 [vOp o] [] = some (vB (zeO o),[]):=by
  rw [ze (fn:=zdL) rfl];cases a : zdS o.bits o.lanes
  ·simp -implicitDefEqProofs only [go_sem,zdL,zeO,a]
  have c:=ztB o a i;have h:=fun σ => zbm o.args (fun v => !value v) 254 [] [] σ j (fun x _ => by simp -implicitDefEqProofs only [go_sem]);simp -implicitDefEqProofs only [go_sem,zcF] at c h;cases d : (zr o).2
  ·cases b : zdr o.kind
   ·simp -implicitDefEqProofs only [go_sem,zdL,zeO,a,c,d,b]
   ·simp -implicitDefEqProofs only [go_sem,zdL,zeO,a,c,d,b]
  ·cases b : zdr o.kind
   ·cases e : value o.dst
    ·simp -implicitDefEqProofs only [go_sem,zdL,zeO,a,c,d,b,e]
    ·by_cases g : (zr o).1.length = o.args.length
     ·simp -implicitDefEqProofs only [go_sem,zdL,zeO,a,c,d,b,e,g,h]
     ·have f : ¬ ((zr o).1.length : Int) = (o.args.length : Int):=by omega
      simp -implicitDefEqProofs only [go_sem,zdL,zeO,a,c,d,b,e,g,f]
   ·by_cases e : o.dst = 0
    ·by_cases g : (zr o).1.length = o.args.length
     ·simp -implicitDefEqProofs only [go_sem,zdL,zeO,a,c,d,b,eq_true e,g,h]
     ·have f : ¬ ((zr o).1.length : Int) = (o.args.length : Int):=by omega
      simp -implicitDefEqProofs only [go_sem,zdL,zeO,a,c,d,b,eq_true e,g,f]
    ·simp -implicitDefEqProofs only [go_sem,zdL,zeO,a,c,d,b,e]
theorem zz8 {o : POp} (h : zeO o = true) : zdS o.bits o.lanes = true:=by
 simp only [zeO,yf] at h;exact h.1
def zaa (o : POp) : List (Int × Int):=if zeO o = true then (zr o).1 else []
@[go_sem] theorem zsh (o : POp) (a : zFs o) (c : o.args.length ≤ 4294967296) : call T 238 [vOp o] [] = some (vSs (zaa o),[]):=by
  rw [ze (fn:=zjj) rfl];have hm:=zkI o a c;cases h : zeO o
  ·simp -implicitDefEqProofs only [go_sem,h] at hm
   simp -implicitDefEqProofs only [go_sem,zjj,hm,zaa,h]
  ·have b:=ztB o (zz8 h) a
   simp -implicitDefEqProofs only [go_sem,h,zcF] at hm b;simp -implicitDefEqProofs only [go_sem,zjj,hm,b,zaa,h]
def zJ (o : POp) : Int × Int :=
 if zeO o = false ∨ zdr o.kind = true then (0,0) else if 10 ≤ o.kind ∧ o.kind ≤ 12 then (1,1) else if o.kind = 22 then (o.bits,1) else (o.bits,o.lanes)
@[go_sem] theorem zr6 (o : POp) (e : zFs o) (f : o.args.length ≤ 4294967296) : call T 206 [vOp o] [] = some (.tup [vI (zJ o).1,vI (zJ o).2],[]):=by
  rw [ze (fn:=zdW) rfl];have hm:=zkI o e f;cases h : zeO o
  ·simp -implicitDefEqProofs only [go_sem,h] at hm
   simp -implicitDefEqProofs only [go_sem,zdW,hm,zJ,h]
  ·simp -implicitDefEqProofs only [go_sem,h] at hm
   cases a : zdr o.kind
   ·by_cases c : 10 ≤ o.kind
    ·by_cases d : o.kind ≤ 12
     ·simp -implicitDefEqProofs only [go_sem,zdW,hm,zJ,h,a,c,d]
     ·by_cases b : o.kind = 22
      ·simp -implicitDefEqProofs only [b] at a hm c d
       simp -implicitDefEqProofs only [go_sem,zdW,hm,zJ,h,a,c,d,b]
      ·simp -implicitDefEqProofs only [go_sem,zdW,hm,zJ,h,a,c,d,b,and_false]
    ·have b : ¬ o.kind = 22:=by omega
     simp -implicitDefEqProofs only [go_sem,zdW,hm,zJ,h,a,c,b,false_and]
   ·simp -implicitDefEqProofs only [go_sem,zdW,hm,zJ,h,a]
def impure (k : Int) : Bool:=decide (k = 4) || decide (k = 16) || decide (k = 17) || decide (k = 18) || decide (k = 19) || decide (k = 20)
def pure (k : Int) : Bool:=!impure k && (decide (0 ≤ k) && decide (k ≤ 22))
def num (n : Int) : Bool:=decide (0 ≤ n) && decide (n ≤ 2147483647)
@[go_sem] theorem zEZ (n : Int) (σ : zd) : call T 192 [vI n] σ = some (vB (!num n),σ):=by
  rw [ze (fn:=ziq) rfl]
  by_cases c : n < 0
  ·have a : ¬ 0 ≤ n:=by omega
   simp -implicitDefEqProofs only [go_sem,ziq,num,c,a]
  ·have a : 0 ≤ n:=by omega
   by_cases d : 2147483647 < n
   ·have b : ¬ n ≤ 2147483647:=by omega
    simp -implicitDefEqProofs only [go_sem,ziq,num,c,a,d,b]
   ·have b : n ≤ 2147483647:=by omega
    simp -implicitDefEqProofs only [go_sem,ziq,num,c,a,d,b]
theorem zqP {α : Type} (p : α → Bool) (l : List α) : (!l.any fun x => !p x) = l.all p:=by
 induction l with
 | nil => rfl
 | cons x r ih => simp only [yT,yj,← ih,yX,yV]
@[go_sem] theorem zhB (l : List Int) (b : l.length ≤ 4294967296) : call T 152 [vIs l] [] = some (vB (l.all num),[]):=by
  rw [ze (fn:=zqL) rfl];have a:=fun σ => zbm l (fun v => !num v) 192 [] [] σ b (fun x _ => by simp -implicitDefEqProofs only [go_sem]);simp -implicitDefEqProofs only [go_sem] at a;simp -implicitDefEqProofs only [go_sem,zqL,a,zqP]
theorem zuy (a : Int) : call T 152 [vL [[ei a]]] [] = some (vB (num a),[]):=by
 have:=zhB [a] (by simp);simpa only [vIs,yr,yz,ri,yj,yp,yk] using this
theorem zoJ (a b : Int) : call T 152 [vL [[ei a],[ei b]]] [] = some (vB (num a && num b),[]):=by
 have:=zhB [a,b] (by simp);simpa only [vIs,yr,yz,ri,yj,yp,yk] using this
theorem zuw (a b c d : Int) : call T 152 [vL [[ei a],[ei b],[ei c],[ei d]]] [] = some (vB (num a && (num b && (num c && num d))),[]):=by
 have:=zhB [a,b,c,d] (by simp);simpa only [vIs,yr,yz,ri,yj,yp,yk] using this
def zgf (l : List Int) : Bool:=decide (l.length ≤ 64) && l.all num
theorem zrz (a : List (List Int)) (j : a.length ≤ 4294967296) (h : ∀ l ∈ a,l.length ≤ 4294967296) : ∀ (d k : Nat) (a0 a1 a2 a6 a7 : V),a.length - k = d → k ≤ a.length →
  exec T zh8 ⟨[a0,a1,a2,vLs a,vI a.length,vI k,a6,a7],[],0,0⟩ =
   some (if (a.drop k).all zgf = true then (.exit 0,⟨[vU,vU,vU,vU,vU,vU,vU,vU],[],0,0⟩) else (.ret,⟨[vU,vB false,vU,vU,vU,vU,vU,vU],[],0,0⟩)):=by
 intro d
 induction d with
 | zero =>
   intro k a0 a1 a2 a6 a7 i m;have b : k = a.length:=(by omega);subst b;rw [xl zh8 rfl,zj9];simp -implicitDefEqProofs only [go_sem,ye,yd,yp]
 | succ d ih =>
   intro k a0 a1 a2 a6 a7 i m;have b : k < a.length:=(by omega);have hd : a.drop k = a[k] :: a.drop (k + 1):=ya b;have g:=zhB a[k] (h _ (yg b));rw [xl zh8 rfl,zj9,hd]
   by_cases c : a[k].length ≤ 64
   ·have e : ¬ (64 : Int) < (a[k].length : Int):=by omega
    cases f : a[k].all num
    ·simp -implicitDefEqProofs only [go_sem,f] at g
     simp -implicitDefEqProofs only [go_sem,ilt b,zt b,rl,e,g,zgf,c,f]
    ·simp -implicitDefEqProofs only [go_sem,f] at g
     simp -implicitDefEqProofs only [go_sem,ilt b,zt b,rl,e,g,zgf,c,f,za b j];exact ih (k + 1) _ _ _ _ _ (by omega) (by omega)
   ·have e : (64 : Int) < (a[k].length : Int):=by omega
    simp -implicitDefEqProofs only [go_sem,ilt b,zt b,rl,e,zgf,c]
theorem zlK (a : List (List Int)) (c : a.length ≤ 4294967296) (b : ∀ l ∈ a,l.length ≤ 4294967296) : call T 194 [vLs a] [] = some (vB (a.all zgf),[]):=by
 rw [ze (fn:=zlU) rfl];have h:=fun a0 a1 a2 a6 a7 => zrz a c b a.length 0 a0 a1 a2 a6 a7 (by omega) (by omega);simp only [yh,yc] at h;cases d : a.all zgf <;> simp -implicitDefEqProofs only [go_sem,d] at h <;> simp -implicitDefEqProofs only [go_sem,zlU,h]
theorem ze4 {α : Type} {p : α → Bool} {l : List α} (h : l.find? (fun x => !p x) = none) : l.all p = true:=by
 simp only [List.find?_eq_none,ys,yM] at h;simpa [List.all_eq_true] using h
theorem zfp {α : Type} {p : α → Bool} {l : List α} {x : α} (h : l.find? (fun x => !p x) = some x) : l.all p = false:=by
 have a:=List.find?_some h;have b:=List.mem_of_find?_eq_some h;simp only [ys] at a;exact List.all_eq_false.2 ⟨x,b,by simp [a]⟩
section ends
variable {α : Type} (σ r : List α) (o p q' : α)
theorem zGW : (σ ++ o :: r)[σ.length]? = some o:=by simp
theorem zFE : (σ ++ o :: p :: r)[σ.length + 1]? = some p:=by simp
theorem zGY : (σ ++ o :: p :: q' :: r)[σ.length + 2]? = some q':=by simp
theorem zuP (x : α) : (σ ++ o :: r).set σ.length x = σ ++ x :: r:=by simp [yt]
theorem zGw (x : α) : (σ ++ o :: p :: r).set (σ.length + 1) x = σ ++ o :: x :: r:=by simp [yt]
theorem zFh (x : α) : (σ ++ o :: p :: q' :: r).set (σ.length + 2) x = σ ++ o :: p :: x :: r:=by simp [yt]
theorem zCU : (σ ++ r).take σ.length = σ:=by simp
theorem zBO : (σ ++ o :: r).take (σ.length + 1) = σ ++ [o]:=by simp [yO,yl]
theorem zEd : (σ ++ o :: p :: r).take (σ.length + 2) = σ ++ [o,p]:=by simp [yO,yl]
end ends
theorem zIE (n : Nat) : (n + 1 ≤ n) = False:=by simp
theorem zHB (n : Nat) : (n + 2 ≤ n) = False:=by simp
theorem zIN (n : Nat) : (n + 3 ≤ n) = False:=by simp
theorem zIU (n : Nat) : (n + 4 ≤ n) = False:=by simp
theorem zIm (n : Nat) : (n + 5 ≤ n) = False:=by simp
theorem zpy (n : Nat) : ∀ (a b : List Ob),Obs.lt n (a ++ b) = (Obs.lt n a && Obs.lt n b)
 | [],b => by simp [Obs.lt]
 | x :: a,b => by simp [Obs.lt,zpy n a b,Bool.and_assoc]
attribute [go_sem] zGW zFE zGY zuP zGw zFh zCU zBO zEd zIE zHB zIN zIU zIm zpy List.take_left'
def ziU (p : PPhi) : Bool:=(num p.bits && num p.dst) && (zgf p.src && zgf p.args)
def zh5 (o : POp) : Bool:=(num o.kind && (num o.bits && (num o.lanes && num o.dst))) && zgf o.args
def zpJ (b : PBlock) : Bool:=(num b.kind && num b.arg) && zgf b.to
def zsq (b : PBlock) : Bool:=b.phis.all ziU && (b.ops.all zh5 && zpJ b)
def zJr (p : PPhi) : Prop:=p.src.length ≤ 4294967296 ∧ p.args.length ≤ 4294967296
def ztZ (o : POp) : Prop:=zFs o ∧ o.args.length ≤ 4294967296
structure okB (b : PBlock) : Prop where
 phis : b.phis.length ≤ 4294967296
 ops : b.ops.length ≤ 4294967296
 phi : ∀ p ∈ b.phis,zJr p
 op : ∀ o ∈ b.ops,ztZ o
 to : b.to.length ≤ 4294967296
theorem zrQ (a : List Int) (b : a.length ≤ 4294967296) : call T 194 [vL [[eI a]]] [] = some (vB (zgf a),[]):=by
 have:=zlK [a] (by simp) (by simpa using b);simpa only [vLs,yr,yz,rl,yj,yp,yk] using this
theorem zxl (a b : List Int) (c : a.length ≤ 4294967296) (hb : b.length ≤ 4294967296) : call T 194 [vL [[eI a],[eI b]]] [] = some (vB (zgf a && zgf b),[]):=by
 have:=zlK [a,b] (by simp) (by simpa using ⟨c,hb⟩);simpa only [vLs,yr,yz,rl,yj,yp,yk] using this
section
variable (b : PBlock) (hb : okB b)
include hb
theorem zyj : ∀ (d k : Nat) (a0 a2 a3 a4 a8 a9 g c f e h : V),b.phis.length - k = d → k ≤ b.phis.length →
  exec T zf7 ⟨[a0,.one (.ptr 0 0 0 0),a2,a3,a4,vL (b.phis.map rp),vI b.phis.length,vI k,a8,a9,g,c,f,e,h],[.cells 0 5 [zx b]],0,0⟩ =
   some (match (b.phis.drop k).find? (fun x => !ziU x) with | none => (.exit 0,⟨[vU,.one (.ptr 0 0 0 0),vU,vU,vU,vU,vU,vU,vU,vU,vU,vU,vU,vU,vU],[.cells 0 5 [zx b]],0,0⟩) | some x => (.ret,⟨[vU,vU,vB false,vU,vU,vU,vU,vU,vU,vU,vU,vU,vU,vU,vU],[.cells 0 5 [zx b],.cells 0 4 [zyy x]],0,0⟩)):=by
 intro d
 induction d with
 | zero =>
   intro k a0 a2 a3 a4 a8 a9 g c f e h l j;have a : k = b.phis.length:=(by omega);subst a;rw [xl zf7 rfl,zhF];simp -implicitDefEqProofs only [go_sem,ye,yd,yQ]
 | succ d ih =>
   intro k a0 a2 a3 a4 a8 a9 g c f e h l j;have a : k < b.phis.length:=(by omega);have hd : b.phis.drop k = b.phis[k] :: b.phis.drop (k + 1):=ya a;have i:=hb.phi _ (yg a);have c1:=zoJ b.phis[k].bits b.phis[k].dst;have c2:=zxl b.phis[k].src b.phis[k].args i.1 i.2;rw [xl zf7 rfl,zhF,hd];cases e1 : (num b.phis[k].bits && num b.phis[k].dst)
   ·simp -implicitDefEqProofs only [go_sem,e1] at c1 c2
    simp -implicitDefEqProofs only [go_sem,ilt a,zt a,rp,c1,c2,ziU,ym,e1]
   ·cases e2 : (zgf b.phis[k].src && zgf b.phis[k].args)
    ·simp -implicitDefEqProofs only [go_sem,e1,e2] at c1 c2
     simp -implicitDefEqProofs only [go_sem,ilt a,zt a,rp,c1,c2,ziU,ym,e1,e2]
    ·simp -implicitDefEqProofs only [go_sem,e1,e2] at c1 c2
     simp -implicitDefEqProofs only [go_sem,ilt a,zt a,rp,c1,c2,ziU,ym,e1,e2,za a hb.phis];exact ih (k + 1) _ _ _ _ _ _ _ _ _ _ _ (by omega) (by omega)
theorem zyc : ∀ (d k : Nat) (a0 a2 a3 a4 a5 a6 a7 a8 a9 c e : V),b.ops.length - k = d → k ≤ b.ops.length →
  exec T zf5 ⟨[a0,.one (.ptr 0 0 0 0),a2,a3,a4,a5,a6,a7,a8,a9,vL (b.ops.map ro),vI b.ops.length,vI k,c,e],[.cells 0 5 [zx b]],0,0⟩ =
   some (match (b.ops.drop k).find? (fun x => !zh5 x) with | none => (.exit 2,⟨[vU,.one (.ptr 0 0 0 0),vU,vU,vU,vU,vU,vU,vU,vU,vU,vU,vU,vU,vU],[.cells 0 5 [zx b]],0,0⟩) | some x => (.ret,⟨[vU,vU,vB false,vU,vU,vU,vU,vU,vU,vU,vU,vU,vU,vU,vU],[.cells 0 5 [zx b],.cells 0 6 [cOp x]],0,0⟩)):=by
 intro d
 induction d with
 | zero =>
   intro k a0 a2 a3 a4 a5 a6 a7 a8 a9 c e h g;have a : k = b.ops.length:=(by omega);subst a;rw [xl zf5 rfl,zhS];simp -implicitDefEqProofs only [go_sem,ye,yd,yQ]
 | succ d ih =>
   intro k a0 a2 a3 a4 a5 a6 a7 a8 a9 c e h g;have a : k < b.ops.length:=(by omega);have hd : b.ops.drop k = b.ops[k] :: b.ops.drop (k + 1):=ya a;have f:=hb.op _ (yg a);have c1:=zuw b.ops[k].kind b.ops[k].bits b.ops[k].lanes b.ops[k].dst;have c2:=zrQ b.ops[k].args f.2;rw [xl zf5 rfl,zhS,hd];cases e1 : (num b.ops[k].kind && (num b.ops[k].bits && (num b.ops[k].lanes && num b.ops[k].dst)))
   ·simp -implicitDefEqProofs only [go_sem,e1] at c1 c2
    simp -implicitDefEqProofs only [go_sem,ilt a,zt a,ro,c1,c2,zh5,ym,e1]
   ·cases e2 : zgf b.ops[k].args
    ·simp -implicitDefEqProofs only [go_sem,e1,e2] at c1 c2
     simp -implicitDefEqProofs only [go_sem,ilt a,zt a,ro,c1,c2,zh5,ym,e1,e2]
    ·simp -implicitDefEqProofs only [go_sem,e1,e2] at c1 c2
     simp -implicitDefEqProofs only [go_sem,ilt a,zt a,ro,c1,c2,zh5,ym,e1,e2,za a hb.ops];exact ih (k + 1) _ _ _ _ _ _ _ _ _ _ _ (by omega) (by omega)
set_option maxRecDepth 10000 in
@[go_sem] theorem zve : call T 155 [zr8 b] [] = some (vB (zsq b),[]):=by
  rw [ze (fn:=zdP) rfl];have a:=fun a0 a2 a3 a4 a8 a9 h f g c d => zyj b hb b.phis.length 0 a0 a2 a3 a4 a8 a9 h f g c d (by omega) (by omega);have e:=fun a0 a2 a3 a4 a5 a6 a7 a8 a9 c d => zyc b hb b.ops.length 0 a0 a2 a3 a4 a5 a6 a7 a8 a9 c d (by omega) (by omega);have c1:=zoJ b.kind b.arg;have c2:=zrQ b.to hb.to;simp only [yh,yc] at a e
  cases e1 : b.phis.find? (fun x => !ziU x) with
  | some x =>
    have a1:=zfp e1;simp -implicitDefEqProofs only [go_sem,e1] at a;simp -implicitDefEqProofs only [go_sem,zdP,a,zsq,a1]
  | none =>
  have a1:=ze4 e1
  cases e2 : b.ops.find? (fun x => !zh5 x) with
  | some x =>
    have a2:=zfp e2;simp -implicitDefEqProofs only [go_sem,e1,e2] at a e;simp -implicitDefEqProofs only [go_sem,zdP,a,e,zsq,a1,a2]
  | none =>
  have a2:=ze4 e2;simp -implicitDefEqProofs only [go_sem,e1,e2] at a e;cases e3 : (num b.kind && num b.arg)
  ·simp -implicitDefEqProofs only [go_sem,e3] at c1 c2
   simp -implicitDefEqProofs only [go_sem,zdP,a,e,c1,c2,zsq,zpJ,a1,a2,e3]
  ·simp -implicitDefEqProofs only [go_sem,e3] at c1 c2
   simp -implicitDefEqProofs only [go_sem,zdP,a,e,c1,c2,zsq,zpJ,a1,a2,e3]
end
@[go_sem] theorem zr9 (b : PBlock) (hb : okB b) (σ : zd) (a : Obs.lt σ.length σ = true) : call T 154 [zr8 b] σ = some (vB (!zsq b),σ):=by
  rw [ze (fn:=zlW) rfl];have h:=zve b hb;simp -implicitDefEqProofs only [go_sem] at h;simp -implicitDefEqProofs only [go_sem,zlW,h,a]
structure okF (f : PFunc) : Prop where
 params : f.params.length ≤ 4294967296
 blocks : f.blocks.length ≤ 4294967296
 block : ∀ b ∈ f.blocks,okB b
 small : (f.blocks.map fun b => b.phis.length + b.ops.length).sum ≤ 4294967296
def ziR (f : PFunc) : Nat:=f.blocks.length + (f.blocks.map fun b => b.phis.length + b.ops.length).sum
theorem zrj (l : List Nat) : ∀ k,(l.take k).sum ≤ l.sum:=by
 induction l with
 | nil => simp
 | cons x r ih =>
   intro k
   cases k with
   | zero => simp
   | succ k =>
     simp only [yH,yB];have:=ih k;omega
theorem zoH (l : List Nat) (k : Nat) (a : k < l.length) : (l.take (k + 1)).sum = (l.take k).sum + l[k]:=by
 induction l generalizing k with
 | nil => simp at a
 | cons x r ih =>
   cases k with
   | zero => simp
   | succ k =>
     simp only [yH,yB,yA];rw [ih k (by simpa using a)];omega
theorem zDt (f : PFunc) (g : okF f) : ∀ (d k : Nat) (a0 a1 a2 a4 a8 : V),f.blocks.length - k = d → k ≤ f.blocks.length →
  exec T ziV ⟨[a0,a1,a2,vI ((f.blocks.length + ((f.blocks.map fun b => b.phis.length + b.ops.length).take k).sum : Nat) : Int),a4,vL (f.blocks.map rb),vI f.blocks.length,vI k,a8],[.cells 0 3 [zaP f]],0,0⟩ =
   some (.exit 0,⟨[vU,vU,vU,vI (ziR f : Int),vU,vU,vU,vU,vU],[.cells 0 3 [zaP f]],0,0⟩):=by
 intro d
 induction d with
 | zero =>
   intro k a0 a1 a2 a4 a8 j i;have a : k = f.blocks.length:=(by omega);subst a;rw [xl ziV rfl,zlT];have e : (f.blocks.map fun b => b.phis.length + b.ops.length).take f.blocks.length = f.blocks.map fun b => b.phis.length + b.ops.length:=yl (by simp);simp -implicitDefEqProofs only [go_sem,ye,e,ziR]
 | succ d ih =>
   intro k a0 a1 a2 a4 a8 j i;have a : k < f.blocks.length:=(by omega);have c : k < (f.blocks.map fun b => b.phis.length + b.ops.length).length:=(by simpa using a);have e:=zoH (f.blocks.map fun b => b.phis.length + b.ops.length) k c;have e2:=zrj (f.blocks.map fun b => b.phis.length + b.ops.length) (k + 1);have e3:=g.small;have e4:=g.blocks;simp only [List.getElem_map] at e
   have h : Go.IntKind.i64.wrap ((f.blocks[k].phis.length : Int) + (f.blocks[k].ops.length : Int)) = ((f.blocks[k].phis.length + f.blocks[k].ops.length : Nat) : Int):=by
    rw [wrap_i64] <;> omega
   have l : Go.IntKind.i64.wrap (((f.blocks.length + ((f.blocks.map fun b => b.phis.length + b.ops.length).take k).sum : Nat) : Int) + ((f.blocks[k].phis.length + f.blocks[k].ops.length : Nat) : Int)) = ((f.blocks.length + ((f.blocks.map fun b => b.phis.length + b.ops.length).take (k + 1)).sum : Nat) : Int):=by
    rw [wrap_i64] <;> omega
   rw [xl ziV rfl,zlT];simp -implicitDefEqProofs only [go_sem,ilt a,zt a,rb,h,l,za a g.blocks];exact ih (k + 1) _ _ _ _ _ (by omega) (by omega)
@[go_sem] theorem zsB (f : PFunc) (a : okF f) : call T 151 [za9 f] [] = some (vI (ziR f : Int),[]):=by
  rw [ze (fn:=znJ) rfl];have h:=fun a0 a1 a2 a4 a8 => zDt f a f.blocks.length 0 a0 a1 a2 a4 a8 (by omega) (by omega);simp only [yR,List.sum_nil,Nat.add_zero,yc] at h;simp -implicitDefEqProofs only [go_sem] at h;simp -implicitDefEqProofs only [go_sem,znJ,h]
def zm8 (f : PFunc) : Bool :=
 !(decide (f.blocks.length < 1) || (decide (64 < f.blocks.length) || (decide (16 < f.params.length) || (decide (512 < ziR f) || (!num f.ret || !f.params.all num))))) && f.blocks.all zsq
@[go_sem] theorem zu1 (f : PFunc) (i : okF f) : call T 105 [za9 f] [] = some (vB (zm8 f),[]):=by
  rw [ze (fn:=zfz) rfl];have j:=zsB f i;have g:=zuy f.ret;have h:=zhB f.params i.params
  have k:=zkD f.blocks (fun b => !zsq b) 154 [] [] [.cells 0 3 [zaP f]] i.blocks (fun x m => by
   have:=zr9 x (i.block x m) [.cells 0 3 [zaP f]] rfl;simp -implicitDefEqProofs only [go_sem] at this
   simp -implicitDefEqProofs only [go_sem,this])
  have l : f.params.length ≤ 4294967296:=i.params;simp -implicitDefEqProofs only [go_sem] at j g k h
  by_cases c1 : f.blocks.length < 1
  ·have a : (f.blocks.length : Int) < 1:=by omega
   simp -implicitDefEqProofs only [go_sem,zfz,zm8,c1,a]
  have a : ¬ (f.blocks.length : Int) < 1:=by omega
  by_cases c2 : 64 < f.blocks.length
  ·have c : (64 : Int) < (f.blocks.length : Int):=by omega
   simp -implicitDefEqProofs only [go_sem,zfz,zm8,c1,a,c2,c]
  have c : ¬ (64 : Int) < (f.blocks.length : Int):=by omega
  by_cases c3 : 16 < f.params.length
  ·have d : (16 : Int) < (f.params.length : Int):=by omega
   simp -implicitDefEqProofs only [go_sem,zfz,zm8,c1,a,c2,c,c3,d]
  have d : ¬ (16 : Int) < (f.params.length : Int):=by omega
  by_cases c4 : 512 < ziR f
  ·have e : (512 : Int) < (ziR f : Int):=by omega
   simp -implicitDefEqProofs only [go_sem,zfz,zm8,c1,a,c2,c,c3,d,j,c4,e]
  have e : ¬ (512 : Int) < (ziR f : Int):=by omega
  cases c5 : num f.ret
  ·simp -implicitDefEqProofs only [go_sem,c5] at g
   simp -implicitDefEqProofs only [go_sem,zfz,zm8,c1,a,c2,c,c3,d,j,c4,e,g,c5]
  cases c6 : f.params.all num
  ·simp -implicitDefEqProofs only [go_sem,c5,c6] at g h
   simp -implicitDefEqProofs only [go_sem,zfz,zm8,c1,a,c2,c,c3,d,j,c4,e,g,h,c5,c6]
  simp -implicitDefEqProofs only [go_sem,c5,c6] at g h;simp -implicitDefEqProofs only [go_sem,zfz,zm8,c1,a,c2,c,c3,d,j,c4,e,g,h,c5,c6,k,zqP]
theorem zgX (b : Int) : call T 125 [vI b] [] = some (vB (zhe b),[]):=by
 rw [ze (fn:=zaO) rfl]
 by_cases c1 : b = 1
 ·simp -implicitDefEqProofs only [go_sem,zaO,zhe,c1]
 by_cases c2 : b = 8
 ·simp -implicitDefEqProofs only [go_sem,zaO,zhe,c1,c2]
 by_cases c3 : b = 16
 ·simp -implicitDefEqProofs only [go_sem,zaO,zhe,c1,c2,c3]
 by_cases c4 : b = 32
 ·simp -implicitDefEqProofs only [go_sem,zaO,zhe,c1,c2,c3,c4]
 by_cases c5 : b = 64 <;> simp -implicitDefEqProofs only [go_sem,zaO,zhe,c1,c2,c3,c4,c5]
theorem zyr (v b : Int) (f : 0 ≤ v) (g : v < 18446744073709551616) : call T 224 [zf4 v,vI b] [] = some (zf4 (zzU v b),[]):=by
 rw [ze (fn:=zar) rfl];have hm:=zgX b;have d : Go.IntKind.u64.bits = 64:=rfl;cases hw : zhe b
 ·simp -implicitDefEqProofs only [go_sem,hw] at hm
  simp -implicitDefEqProofs only [go_sem,zar,hm,zzU,hw]
 have t : ∀ n : Int,v.tmod n = v % n:=fun n => Int.tmod_eq_emod_of_nonneg f;simp -implicitDefEqProofs only [go_sem,hw] at hm;rcases zaW hw with rfl | rfl | rfl | rfl | rfl
 ·have c : IntKind.u64.wrap 1 = 1:=rfl
  have a : IntKind.u64.wrap (1 * 2 ^ min 1 64) = 2:=rfl;simp -implicitDefEqProofs only [go_sem,zar,hm,d,c,a,t,zzU,hw];rfl
 ·have c : IntKind.u64.wrap 8 = 8:=rfl
  have a : IntKind.u64.wrap (1 * 2 ^ min 8 64) = 256:=rfl;simp -implicitDefEqProofs only [go_sem,zar,hm,d,c,a,t,zzU,hw];rfl
 ·have c : IntKind.u64.wrap 16 = 16:=rfl
  have a : IntKind.u64.wrap (1 * 2 ^ min 16 64) = 65536:=rfl;simp -implicitDefEqProofs only [go_sem,zar,hm,d,c,a,t,zzU,hw];rfl
 ·have c : IntKind.u64.wrap 32 = 32:=rfl
  have a : IntKind.u64.wrap (1 * 2 ^ min 32 64) = 4294967296:=rfl;simp -implicitDefEqProofs only [go_sem,zar,hm,d,c,a,t,zzU,hw];rfl
 ·have e : v % 2 ^ (64 : Nat) = v:=by
   show v % 18446744073709551616 = v
   omega
  simp -implicitDefEqProofs only [go_sem,zar,hm,zzU,hw,Int.reduceToNat,e]
theorem zkN (v : Int) : call T 74 [vI v] [] = some (vB (value v),[]):=by
 rw [ze (fn:=zbl) rfl];have e1 : (v > 0) = (1 ≤ v):=by apply propext; omega
 have e2 : (v < 1024) = (v ≤ 1023):=by apply propext; omega
 by_cases c1 : 1 ≤ v
 ·have d1 : 0 < v:=by omega
  by_cases c2 : v ≤ 1023
  ·have d2 : v < 1024:=by omega
   simp -implicitDefEqProofs only [go_sem,zbl,value,c1,c2,eq_true d1,eq_true d2]
  ·have d2 : ¬ v < 1024:=by omega
   simp -implicitDefEqProofs only [go_sem,zbl,value,c1,c2,eq_true d1,d2]
 ·have d1 : ¬ 0 < v:=by omega
  simp -implicitDefEqProofs only [go_sem,zbl,value,c1,d1]
theorem zdq (n : Int) : call T 122 [vI n] [] = some (vB (num n),[]):=by
 rw [ze (fn:=zd5) rfl]
 by_cases c1 : 0 ≤ n
 ·simp -implicitDefEqProofs only [go_sem,zd5,num,eq_true c1]
 ·simp -implicitDefEqProofs only [go_sem,zd5,num,c1]
theorem zBx (a b : List Int) (l : a.length = b.length) (j : a.length ≤ 4294967296) : ∀ (d k : Nat) (a2 a4 a5 a6 : V),a.length - k = d → k ≤ a.length →
  exec T zaw ⟨[vIs a,vIs b,a2,vI k,a4,a5,a6],[],0,0⟩ = some (if a.drop k = b.drop k then (.exit 0,⟨[vU,vU,vU,vU,vU,vU,vU],[],0,0⟩) else (.ret,⟨[vU,vU,vB false,vU,vU,vU,vU],[],0,0⟩)):=by
 intro d
 induction d with
 | zero =>
   intro k a2 a4 a5 a6 i m;have f : k = a.length:=(by omega);subst f;have e : a.drop a.length = b.drop a.length:=(by rw [yd,l,yd]);rw [xl zaw rfl,zbk,if_pos e];simp -implicitDefEqProofs only [go_sem,ye,yb]
 | succ d ih =>
   intro k a2 a4 a5 a6 i m;have f : k < a.length:=(by omega);have g : k < b.length:=(by omega);have hd : a.drop k = a[k] :: a.drop (k + 1):=ya f;have h : b.drop k = b[k] :: b.drop (k + 1):=ya g;have:=ih (k + 1) vU vU vU vU (by omega) (by omega);rw [xl zaw rfl,zbk,hd,h];simp -implicitDefEqProofs only [go_sem] at this
   by_cases c : a[k] = b[k]
   ·simp -implicitDefEqProofs only [go_sem,ilt f,zt f,zt g,ri,yb,za f j,c,this,List.cons.injEq]
   ·simp -implicitDefEqProofs only [go_sem,ilt f,zt f,zt g,ri,yb,c,List.cons.injEq,false_and]
theorem zjk (a b : List Int) (f : a.length ≤ 4294967296) : call T 22 [vIs a,vIs b] [] = some (vB (decide (a = b)),[]):=by
 rw [ze (fn:=zaE) rfl]
 by_cases e : a.length = b.length
 ·have h:=fun a2 a4 a5 a6 => zBx a b e f a.length 0 a2 a4 a5 a6 (by omega) (by omega)
  simp only [yc,yh] at h;have d : (a.length : Int) = (b.length : Int):=by omega
  by_cases c : a = b
  ·simp -implicitDefEqProofs only [go_sem,c] at h
   simp -implicitDefEqProofs only [go_sem,zaE,h,c,yb]
  ·simp -implicitDefEqProofs only [go_sem,c] at h
   simp -implicitDefEqProofs only [go_sem,zaE,h,c,yb,d]
 ·have d : ¬ (a.length : Int) = (b.length : Int):=by omega
  have c : ¬ a = b:=fun h => e (by rw [h]);simp -implicitDefEqProofs only [go_sem,zaE,c,yb,d]
theorem zDq (l : List Int) (x : Int) (e : l.length ≤ 4294967296) : ∀ (d k : Nat) (a2 a4 a5 : V),l.length - k = d → k ≤ l.length →
  exec T zdB ⟨[vIs l,vI x,a2,vI k,a4,a5],[],0,0⟩ = some (if x ∈ l.drop k then (.ret,⟨[vU,vU,vB true,vU,vU,vU],[],0,0⟩) else (.exit 0,⟨[vU,vU,vU,vU,vU,vU],[],0,0⟩)):=by
 intro d
 induction d with
 | zero =>
   intro k a2 a4 a5 b g;have a : k = l.length:=(by omega);subst a;rw [xl zdB rfl,zfQ];simp -implicitDefEqProofs only [go_sem,ye,yb,yd,List.not_mem_nil]
 | succ d ih =>
   intro k a2 a4 a5 b g;have a : k < l.length:=(by omega);have hd : l.drop k = l[k] :: l.drop (k + 1):=ya a;have:=ih (k + 1) vU vU vU (by omega) (by omega);rw [xl zdB rfl,zfQ,hd];simp -implicitDefEqProofs only [go_sem] at this
   by_cases c : l[k] = x
   ·simp -implicitDefEqProofs only [go_sem,ilt a,zt a,ri,yb,c,yC]
   ·have f : ¬ x = l[k]:=fun h => c h.symm
    simp -implicitDefEqProofs only [go_sem,ilt a,zt a,ri,yb,za a e,c,f,this,yC]
theorem zno (l : List Int) (x : Int) (a : l.length ≤ 4294967296) : call T 66 [vIs l,vI x] [] = some (vB (decide (x ∈ l)),[]):=by
 rw [ze (fn:=zd9) rfl];have h:=fun a2 a4 a5 => zDq l x a l.length 0 a2 a4 a5 (by omega) (by omega);simp only [yc,yh] at h
 by_cases c : x ∈ l
 ·simp -implicitDefEqProofs only [go_sem,c] at h
  simp -implicitDefEqProofs only [go_sem,zd9,h,c]
 ·simp -implicitDefEqProofs only [go_sem,c] at h
  simp -implicitDefEqProofs only [go_sem,zd9,h,c]
theorem zAV (l : List Int) (f : l.length ≤ 4294967296) : ∀ (d k : Nat) (a1 a3 a4 : V),l.length - k = d → k ≤ l.length →
  exec T zcV ⟨[vIs l,a1,vI k,a3,a4],[],0,0⟩ = some (if (l.drop k).all num = true then (.exit 0,⟨[vIs l,vU,vU,vU,vU],[],0,0⟩) else (.ret,⟨[vU,vB false,vU,vU,vU],[],0,0⟩)):=by
 intro d
 induction d with
 | zero =>
   intro k a1 a3 a4 e g;have a : k = l.length:=(by omega);subst a;rw [xl zcV rfl,zff];simp -implicitDefEqProofs only [go_sem,ye,yb,yd,yp]
 | succ d ih =>
   intro k a1 a3 a4 e g;have a : k < l.length:=(by omega);have hd : l.drop k = l[k] :: l.drop (k + 1):=ya a;have:=ih (k + 1) vU vU vU (by omega) (by omega);have b:=zdq l[k];rw [xl zcV rfl,zff,hd,yj];simp -implicitDefEqProofs only [go_sem] at this;cases c : num l[k]
   ·simp -implicitDefEqProofs only [go_sem,c] at b
    simp -implicitDefEqProofs only [go_sem,ilt a,zt a,ri,yb,c,b]
   ·simp -implicitDefEqProofs only [go_sem,c] at b
    simp -implicitDefEqProofs only [go_sem,ilt a,zt a,ri,yb,za a f,c,b,this]
theorem zhx (l : List Int) (a : l.length ≤ 4294967296) : call T 121 [vIs l] [] = some (vB (zgf l),[]):=by
 rw [ze (fn:=zdw) rfl];have h:=fun a1 a3 a4 => zAV l a l.length 0 a1 a3 a4 (by omega) (by omega);simp only [yc,yh] at h;have e : ((l.length : Int) ≤ 64) = (l.length ≤ 64):=by apply propext; omega
 cases c : l.all num
 ·simp -implicitDefEqProofs only [go_sem,c] at h
  simp -implicitDefEqProofs only [go_sem,zdw,h,zgf,c,yJ]
 ·simp -implicitDefEqProofs only [go_sem,c] at h
  simp -implicitDefEqProofs only [go_sem,zdw,h,zgf,c,yb,e,yk]
theorem zu4 (b l : Int) : call T 170 [vI b,vI l] [] = some (vB (zdS b l),[]):=by
 rw [ze (fn:=zat) rfl];have a:=zgX b;cases hm : zhe b
 ·simp -implicitDefEqProofs only [go_sem,hm] at a
  simp -implicitDefEqProofs only [go_sem,zat,zdS,hm,a]
 simp -implicitDefEqProofs only [go_sem,hm] at a
 by_cases c1 : l = 1
 ·simp -implicitDefEqProofs only [go_sem,zat,zdS,hm,a,c1]
 cases c : zni l
 ·have d:=c
  simp only [zni,yn,decide_eq_false_iff_not] at d;obtain ⟨⟨⟨c2,c3⟩,c4⟩,c5⟩:=d;simp -implicitDefEqProofs only [go_sem,zat,zdS,hm,a,c1,c2,c3,c4,c5,c]
 ·have g:=zaW hm
  have e : (b > 1) = (8 ≤ b):=by apply propext; omega
  by_cases c8 : 8 ≤ b
  ·have c9 : 1 < b:=by omega
   rcases zgQ c with rfl | rfl | rfl | rfl
   all_goals
    have i : Go.IntKind.i64.wrap (b * 2) = b * 2:=wrap_i64 (by omega) (by omega);have j : Go.IntKind.i64.wrap (b * 4) = b * 4:=wrap_i64 (by omega) (by omega);have h : Go.IntKind.i64.wrap (b * 8) = b * 8:=wrap_i64 (by omega) (by omega);have f : Go.IntKind.i64.wrap (b * 16) = b * 16:=wrap_i64 (by omega) (by omega);simp -implicitDefEqProofs only [go_sem,zat,zdS,hm,a,c1,c,c8,eq_true c9,i,j,h,f]
  ·have c9 : ¬ 1 < b:=by omega
   rcases zgQ c with rfl | rfl | rfl | rfl
   all_goals simp -implicitDefEqProofs only [go_sem,zat,zdS,hm,a,c1,c,c8,c9]
set_option maxHeartbeats 8000000
def zhW (k : Int) : Bool:=decide (0 ≤ k) && decide (k ≤ 22)
theorem zjn {k : Int} (h : zhW k = true) : k = 0 ∨ k = 1 ∨ k = 2 ∨ k = 3 ∨ k = 4 ∨ k = 5 ∨ k = 6 ∨ k = 7 ∨ k = 8 ∨ k = 9 ∨ k = 10 ∨ k = 11 ∨ k = 12 ∨ k = 13 ∨ k = 14 ∨ k = 15 ∨ k = 16 ∨ k = 17 ∨ k = 18 ∨ k = 19 ∨ k = 20 ∨ k = 21 ∨ k = 22:=by
 simp only [zhW,yf,decide_eq_true_eq] at h;omega
def zFW (o : POp) : Int:=if zhW o.kind = true then ((zr o).1.length : Int) else -1
section
variable (o : POp) (hs : zdS o.bits o.lanes = true) (ho : zFs o)
include hs
theorem zvT : call T 171 [vOp o] [] = some (vI (zFW o),[]):=by
 rw [ze (fn:=zbG) rfl];obtain ⟨kind,bits,lanes,dst,args,a⟩:=o;obtain ⟨hm,h⟩:=zcI hs;dsimp only at *;cases c : zhW kind
 ·simp only [zhW,yD,decide_eq_false_iff_not] at c
  have b : zFW ⟨kind,bits,lanes,dst,args,a⟩ = -1:=by
   unfold zFW;rw [if_neg];simp only [zhW,yf,decide_eq_true_eq];omega
  have n0 : ¬ kind = 0:=by omega
  have g : ¬ kind = 1:=by omega
  have n2 : ¬ kind = 2:=by omega
  have f : ¬ kind = 3:=by omega
  have e : ¬ kind = 4:=by omega
  have n5 : ¬ kind = 5:=by omega
  have n6 : ¬ kind = 6:=by omega
  have n7 : ¬ kind = 7:=by omega
  have n8 : ¬ kind = 8:=by omega
  have n9 : ¬ kind = 9:=by omega
  have n10 : ¬ kind = 10:=by omega
  have n11 : ¬ kind = 11:=by omega
  have n12 : ¬ kind = 12:=by omega
  have n13 : ¬ kind = 13:=by omega
  have n14 : ¬ kind = 14:=by omega
  have n15 : ¬ kind = 15:=by omega
  have n16 : ¬ kind = 16:=by omega
  have n17 : ¬ kind = 17:=by omega
  have n18 : ¬ kind = 18:=by omega
  have n19 : ¬ kind = 19:=by omega
  have n20 : ¬ kind = 20:=by omega
  have n21 : ¬ kind = 21:=by omega
  have n22 : ¬ kind = 22:=by omega
  rw [b];simp -implicitDefEqProofs only [go_sem,zbG,n0,g,n2,f,e,n5,n6,n7,n8,n9,n10,n11,n12,n13,n14,n15,n16,n17,n18,n19,n20,n21,n22]
 ·have d : ((lanes.toNat : Nat) : Int) = lanes:=by omega
  rcases zjn c with rfl | rfl | rfl | rfl | rfl | rfl | rfl | rfl | rfl | rfl | rfl | rfl | rfl | rfl | rfl | rfl | rfl | rfl | rfl | rfl | rfl | rfl | rfl
  all_goals first
   | (simp -implicitDefEqProofs only [go_sem,zbG,zFW,zhW,zr,arith,asks,yu,d]; done)
   | (simp -implicitDefEqProofs only [go_sem,zbG,zFW,zhW,zr,arith,asks,yu,d]; rfl)
include ho
theorem zwq (k : zhW o.kind = true) : call T 172 [vOp o] [] = some (vB (zr o).2,[]):=by
 rw [ze (fn:=za7) rfl];obtain ⟨kind,bits,lanes,dst,args,a⟩:=o;obtain ⟨hm,n⟩:=zcI hs;obtain ⟨j,m⟩:=ho;dsimp only at *;have l:=zaW hm;have h:=zyr a bits j m;have c : Go.IntKind.u64.wrap bits = bits:=wrap_u64 (by omega) (by omega);have e : Go.IntKind.u64.wrap lanes = lanes:=wrap_u64 (by omega) (by omega);have e8 : (bits < 8) = (¬ 8 ≤ bits):=by apply propext; omega
 have el : (lanes < 2) = (lanes = 1):=by apply propext; omega
 simp -implicitDefEqProofs only [go_sem] at h
 by_cases b : kind = 14 ∨ kind = 15
 ·by_cases d1 : lanes = 1
  ·by_cases d2 : a ≤ 64
   ·have g : Go.IntKind.i64.wrap a = a:=wrap_i64 (by omega) (by omega)
    have i:=zgX a;simp -implicitDefEqProofs only [go_sem] at i
    by_cases d3 : a < bits <;> by_cases d4 : bits < a <;> rcases b with rfl | rfl <;> simp -implicitDefEqProofs only [go_sem,za7,zr,arith,asks,d1,d2,d3,d4,c,g,i]
   ·have d3 : ¬ a < bits:=by omega
    have d4 : bits < a:=(by omega);rcases b with rfl | rfl <;> simp -implicitDefEqProofs only [go_sem,za7,zr,arith,asks,d1,d2,d3,eq_true d4,c]
  ·rcases b with rfl | rfl <;> simp -implicitDefEqProofs only [go_sem,za7,zr,arith,asks,d1]
 ·rcases zjn k with rfl | rfl | rfl | rfl | rfl | rfl | rfl | rfl | rfl | rfl | rfl | rfl | rfl | rfl | rfl | rfl | rfl | rfl | rfl | rfl | rfl | rfl | rfl
  all_goals first
   | exact absurd (.inl rfl) b
   | exact absurd (.inr rfl) b
   | (simp -implicitDefEqProofs only [go_sem,za7,zr,arith,asks,h,e,c] <;> by_cases d1 : lanes = 1 <;> have d : (lanes < 2) = (lanes = 1):=el <;> simp only [d1,eq_self] at d <;> by_cases d8 : 8 ≤ bits <;> have f : (bits < 8) = ¬ 8 ≤ bits:=e8 <;> simp only [d8,not_true_eq_false,not_false_eq_true] at f <;> by_cases di : a = 0 <;> simp -implicitDefEqProofs only [go_sem,d1,d,d8,f,di,h,e,c])
theorem zEj (f : o.args.length ≤ 4294967296) : ∀ (d k : Nat) (a0 a2 a4 a5 a6 a7 : V),o.args.length - k = d → k ≤ o.args.length →
  exec T zdx ⟨[a0,.one (.ptr 0 0 0 0),a2,vI k,a4,a5,a6,a7],[.cells 0 6 [cOp o]],0,0⟩ = some (if (o.args.drop k).all value = true then (.exit 0,⟨[vU,.one (.ptr 0 0 0 0),vU,vU,vU,vU,vU,vU],[.cells 0 6 [cOp o]],0,0⟩) else (.ret,⟨[vU,vU,vB false,vU,vU,vU,vU,vU],[.cells 0 6 [cOp o]],0,0⟩)):=by
 intro d
 induction d with
 | zero =>
   intro k a0 a2 a4 a5 a6 a7 e g;have a : k = o.args.length:=(by omega);subst a;rw [xl zdx rfl,zfI];simp -implicitDefEqProofs only [go_sem,ye,yb,yd,yp]
 | succ d ih =>
   intro k a0 a2 a4 a5 a6 a7 e g;have a : k < o.args.length:=(by omega);have hd : o.args.drop k = o.args[k] :: o.args.drop (k + 1):=ya a;have:=ih (k + 1) vU vU vU vU vU vU (by omega) (by omega);have b:=zkN o.args[k];rw [xl zdx rfl,zfI,hd,yj];simp -implicitDefEqProofs only [go_sem] at this;cases c : value o.args[k]
   ·simp -implicitDefEqProofs only [go_sem,c] at b
    simp -implicitDefEqProofs only [go_sem,ilt a,zt a,ri,yb,c,b]
   ·simp -implicitDefEqProofs only [go_sem,c] at b
    simp -implicitDefEqProofs only [go_sem,ilt a,zt a,ri,yb,za a f,c,b,this]
end
theorem zCp (l : List Int) : (!l.any fun v => !value v) = l.all value:=by
 induction l with
 | nil => rfl
 | cons x l ih => rw [yT,yj,yX,yV,ih]
theorem zrG {o : POp} (h : zhW o.kind = false) : (zr o).2 = false:=by
 simp only [zhW,yD,decide_eq_false_iff_not] at h
 have a1 : arith o.kind = false:=by
  simp only [arith,yn,decide_eq_false_iff_not];omega
 have a2 : asks o.kind = false:=by
  simp only [asks,yn,decide_eq_false_iff_not];omega
 unfold zr;simp only [a1,a2];rw [if_neg (by omega),if_neg (by simp),if_neg (by simp),if_neg (by omega),if_neg (by omega),if_neg (by omega),if_neg (by omega),if_neg (by omega),if_neg (by omega),if_neg (by omega),if_neg (by omega),if_neg (by omega)]
theorem znD (o : POp) (ho : ztZ o) : call T 126 [vOp o] [] = some (vB (zeO o),[]):=by
 rw [ze (fn:=zU) rfl];have c:=zu4 o.bits o.lanes;cases hs : zdS o.bits o.lanes
 ·simp -implicitDefEqProofs only [go_sem,hs] at c
  simp -implicitDefEqProofs only [go_sem,zU,zeO,hs,c]
 have b:=zvT o hs;have h:=fun a0 a2 a4 a5 a6 a7 => zEj o hs ho.1 ho.2 o.args.length 0 a0 a2 a4 a5 a6 a7 (by omega) (by omega);have p:=zkN o.dst;have a:=zCp o.args;simp only [yc,yh] at h;simp -implicitDefEqProofs only [go_sem,hs] at c b p;cases m : zhW o.kind
 ·have q:=zrG m
  have e : zFW o = -1:=by unfold zFW; rw [m]; rfl
  have n : ¬ (-1 : Int) = (o.args.length : Int):=by omega
  simp -implicitDefEqProofs only [e] at b;simp -implicitDefEqProofs only [go_sem,zU,zeO,hs,c,b,q,n,yb]
 have d:=zwq o hs ho.1 m;have e : zFW o = ((zr o).1.length : Int):=by unfold zFW; rw [m]; rfl
 simp -implicitDefEqProofs only [go_sem,e] at b d
 by_cases j : (zr o).1.length = o.args.length
 ·have l : ((zr o).1.length : Int) = (o.args.length : Int):=by omega
  cases g : (zr o).2
  ·simp -implicitDefEqProofs only [g] at d
   simp -implicitDefEqProofs only [go_sem,zU,zeO,hs,c,b,d,g,j,yb]
  ·simp -implicitDefEqProofs only [g] at d
   cases i : o.args.all value
   ·simp -implicitDefEqProofs only [go_sem,i] at h
    simp -implicitDefEqProofs only [go_sem,zU,zeO,hs,c,b,d,g,j,h,a,i,yb,yJ]
   ·simp -implicitDefEqProofs only [go_sem,i] at h
    by_cases f : o.kind = 17
    ·simp -implicitDefEqProofs only [go_sem,zU,zeO,hs,c,b,d,g,j,h,a,i,yb,zdr,eq_true f,yk]
    ·by_cases k : o.kind = 19
     ·simp -implicitDefEqProofs only [go_sem,zU,zeO,hs,c,b,d,g,j,h,a,i,yb,zdr,f,eq_true k,yk]
     ·simp -implicitDefEqProofs only [go_sem,zU,zeO,hs,c,b,d,p,g,j,h,a,i,yb,zdr,f,k,yk]
 ·have l : ¬ ((zr o).1.length : Int) = (o.args.length : Int):=by omega
  simp -implicitDefEqProofs only [go_sem,zU,zeO,hs,c,b,j,l,yb,yJ]
end AC
namespace AC
open Go Go.A Go.A.Lex
mutual
theorem zzA {n m : Nat} (h : n ≤ m) : ∀ c : C,c.lt n = true → c.lt m = true
 | .f _,_ => rfl
 | .ap t _ _,e => by simp only [C.lt,decide_eq_true_eq] at e ⊢; omega
 | .ptr id _ _ _,e => by simp only [C.lt,decide_eq_true_eq] at e ⊢; omega
 | .fp _ _,_ => rfl
 | .own id _ _ _,e => by simp only [C.lt,decide_eq_true_eq] at e ⊢; omega
 | .map id,e => by simp only [C.lt,decide_eq_true_eq] at e ⊢; omega
 | .fn _ a b,e => by
   simp only [C.lt,yf] at e ⊢;exact ⟨zfU h a e.1,zfU h b e.2⟩
 | .un,_ => rfl
theorem zfU {n m : Nat} (h : n ≤ m) : ∀ cs : List C,C.lts n cs = true → C.lts m cs = true
 | [],_ => by simp only [C.lts]
 | c :: cs,e => by
   simp only [C.lts,yf] at e ⊢;exact ⟨zzA h c e.1,zfU h cs e.2⟩
end
mutual
theorem zzo {n m : Nat} (h : n ≤ m) : ∀ v : V,v.lt n = true → v.lt m = true
 | .one c,e => by simp only [V.lt] at e ⊢; exact zzA h c e
 | .agg cs,e => by simp only [V.lt] at e ⊢; exact zfU h cs e
 | .tup vs,e => by simp only [V.lt] at e ⊢; exact zvB h vs e
theorem zvB {n m : Nat} (h : n ≤ m) : ∀ vs : List V,V.lts n vs = true → V.lts m vs = true
 | [],_ => by simp only [V.lts]
 | v :: vs,e => by
   simp only [V.lts,yf] at e ⊢;exact ⟨zzo h v e.1,zvB h vs e.2⟩
end
theorem ztD {n m : Nat} (h : n ≤ m) : ∀ es : List (List C),C.ltss n es = true → C.ltss m es = true
 | [],_ => by simp only [C.ltss]
 | c :: cs,e => by
   simp only [C.ltss,yf] at e ⊢;exact ⟨zfU h c e.1,ztD h cs e.2⟩
theorem zw1 {n m : Nat} (h : n ≤ m) : ∀ es : List (Int × V),C.ltm n es = true → C.ltm m es = true
 | [],_ => by simp only [C.ltm]
 | c :: cs,e => by
   simp only [C.ltm,yf] at e ⊢;exact ⟨zzo h c.2 e.1,zw1 h cs e.2⟩
theorem zGJ {n m : Nat} (h : n ≤ m) : ∀ o : Ob,o.lt n = true → o.lt m = true
 | .cells _ _ es,e => by simp only [Ob.lt] at e ⊢; exact ztD h es e
 | .tok _ _,_ => rfl
 | .mp es,e => by simp only [Ob.lt] at e ⊢; exact zw1 h es e
theorem zrS {n m : Nat} (h : n ≤ m) : ∀ os : List Ob,Obs.lt n os = true → Obs.lt m os = true
 | [],_ => by simp only [Obs.lt]
 | o :: os,e => by
   simp only [Obs.lt,yf] at e ⊢;exact ⟨zGJ h o e.1,zrS h os e.2⟩
theorem zdm {σ : zd} {k : Nat} {o : Ob} (h : σ[k]? = some o) (r : zd) : (σ ++ r)[k]? = some o:=by
 have : k < σ.length:=(yo.1 h).1;rw [List.getElem?_append_left this,h]
theorem zgU {σ : zd} {k : Nat} {o : Ob} (h : σ[k]? = some o) (j : Nat) : (k < σ.length + j) = True:=by
 have : k < σ.length:=(yo.1 h).1;simp; omega
theorem zgS {σ : zd} {k : Nat} {o : Ob} (h : σ[k]? = some o) : (k < σ.length) = True:=by
 have : k < σ.length:=(yo.1 h).1;simp; omega
theorem zLr (n : Nat) : (n < n + 1) = True:=by simp
theorem zKP (n : Nat) : (n < n + 2) = True:=by simp
theorem zK2 (n : Nat) : (n < n + 3) = True:=by simp
theorem zK3 (n : Nat) : (n < n + 4) = True:=by simp
theorem zK4 (n : Nat) : (n + 1 < n + 2) = True:=by simp
theorem zKS (n : Nat) : (n + 1 < n + 3) = True:=by simp
theorem zKZ (n : Nat) : (n + 2 < n + 3) = True:=by simp
theorem zKL (n : Nat) : (n + 3 < n + 4) = True:=by simp
theorem zKM (n : Nat) : (n + 2 < n + 4) = True:=by simp
theorem zLd (n : Nat) : (n + 1 < n + 4) = True:=by simp
theorem zLn (n k : Nat) : (n + k ≤ n + k) = True:=by simp
theorem zLe (n : Nat) : (n + 2 ≤ n + 1) = False:=by simp
theorem zK6 (n : Nat) : (n + 3 ≤ n + 1) = False:=by simp
theorem zLw (n : Nat) : (n + 3 ≤ n + 2) = False:=by simp
theorem zKR (n : Nat) : (n + 4 ≤ n + 1) = False:=by simp
theorem zKF (n : Nat) : (n + 4 ≤ n + 2) = False:=by simp
theorem zLu (n : Nat) : (n + 4 ≤ n + 3) = False:=by simp
attribute [go_sem] zLr zKP zK2 zK3 zK4 zKS zKZ zKL zKM zLd zLn zLe zK6 zLw zKR zKF zLu
def Ok (σ : zd) : Prop:=Obs.lt σ.length σ = true
theorem Ok.up {σ : zd} (h : Ok σ) (k : Nat) : Obs.lt (σ.length + k) σ = true:=zrS (Nat.le_add_right _ _) _ h
theorem Ok.at {σ : zd} (h : Ok σ) : Obs.lt σ.length σ = true:=h
theorem Ok.app {σ r : zd} (h : Ok σ) (a : Obs.lt (σ.length + r.length) r = true) : Ok (σ ++ r):=by
 unfold Ok;rw [yK,zpy,Ok.up h,a];rfl
theorem zvo {e : List C} {k : Nat} (c : C) (h : k < e.length) : e.take k ++ c :: e.drop (k + 1) = e.set k c:=by
 rw [List.set_eq_take_append_cons_drop,if_pos h]
theorem zsK {a b : Nat} (h : a < b) : (a + 1 ≤ b) = True:=by simp; omega
set_option maxHeartbeats 4000000
theorem zuO (o : POp) (c : ztZ o) : call T 127 [vOp o] [] = some (.tup [vI (zJ o).1,vI (zJ o).2],[]):=by
 rw [ze (fn:=zO) rfl];have b:=znD o c;cases hm : zeO o
 ·simp -implicitDefEqProofs only [go_sem,hm] at b
  simp -implicitDefEqProofs only [go_sem,zO,zJ,hm,b]
 simp -implicitDefEqProofs only [go_sem,hm] at b
 by_cases c1 : o.kind = 17
 ·simp -implicitDefEqProofs only [go_sem,zO,zJ,zdr,hm,b,eq_true c1]
 by_cases c2 : o.kind = 19
 ·simp -implicitDefEqProofs only [go_sem,zO,zJ,zdr,hm,b,c1,eq_true c2]
 by_cases c3 : 10 ≤ o.kind
 ·have a : o.kind ≥ 10:=c3
  by_cases c4 : o.kind ≤ 12
  ·simp -implicitDefEqProofs only [go_sem,zO,zJ,zdr,hm,b,c1,c2,eq_true c3,eq_true a,eq_true c4]
  ·by_cases c5 : o.kind = 22
   ·simp -implicitDefEqProofs only [go_sem,zO,zJ,zdr,hm,b,c1,c2,eq_true c3,eq_true a,c4,eq_true c5]
   ·simp -implicitDefEqProofs only [go_sem,zO,zJ,zdr,hm,b,c1,c2,eq_true c3,eq_true a,c4,c5]
 ·have a : ¬ o.kind ≥ 10:=c3
  have c5 : ¬ o.kind = 22:=by omega
  simp -implicitDefEqProofs only [go_sem,zO,zJ,zdr,hm,b,c1,c2,c3,a,c5,false_and]
def znn (o : POp) (k : Nat) : Int × Int :=
 if o.kind = 13 ∨ o.kind = 20 then (if k = 0 then (1,1) else (o.bits,o.lanes))
 else if o.kind = 14 ∨ o.kind = 15 then (o.imm,1)
 else if o.kind = 16 ∨ o.kind = 17 then (if k = 0 then (64,1) else (o.bits,o.lanes))
 else if o.kind = 18 ∨ o.kind = 19 then (if k = 1 then (64,1) else if k = 0 then (1,1) else (o.bits,o.lanes))
 else if o.kind = 21 then (o.bits,1) else (o.bits,o.lanes)
theorem zpu {o : POp} (h : zeO o = true) : zdS o.bits o.lanes = true ∧ (zr o).2 = true ∧ (zr o).1.length = o.args.length ∧ zhW o.kind = true:=by
 unfold zeO at h;simp only [yf,decide_eq_true_eq] at h;refine ⟨h.1,h.2.1,h.2.2.2.1,?_⟩;cases a : zhW o.kind
 ·rw [zrG a] at h
  exact absurd h.2.1 (by simp)
 ·rfl
theorem zwN {o : POp} (h : zeO o = true) (a : o.kind = 14 ∨ o.kind = 15) : 0 ≤ o.imm → o.imm ≤ 64:=by
 obtain ⟨c,b,_,_⟩:=zpu h;obtain ⟨hm,d⟩:=zcI c;have e:=zaW hm;unfold zr at b;rcases a with a | a
 ·simp [a,arith,asks] at b
  omega
 ·simp [a,arith,asks] at b
  omega
theorem zBn {o : POp} (h : zeO o = true) (f : 0 ≤ o.imm) : (yw o.args.length).map (znn o) = (zr o).1:=by
 obtain ⟨n,m,j,l⟩:=zpu h;have c:=fun i => zwN h i f;rw [← j];obtain ⟨kind,bits,a,dst,args,imm⟩:=o;dsimp only at *;rcases zjn l with rfl | rfl | rfl | rfl | rfl | rfl | rfl | rfl | rfl | rfl | rfl | rfl | rfl | rfl | rfl | rfl | rfl | rfl | rfl | rfl | rfl | rfl | rfl
 all_goals first
  | rfl
  | (have d:=c (.inl rfl)
     have b : min imm 128 = imm:=(by omega);simp [zr,arith,asks,znn,b,yG]
     done)
  | (have d:=c (.inr rfl)
     have b : min imm 128 = imm:=(by omega);simp [zr,arith,asks,znn,b,yG]
     done)
  | (have e : znn ⟨21,bits,a,dst,args,imm⟩ = fun _ => (bits,1):=by funext k; simp [znn]
     have g : (zr ⟨21,bits,a,dst,args,imm⟩).1 = yi a.toNat (bits,1):=(by simp [zr,arith,asks]);rw [e,g,List.map_const',List.length_range,yu]
     done)
theorem zyv (o : POp) (u : ztZ o) (hm : zeO o = true) : ∀ (d k : Nat) (a0 a2 a5 a6 a7 a8 a9 m b e c n i q j : V),o.args.length - k = d → k ≤ o.args.length →
  exec T zcl ⟨[a0,.one (.ptr 0 0 0 0),a2,.one (.ap 1 0 (((yw k).map (znn o)).map rs)),vI k,a5,a6,a7,a8,a9,m,b,e,c,n,i,q,j],[.cells 0 6 [cOp o],.tok 2 [k]],0,0⟩ =
   some (.exit 0,⟨[vU,vU,vU,.one (.ap 1 0 (((yw o.args.length).map (znn o)).map rs)),vU,vU,vU,vU,vU,vU,vU,vU,vU,vU,vU,vU,vU,vU],[.cells 0 6 [cOp o],.tok 2 [o.args.length]],0,0⟩):=by
 intro d
 induction d with
 | zero =>
   intro k a0 a2 a5 a6 a7 a8 a9 m b e c n i q j z y;have v : k = o.args.length:=(by omega);subst v;rw [xl zcl rfl,zeH];simp -implicitDefEqProofs only [go_sem,ye,yb]
 | succ d ih =>
   intro k a0 a2 a5 a6 a7 a8 a9 m b e c n i q j z y;have v : k < o.args.length:=(by omega);have:=ih (k + 1) vU vU vU vU vU vU vU vU vU vU vU vU vU vU vU (by omega) (by omega);have a : k + 1 ≤ LIM:=(by have:=u.2; unfold LIM; omega);have hlen : (((yw k).map (znn o)).map rs).length = k:=by simp
   have e1 : ((yw k).map (znn o)).map rs ++ [rs (znn o k)] = ((yw (k + 1)).map (znn o)).map rs:=by
    rw [yG,yx,yx];rfl
   have hw : o.kind = 14 ∨ o.kind = 15 → Go.IntKind.i64.wrap o.imm = o.imm:=fun h => by
    have:=zwN hm h u.1.1;have:=u.1.1;rw [wrap_i64] <;> omega
   have l:=za v u.2;have r:=ilt v;obtain ⟨B,C,A,x⟩:=zpu hm;obtain ⟨acc,t⟩ : ∃ acc,acc = ((yw k).map (znn o)).map rs:=⟨_,rfl⟩;rw [← t] at hlen e1 ⊢;obtain ⟨kind,bits,w,dst,args,imm⟩:=o;dsimp only at *;have p : ((k : Int) = 0) = (k = 0):=(by apply propext; omega);have g : ((k : Int) = 1) = (k = 1):=(by apply propext; omega);rw [xl zcl rfl,zeH];simp -implicitDefEqProofs only [go_sem] at this;rcases zjn x with rfl | rfl | rfl | rfl | rfl | rfl | rfl | rfl | rfl | rfl | rfl | rfl | rfl | rfl | rfl | rfl | rfl | rfl | rfl | rfl | rfl | rfl | rfl
   all_goals
    by_cases s : k = 0
    ·have f : ¬ k = 1:=by omega
     simp -implicitDefEqProofs only [znn,rs,eq_true s,f,if_true,if_false,yN,or_false,or_true,false_or,true_or,or_self,Nat.reduceEqDiff,Nat.zero_ne_one] at e1 hw;simp -implicitDefEqProofs only [go_sem,yb,r,p,g,eq_true s,f,hlen,a,l,hw,e1,this]
    ·by_cases f : k = 1
     ·simp -implicitDefEqProofs only [znn,rs,s,eq_true f,if_true,if_false,yN,or_false,or_true,false_or,true_or,or_self] at e1 hw
      simp -implicitDefEqProofs only [go_sem,yb,r,p,g,s,eq_true f,hlen,a,l,hw,e1,this]
     ·simp -implicitDefEqProofs only [znn,rs,s,f,if_true,if_false,yN,or_false,or_true,false_or,true_or,or_self] at e1 hw
      simp -implicitDefEqProofs only [go_sem,yb,r,p,g,s,f,hlen,a,l,hw,e1,this]
end AC
namespace AC
def tr (t : List Int) (a : Int) : Int:=t.getD a.toNat (-2)
def zao (t : List Int) : Nat → Int → Int → Option Int
 | 0,_,_ => none
 | r + 1,n,a => if a < 0 then some (-1) else if (t.length : Int) ≤ a then some (-1) else if tr t a = -1 then some n else zao t r (n + 1) (tr t a)
def zT (t : List Int) (a : Int) : Int:=(zao t t.length 0 a).getD (-1)
def zbc (t : List Int) : Nat → Nat → List Int → Option Nat
 | _,n,[] => some n
 | k,n,x :: r => if x = -2 then zbc t (k + 1) n r else if zT t k < 0 then none else zbc t (k + 1) (if x = -1 then n + 1 else n) r
def zhY (t : List Int) : Bool:=zbc t 0 0 t == some 1
def inS (t : List Int) (l : List Int) : Bool:=zhY t && !l.any fun a => decide (zT t a < 0)
def zkm (t : List Int) : Nat → Int → Int → Int
 | 0,a,_ => a
 | r + 1,a,b => if a = b then a else if zT t b ≤ zT t a then zkm t r (tr t a) b else zkm t r a (tr t b)
def zAe (t : List Int) (a b : Int) : Int:=if inS t [a,b] = true then zkm t (zT t a + zT t b).toNat a b else -2
def zmM (t : List Int) (a b : Int) : Bool:=inS t [a,b] && decide (zAe t a b = a)
def inR (n : Nat) (a : Int) : Bool:=decide (0 ≤ a) && decide (a < n)
def zq6 (t at' : List Int) : Nat → Int → Int → Option Int
 | 0,_,_ => none
 | r + 1,a,b => if inR t.length a && (inR at'.length a && inR at'.length b) then (if tr at' b < tr at' a then zq6 t at' r (tr t a) b else some a) else none
def zwH (t at' : List Int) (K : Nat) : Nat → Int → Int → Option Int
 | 0,_,_ => none
 | r + 1,a,b => if a = b then some a else match zq6 t at' K a b with
   | none => none
   | some a' => match zq6 t at' K b a' with
     | none => none
     | some b' => zwH t at' K r a' b'
def zoc (t at' : List Int) (K : Nat) : List Int → Int → Option Int
 | [],b => some b
 | p :: r,b => if inR t.length p = true then (if tr t p = -2 then zoc t at' K r b else if b = -2 then zoc t at' K r p else match zwH t at' K K b p with
   | none => none
   | some c => zoc t at' K r c) else none
def zuH (pred : List (List Int)) (t at' : List Int) (K : Nat) : List Int → Option (Option (Int × Int))
 | [] => some none
 | x :: r => if inR t.length x = true then (match zoc t at' K (pred.getD x.toNat []) (-2) with
   | none => none
   | some b => if tr t x = b then zuH pred t at' K r else some (some (x,b))) else none
def ziH (pred : List (List Int)) (at' : List Int) (K : Nat) (tail : List Int) : Nat → List Int → Option (List Int)
 | 0,_ => none
 | r + 1,t => match zuH pred t at' K tail with
   | none => none
   | some none => some t
   | some (some (x,b)) => ziH pred at' K tail r (t.set x.toNat b)
theorem zm9 {pred : List (List Int)} {at' : List Int} {K : Nat} {tail : List Int} : ∀ {r : Nat} {t a : List Int},ziH pred at' K tail r t = some a → a.length = t.length
 | 0,_,_,h => by simp [ziH] at h
 | r + 1,t,a,h => by
   simp only [ziH] at h;split at h
   ·cases h
   ·injection h with h; rw [h]
   ·rw [zm9 h]; simp
def zme : Nat → List Int → List Int → List Int
 | _,[],at' => at'
 | i,x :: r,at' => zme (i + 1) r (at'.set x.toNat (i : Int))
theorem zj5 : ∀ (l : List Int) (i : Nat) (a : List Int),(zme i l a).length = a.length
 | [],_,_ => rfl
 | x :: r,i,a => by rw [zme,zj5 r]; simp
def zmP (n root : Nat) : List Int:=(yi n (-2 : Int)).set root root
def at0 (n : Nat) (order : List Int) : List Int:=zme 0 order (yi n 0)
def scan (seen : List Bool) : List Int → Nat → Option (Int × Nat)
 | [],_ => none
 | y :: r,j => if seen.getD y.toNat false = true then scan seen r (j + 1) else some (y,j + 1)
structure DF where
 seen : List Bool
 next : List Nat
 out : List Int
 stk : List Int
def zAi (succ : List (List Int)) (x : Int) : Nat:=(succ.getD x.toNat []).length
def zhz (succ : List (List Int)) (d : DF) (x : Int) : Option (Int × Nat):=scan d.seen ((succ.getD x.toNat []).drop (d.next.getD x.toNat 0)) (d.next.getD x.toNat 0)
def dfs (succ : List (List Int)) : Nat → DF → Option (List Int)
 | 0,_ => none
 | k + 1,d => match d.stk with
   | [] => none
   | x :: s => match zhz succ d x with
     | some (y,j) => dfs succ k ⟨d.seen.set y.toNat true,d.next.set x.toNat j,d.out,y :: x :: s⟩
     | none => match s with
       | [] => some (d.out ++ [x])
       | _ :: _ => dfs succ k ⟨d.seen,d.next.set x.toNat (zAi succ x),d.out ++ [x],s⟩
structure DInv (succ : List (List Int)) (d : DF) : Prop where
 seen : d.seen.length = 64
 next : d.next.length = 64
 le : ∀ X,X < succ.length → d.next.getD X 0 ≤ (succ.getD X []).length
 stk : ∀ x ∈ d.stk,0 ≤ x ∧ x < (succ.length : Int)
theorem zDm {seen : List Bool} : ∀ {l : List Int} {k : Nat} {y : Int} {j : Nat},scan seen l k = some (y,j) → k < j ∧ j ≤ k + l.length ∧ y ∈ l
 | [],_,_,_,h => by simp [scan] at h
 | z :: r,k,y,j,h => by
   simp only [scan] at h;split at h
   ·have:=zDm h
    simp only [yq,yC];exact ⟨by omega,by omega,.inr this.2.2⟩
   ·simp only [Option.some.injEq,Prod.mk.injEq] at h
    obtain ⟨rfl,rfl⟩:=h;simp
def zsE : List Bool:=yi 64 false
def zqg : List Nat:=yi 64 0
def zvp (root : Int) : DF:=⟨zsE.set root.toNat true,zqg,[],[root]⟩
def zwV (i : Int) (out : List (List Int)) (x : Int) : List (List Int):=out.set x.toNat (out.getD x.toNat [] ++ [i])
theorem zhf (i : Int) (out : List (List Int)) (x : Int) : (zwV i out x).length = out.length:=by simp [zwV]
theorem zhA (i : Int) : ∀ (l : List Int) (out : List (List Int)),(l.foldl (zwV i) out).length = out.length
 | [],_ => rfl
 | x :: r,out => by rw [yP,zhA i r,zhf]
def zbH : Nat → List (List Int) → List (List Int) → List (List Int)
 | _,[],out => out
 | i,l :: r,out => zbH (i + 1) r (l.foldl (zwV i) out)
def z7 (succ : List (List Int)) : List (List Int):=zbH 0 succ (yi succ.length [])
theorem zhQ : ∀ (l : List (List Int)) (i : Nat) (out : List (List Int)),(zbH i l out).length = out.length
 | [],_,_ => rfl
 | x :: r,i,out => by rw [zbH,zhQ r,zhA]
theorem zcT (succ : List (List Int)) : (z7 succ).length = succ.length:=by rw [z7,zhQ]; simp
def zl5 (succ : List (List Int)) : Prop:=succ.length ≤ 4294967296 ∧ ∀ l ∈ succ,l.length ≤ 4294967296
def zag (n : Int) : Int → List Int → Bool
 | _,[] => true
 | last,x :: r => if x ≤ last ∨ n ≤ x then false else zag n x r
def rising (l : List Int) (n : Int) : Bool:=zag n (-1) l
def zbY (succ : List (List Int)) : Bool:=!(decide (succ.length < 1) || (decide (64 < succ.length) || succ.any fun l => !rising l succ.length))
def zEX (succ pred : List (List Int)) : Bool:=zbY succ && decide (z7 succ = pred)
def zn8 (k : Int) : Int:=if k = 0 ∨ k = 3 then 0 else if k = 1 then 1 else if k = 2 then 2 else -1
def zmQ (n k : Int) : Bool:=decide (k < 1) || decide (n ≤ k)
theorem zbO {α : Type} {l : List α} {i : Nat} (v d : α) (h : i < l.length) : (l.set i v).getD i d = v:=by simp [h]
theorem getD_set_ne {α : Type} {l : List α} {i j : Nat} (v d : α) (h : i ≠ j) : (l.set i v).getD j d = l.getD j d:=by simp [List.getElem?_set_ne h]
theorem zor (t : List Int) : ∀ (r : Nat) (n a m : Int),0 ≤ n → zao t r n a = some m → m = -1 ∨ n ≤ m
 | 0,_,_,_,_,h => by simp [zao] at h
 | r + 1,n,a,m,hn,h => by
   simp only [zao] at h;split at h
   ·simp at h; omega
   split at h
   ·simp at h; omega
   split at h
   ·simp at h; omega
   ·have:=zor t r (n + 1) _ m (by omega) h
    omega
theorem znU (t : List Int) : ∀ (r : Nat) (n a m : Int),0 ≤ n → 0 ≤ m → zao t r (n + 1) a = some m → zao t r n a = some (m - 1)
 | 0,_,_,_,_,_,h => by simp [zao] at h
 | r + 1,n,a,m,hn,hm,h => by
   simp only [zao] at h ⊢;split at h
   ·simp at h; omega
   split at h
   ·simp at h; omega
   split at h
   ·rename_i b d c
    simp only [b,d,c,if_true,if_false,Option.some.injEq] at h ⊢;omega
   ·rename_i b d c
    simp only [b,d,c,if_false];exact znU t r (n + 1) _ m (by omega) hm h
theorem zoa (t : List Int) : ∀ (r : Nat) (n a m : Int),zao t r n a = some m → zao t (r + 1) n a = some m
 | 0,_,_,_,h => by simp [zao] at h
 | r + 1,n,a,m,h => by
   rw [zao] at h ⊢;split at h
   ·rename_i b; simp only [b,if_true]; exact h
   split at h
   ·rename_i b c; simp only [b,c,if_true,if_false]; exact h
   split at h
   ·rename_i b c d; simp only [b,c,d,if_true,if_false]; exact h
   ·rename_i b c d
    simp only [b,c,d,if_false];exact zoa t r (n + 1) _ m h
theorem zre {t : List Int} {a : Int} (h : 0 ≤ zT t a) : zao t t.length 0 a = some (zT t a):=by
 unfold zT at h ⊢
 cases e : zao t t.length 0 a with
 | none => rw [e] at h; simp at h
 | some m => rfl
theorem ziK {t : List Int} {a : Int} (h : 0 ≤ zT t a) : 0 ≤ a ∧ a < t.length:=by
 have:=zre h
 cases b : t.length with
 | zero => rw [b] at this; simp [zao] at this
 | succ r =>
   rw [b,zao] at this;split at this
   ·simp at this; omega
   split at this
   ·simp at this; omega
   ·rename_i d c
    rw [b] at c;omega
theorem zmw {t : List Int} {a : Int} (c : 0 ≤ a) (b : a < t.length) (h : tr t a = -1) : zT t a = 0:=by
 unfold zT
 cases d : t.length with
 | zero => omega
 | succ r =>
   rw [zao,if_neg (by omega),if_neg (by omega),if_pos h];rfl
theorem zgb {t : List Int} {a : Int} (h : 0 ≤ zT t a) (e : tr t a ≠ -1) : 1 ≤ zT t a ∧ zT t (tr t a) = zT t a - 1:=by
 have b:=zre h;obtain ⟨i,f⟩:=ziK h
 cases d : t.length with
 | zero => omega
 | succ r =>
   rw [d,zao,if_neg (by omega),if_neg (by omega),if_neg e] at b;have g:=zor t r (0 + 1) _ _ (by omega) b;have c:=zoa t r _ _ _ (znU t r 0 _ _ (by omega) h b);refine ⟨by omega,?_⟩;rw [← d] at c;rw [zT,c];rfl
theorem ziy {t : List Int} {a : Int} (h : zT t a = 0) : tr t a = -1:=by
 by_cases c : tr t a = -1
 ·exact c
 ·have:=zgb (by omega) c
  omega
theorem zgI (t : List Int) : ∀ (l : List Int) (k n m : Nat),zbc t k n l = some m → m = n + l.count (-1)
 | [],_,_,_,h => by simp [zbc] at h; simp [h]
 | x :: r,k,n,m,h => by
   simp only [zbc] at h;split at h
   ·rename_i a
    subst a;rw [zgI t r _ _ _ h,yE (by decide)]
   split at h
   ·cases h
   ·split at h
    ·rename_i a
     subst a;rw [zgI t r _ _ _ h,yv];omega
    ·rename_i a
     rw [zgI t r _ _ _ h,yE (by simpa using a)]
theorem zwr {x : Int} : ∀ (l : List Int),l.count x ≤ 1 → ∀ i j (a : i < l.length) (b : j < l.length),l[i] = x → l[j] = x → i = j
 | [],_,i,_,a,_,_,_ => by simp at a
 | y :: r,h,i,j,a,b,e1,e2 => by
   have pos : ∀ k (c : k < r.length),r[k] = x → 1 ≤ r.count x:=fun k c e => by
    have : x ∈ r:=(by rw [← e]; exact yg c);exact List.count_pos_iff.2 this
   cases i with
   | zero =>
     cases j with
     | zero => rfl
     | succ j =>
       simp at e1 e2;subst e1;rw [yv] at h;have:=pos j (by simpa using b) e2;omega
   | succ i =>
     cases j with
     | zero =>
       simp at e1 e2;subst e2;rw [yv] at h;have:=pos i (by simpa using a) e1;omega
     | succ j =>
       have d : r.count x ≤ 1:=by
        rw [List.count_cons] at h;omega
       rw [zwr r d i j (by simpa using a) (by simpa using b) (by simpa using e1) (by simpa using e2)]
theorem zvI {t : List Int} (h : zhY t = true) {a b : Int} (i : 0 ≤ a ∧ a < t.length) (f : 0 ≤ b ∧ b < t.length) (ea : tr t a = -1) (eb : tr t b = -1) : a = b:=by
 have e : zbc t 0 0 t = some 1:=by simpa [zhY] using h
 have g:=zgI t t 0 0 1 e;have d : a.toNat < t.length:=by omega
 have c : b.toNat < t.length:=by omega
 have:=zwr t (x:=-1) (by omega) a.toNat b.toNat d c (by simpa [tr,d] using ea) (by simpa [tr,c] using eb);omega
theorem zHU {t : List Int} {a b : Int} (h : inS t [a,b] = true) : zhY t = true ∧ 0 ≤ zT t a ∧ 0 ≤ zT t b:=by
 simp [inS] at h;exact ⟨h.1,by omega,by omega⟩
end AC
namespace AC
open Go Go.A Go.A.Lex
@[go_sem] theorem zCX (k : Int) : call T 143 [vI k] [] = some (vI (zn8 k),[]):=by
  rw [ze (fn:=zgu) rfl]
  by_cases c0 : k = 0
  ·simp -implicitDefEqProofs only [go_sem,zgu,zn8,c0]
  by_cases c3 : k = 3
  ·simp -implicitDefEqProofs only [go_sem,zgu,zn8,c0,c3]
  by_cases c1 : k = 1
  ·simp -implicitDefEqProofs only [go_sem,zgu,zn8,c0,c3,c1]
  by_cases c2 : k = 2 <;> simp -implicitDefEqProofs only [go_sem,zgu,zn8,c0,c3,c1,c2]
theorem zxm (l : List Int) (n : Int) (c : l.length ≤ 4294967296) : ∀ (d k : Nat) (last : Int) (a0 a2 a4 a8 a9 : V),l.length - k = d → k ≤ l.length →
  exec T zgK ⟨[a0,vI n,a2,vI last,a4,vIs l,vI l.length,vI k,a8,a9],[],0,0⟩ =
   some (if zag n last (l.drop k) = true then (.exit 0,⟨[vU,vU,vU,vU,vU,vU,vU,vU,vU,vU],[],0,0⟩) else (.ret,⟨[vU,vU,vB false,vU,vU,vU,vU,vU,vU,vU],[],0,0⟩)):=by
 intro d
 induction d with
 | zero =>
   intro k last a0 a2 a4 a8 a9 b e;have a : k = l.length:=(by omega);subst a;rw [xl zgK rfl,ziG];simp -implicitDefEqProofs only [go_sem,ye,yd,zag]
 | succ d ih =>
   intro k last a0 a2 a4 a8 a9 b e;have a : k < l.length:=(by omega);have hd : l.drop k = l[k] :: l.drop (k + 1):=ya a;rw [xl zgK rfl,ziG,hd]
   by_cases c1 : l[k] ≤ last
   ·simp -implicitDefEqProofs only [go_sem,ilt a,zt a,ri,c1,zag]
   ·by_cases c2 : n ≤ l[k]
    ·simp -implicitDefEqProofs only [go_sem,ilt a,zt a,ri,c1,c2,zag]
    ·simp -implicitDefEqProofs only [go_sem,ilt a,zt a,ri,c1,c2,zag,za a c]
     exact ih (k + 1) l[k] _ _ _ _ _ (by omega) (by omega)
@[go_sem] theorem zpB (l : List Int) (n : Int) (b : l.length ≤ 4294967296) : call T 180 [vIs l,vI n] [] = some (vB (rising l n),[]):=by
  rw [ze (fn:=zjE) rfl];have h:=fun a0 a2 a4 a8 a9 => zxm l n b l.length 0 (-1) a0 a2 a4 a8 a9 (by omega) (by omega);simp only [yh,yc] at h;cases a : zag n (-1) l <;> simp -implicitDefEqProofs only [go_sem,a] at h <;> simp -implicitDefEqProofs only [go_sem,zjE,rising,h,a]
theorem zss (l m : List Int) (g : l.length = m.length) (i : l.length ≤ 4294967296) (σ : zd) : ∀ (d k : Nat) (a2 a3 a4 a7 a8 : V),l.length - k = d → k ≤ l.length →
  exec T zdX ⟨[vIs l,vIs m,a2,a3,a4,vI l.length,vI k,a7,a8],σ,σ.length,σ.length⟩ =
   some (if l.drop k = m.drop k then (.exit 0,⟨[vU,vU,vU,vU,vU,vU,vU,vU,vU],σ,σ.length,σ.length⟩) else (.ret,⟨[vU,vU,vB false,vU,vU,vU,vU,vU,vU],σ,σ.length,σ.length⟩)):=by
 intro d
 induction d with
 | zero =>
   intro k a2 a3 a4 a7 a8 h f;have a : k = l.length:=(by omega);subst a;have e : m.drop l.length = []:=(by simp [g]);rw [xl zdX rfl,zgh,e];simp -implicitDefEqProofs only [go_sem,ye,yd]
 | succ d ih =>
   intro k a2 a3 a4 a7 a8 h f;have a : k < l.length:=(by omega);have b : k < m.length:=(by omega);have hd : l.drop k = l[k] :: l.drop (k + 1):=ya a;have c : m.drop k = m[k] :: m.drop (k + 1):=ya b;rw [xl zdX rfl,zgh,hd,c]
   by_cases c1 : l[k] = m[k]
   ·simp -implicitDefEqProofs only [go_sem,ilt a,zt a,zt b,ri,c1,za a i,List.cons.injEq]
    exact ih (k + 1) _ _ _ _ _ (by omega) (by omega)
   ·simp -implicitDefEqProofs only [go_sem,ilt a,zt a,zt b,ri,c1,List.cons.injEq,false_and]
@[go_sem] theorem zmY (l m : List Int) (σ : zd) (c : l.length ≤ 4294967296) : call T 184 [vIs l,vIs m] σ = some (vB (decide (l = m)),σ):=by
  rw [ze (fn:=zcB) rfl]
  by_cases b : l.length = m.length
  ·have h:=fun a2 a3 a4 a7 a8 => zss l m b c σ l.length 0 a2 a3 a4 a7 a8 (by omega) (by omega)
   have d : ((l.length : Int) = (m.length : Int)) = True:=(by simp [b]);simp only [yh,yc] at h
   by_cases he : l = m
   ·subst he
    simp -implicitDefEqProofs only [go_sem] at h;simp -implicitDefEqProofs only [go_sem,zcB,h]
   ·simp -implicitDefEqProofs only [go_sem,he] at h
    simp -implicitDefEqProofs only [go_sem,zcB,h,he,d]
  ·have he : ¬ l = m:=fun h => b (by rw [h])
   have a : ¬ (l.length : Int) = (m.length : Int):=(by omega);simp -implicitDefEqProofs only [go_sem,zcB,a,he]
theorem zsx (l m : List (List Int)) (n : l.length = m.length) (p : l.length ≤ 4294967296) (h : ∀ x ∈ l,x.length ≤ 4294967296) (σ : zd) : ∀ (d k : Nat) (a0 a3 a4 a5 a6 a7 b c : V),l.length - k = d → k ≤ l.length →
  exec T zbu ⟨[a0,vLs m,vFn 184 [],a3,a4,a5,a6,a7,vLs l,vI l.length,vI k,b,c],σ,σ.length,σ.length⟩ =
   some (if l.drop k = m.drop k then (.exit 0,⟨[vU,vU,vU,vU,vU,vU,vU,vU,vU,vU,vU,vU,vU],σ,σ.length,σ.length⟩) else (.ret,⟨[vU,vU,vU,vB false,vU,vU,vU,vU,vU,vU,vU,vU,vU],σ,σ.length,σ.length⟩)):=by
 intro d
 induction d with
 | zero =>
   intro k a0 a3 a4 a5 a6 a7 b c o j;have a : k = l.length:=(by omega);subst a;have e : m.drop l.length = []:=(by simp [n]);rw [xl zbu rfl,zdI,e];simp -implicitDefEqProofs only [go_sem,ye,yd]
 | succ d ih =>
   intro k a0 a3 a4 a5 a6 a7 b c o j;have a : k < l.length:=(by omega);have f : k < m.length:=(by omega);have hd : l.drop k = l[k] :: l.drop (k + 1):=ya a;have i : m.drop k = m[k] :: m.drop (k + 1):=ya f;have g:=zmY l[k] m[k] σ (h _ (yg a));rw [xl zbu rfl,zdI,hd,i]
   by_cases c1 : l[k] = m[k]
   ·simp -implicitDefEqProofs only [go_sem,c1] at g
    simp -implicitDefEqProofs only [go_sem,ilt a,zt a,zt f,rl,c1,g,za a p,List.cons.injEq];exact ih (k + 1) _ _ _ _ _ _ _ _ (by omega) (by omega)
   ·simp -implicitDefEqProofs only [go_sem,c1] at g
    simp -implicitDefEqProofs only [go_sem,ilt a,zt a,zt f,rl,c1,g,List.cons.injEq,false_and]
@[go_sem] theorem zne (l m : List (List Int)) (σ : zd) (f : l.length ≤ 4294967296) (a : ∀ x ∈ l,x.length ≤ 4294967296) : call T 183 [vLs l,vLs m,vFn 184 []] σ = some (vB (decide (l = m)),σ):=by
  rw [ze (fn:=za1) rfl]
  by_cases e : l.length = m.length
  ·have h:=fun a0 a3 a4 a5 a6 a7 b d => zsx l m e f a σ l.length 0 a0 a3 a4 a5 a6 a7 b d (by omega) (by omega)
   have g : ((l.length : Int) = (m.length : Int)) = True:=(by simp [e]);simp only [yh,yc] at h
   by_cases he : l = m
   ·subst he
    simp -implicitDefEqProofs only [go_sem] at h;simp -implicitDefEqProofs only [go_sem,za1,h]
   ·simp -implicitDefEqProofs only [go_sem,he] at h
    simp -implicitDefEqProofs only [go_sem,za1,h,he,g]
  ·have he : ¬ l = m:=fun h => e (by rw [h])
   have c : ¬ (l.length : Int) = (m.length : Int):=(by omega);simp -implicitDefEqProofs only [go_sem,za1,c,he]
def apR : Nat → List (List Int) → List (List C)
 | _,[] => []
 | q,l :: r => [.ap 0 q (l.map ri)] :: apR (q + 1) r
theorem zjJ : ∀ (out : List (List Int)) (q : Nat),(apR q out).length = out.length
 | [],_ => rfl
 | l :: r,q => by simp [apR,zjJ r (q + 1)]
theorem zys : ∀ (out : List (List Int)) (q k : Nat) (h : k < out.length),(apR q out)[k]? = some [.ap 0 (q + k) (out[k].map ri)]
 | [],_,_,h => by simp at h
 | l :: r,q,0,_ => by simp [apR]
 | l :: r,q,k + 1,h => by
   simp only [apR,List.getElem?_cons_succ,yA];rw [zys r (q + 1) k (by simpa using h),yS,yU 1 k]
theorem zEf : ∀ (out : List (List Int)) (q k : Nat) (l : List Int),(apR q out).set k [.ap 0 (q + k) (l.map ri)] = apR q (out.set k l)
 | [],_,_,_ => rfl
 | x :: r,q,0,l => by simp [apR]
 | x :: r,q,k + 1,l => by
   simp only [apR,List.set_cons_succ];rw [← zEf r (q + 1) k l,yS,yU 1 k]
theorem zEO : ∀ (out : List (List Int)) (q : Nat),zbo (apR q out) = some (out.map rl)
 | [],_ => rfl
 | x :: r,q => by simp [apR,zbo,zgp,zAj,zhN,zEO r (q + 1),rl]
theorem zHF (n : Nat) : (yw n).map (nest 0 [.f (.sl [])] 0) = apR 0 (yi n []):=by
 apply List.ext_getElem?;intro k
 by_cases a : k < n
 ·rw [zys _ _ _ (by simpa using a)]
  simp [a,nest]
 ·rw [yF (by simp; omega),yF (by rw [zjJ]; simp; omega)]
theorem zBS {i : Int} {out : List (List Int)} {x : Int} {B : Nat} (h : ∀ y ∈ out,y.length ≤ B) : ∀ y ∈ zwV i out x,y.length ≤ B + 1:=by
 intro y b;rcases List.mem_or_eq_of_mem_set b with a | a
 ·have:=h y a
  omega
 ·subst a
  simp only [yK,yq,List.length_nil,List.getD_eq_getElem?_getD]
  cases e : out[x.toNat]? with
  | none => simp
  | some z =>
    have:=h z (List.mem_of_getElem? e);simp;omega
theorem ztS (i : Int) : ∀ (l : List Int) (out : List (List Int)) (B : Nat),(∀ y ∈ out,y.length ≤ B) → ∀ y ∈ l.foldl (zwV i) out,y.length ≤ B + l.length
 | [],_,_,h => h
 | x :: r,out,B,h => fun y a => by
   have:=ztS i r (zwV i out x) (B + 1) (zBS h) y a;simp only [yq];omega
abbrev pst (out : List (List Int)) : zd:=[.tok 1 (out.map yy),.cells 0 1 (apR 0 out)]
theorem zF2 (succ : List (List Int)) (i n : Nat) (l : List Int) (C : l.length ≤ 4294967296) (A : ∀ x ∈ l,0 ≤ x ∧ x < n) : ∀ (d k : Nat) (out : List (List Int)) (B : Nat) (a0 a1 a4 a5 a9 b : V),l.length - k = d → k ≤ l.length → out.length = n →
  (∀ y ∈ out,y.length ≤ B) → B + d ≤ 4294967296 →
  exec T zhk ⟨[a0,a1,.one (.own 1 0 0 n),vI i,a4,a5,vLs succ,vI succ.length,vI i,a9,vIs l,vI l.length,vI k,b],pst out,0,0⟩ =
   some (.exit 2,⟨[vU,vU,.one (.own 1 0 0 n),vU,vU,vU,vLs succ,vI succ.length,vI i,vU,vU,vU,vU,vU],pst ((l.drop k).foldl (zwV i) out),0,0⟩):=by
 intro d
 induction d with
 | zero =>
   intro k out B a0 a1 a4 a5 a9 b z u r g w;have c : k = l.length:=(by omega);subst c;rw [xl zhk rfl,zjy];simp -implicitDefEqProofs only [go_sem,ye,yd,List.foldl_nil]
 | succ d ih =>
   intro k out B a0 a1 a4 a5 a9 b z u r g w;have c : k < l.length:=(by omega);have hd : l.drop k = l[k] :: l.drop (k + 1):=ya c;obtain ⟨t,D⟩:=A _ (yg c);generalize hxe : l[k] = x at *;obtain ⟨j,rfl⟩ : ∃ j : Nat,x = j:=⟨x.toNat,by omega⟩;have f : j < out.length:=(by omega);have o : ((j : Int) < (n : Int)) = True:=(by simp; omega);have h:=zys out 0 j f;have s:=fun m => zEf out 0 j m;simp only [Nat.zero_add] at h s;have v : (out.map yy)[j]? = some out[j].length:=by simp [f]
   have e : out[j].length + 1 ≤ LIM:=by
    have:=g _ (yg f);unfold LIM;omega
   have a : zwV i out j = out.set j (out[j] ++ [(i : Int)]):=(by simp [zwV,f]);have q : (l.map ri)[k]? = some (ri (j : Int)):=(by rw [zt c,hxe]);rw [xl zhk rfl,zjy,hd,yP];simp -implicitDefEqProofs only [go_sem,ilt c,q,ri,t,o,yL,h,v,e,zjJ,yx,yW];have e1 : yY ri out[j] ++ [[Fz.lit (Value.int .i64 (i : Int))]] = yY ri (out[j] ++ [(i : Int)]):=(by simp [ri]);rw [e1];simp -implicitDefEqProofs only [go_sem,s,zjJ,za c C,h]
   have p : ∀ y ∈ out.set j (out[j] ++ [(i : Int)]),y.length ≤ B + 1:=by
    rw [← a];exact zBS g
   have:=ih (k + 1) (out.set j (out[j] ++ [(i : Int)])) (B + 1) vU vU vU vU vU vU (by omega) (by omega) (by simpa using r) p (by omega);rw [a];simp -implicitDefEqProofs only [go_sem,pst,yW] at this ⊢;exact this
theorem zFb (succ : List (List Int)) (o : succ.length ≤ 4294967296) (q : ∀ l ∈ succ,l.length ≤ 4294967296) (p : ∀ l ∈ succ,∀ x ∈ l,0 ≤ x ∧ x < succ.length) : ∀ (d k : Nat) (out : List (List Int)) (B : Nat) (a0 a1 a3 a4 a5 a9 f b c a : V),succ.length - k = d → k ≤ succ.length → out.length = succ.length →
  (∀ y ∈ out,y.length ≤ B) → B + ((succ.drop k).map yy).sum ≤ 4294967296 →
  exec T zhm ⟨[a0,a1,.one (.own 1 0 0 succ.length),a3,a4,a5,vLs succ,vI succ.length,vI k,a9,f,b,c,a],pst out,0,0⟩ =
   some (.exit 0,⟨[vU,vU,.one (.own 1 0 0 succ.length),vU,vU,vU,vU,vU,vU,vU,vU,vU,vU,vU],pst (zbH k (succ.drop k) out),0,0⟩):=by
 intro d
 induction d with
 | zero =>
   intro k out B a0 a1 a3 a4 a5 a9 f b c a n m h g j;have e : k = succ.length:=(by omega);subst e;rw [xl zhm rfl,zjD];simp -implicitDefEqProofs only [go_sem,ye,yd,zbH]
 | succ d ih =>
   intro k out B a0 a1 a3 a4 a5 a9 f b c a n m h g j;have e : k < succ.length:=(by omega);have hd : succ.drop k = succ[k] :: succ.drop (k + 1):=ya e;have hm:=yg e;rw [hd,yr,yB] at j;have i:=fun a0 a1 a4 a5 a9 a => zF2 succ k succ.length succ[k] (q _ hm) (p _ hm) succ[k].length 0 out B a0 a1 a4 a5 a9 a (by omega) (by omega) h g (by omega);have:=ih (k + 1) (succ[k].foldl (zwV k) out) (B + succ[k].length) vU vU vU vU vU vU vU vU vU vU (by omega) (by omega) (by rw [zhA,h]) (ztS _ _ _ _ g) (by omega);rw [xl zhm rfl,zjD,hd,zbH];simp -implicitDefEqProofs only [go_sem,pst,yh,yc] at i this;simp -implicitDefEqProofs only [go_sem,ilt e,zt e,rl,pst,i,za e o];exact this
theorem zBj (succ : List (List Int)) (j : succ.length ≤ 4294967296) (m : ∀ l ∈ succ,l.length ≤ 4294967296) (k : ∀ l ∈ succ,∀ x ∈ l,0 ≤ x ∧ x < succ.length) (i : (succ.map yy).sum ≤ 4294967296) :
  call T 182 [vLs succ] [] = some (vLs (z7 succ),[]):=by
 rw [ze (fn:=zkJ) rfl];have h:=fun a0 a1 a3 a4 a5 a9 e b d c => zFb succ j m k succ.length 0 (yi succ.length []) 0 a0 a1 a3 a4 a5 a9 e b d c (by omega) (by omega) (by simp) (fun y g => by rw [(List.mem_replicate.1 g).2]; simp) (by simpa using i);have hlen : (apR 0 (zbH 0 succ (yi succ.length []))).length = succ.length:=by rw [zjJ,zhQ]; simp
 have a : (succ.length : Int) ≤ (LIM : Int):=by unfold LIM; omega
 have f : (apR 0 (zbH 0 succ (yi succ.length []))).take succ.length = apR 0 (zbH 0 succ (yi succ.length [])):=yl (by omega);simp -implicitDefEqProofs only [go_sem,pst,yh,yc,List.map_replicate] at h;simp -implicitDefEqProofs only [go_sem,zkJ,a,zHF,h,yI,yL,f,zEO,z7]
theorem zuU {f : Nat} {g : List V → zd → Option (V × zd)} (h : T f = some (.ext g)) (args : List V) (σ : zd) : call T f args σ = g args σ:=by
 simp only [call,zg2,h]
theorem zyD (l : List Int) : zt9 1 (l.map ri) = true:=by
 induction l with
 | nil => rfl
 | cons x r ih => simp [zt9,ri,ih]
@[go_sem] theorem zsw (l : List Int) (a : l.length ≤ 4294967296) : call T 181 [vIs l] [] = some (vIs l,[]):=by
  rw [zuU (g:=zlh 1) rfl];simp [zlh,zqD,zyD,LIM,a]
theorem zpr (l : List Int) (n : Int) (a : l.length ≤ 4294967296) (o : Ob) (r : zd) : call T 179 [vIs l,.one (.ptr 1 0 0 0)] (o :: .cells 0 1 [[.f (ei n)]] :: r) = some (vB (!rising l n),o :: .cells 0 1 [[.f (ei n)]] :: r):=by
 rw [ze (fn:=zjA) rfl];have h:=zpB l n a;simp -implicitDefEqProofs only [go_sem] at h;simp -implicitDefEqProofs only [go_sem,zjA,h]
theorem zpb (n : Int) : ∀ (l : List Int) (last : Int),zag n last l = true → ∀ x ∈ l,last < x ∧ x < n
 | [],_,_,x,h => by simp at h
 | y :: r,last,h,x,a => by
   simp only [zag] at h;split at h
   ·cases h
   ·rename_i b
    rcases yC.1 a with rfl | a
    ·omega
    ·have:=zpb n r y h x a
     omega
theorem zsN (n : Int) : ∀ (l : List Int) (last : Int),zag n last l = true → -1 ≤ last → last < n → (l.length : Int) ≤ n - last - 1
 | [],last,_,h1,h2 => by simp; omega
 | y :: r,last,h,h1,h2 => by
   simp only [zag] at h;split at h
   ·cases h
   ·rename_i a
    have:=zsN n r y h (by omega) (by omega);simp only [yq];omega
theorem zhC {succ : List (List Int)} (h : zbY succ = true) : 1 ≤ succ.length ∧ succ.length ≤ 64 ∧ ∀ l ∈ succ,rising l succ.length = true:=by
 simp only [zbY,ys,yn,decide_eq_false_iff_not,List.any_eq_false,ys,yM] at h;exact ⟨by omega,by omega,fun l a => by simpa using h.2.2 l a⟩
theorem ztE (B : Nat) : ∀ l : List Nat,(∀ x ∈ l,x ≤ B) → l.sum ≤ B * l.length
 | [],_ => by simp
 | x :: r,h => by
   have b:=h x (by simp);have c:=ztE B r fun y a => h y (by simp [a]);simp only [yB,yq,Nat.mul_add];omega
theorem zCV (succ : List (List Int)) (l : zl5 succ) (o : succ.length ≤ 64) (o0 f : Ob) (i : o0.lt 3 = true) (j : f.lt 3 = true) : ∀ (d k : Nat) (a0 a2 a3 a5 a6 b : V),succ.length - k = d → k ≤ succ.length →
  exec T zh3 ⟨[a0,.one (.ptr 0 0 0 0),a2,a3,.one (.ap 2 0 ((succ.take k).map rl)),a5,a6,vLs succ,vI succ.length,vI k,b],[o0,f,.tok 1 [k]],0,0⟩ =
   some (.exit 0,⟨[vU,.one (.ptr 0 0 0 0),vU,vU,.one (.ap 2 0 (succ.map rl)),vU,vU,vU,vU,vU,vU],[o0,f,.tok 1 [succ.length]],0,0⟩):=by
 intro d
 induction d with
 | zero =>
   intro k a0 a2 a3 a5 a6 b n m;have a : k = succ.length:=(by omega);subst a;rw [xl zh3 rfl,zj3];simp -implicitDefEqProofs only [go_sem,ye,List.take_length]
 | succ d ih =>
   intro k a0 a2 a3 a5 a6 b n m;have a : k < succ.length:=(by omega);have h:=zsw succ[k] (l.2 _ (yg a));have g : (succ.take k).length = k:=(by simp; omega);have c : k + 1 ≤ LIM:=by unfold LIM; omega
   have e : (succ.take k).map rl ++ [[Fz.sl (succ[k].map ri)]] = (succ.take (k + 1)).map rl:=by
    rw [List.take_succ_eq_append_getElem a,yx];rfl
   rw [xl zh3 rfl,zj3];simp -implicitDefEqProofs only [go_sem] at h;simp -implicitDefEqProofs only [go_sem,ilt a,zt a,rl,h,g,c,za a l.1];have:=ih (k + 1) vU vU vU vU vU vU (by omega) (by omega);rw [← e] at this;simp -implicitDefEqProofs only [go_sem] at this;exact this
def zlE (succ : List (List Int)) : V:=if zbY succ = true then .tup [.agg [.f (.sl (succ.map rl)),.f (.sl ((z7 succ).map rl))],vI 0] else .tup [.agg [.f (.sl []),.f (.sl [])],vI 5]
theorem zic {succ : List (List Int)} (h : zbY succ = true) : (succ.map yy).sum ≤ 4294967296:=by
 obtain ⟨e,d,c⟩:=zhC h
 have:=ztE 64 (succ.map yy) (fun x a => by
  obtain ⟨l,b,rfl⟩:=List.mem_map.1 a;have:=zsN _ _ _ (c l b) (by omega) (by omega)
  omega)
 rw [yb] at this;have f : 64 * succ.length ≤ 64 * 64:=Nat.mul_le_mul_left _ d;omega
@[go_sem] theorem zlo (succ : List (List Int)) (e : zl5 succ) : call T 147 [vLs succ] [] = some (zlE succ,[]):=by
  rw [ze (fn:=zgt) rfl];have d:=zk5 succ (fun l => !rising l succ.length) 179 [] [.ptr 1 0 0 0] [.cells 0 2 [[.f (.sl []),.f (.sl [])]],.cells 0 1 [[.f (ei succ.length)]]] e.1 (fun x j => zpr x _ (e.2 x j) _ _);simp -implicitDefEqProofs only [go_sem] at d
  by_cases c1 : succ.length < 1
  ·have a : (succ.length : Int) < 1:=by omega
   simp -implicitDefEqProofs only [go_sem,zgt,zlE,zbY,c1,a]
  have a : ¬ (succ.length : Int) < 1:=by omega
  by_cases c2 : 64 < succ.length
  ·have b : (64 : Int) < (succ.length : Int):=by omega
   simp -implicitDefEqProofs only [go_sem,zgt,zlE,zbY,c1,a,c2,b]
  have b : ¬ (64 : Int) < (succ.length : Int):=by omega
  cases c3 : succ.any fun l => !rising l succ.length
  ·have c : zbY succ = true:=by simp [zbY,c1,c2,c3]
   obtain ⟨o,m,n⟩:=zhC c;have h:=fun a0 a2 a3 a5 a6 i => zCV succ e m (.cells 0 2 [[.f (.sl []),.f (.sl [])]]) (.cells 0 1 [[.f (ei succ.length)]]) rfl rfl succ.length 0 a0 a2 a3 a5 a6 i (by omega) (by omega);have k:=zBj succ e.1 e.2 (fun l h x j => by have:=zpb _ _ _ (n l h) x j; omega) (zic c);have g : (succ.length : Int) ≤ (LIM : Int):=(by unfold LIM; omega);simp -implicitDefEqProofs only [go_sem,yR,yc] at h k;simp -implicitDefEqProofs only [go_sem,zgt,a,b,d,c3,g,yI,h,k,zlE,c]
  ·simp -implicitDefEqProofs only [go_sem,zgt,zlE,zbY,c1,a,c2,b,d,c3]
end AC

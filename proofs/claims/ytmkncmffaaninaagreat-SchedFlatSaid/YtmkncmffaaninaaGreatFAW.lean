/- A part of the proof of SchedFlat. Conditions: none. -/
import Derived.Test.YtmkncmffaaninaaGreatFAV
import Derived.Test.YtmkncmffaaninaaGreatFAQ
set_option linter.all false
open List renaming length_map → ya,drop_eq_getElem_cons → yb,drop_length → yd,all_cons → yf,find?_cons → yi,getElem?_eq_some_iff → yj,all_nil → yk,drop_zero → yl,take_of_length_le → ym,set_append_right → yn,map_cons → yp,map_nil → yq,getElem_mem → yr,length_replicate → yt,take_succ_cons → yu,take_append → yx,find?_nil → yy,any_cons → yz,sum_cons → yA,mem_cons → yB
open Bool renaming and_eq_true → yc,and_true → yg,or_eq_false_iff → yo,and_eq_false_iff → ys,and_false → yv,not_eq_true' → yw,not_not → yC,not_or → yD
open Int renaming natCast_zero → ye,lt_irrefl → yh
namespace AC
open Go Go.A Go.A.Lex
def zgx (o : POp) : Bool:=zds o.bits o.lanes && ((zK o).2 && ((if zfz o.kind then decide (o.dst = 0) else value o.dst) && (decide ((zK o).1.length = o.args.length) && !o.args.any fun v => !value v)))
@[go_sem] theorem zAy (v : Int) (σ : zd) : call T 254 [vI v] σ = some (vB (!value v),σ):=by
  rw [ze (fn:=zkd) rfl];simp -implicitDefEqProofs only [go_sem,zkd]
@[go_sem] theorem zi5 (o : POp) (i : zBF o) (j : o.args.length ≤ 4294967296) : call T 236 [vOp o] [] = some (vB (zgx o),[]):=by
  rw [ze (fn:=zc1) rfl];cases a : zds o.bits o.lanes
  ·simp -implicitDefEqProofs only [go_sem,zc1,zgx,a]
  have b:=zq4 o a i;have h:=fun σ => zap o.args (fun v => !value v) 254 [] [] σ j (fun x _ => by simp -implicitDefEqProofs only [go_sem]);simp -implicitDefEqProofs only [go_sem,zbT] at b h;cases d : (zK o).2
  ·cases c : zfz o.kind
   ·simp -implicitDefEqProofs only [go_sem,zc1,zgx,a,b,d,c]
   ·simp -implicitDefEqProofs only [go_sem,zc1,zgx,a,b,d,c]
  ·cases c : zfz o.kind
   ·cases e : value o.dst
    ·simp -implicitDefEqProofs only [go_sem,zc1,zgx,a,b,d,c,e]
    ·by_cases g : (zK o).1.length = o.args.length
     ·simp -implicitDefEqProofs only [go_sem,zc1,zgx,a,b,d,c,e,g,h]
     ·have f : ¬ ((zK o).1.length : Int) = (o.args.length : Int):=by omega
      simp -implicitDefEqProofs only [go_sem,zc1,zgx,a,b,d,c,e,g,f]
   ·by_cases e : o.dst = 0
    ·by_cases g : (zK o).1.length = o.args.length
     ·simp -implicitDefEqProofs only [go_sem,zc1,zgx,a,b,d,c,eq_true e,g,h]
     ·have f : ¬ ((zK o).1.length : Int) = (o.args.length : Int):=by omega
      simp -implicitDefEqProofs only [go_sem,zc1,zgx,a,b,d,c,eq_true e,g,f]
    ·simp -implicitDefEqProofs only [go_sem,zc1,zgx,a,b,d,c,e]
theorem zwx {o : POp} (h : zgx o = true) : zds o.bits o.lanes = true:=by
 simp only [zgx,yc] at h;exact h.1
def zaY (o : POp) : List (Int × Int):=if zgx o = true then (zK o).1 else []
@[go_sem] theorem zoX (o : POp) (a : zBF o) (c : o.args.length ≤ 4294967296) : call T 238 [vOp o] [] = some (vSs (zaY o),[]):=by
  rw [ze (fn:=zho) rfl];have hm:=zi5 o a c;cases h : zgx o
  ·simp -implicitDefEqProofs only [go_sem,h] at hm
   simp -implicitDefEqProofs only [go_sem,zho,hm,zaY,h]
  ·have b:=zq4 o (zwx h) a
   simp -implicitDefEqProofs only [go_sem,h,zbT] at hm b;simp -implicitDefEqProofs only [go_sem,zho,hm,b,zaY,h]
def zad (o : POp) : Int × Int :=
 if zgx o = false ∨ zfz o.kind = true then (0,0) else if 10 ≤ o.kind ∧ o.kind ≤ 12 then (1,1) else if o.kind = 22 then (o.bits,1) else (o.bits,o.lanes)
@[go_sem] theorem zpJ (o : POp) (e : zBF o) (f : o.args.length ≤ 4294967296) : call T 206 [vOp o] [] = some (.tup [vI (zad o).1,vI (zad o).2],[]):=by
  rw [ze (fn:=zc5) rfl];have hm:=zi5 o e f;cases h : zgx o
  ·simp -implicitDefEqProofs only [go_sem,h] at hm
   simp -implicitDefEqProofs only [go_sem,zc5,hm,zad,h]
  ·simp -implicitDefEqProofs only [go_sem,h] at hm
   cases a : zfz o.kind
   ·by_cases c : 10 ≤ o.kind
    ·by_cases d : o.kind ≤ 12
     ·simp -implicitDefEqProofs only [go_sem,zc5,hm,zad,h,a,c,d]
     ·by_cases b : o.kind = 22
      ·simp -implicitDefEqProofs only [b] at a hm c d
       simp -implicitDefEqProofs only [go_sem,zc5,hm,zad,h,a,c,d,b]
      ·simp -implicitDefEqProofs only [go_sem,zc5,hm,zad,h,a,c,d,b,and_false]
    ·have b : ¬ o.kind = 22:=by omega
     simp -implicitDefEqProofs only [go_sem,zc5,hm,zad,h,a,c,b,false_and]
   ·simp -implicitDefEqProofs only [go_sem,zc5,hm,zad,h,a]
def impure (k : Int) : Bool:=decide (k = 4) || decide (k = 16) || decide (k = 17) || decide (k = 18) || decide (k = 19) || decide (k = 20)
def pure (k : Int) : Bool:=!impure k && (decide (0 ≤ k) && decide (k ≤ 22))
@[go_sem] theorem zkZ (k : Int) : call T 68 [vI k] [] = some (vB (pure k),[]):=by
  rw [ze (fn:=zdg) rfl]
  by_cases c1 : k = 4
  ·simp -implicitDefEqProofs only [go_sem,zdg,pure,impure,c1]
  by_cases c2 : k = 16
  ·simp -implicitDefEqProofs only [go_sem,zdg,pure,impure,c1,c2]
  by_cases c3 : k = 17
  ·simp -implicitDefEqProofs only [go_sem,zdg,pure,impure,c1,c2,c3]
  by_cases c4 : k = 18
  ·simp -implicitDefEqProofs only [go_sem,zdg,pure,impure,c1,c2,c3,c4]
  by_cases c5 : k = 19
  ·simp -implicitDefEqProofs only [go_sem,zdg,pure,impure,c1,c2,c3,c4,c5]
  by_cases c6 : k = 20
  ·simp -implicitDefEqProofs only [go_sem,zdg,pure,impure,c1,c2,c3,c4,c5,c6]
  by_cases c7 : 0 ≤ k <;> simp -implicitDefEqProofs only [go_sem,zdg,pure,impure,c1,c2,c3,c4,c5,c6,c7]
def num (n : Int) : Bool:=decide (0 ≤ n) && decide (n ≤ 2147483647)
@[go_sem] theorem zAK (n : Int) (σ : zd) : call T 192 [vI n] σ = some (vB (!num n),σ):=by
  rw [ze (fn:=zgU) rfl]
  by_cases c : n < 0
  ·have a : ¬ 0 ≤ n:=by omega
   simp -implicitDefEqProofs only [go_sem,zgU,num,c,a]
  ·have a : 0 ≤ n:=by omega
   by_cases d : 2147483647 < n
   ·have b : ¬ n ≤ 2147483647:=by omega
    simp -implicitDefEqProofs only [go_sem,zgU,num,c,a,d,b]
   ·have b : n ≤ 2147483647:=by omega
    simp -implicitDefEqProofs only [go_sem,zgU,num,c,a,d,b]
theorem zm0 {α : Type} (p : α → Bool) (l : List α) : (!l.any fun x => !p x) = l.all p:=by
 induction l with
 | nil => rfl
 | cons x r ih => simp only [yz,yf,← ih,yD,yC]
@[go_sem] theorem zgf (l : List Int) (b : l.length ≤ 4294967296) : call T 152 [vIs l] [] = some (vB (l.all num),[]):=by
  rw [ze (fn:=zpj) rfl];have a:=fun σ => zap l (fun v => !num v) 192 [] [] σ b (fun x _ => by simp -implicitDefEqProofs only [go_sem]);simp -implicitDefEqProofs only [go_sem] at a;simp -implicitDefEqProofs only [go_sem,zpj,a,zm0]
theorem zrR (a : Int) : call T 152 [vL [[ei a]]] [] = some (vB (num a),[]):=by
 have:=zgf [a] (by simp);simpa only [vIs,yp,yq,ri,yf,yk,yg] using this
theorem zmI (a b : Int) : call T 152 [vL [[ei a],[ei b]]] [] = some (vB (num a && num b),[]):=by
 have:=zgf [a,b] (by simp);simpa only [vIs,yp,yq,ri,yf,yk,yg] using this
theorem zss (a b c d : Int) : call T 152 [vL [[ei a],[ei b],[ei c],[ei d]]] [] = some (vB (num a && (num b && (num c && num d))),[]):=by
 have:=zgf [a,b,c,d] (by simp);simpa only [vIs,yp,yq,ri,yf,yk,yg] using this
def zfV (l : List Int) : Bool:=decide (l.length ≤ 64) && l.all num
theorem zoZ (a : List (List Int)) (m : a.length ≤ 4294967296) (h : ∀ l ∈ a,l.length ≤ 4294967296) : ∀ (d k : Nat) (a0 a1 a2 a6 a7 : V),a.length - k = d → k ≤ a.length →
  exec T zgH ⟨[a0,a1,a2,vLs a,vI a.length,vI k,a6,a7],[],0,0⟩ =
   some (if (a.drop k).all zfV = true then (.exit 0,⟨[vU,vU,vU,vU,vU,vU,vU,vU],[],0,0⟩) else (.ret,⟨[vU,vB false,vU,vU,vU,vU,vU,vU],[],0,0⟩)):=by
 intro d
 induction d with
 | zero =>
   intro k a0 a1 a2 a6 a7 i j;have b : k = a.length:=(by omega);subst b;rw [xl zgH rfl,zit];simp -implicitDefEqProofs only [go_sem,yh,yd,yk]
 | succ d ih =>
   intro k a0 a1 a2 a6 a7 i j;have b : k < a.length:=(by omega);have hd : a.drop k = a[k] :: a.drop (k + 1):=yb b;have f:=zgf a[k] (h _ (yr b));rw [xl zgH rfl,zit,hd]
   by_cases c : a[k].length ≤ 64
   ·have g : ¬ (64 : Int) < (a[k].length : Int):=by omega
    cases e : a[k].all num
    ·simp -implicitDefEqProofs only [go_sem,e] at f
     simp -implicitDefEqProofs only [go_sem,ilt b,zm b,rl,g,f,zfV,c,e]
    ·simp -implicitDefEqProofs only [go_sem,e] at f
     simp -implicitDefEqProofs only [go_sem,ilt b,zm b,rl,g,f,zfV,c,e,za b m];exact ih (k + 1) _ _ _ _ _ (by omega) (by omega)
   ·have g : (64 : Int) < (a[k].length : Int):=by omega
    simp -implicitDefEqProofs only [go_sem,ilt b,zm b,rl,g,zfV,c]
theorem zjU (a : List (List Int)) (d : a.length ≤ 4294967296) (b : ∀ l ∈ a,l.length ≤ 4294967296) : call T 194 [vLs a] [] = some (vB (a.all zfV),[]):=by
 rw [ze (fn:=zkc) rfl];have h:=fun a0 a1 a2 a6 a7 => zoZ a d b a.length 0 a0 a1 a2 a6 a7 (by omega) (by omega);simp only [yl,ye] at h;cases c : a.all zfV <;> simp -implicitDefEqProofs only [go_sem,c] at h <;> simp -implicitDefEqProofs only [go_sem,zkc,h]
theorem ze4 {α : Type} {p : α → Bool} {l : List α} (h : l.find? (fun x => !p x) = none) : l.all p = true:=by
 simp only [List.find?_eq_none,yw,Bool.not_eq_false] at h;simpa [List.all_eq_true] using h
theorem zeY {α : Type} {p : α → Bool} {l : List α} {x : α} (h : l.find? (fun x => !p x) = some x) : l.all p = false:=by
 have a:=List.find?_some h;have b:=List.mem_of_find?_eq_some h;simp only [yw] at a;exact List.all_eq_false.2 ⟨x,b,by simp [a]⟩
section ends
variable {α : Type} (σ r : List α) (o p q' : α)
theorem zB0 : (σ ++ o :: r)[σ.length]? = some o:=by simp
theorem zBK : (σ ++ o :: p :: r)[σ.length + 1]? = some p:=by simp
theorem zA6 : (σ ++ o :: p :: q' :: r)[σ.length + 2]? = some q':=by simp
theorem zrz (x : α) : (σ ++ o :: r).set σ.length x = σ ++ x :: r:=by simp [yn]
theorem zB1 (x : α) : (σ ++ o :: p :: r).set (σ.length + 1) x = σ ++ o :: x :: r:=by simp [yn]
theorem zBi (x : α) : (σ ++ o :: p :: q' :: r).set (σ.length + 2) x = σ ++ o :: p :: x :: r:=by simp [yn]
theorem zzZ : (σ ++ r).take σ.length = σ:=by simp
theorem zAb : (σ ++ o :: r).take (σ.length + 1) = σ ++ [o]:=by simp [yx,ym]
theorem zzu : (σ ++ o :: p :: r).take (σ.length + 2) = σ ++ [o,p]:=by simp [yx,ym]
end ends
theorem zD0 (n : Nat) : (n + 1 ≤ n) = False:=by simp
theorem zDR (n : Nat) : (n + 2 ≤ n) = False:=by simp
theorem zDw (n : Nat) : (n + 3 ≤ n) = False:=by simp
theorem zD8 (n : Nat) : (n + 4 ≤ n) = False:=by simp
theorem zCX (n : Nat) : (n + 5 ≤ n) = False:=by simp
theorem znc (n : Nat) : ∀ (a b : List Ob),Obs.lt n (a ++ b) = (Obs.lt n a && Obs.lt n b)
 | [],b => by simp [Obs.lt]
 | x :: a,b => by simp [Obs.lt,znc n a b,Bool.and_assoc]
attribute [go_sem] zB0 zBK zA6 zrz zB1 zBi zzZ zAb zzu zD0 zDR zDw zD8 zCX znc List.take_left'
def zhC (p : PPhi) : Bool:=(num p.bits && num p.dst) && (zfV p.src && zfV p.args)
def zln (o : POp) : Bool:=(num o.kind && (num o.bits && (num o.lanes && num o.dst))) && zfV o.args
def zpq (b : PBlock) : Bool:=(num b.kind && num b.arg) && zfV b.to
def zqX (b : PBlock) : Bool:=b.phis.all zhC && (b.ops.all zln && zpq b)
def zE6 (p : PPhi) : Prop:=p.src.length ≤ 4294967296 ∧ p.args.length ≤ 4294967296
def zur (o : POp) : Prop:=zBF o ∧ o.args.length ≤ 4294967296
structure okB (b : PBlock) : Prop where
 phis : b.phis.length ≤ 4294967296
 ops : b.ops.length ≤ 4294967296
 phi : ∀ p ∈ b.phis,zE6 p
 op : ∀ o ∈ b.ops,zur o
 to : b.to.length ≤ 4294967296
theorem zoJ (a : List Int) (b : a.length ≤ 4294967296) : call T 194 [vL [[eI a]]] [] = some (vB (zfV a),[]):=by
 have:=zjU [a] (by simp) (by simpa using b);simpa only [vLs,yp,yq,rl,yf,yk,yg] using this
theorem zuW (a b : List Int) (c : a.length ≤ 4294967296) (hb : b.length ≤ 4294967296) : call T 194 [vL [[eI a],[eI b]]] [] = some (vB (zfV a && zfV b),[]):=by
 have:=zjU [a,b] (by simp) (by simpa using ⟨c,hb⟩);simpa only [vLs,yp,yq,rl,yf,yk,yg] using this
section
variable (b : PBlock) (hb : okB b)
include hb
theorem zun : ∀ (d k : Nat) (a0 a2 a3 a4 a8 a9 f g h e c : V),b.phis.length - k = d → k ≤ b.phis.length →
  exec T ze7 ⟨[a0,.one (.ptr 0 0 0 0),a2,a3,a4,vL (b.phis.map rp),vI b.phis.length,vI k,a8,a9,f,g,h,e,c],[.cells 0 5 [zh b]],0,0⟩ =
   some (match (b.phis.drop k).find? (fun x => !zhC x) with | none => (.exit 0,⟨[vU,.one (.ptr 0 0 0 0),vU,vU,vU,vU,vU,vU,vU,vU,vU,vU,vU,vU,vU],[.cells 0 5 [zh b]],0,0⟩) | some x => (.ret,⟨[vU,vU,vB false,vU,vU,vU,vU,vU,vU,vU,vU,vU,vU,vU,vU],[.cells 0 5 [zh b],.cells 0 4 [zuR x]],0,0⟩)):=by
 intro d
 induction d with
 | zero =>
   intro k a0 a2 a3 a4 a8 a9 f g h e c l j;have a : k = b.phis.length:=(by omega);subst a;rw [xl ze7 rfl,zgi];simp -implicitDefEqProofs only [go_sem,yh,yd,yy]
 | succ d ih =>
   intro k a0 a2 a3 a4 a8 a9 f g h e c l j;have a : k < b.phis.length:=(by omega);have hd : b.phis.drop k = b.phis[k] :: b.phis.drop (k + 1):=yb a;have i:=hb.phi _ (yr a);have c1:=zmI b.phis[k].bits b.phis[k].dst;have c2:=zuW b.phis[k].src b.phis[k].args i.1 i.2;rw [xl ze7 rfl,zgi,hd];cases e1 : (num b.phis[k].bits && num b.phis[k].dst)
   ·simp -implicitDefEqProofs only [go_sem,e1] at c1 c2
    simp -implicitDefEqProofs only [go_sem,ilt a,zm a,rp,c1,c2,zhC,yi,e1]
   ·cases e2 : (zfV b.phis[k].src && zfV b.phis[k].args)
    ·simp -implicitDefEqProofs only [go_sem,e1,e2] at c1 c2
     simp -implicitDefEqProofs only [go_sem,ilt a,zm a,rp,c1,c2,zhC,yi,e1,e2]
    ·simp -implicitDefEqProofs only [go_sem,e1,e2] at c1 c2
     simp -implicitDefEqProofs only [go_sem,ilt a,zm a,rp,c1,c2,zhC,yi,e1,e2,za a hb.phis];exact ih (k + 1) _ _ _ _ _ _ _ _ _ _ _ (by omega) (by omega)
theorem zu1 : ∀ (d k : Nat) (a0 a2 a3 a4 a5 a6 a7 a8 a9 e c : V),b.ops.length - k = d → k ≤ b.ops.length →
  exec T ze9 ⟨[a0,.one (.ptr 0 0 0 0),a2,a3,a4,a5,a6,a7,a8,a9,vL (b.ops.map ro),vI b.ops.length,vI k,e,c],[.cells 0 5 [zh b]],0,0⟩ =
   some (match (b.ops.drop k).find? (fun x => !zln x) with | none => (.exit 2,⟨[vU,.one (.ptr 0 0 0 0),vU,vU,vU,vU,vU,vU,vU,vU,vU,vU,vU,vU,vU],[.cells 0 5 [zh b]],0,0⟩) | some x => (.ret,⟨[vU,vU,vB false,vU,vU,vU,vU,vU,vU,vU,vU,vU,vU,vU,vU],[.cells 0 5 [zh b],.cells 0 6 [cOp x]],0,0⟩)):=by
 intro d
 induction d with
 | zero =>
   intro k a0 a2 a3 a4 a5 a6 a7 a8 a9 e c h f;have a : k = b.ops.length:=(by omega);subst a;rw [xl ze9 rfl,zgj];simp -implicitDefEqProofs only [go_sem,yh,yd,yy]
 | succ d ih =>
   intro k a0 a2 a3 a4 a5 a6 a7 a8 a9 e c h f;have a : k < b.ops.length:=(by omega);have hd : b.ops.drop k = b.ops[k] :: b.ops.drop (k + 1):=yb a;have g:=hb.op _ (yr a);have c1:=zss b.ops[k].kind b.ops[k].bits b.ops[k].lanes b.ops[k].dst;have c2:=zoJ b.ops[k].args g.2;rw [xl ze9 rfl,zgj,hd];cases e1 : (num b.ops[k].kind && (num b.ops[k].bits && (num b.ops[k].lanes && num b.ops[k].dst)))
   ·simp -implicitDefEqProofs only [go_sem,e1] at c1 c2
    simp -implicitDefEqProofs only [go_sem,ilt a,zm a,ro,c1,c2,zln,yi,e1]
   ·cases e2 : zfV b.ops[k].args
    ·simp -implicitDefEqProofs only [go_sem,e1,e2] at c1 c2
     simp -implicitDefEqProofs only [go_sem,ilt a,zm a,ro,c1,c2,zln,yi,e1,e2]
    ·simp -implicitDefEqProofs only [go_sem,e1,e2] at c1 c2
     simp -implicitDefEqProofs only [go_sem,ilt a,zm a,ro,c1,c2,zln,yi,e1,e2,za a hb.ops];exact ih (k + 1) _ _ _ _ _ _ _ _ _ _ _ (by omega) (by omega)
set_option maxRecDepth 10000 in
@[go_sem] theorem zrN : call T 155 [znB b] [] = some (vB (zqX b),[]):=by
  rw [ze (fn:=zcW) rfl];have a:=fun a0 a2 a3 a4 a8 a9 f g h d c => zun b hb b.phis.length 0 a0 a2 a3 a4 a8 a9 f g h d c (by omega) (by omega);have e:=fun a0 a2 a3 a4 a5 a6 a7 a8 a9 d c => zu1 b hb b.ops.length 0 a0 a2 a3 a4 a5 a6 a7 a8 a9 d c (by omega) (by omega);have c1:=zmI b.kind b.arg;have c2:=zoJ b.to hb.to;simp only [yl,ye] at a e
  cases e1 : b.phis.find? (fun x => !zhC x) with
  | some x =>
    have a1:=zeY e1;simp -implicitDefEqProofs only [go_sem,e1] at a;simp -implicitDefEqProofs only [go_sem,zcW,a,zqX,a1]
  | none =>
  have a1:=ze4 e1
  cases e2 : b.ops.find? (fun x => !zln x) with
  | some x =>
    have a2:=zeY e2;simp -implicitDefEqProofs only [go_sem,e1,e2] at a e;simp -implicitDefEqProofs only [go_sem,zcW,a,e,zqX,a1,a2]
  | none =>
  have a2:=ze4 e2;simp -implicitDefEqProofs only [go_sem,e1,e2] at a e;cases e3 : (num b.kind && num b.arg)
  ·simp -implicitDefEqProofs only [go_sem,e3] at c1 c2
   simp -implicitDefEqProofs only [go_sem,zcW,a,e,c1,c2,zqX,zpq,a1,a2,e3]
  ·simp -implicitDefEqProofs only [go_sem,e3] at c1 c2
   simp -implicitDefEqProofs only [go_sem,zcW,a,e,c1,c2,zqX,zpq,a1,a2,e3]
end
@[go_sem] theorem zo3 (b : PBlock) (hb : okB b) (σ : zd) (a : Obs.lt σ.length σ = true) : call T 154 [znB b] σ = some (vB (!zqX b),σ):=by
  rw [ze (fn:=zjw) rfl];have h:=zrN b hb;simp -implicitDefEqProofs only [go_sem] at h;simp -implicitDefEqProofs only [go_sem,zjw,h,a]
structure okF (f : PFunc) : Prop where
 params : f.params.length ≤ 4294967296
 blocks : f.blocks.length ≤ 4294967296
 block : ∀ b ∈ f.blocks,okB b
 small : (f.blocks.map fun b => b.phis.length + b.ops.length).sum ≤ 4294967296
def zh8 (f : PFunc) : Nat:=f.blocks.length + (f.blocks.map fun b => b.phis.length + b.ops.length).sum
theorem zpA (l : List Nat) : ∀ k,(l.take k).sum ≤ l.sum:=by
 induction l with
 | nil => simp
 | cons x r ih =>
   intro k
   cases k with
   | zero => simp
   | succ k =>
     simp only [yu,yA];have:=ih k;omega
theorem zmz (l : List Nat) (k : Nat) (a : k < l.length) : (l.take (k + 1)).sum = (l.take k).sum + l[k]:=by
 induction l generalizing k with
 | nil => simp at a
 | cons x r ih =>
   cases k with
   | zero => simp
   | succ k =>
     simp only [yu,yA,List.getElem_cons_succ];rw [ih k (by simpa using a)];omega
theorem zAz (f : PFunc) (c : okF f) : ∀ (d k : Nat) (a0 a1 a2 a4 a8 : V),f.blocks.length - k = d → k ≤ f.blocks.length →
  exec T zhG ⟨[a0,a1,a2,vI ((f.blocks.length + ((f.blocks.map fun b => b.phis.length + b.ops.length).take k).sum : Nat) : Int),a4,vL (f.blocks.map rb),vI f.blocks.length,vI k,a8],[.cells 0 3 [zc4 f]],0,0⟩ =
   some (.exit 0,⟨[vU,vU,vU,vI (zh8 f : Int),vU,vU,vU,vU,vU],[.cells 0 3 [zc4 f]],0,0⟩):=by
 intro d
 induction d with
 | zero =>
   intro k a0 a1 a2 a4 a8 i h;have a : k = f.blocks.length:=(by omega);subst a;rw [xl zhG rfl,zjT];have e : (f.blocks.map fun b => b.phis.length + b.ops.length).take f.blocks.length = f.blocks.map fun b => b.phis.length + b.ops.length:=ym (by simp);simp -implicitDefEqProofs only [go_sem,yh,e,zh8]
 | succ d ih =>
   intro k a0 a1 a2 a4 a8 i h;have a : k < f.blocks.length:=(by omega);have g : k < (f.blocks.map fun b => b.phis.length + b.ops.length).length:=(by simpa using a);have e:=zmz (f.blocks.map fun b => b.phis.length + b.ops.length) k g;have e2:=zpA (f.blocks.map fun b => b.phis.length + b.ops.length) (k + 1);have e3:=c.small;have e4:=c.blocks;simp only [List.getElem_map] at e
   have l : Go.IntKind.i64.wrap ((f.blocks[k].phis.length : Int) + (f.blocks[k].ops.length : Int)) = ((f.blocks[k].phis.length + f.blocks[k].ops.length : Nat) : Int):=by
    rw [wrap_i64] <;> omega
   have j : Go.IntKind.i64.wrap (((f.blocks.length + ((f.blocks.map fun b => b.phis.length + b.ops.length).take k).sum : Nat) : Int) + ((f.blocks[k].phis.length + f.blocks[k].ops.length : Nat) : Int)) = ((f.blocks.length + ((f.blocks.map fun b => b.phis.length + b.ops.length).take (k + 1)).sum : Nat) : Int):=by
    rw [wrap_i64] <;> omega
   rw [xl zhG rfl,zjT];simp -implicitDefEqProofs only [go_sem,ilt a,zm a,rb,l,j,za a c.blocks];exact ih (k + 1) _ _ _ _ _ (by omega) (by omega)
@[go_sem] theorem zqf (f : PFunc) (a : okF f) : call T 151 [zfZ f] [] = some (vI (zh8 f : Int),[]):=by
  rw [ze (fn:=zlt) rfl];have h:=fun a0 a1 a2 a4 a8 => zAz f a f.blocks.length 0 a0 a1 a2 a4 a8 (by omega) (by omega);simp only [List.take_zero,List.sum_nil,Nat.add_zero,ye] at h;simp -implicitDefEqProofs only [go_sem] at h;simp -implicitDefEqProofs only [go_sem,zlt,h]
def zlU (f : PFunc) : Bool :=
 !(decide (f.blocks.length < 1) || (decide (64 < f.blocks.length) || (decide (16 < f.params.length) || (decide (512 < zh8 f) || (!num f.ret || !f.params.all num))))) && f.blocks.all zqX
@[go_sem] theorem zr4 (f : PFunc) (i : okF f) : call T 105 [zfZ f] [] = some (vB (zlU f),[]):=by
  rw [ze (fn:=zey) rfl];have h:=zqf f i;have g:=zrR f.ret;have j:=zgf f.params i.params
  have k:=ziB f.blocks (fun b => !zqX b) 154 [] [] [.cells 0 3 [zc4 f]] i.blocks (fun x l => by
   have:=zo3 x (i.block x l) [.cells 0 3 [zc4 f]] rfl;simp -implicitDefEqProofs only [go_sem] at this
   simp -implicitDefEqProofs only [go_sem,this])
  have m : f.params.length ≤ 4294967296:=i.params;simp -implicitDefEqProofs only [go_sem] at h g k j
  by_cases c1 : f.blocks.length < 1
  ·have a : (f.blocks.length : Int) < 1:=by omega
   simp -implicitDefEqProofs only [go_sem,zey,zlU,c1,a]
  have a : ¬ (f.blocks.length : Int) < 1:=by omega
  by_cases c2 : 64 < f.blocks.length
  ·have c : (64 : Int) < (f.blocks.length : Int):=by omega
   simp -implicitDefEqProofs only [go_sem,zey,zlU,c1,a,c2,c]
  have c : ¬ (64 : Int) < (f.blocks.length : Int):=by omega
  by_cases c3 : 16 < f.params.length
  ·have d : (16 : Int) < (f.params.length : Int):=by omega
   simp -implicitDefEqProofs only [go_sem,zey,zlU,c1,a,c2,c,c3,d]
  have d : ¬ (16 : Int) < (f.params.length : Int):=by omega
  by_cases c4 : 512 < zh8 f
  ·have e : (512 : Int) < (zh8 f : Int):=by omega
   simp -implicitDefEqProofs only [go_sem,zey,zlU,c1,a,c2,c,c3,d,h,c4,e]
  have e : ¬ (512 : Int) < (zh8 f : Int):=by omega
  cases c5 : num f.ret
  ·simp -implicitDefEqProofs only [go_sem,c5] at g
   simp -implicitDefEqProofs only [go_sem,zey,zlU,c1,a,c2,c,c3,d,h,c4,e,g,c5]
  cases c6 : f.params.all num
  ·simp -implicitDefEqProofs only [go_sem,c5,c6] at g j
   simp -implicitDefEqProofs only [go_sem,zey,zlU,c1,a,c2,c,c3,d,h,c4,e,g,j,c5,c6]
  simp -implicitDefEqProofs only [go_sem,c5,c6] at g j;simp -implicitDefEqProofs only [go_sem,zey,zlU,c1,a,c2,c,c3,d,h,c4,e,g,j,c5,c6,k,zm0]
theorem zfM (b : Int) : call T 125 [vI b] [] = some (vB (zhP b),[]):=by
 rw [ze (fn:=zan) rfl]
 by_cases c1 : b = 1
 ·simp -implicitDefEqProofs only [go_sem,zan,zhP,c1]
 by_cases c2 : b = 8
 ·simp -implicitDefEqProofs only [go_sem,zan,zhP,c1,c2]
 by_cases c3 : b = 16
 ·simp -implicitDefEqProofs only [go_sem,zan,zhP,c1,c2,c3]
 by_cases c4 : b = 32
 ·simp -implicitDefEqProofs only [go_sem,zan,zhP,c1,c2,c3,c4]
 by_cases c5 : b = 64 <;> simp -implicitDefEqProofs only [go_sem,zan,zhP,c1,c2,c3,c4,c5]
theorem zuY (v b : Int) (f : 0 ≤ v) (g : v < 18446744073709551616) : call T 224 [zEm v,vI b] [] = some (zEm (zza v b),[]):=by
 rw [ze (fn:=z8) rfl];have hm:=zfM b;have d : Go.IntKind.u64.bits = 64:=rfl;cases hw : zhP b
 ·simp -implicitDefEqProofs only [go_sem,hw] at hm
  simp -implicitDefEqProofs only [go_sem,z8,hm,zza,hw]
 have t : ∀ n : Int,v.tmod n = v % n:=fun n => Int.tmod_eq_emod_of_nonneg f;simp -implicitDefEqProofs only [go_sem,hw] at hm;rcases zcU hw with rfl | rfl | rfl | rfl | rfl
 ·have c : IntKind.u64.wrap 1 = 1:=rfl
  have a : IntKind.u64.wrap (1 * 2 ^ min 1 64) = 2:=rfl;simp -implicitDefEqProofs only [go_sem,z8,hm,d,c,a,t,zza,hw];rfl
 ·have c : IntKind.u64.wrap 8 = 8:=rfl
  have a : IntKind.u64.wrap (1 * 2 ^ min 8 64) = 256:=rfl;simp -implicitDefEqProofs only [go_sem,z8,hm,d,c,a,t,zza,hw];rfl
 ·have c : IntKind.u64.wrap 16 = 16:=rfl
  have a : IntKind.u64.wrap (1 * 2 ^ min 16 64) = 65536:=rfl;simp -implicitDefEqProofs only [go_sem,z8,hm,d,c,a,t,zza,hw];rfl
 ·have c : IntKind.u64.wrap 32 = 32:=rfl
  have a : IntKind.u64.wrap (1 * 2 ^ min 32 64) = 4294967296:=rfl;simp -implicitDefEqProofs only [go_sem,z8,hm,d,c,a,t,zza,hw];rfl
 ·have e : v % 2 ^ (64 : Nat) = v:=by
   show v % 18446744073709551616 = v
   omega
  simp -implicitDefEqProofs only [go_sem,z8,hm,zza,hw,Int.reduceToNat,e]
theorem zi1 (v : Int) : call T 74 [vI v] [] = some (vB (value v),[]):=by
 rw [ze (fn:=zaN) rfl];have e1 : (v > 0) = (1 ≤ v):=by apply propext; omega
 have e2 : (v < 1024) = (v ≤ 1023):=by apply propext; omega
 by_cases c1 : 1 ≤ v
 ·have d1 : 0 < v:=by omega
  by_cases c2 : v ≤ 1023
  ·have d2 : v < 1024:=by omega
   simp -implicitDefEqProofs only [go_sem,zaN,value,c1,c2,eq_true d1,eq_true d2]
  ·have d2 : ¬ v < 1024:=by omega
   simp -implicitDefEqProofs only [go_sem,zaN,value,c1,c2,eq_true d1,d2]
 ·have d1 : ¬ 0 < v:=by omega
  simp -implicitDefEqProofs only [go_sem,zaN,value,c1,d1]
theorem zcA (n : Int) : call T 122 [vI n] [] = some (vB (num n),[]):=by
 rw [ze (fn:=zdl) rfl]
 by_cases c1 : 0 ≤ n
 ·simp -implicitDefEqProofs only [go_sem,zdl,num,eq_true c1]
 ·simp -implicitDefEqProofs only [go_sem,zdl,num,c1]
theorem zwS (a b : List Int) (j : a.length = b.length) (m : a.length ≤ 4294967296) : ∀ (d k : Nat) (a2 a4 a5 a6 : V),a.length - k = d → k ≤ a.length →
  exec T zb7 ⟨[vIs a,vIs b,a2,vI k,a4,a5,a6],[],0,0⟩ = some (if a.drop k = b.drop k then (.exit 0,⟨[vU,vU,vU,vU,vU,vU,vU],[],0,0⟩) else (.ret,⟨[vU,vU,vB false,vU,vU,vU,vU],[],0,0⟩)):=by
 intro d
 induction d with
 | zero =>
   intro k a2 a4 a5 a6 i l;have f : k = a.length:=(by omega);subst f;have e : a.drop a.length = b.drop a.length:=(by rw [yd,j,yd]);rw [xl zb7 rfl,zeb,if_pos e];simp -implicitDefEqProofs only [go_sem,yh,ya]
 | succ d ih =>
   intro k a2 a4 a5 a6 i l;have f : k < a.length:=(by omega);have g : k < b.length:=(by omega);have hd : a.drop k = a[k] :: a.drop (k + 1):=yb f;have h : b.drop k = b[k] :: b.drop (k + 1):=yb g;have:=ih (k + 1) vU vU vU vU (by omega) (by omega);rw [xl zb7 rfl,zeb,hd,h];simp -implicitDefEqProofs only [go_sem] at this
   by_cases c : a[k] = b[k]
   ·simp -implicitDefEqProofs only [go_sem,ilt f,zm f,zm g,ri,ya,za f m,c,this,List.cons.injEq]
   ·simp -implicitDefEqProofs only [go_sem,ilt f,zm f,zm g,ri,ya,c,List.cons.injEq,false_and]
theorem zhr (a b : List Int) (f : a.length ≤ 4294967296) : call T 22 [vIs a,vIs b] [] = some (vB (decide (a = b)),[]):=by
 rw [ze (fn:=za9) rfl]
 by_cases e : a.length = b.length
 ·have h:=fun a2 a4 a5 a6 => zwS a b e f a.length 0 a2 a4 a5 a6 (by omega) (by omega)
  simp only [ye,yl] at h;have d : (a.length : Int) = (b.length : Int):=by omega
  by_cases c : a = b
  ·simp -implicitDefEqProofs only [go_sem,c] at h
   simp -implicitDefEqProofs only [go_sem,za9,h,c,ya]
  ·simp -implicitDefEqProofs only [go_sem,c] at h
   simp -implicitDefEqProofs only [go_sem,za9,h,c,ya,d]
 ·have d : ¬ (a.length : Int) = (b.length : Int):=by omega
  have c : ¬ a = b:=fun h => e (by rw [h]);simp -implicitDefEqProofs only [go_sem,za9,c,ya,d]
theorem zx9 (l : List Int) (x : Int) (g : l.length ≤ 4294967296) : ∀ (d k : Nat) (a2 a4 a5 : V),l.length - k = d → k ≤ l.length →
  exec T zcN ⟨[vIs l,vI x,a2,vI k,a4,a5],[],0,0⟩ = some (if x ∈ l.drop k then (.ret,⟨[vU,vU,vB true,vU,vU,vU],[],0,0⟩) else (.exit 0,⟨[vU,vU,vU,vU,vU,vU],[],0,0⟩)):=by
 intro d
 induction d with
 | zero =>
   intro k a2 a4 a5 b f;have a : k = l.length:=(by omega);subst a;rw [xl zcN rfl,zeK];simp -implicitDefEqProofs only [go_sem,yh,ya,yd,List.not_mem_nil]
 | succ d ih =>
   intro k a2 a4 a5 b f;have a : k < l.length:=(by omega);have hd : l.drop k = l[k] :: l.drop (k + 1):=yb a;have:=ih (k + 1) vU vU vU (by omega) (by omega);rw [xl zcN rfl,zeK,hd];simp -implicitDefEqProofs only [go_sem] at this
   by_cases c : l[k] = x
   ·simp -implicitDefEqProofs only [go_sem,ilt a,zm a,ri,ya,c,yB]
   ·have e : ¬ x = l[k]:=fun h => c h.symm
    simp -implicitDefEqProofs only [go_sem,ilt a,zm a,ri,ya,za a g,c,e,this,yB]
theorem zlR (l : List Int) (x : Int) (a : l.length ≤ 4294967296) : call T 66 [vIs l,vI x] [] = some (vB (decide (x ∈ l)),[]):=by
 rw [ze (fn:=zdj) rfl];have h:=fun a2 a4 a5 => zx9 l x a l.length 0 a2 a4 a5 (by omega) (by omega);simp only [ye,yl] at h
 by_cases c : x ∈ l
 ·simp -implicitDefEqProofs only [go_sem,c] at h
  simp -implicitDefEqProofs only [go_sem,zdj,h,c]
 ·simp -implicitDefEqProofs only [go_sem,c] at h
  simp -implicitDefEqProofs only [go_sem,zdj,h,c]
theorem zw6 (l : List Int) (g : l.length ≤ 4294967296) : ∀ (d k : Nat) (a1 a3 a4 : V),l.length - k = d → k ≤ l.length →
  exec T zce ⟨[vIs l,a1,vI k,a3,a4],[],0,0⟩ = some (if (l.drop k).all num = true then (.exit 0,⟨[vIs l,vU,vU,vU,vU],[],0,0⟩) else (.ret,⟨[vU,vB false,vU,vU,vU],[],0,0⟩)):=by
 intro d
 induction d with
 | zero =>
   intro k a1 a3 a4 e f;have a : k = l.length:=(by omega);subst a;rw [xl zce rfl,zef];simp -implicitDefEqProofs only [go_sem,yh,ya,yd,yk]
 | succ d ih =>
   intro k a1 a3 a4 e f;have a : k < l.length:=(by omega);have hd : l.drop k = l[k] :: l.drop (k + 1):=yb a;have:=ih (k + 1) vU vU vU (by omega) (by omega);have b:=zcA l[k];rw [xl zce rfl,zef,hd,yf];simp -implicitDefEqProofs only [go_sem] at this;cases c : num l[k]
   ·simp -implicitDefEqProofs only [go_sem,c] at b
    simp -implicitDefEqProofs only [go_sem,ilt a,zm a,ri,ya,c,b]
   ·simp -implicitDefEqProofs only [go_sem,c] at b
    simp -implicitDefEqProofs only [go_sem,ilt a,zm a,ri,ya,za a g,c,b,this]
theorem zgc (l : List Int) (a : l.length ≤ 4294967296) : call T 121 [vIs l] [] = some (vB (zfV l),[]):=by
 rw [ze (fn:=zcG) rfl];have h:=fun a1 a3 a4 => zw6 l a l.length 0 a1 a3 a4 (by omega) (by omega);simp only [ye,yl] at h;have e : ((l.length : Int) ≤ 64) = (l.length ≤ 64):=by apply propext; omega
 cases c : l.all num
 ·simp -implicitDefEqProofs only [go_sem,c] at h
  simp -implicitDefEqProofs only [go_sem,zcG,h,zfV,c,yv]
 ·simp -implicitDefEqProofs only [go_sem,c] at h
  simp -implicitDefEqProofs only [go_sem,zcG,h,zfV,c,ya,e,yg]
theorem zrG (b l : Int) : call T 170 [vI b,vI l] [] = some (vB (zds b l),[]):=by
 rw [ze (fn:=z6) rfl];have a:=zfM b;cases hm : zhP b
 ·simp -implicitDefEqProofs only [go_sem,hm] at a
  simp -implicitDefEqProofs only [go_sem,z6,zds,hm,a]
 simp -implicitDefEqProofs only [go_sem,hm] at a
 by_cases c1 : l = 1
 ·simp -implicitDefEqProofs only [go_sem,z6,zds,hm,a,c1]
 cases c : zly l
 ·have d:=c
  simp only [zly,yo,decide_eq_false_iff_not] at d;obtain ⟨⟨⟨c2,c3⟩,c4⟩,c5⟩:=d;simp -implicitDefEqProofs only [go_sem,z6,zds,hm,a,c1,c2,c3,c4,c5,c]
 ·have j:=zcU hm
  have e : (b > 1) = (8 ≤ b):=by apply propext; omega
  by_cases c8 : 8 ≤ b
  ·have c9 : 1 < b:=by omega
   rcases zfE c with rfl | rfl | rfl | rfl
   all_goals
    have i : Go.IntKind.i64.wrap (b * 2) = b * 2:=wrap_i64 (by omega) (by omega);have g : Go.IntKind.i64.wrap (b * 4) = b * 4:=wrap_i64 (by omega) (by omega);have h : Go.IntKind.i64.wrap (b * 8) = b * 8:=wrap_i64 (by omega) (by omega);have f : Go.IntKind.i64.wrap (b * 16) = b * 16:=wrap_i64 (by omega) (by omega);simp -implicitDefEqProofs only [go_sem,z6,zds,hm,a,c1,c,c8,eq_true c9,i,g,h,f]
  ·have c9 : ¬ 1 < b:=by omega
   rcases zfE c with rfl | rfl | rfl | rfl
   all_goals simp -implicitDefEqProofs only [go_sem,z6,zds,hm,a,c1,c,c8,c9]
set_option maxHeartbeats 8000000
def zgA (k : Int) : Bool:=decide (0 ≤ k) && decide (k ≤ 22)
theorem zhp {k : Int} (h : zgA k = true) : k = 0 ∨ k = 1 ∨ k = 2 ∨ k = 3 ∨ k = 4 ∨ k = 5 ∨ k = 6 ∨ k = 7 ∨ k = 8 ∨ k = 9 ∨ k = 10 ∨ k = 11 ∨ k = 12 ∨ k = 13 ∨ k = 14 ∨ k = 15 ∨ k = 16 ∨ k = 17 ∨ k = 18 ∨ k = 19 ∨ k = 20 ∨ k = 21 ∨ k = 22:=by
 simp only [zgA,yc,decide_eq_true_eq] at h;omega
def zBN (o : POp) : Int:=if zgA o.kind = true then ((zK o).1.length : Int) else -1
section
variable (o : POp) (hs : zds o.bits o.lanes = true) (ho : zBF o)
include hs
theorem zsS : call T 171 [vOp o] [] = some (vI (zBN o),[]):=by
 rw [ze (fn:=za4) rfl];obtain ⟨kind,bits,lanes,dst,args,a⟩:=o;obtain ⟨hm,h⟩:=zfn hs;dsimp only at *;cases c : zgA kind
 ·simp only [zgA,ys,decide_eq_false_iff_not] at c
  have b : zBN ⟨kind,bits,lanes,dst,args,a⟩ = -1:=by
   unfold zBN;rw [if_neg];simp only [zgA,yc,decide_eq_true_eq];omega
  have n0 : ¬ kind = 0:=by omega
  have g : ¬ kind = 1:=by omega
  have n2 : ¬ kind = 2:=by omega
  have e : ¬ kind = 3:=by omega
  have f : ¬ kind = 4:=by omega
  have n5 : ¬ kind = 5:=by omega
  have n6 : ¬ kind = 6:=by omega
  have n7 : ¬ kind = 7:=by omega
  have n8 : ¬ kind = 8:=by omega
  have n9 : ¬ kind = 9:=by omega
  have n10 : ¬ kind = 10:=by omega
  have n11 : ¬ kind = 11:=by omega
  have n12 : ¬ kind = 12:=by omega
  have n13 : ¬ kind = 13:=by omega
  have n14 : ¬ kind = 14:=by omega
  have n15 : ¬ kind = 15:=by omega
  have n16 : ¬ kind = 16:=by omega
  have n17 : ¬ kind = 17:=by omega
  have n18 : ¬ kind = 18:=by omega
  have n19 : ¬ kind = 19:=by omega
  have n20 : ¬ kind = 20:=by omega
  have n21 : ¬ kind = 21:=by omega
  have n22 : ¬ kind = 22:=by omega
  rw [b];simp -implicitDefEqProofs only [go_sem,za4,n0,g,n2,e,f,n5,n6,n7,n8,n9,n10,n11,n12,n13,n14,n15,n16,n17,n18,n19,n20,n21,n22]
 ·have d : ((lanes.toNat : Nat) : Int) = lanes:=by omega
  rcases zhp c with rfl | rfl | rfl | rfl | rfl | rfl | rfl | rfl | rfl | rfl | rfl | rfl | rfl | rfl | rfl | rfl | rfl | rfl | rfl | rfl | rfl | rfl | rfl
  all_goals first
   | (simp -implicitDefEqProofs only [go_sem,za4,zBN,zgA,zK,arith,asks,yt,d]; done)
   | (simp -implicitDefEqProofs only [go_sem,za4,zBN,zgA,zK,arith,asks,yt,d]; rfl)
include ho
theorem ztY (l : zgA o.kind = true) : call T 172 [vOp o] [] = some (vB (zK o).2,[]):=by
 rw [ze (fn:=zaz) rfl];obtain ⟨kind,bits,lanes,dst,args,a⟩:=o;obtain ⟨hm,p⟩:=zfn hs;obtain ⟨j,k⟩:=ho;dsimp only at *;have m:=zcU hm;have g:=zuY a bits j k;have c : Go.IntKind.u64.wrap bits = bits:=wrap_u64 (by omega) (by omega);have f : Go.IntKind.u64.wrap lanes = lanes:=wrap_u64 (by omega) (by omega);have n : (bits < 8) = (¬ 8 ≤ bits):=by apply propext; omega
 have el : (lanes < 2) = (lanes = 1):=by apply propext; omega
 simp -implicitDefEqProofs only [go_sem] at g
 by_cases b : kind = 14 ∨ kind = 15
 ·by_cases d1 : lanes = 1
  ·by_cases d2 : a ≤ 64
   ·have h : Go.IntKind.i64.wrap a = a:=wrap_i64 (by omega) (by omega)
    have i:=zfM a;simp -implicitDefEqProofs only [go_sem] at i
    by_cases d3 : a < bits <;> by_cases d4 : bits < a <;> rcases b with rfl | rfl <;> simp -implicitDefEqProofs only [go_sem,zaz,zK,arith,asks,d1,d2,d3,d4,c,h,i]
   ·have d3 : ¬ a < bits:=by omega
    have d4 : bits < a:=(by omega);rcases b with rfl | rfl <;> simp -implicitDefEqProofs only [go_sem,zaz,zK,arith,asks,d1,d2,d3,eq_true d4,c]
  ·rcases b with rfl | rfl <;> simp -implicitDefEqProofs only [go_sem,zaz,zK,arith,asks,d1]
 ·rcases zhp l with rfl | rfl | rfl | rfl | rfl | rfl | rfl | rfl | rfl | rfl | rfl | rfl | rfl | rfl | rfl | rfl | rfl | rfl | rfl | rfl | rfl | rfl | rfl
  all_goals first
   | exact absurd (.inl rfl) b
   | exact absurd (.inr rfl) b
   | (simp -implicitDefEqProofs only [go_sem,zaz,zK,arith,asks,g,f,c] <;> by_cases d1 : lanes = 1 <;> have d : (lanes < 2) = (lanes = 1):=el <;> simp only [d1,eq_self] at d <;> by_cases d8 : 8 ≤ bits <;> have e : (bits < 8) = ¬ 8 ≤ bits:=n <;> simp only [d8,not_true_eq_false,not_false_eq_true] at e <;> by_cases di : a = 0 <;> simp -implicitDefEqProofs only [go_sem,d1,d,d8,e,di,g,f,c])
theorem zyE (g : o.args.length ≤ 4294967296) : ∀ (d k : Nat) (a0 a2 a4 a5 a6 a7 : V),o.args.length - k = d → k ≤ o.args.length →
  exec T zcI ⟨[a0,.one (.ptr 0 0 0 0),a2,vI k,a4,a5,a6,a7],[.cells 0 6 [cOp o]],0,0⟩ = some (if (o.args.drop k).all value = true then (.exit 0,⟨[vU,.one (.ptr 0 0 0 0),vU,vU,vU,vU,vU,vU],[.cells 0 6 [cOp o]],0,0⟩) else (.ret,⟨[vU,vU,vB false,vU,vU,vU,vU,vU],[.cells 0 6 [cOp o]],0,0⟩)):=by
 intro d
 induction d with
 | zero =>
   intro k a0 a2 a4 a5 a6 a7 e f;have a : k = o.args.length:=(by omega);subst a;rw [xl zcI rfl,zeL];simp -implicitDefEqProofs only [go_sem,yh,ya,yd,yk]
 | succ d ih =>
   intro k a0 a2 a4 a5 a6 a7 e f;have a : k < o.args.length:=(by omega);have hd : o.args.drop k = o.args[k] :: o.args.drop (k + 1):=yb a;have:=ih (k + 1) vU vU vU vU vU vU (by omega) (by omega);have b:=zi1 o.args[k];rw [xl zcI rfl,zeL,hd,yf];simp -implicitDefEqProofs only [go_sem] at this;cases c : value o.args[k]
   ·simp -implicitDefEqProofs only [go_sem,c] at b
    simp -implicitDefEqProofs only [go_sem,ilt a,zm a,ri,ya,c,b]
   ·simp -implicitDefEqProofs only [go_sem,c] at b
    simp -implicitDefEqProofs only [go_sem,ilt a,zm a,ri,ya,za a g,c,b,this]
end
theorem zzf (l : List Int) : (!l.any fun v => !value v) = l.all value:=by
 induction l with
 | nil => rfl
 | cons x l ih => rw [yz,yf,yD,yC,ih]
theorem zoS {o : POp} (h : zgA o.kind = false) : (zK o).2 = false:=by
 simp only [zgA,ys,decide_eq_false_iff_not] at h
 have a1 : arith o.kind = false:=by
  simp only [arith,yo,decide_eq_false_iff_not];omega
 have a2 : asks o.kind = false:=by
  simp only [asks,yo,decide_eq_false_iff_not];omega
 unfold zK;simp only [a1,a2];rw [if_neg (by omega),if_neg (by simp),if_neg (by simp),if_neg (by omega),if_neg (by omega),if_neg (by omega),if_neg (by omega),if_neg (by omega),if_neg (by omega),if_neg (by omega),if_neg (by omega),if_neg (by omega)]
theorem zlj (o : POp) (ho : zur o) : call T 126 [vOp o] [] = some (vB (zgx o),[]):=by
 rw [ze (fn:=zE) rfl];have c:=zrG o.bits o.lanes;cases hs : zds o.bits o.lanes
 ·simp -implicitDefEqProofs only [go_sem,hs] at c
  simp -implicitDefEqProofs only [go_sem,zE,zgx,hs,c]
 have b:=zsS o hs;have h:=fun a0 a2 a4 a5 a6 a7 => zyE o hs ho.1 ho.2 o.args.length 0 a0 a2 a4 a5 a6 a7 (by omega) (by omega);have p:=zi1 o.dst;have a:=zzf o.args;simp only [ye,yl] at h;simp -implicitDefEqProofs only [go_sem,hs] at c b p;cases m : zgA o.kind
 ·have q:=zoS m
  have e : zBN o = -1:=by unfold zBN; rw [m]; rfl
  have n : ¬ (-1 : Int) = (o.args.length : Int):=by omega
  simp -implicitDefEqProofs only [e] at b;simp -implicitDefEqProofs only [go_sem,zE,zgx,hs,c,b,q,n,ya]
 have d:=ztY o hs ho.1 m;have e : zBN o = ((zK o).1.length : Int):=by unfold zBN; rw [m]; rfl
 simp -implicitDefEqProofs only [go_sem,e] at b d
 by_cases j : (zK o).1.length = o.args.length
 ·have k : ((zK o).1.length : Int) = (o.args.length : Int):=by omega
  cases f : (zK o).2
  ·simp -implicitDefEqProofs only [f] at d
   simp -implicitDefEqProofs only [go_sem,zE,zgx,hs,c,b,d,f,j,ya]
  ·simp -implicitDefEqProofs only [f] at d
   cases i : o.args.all value
   ·simp -implicitDefEqProofs only [go_sem,i] at h
    simp -implicitDefEqProofs only [go_sem,zE,zgx,hs,c,b,d,f,j,h,a,i,ya,yv]
   ·simp -implicitDefEqProofs only [go_sem,i] at h
    by_cases g : o.kind = 17
    ·simp -implicitDefEqProofs only [go_sem,zE,zgx,hs,c,b,d,f,j,h,a,i,ya,zfz,eq_true g,yg]
    ·by_cases l : o.kind = 19
     ·simp -implicitDefEqProofs only [go_sem,zE,zgx,hs,c,b,d,f,j,h,a,i,ya,zfz,g,eq_true l,yg]
     ·simp -implicitDefEqProofs only [go_sem,zE,zgx,hs,c,b,d,p,f,j,h,a,i,ya,zfz,g,l,yg]
 ·have k : ¬ ((zK o).1.length : Int) = (o.args.length : Int):=by omega
  simp -implicitDefEqProofs only [go_sem,zE,zgx,hs,c,b,j,k,ya,yv]
end AC
namespace AC
open Go Go.A Go.A.Lex
mutual
theorem zwb {n m : Nat} (h : n ≤ m) : ∀ c : C,c.lt n = true → c.lt m = true
 | .f _,_ => rfl
 | .ap t _ _,e => by simp only [C.lt,decide_eq_true_eq] at e ⊢; omega
 | .ptr id _ _ _,e => by simp only [C.lt,decide_eq_true_eq] at e ⊢; omega
 | .fp _ _,_ => rfl
 | .own id _ _ _,e => by simp only [C.lt,decide_eq_true_eq] at e ⊢; omega
 | .map id,e => by simp only [C.lt,decide_eq_true_eq] at e ⊢; omega
 | .fn _ a b,e => by
   simp only [C.lt,yc] at e ⊢;exact ⟨ze3 h a e.1,ze3 h b e.2⟩
 | .un,_ => rfl
theorem ze3 {n m : Nat} (h : n ≤ m) : ∀ cs : List C,C.lts n cs = true → C.lts m cs = true
 | [],_ => by simp only [C.lts]
 | c :: cs,e => by
   simp only [C.lts,yc] at e ⊢;exact ⟨zwb h c e.1,ze3 h cs e.2⟩
end
mutual
theorem zvU {n m : Nat} (h : n ≤ m) : ∀ v : V,v.lt n = true → v.lt m = true
 | .one c,e => by simp only [V.lt] at e ⊢; exact zwb h c e
 | .agg cs,e => by simp only [V.lt] at e ⊢; exact ze3 h cs e
 | .tup vs,e => by simp only [V.lt] at e ⊢; exact ztp h vs e
theorem ztp {n m : Nat} (h : n ≤ m) : ∀ vs : List V,V.lts n vs = true → V.lts m vs = true
 | [],_ => by simp only [V.lts]
 | v :: vs,e => by
   simp only [V.lts,yc] at e ⊢;exact ⟨zvU h v e.1,ztp h vs e.2⟩
end
theorem zri {n m : Nat} (h : n ≤ m) : ∀ es : List (List C),C.ltss n es = true → C.ltss m es = true
 | [],_ => by simp only [C.ltss]
 | c :: cs,e => by
   simp only [C.ltss,yc] at e ⊢;exact ⟨ze3 h c e.1,zri h cs e.2⟩
theorem ztf {n m : Nat} (h : n ≤ m) : ∀ es : List (Int × V),C.ltm n es = true → C.ltm m es = true
 | [],_ => by simp only [C.ltm]
 | c :: cs,e => by
   simp only [C.ltm,yc] at e ⊢;exact ⟨zvU h c.2 e.1,ztf h cs e.2⟩
theorem zAU {n m : Nat} (h : n ≤ m) : ∀ o : Ob,o.lt n = true → o.lt m = true
 | .cells _ _ es,e => by simp only [Ob.lt] at e ⊢; exact zri h es e
 | .tok _ _,_ => rfl
 | .mp es,e => by simp only [Ob.lt] at e ⊢; exact ztf h es e
theorem zoU {n m : Nat} (h : n ≤ m) : ∀ os : List Ob,Obs.lt n os = true → Obs.lt m os = true
 | [],_ => by simp only [Obs.lt]
 | o :: os,e => by
   simp only [Obs.lt,yc] at e ⊢;exact ⟨zAU h o e.1,zoU h os e.2⟩
theorem zfL {σ : zd} {k : Nat} {o : Ob} (h : σ[k]? = some o) (r : zd) : (σ ++ r)[k]? = some o:=by
 have : k < σ.length:=(yj.1 h).1;rw [List.getElem?_append_left this,h]
theorem zhl {σ : zd} {k : Nat} {o : Ob} (h : σ[k]? = some o) (j : Nat) : (k < σ.length + j) = True:=by
 have : k < σ.length:=(yj.1 h).1;simp; omega
theorem zhV {σ : zd} {k : Nat} {o : Ob} (h : σ[k]? = some o) : (k < σ.length) = True:=by
 have : k < σ.length:=(yj.1 h).1;simp; omega
theorem zFz (n : Nat) : (n < n + 1) = True:=by simp
theorem zFO (n : Nat) : (n < n + 2) = True:=by simp
theorem zFV (n : Nat) : (n < n + 3) = True:=by simp
theorem zFJ (n : Nat) : (n < n + 4) = True:=by simp
theorem zFE (n : Nat) : (n + 1 < n + 2) = True:=by simp
theorem zFY (n : Nat) : (n + 1 < n + 3) = True:=by simp
theorem zFF (n : Nat) : (n + 2 < n + 3) = True:=by simp
theorem zFQ (n : Nat) : (n + 3 < n + 4) = True:=by simp
theorem zFH (n : Nat) : (n + 2 < n + 4) = True:=by simp
theorem zFU (n : Nat) : (n + 1 < n + 4) = True:=by simp
theorem zFL (n k : Nat) : (n + k ≤ n + k) = True:=by simp
theorem zGe (n : Nat) : (n + 2 ≤ n + 1) = False:=by simp
theorem zFM (n : Nat) : (n + 3 ≤ n + 1) = False:=by simp
theorem zFS (n : Nat) : (n + 3 ≤ n + 2) = False:=by simp
theorem zGg (n : Nat) : (n + 4 ≤ n + 1) = False:=by simp
theorem zFG (n : Nat) : (n + 4 ≤ n + 2) = False:=by simp
theorem zFK (n : Nat) : (n + 4 ≤ n + 3) = False:=by simp
attribute [go_sem] zFz zFO zFV zFJ zFE zFY zFF zFQ zFH zFU zFL zGe zFM zFS zGg zFG zFK
def Ok (σ : zd) : Prop:=Obs.lt σ.length σ = true
theorem Ok.up {σ : zd} (h : Ok σ) (k : Nat) : Obs.lt (σ.length + k) σ = true:=zoU (Nat.le_add_right _ _) _ h
theorem Ok.at {σ : zd} (h : Ok σ) : Obs.lt σ.length σ = true:=h
theorem Ok.app {σ r : zd} (h : Ok σ) (a : Obs.lt (σ.length + r.length) r = true) : Ok (σ ++ r):=by
 unfold Ok;rw [List.length_append,znc,Ok.up h,a];rfl
theorem zva {e : List C} {k : Nat} (c : C) (h : k < e.length) : e.take k ++ c :: e.drop (k + 1) = e.set k c:=by
 rw [List.set_eq_take_append_cons_drop,if_pos h]
theorem zzR {a b : Nat} (h : a < b) : (a + 1 ≤ b) = True:=by simp; omega
end AC

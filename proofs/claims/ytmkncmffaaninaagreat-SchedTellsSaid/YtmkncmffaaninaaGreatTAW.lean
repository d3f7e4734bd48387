/- A part of the proof of SchedTells. Conditions: none. -/
import Derived.Test.YtmkncmffaaninaaGreatTAV
import Derived.Test.YtmkncmffaaninaaGreatTAR
set_option linter.all false
open List renaming length_map → ya,drop_eq_getElem_cons → yb,drop_length → yd,all_cons → yf,find?_cons → yi,getElem?_eq_some_iff → yj,all_nil → yk,drop_zero → yl,take_of_length_le → ym,set_append_right → yn,map_cons → yp,map_nil → yq,getElem_mem → yr,length_replicate → yt,take_succ_cons → yu,take_append → yx,find?_nil → yy,any_cons → yz,sum_cons → yA,mem_cons → yB
open Bool renaming and_eq_true → yc,and_true → yg,or_eq_false_iff → yo,and_eq_false_iff → ys,and_false → yv,not_eq_true' → yw,not_not → yC,not_or → yD
open Int renaming natCast_zero → ye,lt_irrefl → yh
namespace AC
open Go Go.A Go.A.Lex
def zgN (o : POp) : Bool:=zdQ o.bits o.lanes && ((zO o).2 && ((if zgg o.kind then decide (o.dst = 0) else value o.dst) && (decide ((zO o).1.length = o.args.length) && !o.args.any fun v => !value v)))
@[go_sem] theorem zzj (v : Int) (σ : zd) : call T 254 [vI v] σ = some (vB (!value v),σ):=by
  rw [ze (fn:=zkk) rfl];simp -implicitDefEqProofs only [go_sem,zkk]
@[go_sem] theorem zjS (o : POp) (i : zDi o) (j : o.args.length ≤ 4294967296) : call T 236 [vOp o] [] = some (vB (zgN o),[]):=by
  rw [ze (fn:=zds) rfl];cases a : zdQ o.bits o.lanes
  ·simp -implicitDefEqProofs only [go_sem,zds,zgN,a]
  have c:=zsg o a i;have h:=fun σ => zaz o.args (fun v => !value v) 254 [] [] σ j (fun x _ => by simp -implicitDefEqProofs only [go_sem]);simp -implicitDefEqProofs only [go_sem,zcO] at c h;cases d : (zO o).2
  ·cases b : zgg o.kind
   ·simp -implicitDefEqProofs only [go_sem,zds,zgN,a,c,d,b]
   ·simp -implicitDefEqProofs only [go_sem,zds,zgN,a,c,d,b]
  ·cases b : zgg o.kind
   ·cases f : value o.dst
    ·simp -implicitDefEqProofs only [go_sem,zds,zgN,a,c,d,b,f]
    ·by_cases g : (zO o).1.length = o.args.length
     ·simp -implicitDefEqProofs only [go_sem,zds,zgN,a,c,d,b,f,g,h]
     ·have e : ¬ ((zO o).1.length : Int) = (o.args.length : Int):=by omega
      simp -implicitDefEqProofs only [go_sem,zds,zgN,a,c,d,b,f,g,e]
   ·by_cases f : o.dst = 0
    ·by_cases g : (zO o).1.length = o.args.length
     ·simp -implicitDefEqProofs only [go_sem,zds,zgN,a,c,d,b,eq_true f,g,h]
     ·have e : ¬ ((zO o).1.length : Int) = (o.args.length : Int):=by omega
      simp -implicitDefEqProofs only [go_sem,zds,zgN,a,c,d,b,eq_true f,g,e]
    ·simp -implicitDefEqProofs only [go_sem,zds,zgN,a,c,d,b,f]
theorem zye {o : POp} (h : zgN o = true) : zdQ o.bits o.lanes = true:=by
 simp only [zgN,yc] at h;exact h.1
def zaN (o : POp) : List (Int × Int):=if zgN o = true then (zO o).1 else []
@[go_sem] theorem zqs (o : POp) (a : zDi o) (c : o.args.length ≤ 4294967296) : call T 238 [vOp o] [] = some (vSs (zaN o),[]):=by
  rw [ze (fn:=ziw) rfl];have hm:=zjS o a c;cases h : zgN o
  ·simp -implicitDefEqProofs only [go_sem,h] at hm
   simp -implicitDefEqProofs only [go_sem,ziw,hm,zaN,h]
  ·have b:=zsg o (zye h) a
   simp -implicitDefEqProofs only [go_sem,h,zcO] at hm b;simp -implicitDefEqProofs only [go_sem,ziw,hm,b,zaN,h]
def zT (o : POp) : Int × Int :=
 if zgN o = false ∨ zgg o.kind = true then (0,0) else if 10 ≤ o.kind ∧ o.kind ≤ 12 then (1,1) else if o.kind = 22 then (o.bits,1) else (o.bits,o.lanes)
@[go_sem] theorem zpS (o : POp) (e : zDi o) (f : o.args.length ≤ 4294967296) : call T 206 [vOp o] [] = some (.tup [vI (zT o).1,vI (zT o).2],[]):=by
  rw [ze (fn:=zdu) rfl];have hm:=zjS o e f;cases h : zgN o
  ·simp -implicitDefEqProofs only [go_sem,h] at hm
   simp -implicitDefEqProofs only [go_sem,zdu,hm,zT,h]
  ·simp -implicitDefEqProofs only [go_sem,h] at hm
   cases a : zgg o.kind
   ·by_cases b : 10 ≤ o.kind
    ·by_cases d : o.kind ≤ 12
     ·simp -implicitDefEqProofs only [go_sem,zdu,hm,zT,h,a,b,d]
     ·by_cases c : o.kind = 22
      ·simp -implicitDefEqProofs only [c] at a hm b d
       simp -implicitDefEqProofs only [go_sem,zdu,hm,zT,h,a,b,d,c]
      ·simp -implicitDefEqProofs only [go_sem,zdu,hm,zT,h,a,b,d,c,and_false]
    ·have c : ¬ o.kind = 22:=by omega
     simp -implicitDefEqProofs only [go_sem,zdu,hm,zT,h,a,b,c,false_and]
   ·simp -implicitDefEqProofs only [go_sem,zdu,hm,zT,h,a]
def impure (k : Int) : Bool:=decide (k = 4) || decide (k = 16) || decide (k = 17) || decide (k = 18) || decide (k = 19) || decide (k = 20)
def pure (k : Int) : Bool:=!impure k && (decide (0 ≤ k) && decide (k ≤ 22))
@[go_sem] theorem zl0 (k : Int) : call T 68 [vI k] [] = some (vB (pure k),[]):=by
  rw [ze (fn:=zdB) rfl]
  by_cases c1 : k = 4
  ·simp -implicitDefEqProofs only [go_sem,zdB,pure,impure,c1]
  by_cases c2 : k = 16
  ·simp -implicitDefEqProofs only [go_sem,zdB,pure,impure,c1,c2]
  by_cases c3 : k = 17
  ·simp -implicitDefEqProofs only [go_sem,zdB,pure,impure,c1,c2,c3]
  by_cases c4 : k = 18
  ·simp -implicitDefEqProofs only [go_sem,zdB,pure,impure,c1,c2,c3,c4]
  by_cases c5 : k = 19
  ·simp -implicitDefEqProofs only [go_sem,zdB,pure,impure,c1,c2,c3,c4,c5]
  by_cases c6 : k = 20
  ·simp -implicitDefEqProofs only [go_sem,zdB,pure,impure,c1,c2,c3,c4,c5,c6]
  by_cases c7 : 0 ≤ k <;> simp -implicitDefEqProofs only [go_sem,zdB,pure,impure,c1,c2,c3,c4,c5,c6,c7]
def num (n : Int) : Bool:=decide (0 ≤ n) && decide (n ≤ 2147483647)
@[go_sem] theorem zCc (n : Int) (σ : zd) : call T 192 [vI n] σ = some (vB (!num n),σ):=by
  rw [ze (fn:=zhO) rfl]
  by_cases c : n < 0
  ·have a : ¬ 0 ≤ n:=by omega
   simp -implicitDefEqProofs only [go_sem,zhO,num,c,a]
  ·have a : 0 ≤ n:=by omega
   by_cases d : 2147483647 < n
   ·have b : ¬ n ≤ 2147483647:=by omega
    simp -implicitDefEqProofs only [go_sem,zhO,num,c,a,d,b]
   ·have b : n ≤ 2147483647:=by omega
    simp -implicitDefEqProofs only [go_sem,zhO,num,c,a,d,b]
theorem zoE {α : Type} (p : α → Bool) (l : List α) : (!l.any fun x => !p x) = l.all p:=by
 induction l with
 | nil => rfl
 | cons x r ih => simp only [yz,yf,← ih,yD,yC]
@[go_sem] theorem zgX (l : List Int) (b : l.length ≤ 4294967296) : call T 152 [vIs l] [] = some (vB (l.all num),[]):=by
  rw [ze (fn:=zpQ) rfl];have a:=fun σ => zaz l (fun v => !num v) 192 [] [] σ b (fun x _ => by simp -implicitDefEqProofs only [go_sem]);simp -implicitDefEqProofs only [go_sem] at a;simp -implicitDefEqProofs only [go_sem,zpQ,a,zoE]
theorem ztj (a : Int) : call T 152 [vL [[ei a]]] [] = some (vB (num a),[]):=by
 have:=zgX [a] (by simp);simpa only [vIs,yp,yq,ri,yf,yk,yg] using this
theorem znj (a b : Int) : call T 152 [vL [[ei a],[ei b]]] [] = some (vB (num a && num b),[]):=by
 have:=zgX [a,b] (by simp);simpa only [vIs,yp,yq,ri,yf,yk,yg] using this
theorem zsN (a b c d : Int) : call T 152 [vL [[ei a],[ei b],[ei c],[ei d]]] [] = some (vB (num a && (num b && (num c && num d))),[]):=by
 have:=zgX [a,b,c,d] (by simp);simpa only [vIs,yp,yq,ri,yf,yk,yg] using this
def zgD (l : List Int) : Bool:=decide (l.length ≤ 64) && l.all num
theorem zpU (a : List (List Int)) (j : a.length ≤ 4294967296) (h : ∀ l ∈ a,l.length ≤ 4294967296) : ∀ (d k : Nat) (a0 a1 a2 a6 a7 : V),a.length - k = d → k ≤ a.length →
  exec T zhq ⟨[a0,a1,a2,vLs a,vI a.length,vI k,a6,a7],[],0,0⟩ =
   some (if (a.drop k).all zgD = true then (.exit 0,⟨[vU,vU,vU,vU,vU,vU,vU,vU],[],0,0⟩) else (.ret,⟨[vU,vB false,vU,vU,vU,vU,vU,vU],[],0,0⟩)):=by
 intro d
 induction d with
 | zero =>
   intro k a0 a1 a2 a6 a7 m i;have b : k = a.length:=(by omega);subst b;rw [xl zhq rfl,zjn];simp -implicitDefEqProofs only [go_sem,yh,yd,yk]
 | succ d ih =>
   intro k a0 a1 a2 a6 a7 m i;have b : k < a.length:=(by omega);have hd : a.drop k = a[k] :: a.drop (k + 1):=yb b;have f:=zgX a[k] (h _ (yr b));rw [xl zhq rfl,zjn,hd]
   by_cases c : a[k].length ≤ 64
   ·have e : ¬ (64 : Int) < (a[k].length : Int):=by omega
    cases g : a[k].all num
    ·simp -implicitDefEqProofs only [go_sem,g] at f
     simp -implicitDefEqProofs only [go_sem,ilt b,zj b,rl,e,f,zgD,c,g]
    ·simp -implicitDefEqProofs only [go_sem,g] at f
     simp -implicitDefEqProofs only [go_sem,ilt b,zj b,rl,e,f,zgD,c,g,za b j];exact ih (k + 1) _ _ _ _ _ (by omega) (by omega)
   ·have e : (64 : Int) < (a[k].length : Int):=by omega
    simp -implicitDefEqProofs only [go_sem,ilt b,zj b,rl,e,zgD,c]
theorem zkW (a : List (List Int)) (c : a.length ≤ 4294967296) (b : ∀ l ∈ a,l.length ≤ 4294967296) : call T 194 [vLs a] [] = some (vB (a.all zgD),[]):=by
 rw [ze (fn:=zkR) rfl];have h:=fun a0 a1 a2 a6 a7 => zpU a c b a.length 0 a0 a1 a2 a6 a7 (by omega) (by omega);simp only [yl,ye] at h;cases d : a.all zgD <;> simp -implicitDefEqProofs only [go_sem,d] at h <;> simp -implicitDefEqProofs only [go_sem,zkR,h]
theorem zfB {α : Type} {p : α → Bool} {l : List α} (h : l.find? (fun x => !p x) = none) : l.all p = true:=by
 simp only [List.find?_eq_none,yw,Bool.not_eq_false] at h;simpa [List.all_eq_true] using h
theorem zfy {α : Type} {p : α → Bool} {l : List α} {x : α} (h : l.find? (fun x => !p x) = some x) : l.all p = false:=by
 have a:=List.find?_some h;have b:=List.mem_of_find?_eq_some h;simp only [yw] at a;exact List.all_eq_false.2 ⟨x,b,by simp [a]⟩
section ends
variable {α : Type} (σ r : List α) (o p q' : α)
theorem zCm : (σ ++ o :: r)[σ.length]? = some o:=by simp
theorem zDg : (σ ++ o :: p :: r)[σ.length + 1]? = some p:=by simp
theorem zDS : (σ ++ o :: p :: q' :: r)[σ.length + 2]? = some q':=by simp
theorem zs0 (x : α) : (σ ++ o :: r).set σ.length x = σ ++ x :: r:=by simp [yn]
theorem zDO (x : α) : (σ ++ o :: p :: r).set (σ.length + 1) x = σ ++ o :: x :: r:=by simp [yn]
theorem zDo (x : α) : (σ ++ o :: p :: q' :: r).set (σ.length + 2) x = σ ++ o :: p :: x :: r:=by simp [yn]
theorem zAR : (σ ++ r).take σ.length = σ:=by simp
theorem zAd : (σ ++ o :: r).take (σ.length + 1) = σ ++ [o]:=by simp [yx,ym]
theorem zAY : (σ ++ o :: p :: r).take (σ.length + 2) = σ ++ [o,p]:=by simp [yx,ym]
end ends
theorem zFh (n : Nat) : (n + 1 ≤ n) = False:=by simp
theorem zER (n : Nat) : (n + 2 ≤ n) = False:=by simp
theorem zEI (n : Nat) : (n + 3 ≤ n) = False:=by simp
theorem zFK (n : Nat) : (n + 4 ≤ n) = False:=by simp
theorem zE1 (n : Nat) : (n + 5 ≤ n) = False:=by simp
theorem zn1 (n : Nat) : ∀ (a b : List Ob),Obs.lt n (a ++ b) = (Obs.lt n a && Obs.lt n b)
 | [],b => by simp [Obs.lt]
 | x :: a,b => by simp [Obs.lt,zn1 n a b,Bool.and_assoc]
attribute [go_sem] zCm zDg zDS zs0 zDO zDo zAR zAd zAY zFh zER zEI zFK zE1 zn1 List.take_left'
def zie (p : PPhi) : Bool:=(num p.bits && num p.dst) && (zgD p.src && zgD p.args)
def zmI (o : POp) : Bool:=(num o.kind && (num o.bits && (num o.lanes && num o.dst))) && zgD o.args
def zp6 (b : PBlock) : Bool:=(num b.kind && num b.arg) && zgD b.to
def zsc (b : PBlock) : Bool:=b.phis.all zie && (b.ops.all zmI && zp6 b)
def zGV (p : PPhi) : Prop:=p.src.length ≤ 4294967296 ∧ p.args.length ≤ 4294967296
def zvE (o : POp) : Prop:=zDi o ∧ o.args.length ≤ 4294967296
structure okB (b : PBlock) : Prop where
 phis : b.phis.length ≤ 4294967296
 ops : b.ops.length ≤ 4294967296
 phi : ∀ p ∈ b.phis,zGV p
 op : ∀ o ∈ b.ops,zvE o
 to : b.to.length ≤ 4294967296
theorem zqp (a : List Int) (b : a.length ≤ 4294967296) : call T 194 [vL [[eI a]]] [] = some (vB (zgD a),[]):=by
 have:=zkW [a] (by simp) (by simpa using b);simpa only [vLs,yp,yq,rl,yf,yk,yg] using this
theorem zwh (a b : List Int) (c : a.length ≤ 4294967296) (hb : b.length ≤ 4294967296) : call T 194 [vL [[eI a],[eI b]]] [] = some (vB (zgD a && zgD b),[]):=by
 have:=zkW [a,b] (by simp) (by simpa using ⟨c,hb⟩);simpa only [vLs,yp,yq,rl,yf,yk,yg] using this
section
variable (b : PBlock) (hb : okB b)
include hb
theorem zvT : ∀ (d k : Nat) (a0 a2 a3 a4 a8 a9 h e g f c : V),b.phis.length - k = d → k ≤ b.phis.length →
  exec T zfR ⟨[a0,.one (.ptr 0 0 0 0),a2,a3,a4,vL (b.phis.map rp),vI b.phis.length,vI k,a8,a9,h,e,g,f,c],[.cells 0 5 [zg b]],0,0⟩ =
   some (match (b.phis.drop k).find? (fun x => !zie x) with | none => (.exit 0,⟨[vU,.one (.ptr 0 0 0 0),vU,vU,vU,vU,vU,vU,vU,vU,vU,vU,vU,vU,vU],[.cells 0 5 [zg b]],0,0⟩) | some x => (.ret,⟨[vU,vU,vB false,vU,vU,vU,vU,vU,vU,vU,vU,vU,vU,vU,vU],[.cells 0 5 [zg b],.cells 0 4 [zuh x]],0,0⟩)):=by
 intro d
 induction d with
 | zero =>
   intro k a0 a2 a3 a4 a8 a9 h e g f c j l;have a : k = b.phis.length:=(by omega);subst a;rw [xl zfR rfl,zg3];simp -implicitDefEqProofs only [go_sem,yh,yd,yy]
 | succ d ih =>
   intro k a0 a2 a3 a4 a8 a9 h e g f c j l;have a : k < b.phis.length:=(by omega);have hd : b.phis.drop k = b.phis[k] :: b.phis.drop (k + 1):=yb a;have i:=hb.phi _ (yr a);have c1:=znj b.phis[k].bits b.phis[k].dst;have c2:=zwh b.phis[k].src b.phis[k].args i.1 i.2;rw [xl zfR rfl,zg3,hd];cases e1 : (num b.phis[k].bits && num b.phis[k].dst)
   ·simp -implicitDefEqProofs only [go_sem,e1] at c1 c2
    simp -implicitDefEqProofs only [go_sem,ilt a,zj a,rp,c1,c2,zie,yi,e1]
   ·cases e2 : (zgD b.phis[k].src && zgD b.phis[k].args)
    ·simp -implicitDefEqProofs only [go_sem,e1,e2] at c1 c2
     simp -implicitDefEqProofs only [go_sem,ilt a,zj a,rp,c1,c2,zie,yi,e1,e2]
    ·simp -implicitDefEqProofs only [go_sem,e1,e2] at c1 c2
     simp -implicitDefEqProofs only [go_sem,ilt a,zj a,rp,c1,c2,zie,yi,e1,e2,za a hb.phis];exact ih (k + 1) _ _ _ _ _ _ _ _ _ _ _ (by omega) (by omega)
theorem zwj : ∀ (d k : Nat) (a0 a2 a3 a4 a5 a6 a7 a8 a9 e c : V),b.ops.length - k = d → k ≤ b.ops.length →
  exec T zfL ⟨[a0,.one (.ptr 0 0 0 0),a2,a3,a4,a5,a6,a7,a8,a9,vL (b.ops.map ro),vI b.ops.length,vI k,e,c],[.cells 0 5 [zg b]],0,0⟩ =
   some (match (b.ops.drop k).find? (fun x => !zmI x) with | none => (.exit 2,⟨[vU,.one (.ptr 0 0 0 0),vU,vU,vU,vU,vU,vU,vU,vU,vU,vU,vU,vU,vU],[.cells 0 5 [zg b]],0,0⟩) | some x => (.ret,⟨[vU,vU,vB false,vU,vU,vU,vU,vU,vU,vU,vU,vU,vU,vU,vU],[.cells 0 5 [zg b],.cells 0 6 [cOp x]],0,0⟩)):=by
 intro d
 induction d with
 | zero =>
   intro k a0 a2 a3 a4 a5 a6 a7 a8 a9 e c g h;have a : k = b.ops.length:=(by omega);subst a;rw [xl zfL rfl,zg7];simp -implicitDefEqProofs only [go_sem,yh,yd,yy]
 | succ d ih =>
   intro k a0 a2 a3 a4 a5 a6 a7 a8 a9 e c g h;have a : k < b.ops.length:=(by omega);have hd : b.ops.drop k = b.ops[k] :: b.ops.drop (k + 1):=yb a;have f:=hb.op _ (yr a);have c1:=zsN b.ops[k].kind b.ops[k].bits b.ops[k].lanes b.ops[k].dst;have c2:=zqp b.ops[k].args f.2;rw [xl zfL rfl,zg7,hd];cases e1 : (num b.ops[k].kind && (num b.ops[k].bits && (num b.ops[k].lanes && num b.ops[k].dst)))
   ·simp -implicitDefEqProofs only [go_sem,e1] at c1 c2
    simp -implicitDefEqProofs only [go_sem,ilt a,zj a,ro,c1,c2,zmI,yi,e1]
   ·cases e2 : zgD b.ops[k].args
    ·simp -implicitDefEqProofs only [go_sem,e1,e2] at c1 c2
     simp -implicitDefEqProofs only [go_sem,ilt a,zj a,ro,c1,c2,zmI,yi,e1,e2]
    ·simp -implicitDefEqProofs only [go_sem,e1,e2] at c1 c2
     simp -implicitDefEqProofs only [go_sem,ilt a,zj a,ro,c1,c2,zmI,yi,e1,e2,za a hb.ops];exact ih (k + 1) _ _ _ _ _ _ _ _ _ _ _ (by omega) (by omega)
set_option maxRecDepth 10000 in
@[go_sem] theorem zth : call T 155 [znI b] [] = some (vB (zsc b),[]):=by
  rw [ze (fn:=zdo) rfl];have a:=fun a0 a2 a3 a4 a8 a9 h f g d c => zvT b hb b.phis.length 0 a0 a2 a3 a4 a8 a9 h f g d c (by omega) (by omega);have e:=fun a0 a2 a3 a4 a5 a6 a7 a8 a9 d c => zwj b hb b.ops.length 0 a0 a2 a3 a4 a5 a6 a7 a8 a9 d c (by omega) (by omega);have c1:=znj b.kind b.arg;have c2:=zqp b.to hb.to;simp only [yl,ye] at a e
  cases e1 : b.phis.find? (fun x => !zie x) with
  | some x =>
    have a1:=zfy e1;simp -implicitDefEqProofs only [go_sem,e1] at a;simp -implicitDefEqProofs only [go_sem,zdo,a,zsc,a1]
  | none =>
  have a1:=zfB e1
  cases e2 : b.ops.find? (fun x => !zmI x) with
  | some x =>
    have a2:=zfy e2;simp -implicitDefEqProofs only [go_sem,e1,e2] at a e;simp -implicitDefEqProofs only [go_sem,zdo,a,e,zsc,a1,a2]
  | none =>
  have a2:=zfB e2;simp -implicitDefEqProofs only [go_sem,e1,e2] at a e;cases e3 : (num b.kind && num b.arg)
  ·simp -implicitDefEqProofs only [go_sem,e3] at c1 c2
   simp -implicitDefEqProofs only [go_sem,zdo,a,e,c1,c2,zsc,zp6,a1,a2,e3]
  ·simp -implicitDefEqProofs only [go_sem,e3] at c1 c2
   simp -implicitDefEqProofs only [go_sem,zdo,a,e,c1,c2,zsc,zp6,a1,a2,e3]
end
@[go_sem] theorem zqv (b : PBlock) (hb : okB b) (σ : zd) (a : Obs.lt σ.length σ = true) : call T 154 [znI b] σ = some (vB (!zsc b),σ):=by
  rw [ze (fn:=zk1) rfl];have h:=zth b hb;simp -implicitDefEqProofs only [go_sem] at h;simp -implicitDefEqProofs only [go_sem,zk1,h,a]
structure okF (f : PFunc) : Prop where
 params : f.params.length ≤ 4294967296
 blocks : f.blocks.length ≤ 4294967296
 block : ∀ b ∈ f.blocks,okB b
 small : (f.blocks.map fun b => b.phis.length + b.ops.length).sum ≤ 4294967296
def ziX (f : PFunc) : Nat:=f.blocks.length + (f.blocks.map fun b => b.phis.length + b.ops.length).sum
theorem zqI (l : List Nat) : ∀ k,(l.take k).sum ≤ l.sum:=by
 induction l with
 | nil => simp
 | cons x r ih =>
   intro k
   cases k with
   | zero => simp
   | succ k =>
     simp only [yu,yA];have:=ih k;omega
theorem zm3 (l : List Nat) (k : Nat) (a : k < l.length) : (l.take (k + 1)).sum = (l.take k).sum + l[k]:=by
 induction l generalizing k with
 | nil => simp at a
 | cons x r ih =>
   cases k with
   | zero => simp
   | succ k =>
     simp only [yu,yA,List.getElem_cons_succ];rw [ih k (by simpa using a)];omega
theorem zAn (f : PFunc) (g : okF f) : ∀ (d k : Nat) (a0 a1 a2 a4 a8 : V),f.blocks.length - k = d → k ≤ f.blocks.length →
  exec T zij ⟨[a0,a1,a2,vI ((f.blocks.length + ((f.blocks.map fun b => b.phis.length + b.ops.length).take k).sum : Nat) : Int),a4,vL (f.blocks.map rb),vI f.blocks.length,vI k,a8],[.cells 0 3 [z6 f]],0,0⟩ =
   some (.exit 0,⟨[vU,vU,vU,vI (ziX f : Int),vU,vU,vU,vU,vU],[.cells 0 3 [z6 f]],0,0⟩):=by
 intro d
 induction d with
 | zero =>
   intro k a0 a1 a2 a4 a8 h j;have a : k = f.blocks.length:=(by omega);subst a;rw [xl zij rfl,zkj];have e : (f.blocks.map fun b => b.phis.length + b.ops.length).take f.blocks.length = f.blocks.map fun b => b.phis.length + b.ops.length:=ym (by simp);simp -implicitDefEqProofs only [go_sem,yh,e,ziX]
 | succ d ih =>
   intro k a0 a1 a2 a4 a8 h j;have a : k < f.blocks.length:=(by omega);have c : k < (f.blocks.map fun b => b.phis.length + b.ops.length).length:=(by simpa using a);have e:=zm3 (f.blocks.map fun b => b.phis.length + b.ops.length) k c;have e2:=zqI (f.blocks.map fun b => b.phis.length + b.ops.length) (k + 1);have e3:=g.small;have e4:=g.blocks;simp only [List.getElem_map] at e
   have i : Go.IntKind.i64.wrap ((f.blocks[k].phis.length : Int) + (f.blocks[k].ops.length : Int)) = ((f.blocks[k].phis.length + f.blocks[k].ops.length : Nat) : Int):=by
    rw [wrap_i64] <;> omega
   have l : Go.IntKind.i64.wrap (((f.blocks.length + ((f.blocks.map fun b => b.phis.length + b.ops.length).take k).sum : Nat) : Int) + ((f.blocks[k].phis.length + f.blocks[k].ops.length : Nat) : Int)) = ((f.blocks.length + ((f.blocks.map fun b => b.phis.length + b.ops.length).take (k + 1)).sum : Nat) : Int):=by
    rw [wrap_i64] <;> omega
   rw [xl zij rfl,zkj];simp -implicitDefEqProofs only [go_sem,ilt a,zj a,rb,i,l,za a g.blocks];exact ih (k + 1) _ _ _ _ _ (by omega) (by omega)
@[go_sem] theorem zrl (f : PFunc) (a : okF f) : call T 151 [zd4 f] [] = some (vI (ziX f : Int),[]):=by
  rw [ze (fn:=zmG) rfl];have h:=fun a0 a1 a2 a4 a8 => zAn f a f.blocks.length 0 a0 a1 a2 a4 a8 (by omega) (by omega);simp only [List.take_zero,List.sum_nil,Nat.add_zero,ye] at h;simp -implicitDefEqProofs only [go_sem] at h;simp -implicitDefEqProofs only [go_sem,zmG,h]
def zmQ (f : PFunc) : Bool :=
 !(decide (f.blocks.length < 1) || (decide (64 < f.blocks.length) || (decide (16 < f.params.length) || (decide (512 < ziX f) || (!num f.ret || !f.params.all num))))) && f.blocks.all zsc
@[go_sem] theorem zte (f : PFunc) (i : okF f) : call T 105 [zd4 f] [] = some (vB (zmQ f),[]):=by
  rw [ze (fn:=zfd) rfl];have j:=zrl f i;have g:=ztj f.ret;have h:=zgX f.params i.params
  have k:=zjA f.blocks (fun b => !zsc b) 154 [] [] [.cells 0 3 [z6 f]] i.blocks (fun x m => by
   have:=zqv x (i.block x m) [.cells 0 3 [z6 f]] rfl;simp -implicitDefEqProofs only [go_sem] at this
   simp -implicitDefEqProofs only [go_sem,this])
  have l : f.params.length ≤ 4294967296:=i.params;simp -implicitDefEqProofs only [go_sem] at j g k h
  by_cases c1 : f.blocks.length < 1
  ·have a : (f.blocks.length : Int) < 1:=by omega
   simp -implicitDefEqProofs only [go_sem,zfd,zmQ,c1,a]
  have a : ¬ (f.blocks.length : Int) < 1:=by omega
  by_cases c2 : 64 < f.blocks.length
  ·have c : (64 : Int) < (f.blocks.length : Int):=by omega
   simp -implicitDefEqProofs only [go_sem,zfd,zmQ,c1,a,c2,c]
  have c : ¬ (64 : Int) < (f.blocks.length : Int):=by omega
  by_cases c3 : 16 < f.params.length
  ·have d : (16 : Int) < (f.params.length : Int):=by omega
   simp -implicitDefEqProofs only [go_sem,zfd,zmQ,c1,a,c2,c,c3,d]
  have d : ¬ (16 : Int) < (f.params.length : Int):=by omega
  by_cases c4 : 512 < ziX f
  ·have e : (512 : Int) < (ziX f : Int):=by omega
   simp -implicitDefEqProofs only [go_sem,zfd,zmQ,c1,a,c2,c,c3,d,j,c4,e]
  have e : ¬ (512 : Int) < (ziX f : Int):=by omega
  cases c5 : num f.ret
  ·simp -implicitDefEqProofs only [go_sem,c5] at g
   simp -implicitDefEqProofs only [go_sem,zfd,zmQ,c1,a,c2,c,c3,d,j,c4,e,g,c5]
  cases c6 : f.params.all num
  ·simp -implicitDefEqProofs only [go_sem,c5,c6] at g h
   simp -implicitDefEqProofs only [go_sem,zfd,zmQ,c1,a,c2,c,c3,d,j,c4,e,g,h,c5,c6]
  simp -implicitDefEqProofs only [go_sem,c5,c6] at g h;simp -implicitDefEqProofs only [go_sem,zfd,zmQ,c1,a,c2,c,c3,d,j,c4,e,g,h,c5,c6,k,zoE]
theorem zgw (b : Int) : call T 125 [vI b] [] = some (vB (ziO b),[]):=by
 rw [ze (fn:=zau) rfl]
 by_cases c1 : b = 1
 ·simp -implicitDefEqProofs only [go_sem,zau,ziO,c1]
 by_cases c2 : b = 8
 ·simp -implicitDefEqProofs only [go_sem,zau,ziO,c1,c2]
 by_cases c3 : b = 16
 ·simp -implicitDefEqProofs only [go_sem,zau,ziO,c1,c2,c3]
 by_cases c4 : b = 32
 ·simp -implicitDefEqProofs only [go_sem,zau,ziO,c1,c2,c3,c4]
 by_cases c5 : b = 64 <;> simp -implicitDefEqProofs only [go_sem,zau,ziO,c1,c2,c3,c4,c5]
theorem zwv (v b : Int) (f : 0 ≤ v) (g : v < 18446744073709551616) : call T 224 [zGB v,vI b] [] = some (zGB (zBp v b),[]):=by
 rw [ze (fn:=zaf) rfl];have hm:=zgw b;have d : Go.IntKind.u64.bits = 64:=rfl;cases hw : ziO b
 ·simp -implicitDefEqProofs only [go_sem,hw] at hm
  simp -implicitDefEqProofs only [go_sem,zaf,hm,zBp,hw]
 have t : ∀ n : Int,v.tmod n = v % n:=fun n => Int.tmod_eq_emod_of_nonneg f;simp -implicitDefEqProofs only [go_sem,hw] at hm;rcases zdg hw with rfl | rfl | rfl | rfl | rfl
 ·have a : IntKind.u64.wrap 1 = 1:=rfl
  have c : IntKind.u64.wrap (1 * 2 ^ min 1 64) = 2:=rfl;simp -implicitDefEqProofs only [go_sem,zaf,hm,d,a,c,t,zBp,hw];rfl
 ·have a : IntKind.u64.wrap 8 = 8:=rfl
  have c : IntKind.u64.wrap (1 * 2 ^ min 8 64) = 256:=rfl;simp -implicitDefEqProofs only [go_sem,zaf,hm,d,a,c,t,zBp,hw];rfl
 ·have a : IntKind.u64.wrap 16 = 16:=rfl
  have c : IntKind.u64.wrap (1 * 2 ^ min 16 64) = 65536:=rfl;simp -implicitDefEqProofs only [go_sem,zaf,hm,d,a,c,t,zBp,hw];rfl
 ·have a : IntKind.u64.wrap 32 = 32:=rfl
  have c : IntKind.u64.wrap (1 * 2 ^ min 32 64) = 4294967296:=rfl;simp -implicitDefEqProofs only [go_sem,zaf,hm,d,a,c,t,zBp,hw];rfl
 ·have e : v % 2 ^ (64 : Nat) = v:=by
   show v % 18446744073709551616 = v
   omega
  simp -implicitDefEqProofs only [go_sem,zaf,hm,zBp,hw,Int.reduceToNat,e]
theorem zjU (v : Int) : call T 74 [vI v] [] = some (vB (value v),[]):=by
 rw [ze (fn:=za4) rfl];have e1 : (v > 0) = (1 ≤ v):=by apply propext; omega
 have e2 : (v < 1024) = (v ≤ 1023):=by apply propext; omega
 by_cases c1 : 1 ≤ v
 ·have d1 : 0 < v:=by omega
  by_cases c2 : v ≤ 1023
  ·have d2 : v < 1024:=by omega
   simp -implicitDefEqProofs only [go_sem,za4,value,c1,c2,eq_true d1,eq_true d2]
  ·have d2 : ¬ v < 1024:=by omega
   simp -implicitDefEqProofs only [go_sem,za4,value,c1,c2,eq_true d1,d2]
 ·have d1 : ¬ 0 < v:=by omega
  simp -implicitDefEqProofs only [go_sem,za4,value,c1,d1]
theorem zcZ (n : Int) : call T 122 [vI n] [] = some (vB (num n),[]):=by
 rw [ze (fn:=zdK) rfl]
 by_cases c1 : 0 ≤ n
 ·simp -implicitDefEqProofs only [go_sem,zdK,num,eq_true c1]
 ·simp -implicitDefEqProofs only [go_sem,zdK,num,c1]
theorem zyd (a b : List Int) (i : a.length = b.length) (l : a.length ≤ 4294967296) : ∀ (d k : Nat) (a2 a4 a5 a6 : V),a.length - k = d → k ≤ a.length →
  exec T zcW ⟨[vIs a,vIs b,a2,vI k,a4,a5,a6],[],0,0⟩ = some (if a.drop k = b.drop k then (.exit 0,⟨[vU,vU,vU,vU,vU,vU,vU],[],0,0⟩) else (.ret,⟨[vU,vU,vB false,vU,vU,vU,vU],[],0,0⟩)):=by
 intro d
 induction d with
 | zero =>
   intro k a2 a4 a5 a6 m j;have f : k = a.length:=(by omega);subst f;have e : a.drop a.length = b.drop a.length:=(by rw [yd,i,yd]);rw [xl zcW rfl,zeP,if_pos e];simp -implicitDefEqProofs only [go_sem,yh,ya]
 | succ d ih =>
   intro k a2 a4 a5 a6 m j;have f : k < a.length:=(by omega);have g : k < b.length:=(by omega);have hd : a.drop k = a[k] :: a.drop (k + 1):=yb f;have h : b.drop k = b[k] :: b.drop (k + 1):=yb g;have:=ih (k + 1) vU vU vU vU (by omega) (by omega);rw [xl zcW rfl,zeP,hd,h];simp -implicitDefEqProofs only [go_sem] at this
   by_cases c : a[k] = b[k]
   ·simp -implicitDefEqProofs only [go_sem,ilt f,zj f,zj g,ri,ya,za f l,c,this,List.cons.injEq]
   ·simp -implicitDefEqProofs only [go_sem,ilt f,zj f,zj g,ri,ya,c,List.cons.injEq,false_and]
theorem zbx (a b : List Int) (f : a.length ≤ 4294967296) : call T 22 [vIs a,vIs b] [] = some (vB (decide (a = b)),[]):=by
 rw [ze (fn:=zbl) rfl]
 by_cases e : a.length = b.length
 ·have h:=fun a2 a4 a5 a6 => zyd a b e f a.length 0 a2 a4 a5 a6 (by omega) (by omega)
  simp only [ye,yl] at h;have d : (a.length : Int) = (b.length : Int):=by omega
  by_cases c : a = b
  ·simp -implicitDefEqProofs only [go_sem,c] at h
   simp -implicitDefEqProofs only [go_sem,zbl,h,c,ya]
  ·simp -implicitDefEqProofs only [go_sem,c] at h
   simp -implicitDefEqProofs only [go_sem,zbl,h,c,ya,d]
 ·have d : ¬ (a.length : Int) = (b.length : Int):=by omega
  have c : ¬ a = b:=fun h => e (by rw [h]);simp -implicitDefEqProofs only [go_sem,zbl,c,ya,d]
theorem zBb (l : List Int) (x : Int) (e : l.length ≤ 4294967296) : ∀ (d k : Nat) (a2 a4 a5 : V),l.length - k = d → k ≤ l.length →
  exec T zda ⟨[vIs l,vI x,a2,vI k,a4,a5],[],0,0⟩ = some (if x ∈ l.drop k then (.ret,⟨[vU,vU,vB true,vU,vU,vU],[],0,0⟩) else (.exit 0,⟨[vU,vU,vU,vU,vU,vU],[],0,0⟩)):=by
 intro d
 induction d with
 | zero =>
   intro k a2 a4 a5 g b;have a : k = l.length:=(by omega);subst a;rw [xl zda rfl,zfp];simp -implicitDefEqProofs only [go_sem,yh,ya,yd,List.not_mem_nil]
 | succ d ih =>
   intro k a2 a4 a5 g b;have a : k < l.length:=(by omega);have hd : l.drop k = l[k] :: l.drop (k + 1):=yb a;have:=ih (k + 1) vU vU vU (by omega) (by omega);rw [xl zda rfl,zfp,hd];simp -implicitDefEqProofs only [go_sem] at this
   by_cases c : l[k] = x
   ·simp -implicitDefEqProofs only [go_sem,ilt a,zj a,ri,ya,c,yB]
   ·have f : ¬ x = l[k]:=fun h => c h.symm
    simp -implicitDefEqProofs only [go_sem,ilt a,zj a,ri,ya,za a e,c,f,this,yB]
theorem zfS (l : List Int) (x : Int) (a : l.length ≤ 4294967296) : call T 66 [vIs l,vI x] [] = some (vB (decide (x ∈ l)),[]):=by
 rw [ze (fn:=zdC) rfl];have h:=fun a2 a4 a5 => zBb l x a l.length 0 a2 a4 a5 (by omega) (by omega);simp only [ye,yl] at h
 by_cases c : x ∈ l
 ·simp -implicitDefEqProofs only [go_sem,c] at h
  simp -implicitDefEqProofs only [go_sem,zdC,h,c]
 ·simp -implicitDefEqProofs only [go_sem,c] at h
  simp -implicitDefEqProofs only [go_sem,zdC,h,c]
theorem zy1 (l : List Int) (f : l.length ≤ 4294967296) : ∀ (d k : Nat) (a1 a3 a4 : V),l.length - k = d → k ≤ l.length →
  exec T zcw ⟨[vIs l,a1,vI k,a3,a4],[],0,0⟩ = some (if (l.drop k).all num = true then (.exit 0,⟨[vIs l,vU,vU,vU,vU],[],0,0⟩) else (.ret,⟨[vU,vB false,vU,vU,vU],[],0,0⟩)):=by
 intro d
 induction d with
 | zero =>
   intro k a1 a3 a4 g e;have a : k = l.length:=(by omega);subst a;rw [xl zcw rfl,zeC];simp -implicitDefEqProofs only [go_sem,yh,ya,yd,yk]
 | succ d ih =>
   intro k a1 a3 a4 g e;have a : k < l.length:=(by omega);have hd : l.drop k = l[k] :: l.drop (k + 1):=yb a;have:=ih (k + 1) vU vU vU (by omega) (by omega);have b:=zcZ l[k];rw [xl zcw rfl,zeC,hd,yf];simp -implicitDefEqProofs only [go_sem] at this;cases c : num l[k]
   ·simp -implicitDefEqProofs only [go_sem,c] at b
    simp -implicitDefEqProofs only [go_sem,ilt a,zj a,ri,ya,c,b]
   ·simp -implicitDefEqProofs only [go_sem,c] at b
    simp -implicitDefEqProofs only [go_sem,ilt a,zj a,ri,ya,za a f,c,b,this]
theorem zgS (l : List Int) (a : l.length ≤ 4294967296) : call T 121 [vIs l] [] = some (vB (zgD l),[]):=by
 rw [ze (fn:=zdc) rfl];have h:=fun a1 a3 a4 => zy1 l a l.length 0 a1 a3 a4 (by omega) (by omega);simp only [ye,yl] at h;have e : ((l.length : Int) ≤ 64) = (l.length ≤ 64):=by apply propext; omega
 cases c : l.all num
 ·simp -implicitDefEqProofs only [go_sem,c] at h
  simp -implicitDefEqProofs only [go_sem,zdc,h,zgD,c,yv]
 ·simp -implicitDefEqProofs only [go_sem,c] at h
  simp -implicitDefEqProofs only [go_sem,zdc,h,zgD,c,ya,e,yg]
theorem zsP (b l : Int) : call T 170 [vI b,vI l] [] = some (vB (zdQ b l),[]):=by
 rw [ze (fn:=zad) rfl];have a:=zgw b;cases hm : ziO b
 ·simp -implicitDefEqProofs only [go_sem,hm] at a
  simp -implicitDefEqProofs only [go_sem,zad,zdQ,hm,a]
 simp -implicitDefEqProofs only [go_sem,hm] at a
 by_cases c1 : l = 1
 ·simp -implicitDefEqProofs only [go_sem,zad,zdQ,hm,a,c1]
 cases c : zmK l
 ·have d:=c
  simp only [zmK,yo,decide_eq_false_iff_not] at d;obtain ⟨⟨⟨c2,c3⟩,c4⟩,c5⟩:=d;simp -implicitDefEqProofs only [go_sem,zad,zdQ,hm,a,c1,c2,c3,c4,c5,c]
 ·have i:=zdg hm
  have e : (b > 1) = (8 ≤ b):=by apply propext; omega
  by_cases c8 : 8 ≤ b
  ·have c9 : 1 < b:=by omega
   rcases zgk c with rfl | rfl | rfl | rfl
   all_goals
    have j : Go.IntKind.i64.wrap (b * 2) = b * 2:=wrap_i64 (by omega) (by omega);have h : Go.IntKind.i64.wrap (b * 4) = b * 4:=wrap_i64 (by omega) (by omega);have g : Go.IntKind.i64.wrap (b * 8) = b * 8:=wrap_i64 (by omega) (by omega);have f : Go.IntKind.i64.wrap (b * 16) = b * 16:=wrap_i64 (by omega) (by omega);simp -implicitDefEqProofs only [go_sem,zad,zdQ,hm,a,c1,c,c8,eq_true c9,j,h,g,f]
  ·have c9 : ¬ 1 < b:=by omega
   rcases zgk c with rfl | rfl | rfl | rfl
   all_goals simp -implicitDefEqProofs only [go_sem,zad,zdQ,hm,a,c1,c,c8,c9]
set_option maxHeartbeats 8000000
def zhj (k : Int) : Bool:=decide (0 ≤ k) && decide (k ≤ 22)
theorem zit {k : Int} (h : zhj k = true) : k = 0 ∨ k = 1 ∨ k = 2 ∨ k = 3 ∨ k = 4 ∨ k = 5 ∨ k = 6 ∨ k = 7 ∨ k = 8 ∨ k = 9 ∨ k = 10 ∨ k = 11 ∨ k = 12 ∨ k = 13 ∨ k = 14 ∨ k = 15 ∨ k = 16 ∨ k = 17 ∨ k = 18 ∨ k = 19 ∨ k = 20 ∨ k = 21 ∨ k = 22:=by
 simp only [zhj,yc,decide_eq_true_eq] at h;omega
def zD3 (o : POp) : Int:=if zhj o.kind = true then ((zO o).1.length : Int) else -1
section
variable (o : POp) (hs : zdQ o.bits o.lanes = true) (ho : zDi o)
include hs
theorem zuD : call T 171 [vOp o] [] = some (vI (zD3 o),[]):=by
 rw [ze (fn:=zbi) rfl];obtain ⟨kind,bits,lanes,dst,args,a⟩:=o;obtain ⟨hm,h⟩:=zf9 hs;dsimp only at *;cases c : zhj kind
 ·simp only [zhj,ys,decide_eq_false_iff_not] at c
  have b : zD3 ⟨kind,bits,lanes,dst,args,a⟩ = -1:=by
   unfold zD3;rw [if_neg];simp only [zhj,yc,decide_eq_true_eq];omega
  have n0 : ¬ kind = 0:=by omega
  have g : ¬ kind = 1:=by omega
  have n2 : ¬ kind = 2:=by omega
  have e : ¬ kind = 3:=by omega
  have f : ¬ kind = 4:=by omega
  have n5 : ¬ kind = 5:=by omega
  have n6 : ¬ kind = 6:=by omega
  have n7 : ¬ kind = 7:=by omega
  have n8 : ¬ kind = 8:=by omega
  have n9 : ¬ kind = 9:=by omega
  have n10 : ¬ kind = 10:=by omega
  have n11 : ¬ kind = 11:=by omega
  have n12 : ¬ kind = 12:=by omega
  have n13 : ¬ kind = 13:=by omega
  have n14 : ¬ kind = 14:=by omega
  have n15 : ¬ kind = 15:=by omega
  have n16 : ¬ kind = 16:=by omega
  have n17 : ¬ kind = 17:=by omega
  have n18 : ¬ kind = 18:=by omega
  have n19 : ¬ kind = 19:=by omega
  have n20 : ¬ kind = 20:=by omega
  have n21 : ¬ kind = 21:=by omega
  have n22 : ¬ kind = 22:=by omega
  rw [b];simp -implicitDefEqProofs only [go_sem,zbi,n0,g,n2,e,f,n5,n6,n7,n8,n9,n10,n11,n12,n13,n14,n15,n16,n17,n18,n19,n20,n21,n22]
 ·have d : ((lanes.toNat : Nat) : Int) = lanes:=by omega
  rcases zit c with rfl | rfl | rfl | rfl | rfl | rfl | rfl | rfl | rfl | rfl | rfl | rfl | rfl | rfl | rfl | rfl | rfl | rfl | rfl | rfl | rfl | rfl | rfl
  all_goals first
   | (simp -implicitDefEqProofs only [go_sem,zbi,zD3,zhj,zO,arith,asks,yt,d]; done)
   | (simp -implicitDefEqProofs only [go_sem,zbi,zD3,zhj,zO,arith,asks,yt,d]; rfl)
include ho
theorem zuV (k : zhj o.kind = true) : call T 172 [vOp o] [] = some (vB (zO o).2,[]):=by
 rw [ze (fn:=zaL) rfl];obtain ⟨kind,bits,lanes,dst,args,a⟩:=o;obtain ⟨hm,n⟩:=zf9 hs;obtain ⟨m,j⟩:=ho;dsimp only at *;have l:=zdg hm;have h:=zwv a bits m j;have c : Go.IntKind.u64.wrap bits = bits:=wrap_u64 (by omega) (by omega);have e : Go.IntKind.u64.wrap lanes = lanes:=wrap_u64 (by omega) (by omega);have e8 : (bits < 8) = (¬ 8 ≤ bits):=by apply propext; omega
 have el : (lanes < 2) = (lanes = 1):=by apply propext; omega
 simp -implicitDefEqProofs only [go_sem] at h
 by_cases b : kind = 14 ∨ kind = 15
 ·by_cases d1 : lanes = 1
  ·by_cases d2 : a ≤ 64
   ·have g : Go.IntKind.i64.wrap a = a:=wrap_i64 (by omega) (by omega)
    have i:=zgw a;simp -implicitDefEqProofs only [go_sem] at i
    by_cases d3 : a < bits <;> by_cases d4 : bits < a <;> rcases b with rfl | rfl <;> simp -implicitDefEqProofs only [go_sem,zaL,zO,arith,asks,d1,d2,d3,d4,c,g,i]
   ·have d3 : ¬ a < bits:=by omega
    have d4 : bits < a:=(by omega);rcases b with rfl | rfl <;> simp -implicitDefEqProofs only [go_sem,zaL,zO,arith,asks,d1,d2,d3,eq_true d4,c]
  ·rcases b with rfl | rfl <;> simp -implicitDefEqProofs only [go_sem,zaL,zO,arith,asks,d1]
 ·rcases zit k with rfl | rfl | rfl | rfl | rfl | rfl | rfl | rfl | rfl | rfl | rfl | rfl | rfl | rfl | rfl | rfl | rfl | rfl | rfl | rfl | rfl | rfl | rfl
  all_goals first
   | exact absurd (.inl rfl) b
   | exact absurd (.inr rfl) b
   | (simp -implicitDefEqProofs only [go_sem,zaL,zO,arith,asks,h,e,c] <;> by_cases d1 : lanes = 1 <;> have f : (lanes < 2) = (lanes = 1):=el <;> simp only [d1,eq_self] at f <;> by_cases d8 : 8 ≤ bits <;> have d : (bits < 8) = ¬ 8 ≤ bits:=e8 <;> simp only [d8,not_true_eq_false,not_false_eq_true] at d <;> by_cases di : a = 0 <;> simp -implicitDefEqProofs only [go_sem,d1,f,d8,d,di,h,e,c])
theorem zAo (f : o.args.length ≤ 4294967296) : ∀ (d k : Nat) (a0 a2 a4 a5 a6 a7 : V),o.args.length - k = d → k ≤ o.args.length →
  exec T zc6 ⟨[a0,.one (.ptr 0 0 0 0),a2,vI k,a4,a5,a6,a7],[.cells 0 6 [cOp o]],0,0⟩ = some (if (o.args.drop k).all value = true then (.exit 0,⟨[vU,.one (.ptr 0 0 0 0),vU,vU,vU,vU,vU,vU],[.cells 0 6 [cOp o]],0,0⟩) else (.ret,⟨[vU,vU,vB false,vU,vU,vU,vU,vU],[.cells 0 6 [cOp o]],0,0⟩)):=by
 intro d
 induction d with
 | zero =>
   intro k a0 a2 a4 a5 a6 a7 g e;have a : k = o.args.length:=(by omega);subst a;rw [xl zc6 rfl,zfj];simp -implicitDefEqProofs only [go_sem,yh,ya,yd,yk]
 | succ d ih =>
   intro k a0 a2 a4 a5 a6 a7 g e;have a : k < o.args.length:=(by omega);have hd : o.args.drop k = o.args[k] :: o.args.drop (k + 1):=yb a;have:=ih (k + 1) vU vU vU vU vU vU (by omega) (by omega);have b:=zjU o.args[k];rw [xl zc6 rfl,zfj,hd,yf];simp -implicitDefEqProofs only [go_sem] at this;cases c : value o.args[k]
   ·simp -implicitDefEqProofs only [go_sem,c] at b
    simp -implicitDefEqProofs only [go_sem,ilt a,zj a,ri,ya,c,b]
   ·simp -implicitDefEqProofs only [go_sem,c] at b
    simp -implicitDefEqProofs only [go_sem,ilt a,zj a,ri,ya,za a f,c,b,this]
end
theorem zAs (l : List Int) : (!l.any fun v => !value v) = l.all value:=by
 induction l with
 | nil => rfl
 | cons x l ih => rw [yz,yf,yD,yC,ih]
theorem zqz {o : POp} (h : zhj o.kind = false) : (zO o).2 = false:=by
 simp only [zhj,ys,decide_eq_false_iff_not] at h
 have a1 : arith o.kind = false:=by
  simp only [arith,yo,decide_eq_false_iff_not];omega
 have a2 : asks o.kind = false:=by
  simp only [asks,yo,decide_eq_false_iff_not];omega
 unfold zO;simp only [a1,a2];rw [if_neg (by omega),if_neg (by simp),if_neg (by simp),if_neg (by omega),if_neg (by omega),if_neg (by omega),if_neg (by omega),if_neg (by omega),if_neg (by omega),if_neg (by omega),if_neg (by omega),if_neg (by omega)]
theorem zmn (o : POp) (ho : zvE o) : call T 126 [vOp o] [] = some (vB (zgN o),[]):=by
 rw [ze (fn:=zH) rfl];have b:=zsP o.bits o.lanes;cases hs : zdQ o.bits o.lanes
 ·simp -implicitDefEqProofs only [go_sem,hs] at b
  simp -implicitDefEqProofs only [go_sem,zH,zgN,hs,b]
 have c:=zuD o hs;have h:=fun a0 a2 a4 a5 a6 a7 => zAo o hs ho.1 ho.2 o.args.length 0 a0 a2 a4 a5 a6 a7 (by omega) (by omega);have p:=zjU o.dst;have a:=zAs o.args;simp only [ye,yl] at h;simp -implicitDefEqProofs only [go_sem,hs] at b c p;cases m : zhj o.kind
 ·have q:=zqz m
  have e : zD3 o = -1:=by unfold zD3; rw [m]; rfl
  have n : ¬ (-1 : Int) = (o.args.length : Int):=by omega
  simp -implicitDefEqProofs only [e] at c;simp -implicitDefEqProofs only [go_sem,zH,zgN,hs,b,c,q,n,ya]
 have d:=zuV o hs ho.1 m;have e : zD3 o = ((zO o).1.length : Int):=by unfold zD3; rw [m]; rfl
 simp -implicitDefEqProofs only [go_sem,e] at c d
 by_cases j : (zO o).1.length = o.args.length
 ·have l : ((zO o).1.length : Int) = (o.args.length : Int):=by omega
  cases g : (zO o).2
  ·simp -implicitDefEqProofs only [g] at d
   simp -implicitDefEqProofs only [go_sem,zH,zgN,hs,b,c,d,g,j,ya]
  ·simp -implicitDefEqProofs only [g] at d
   cases i : o.args.all value
   ·simp -implicitDefEqProofs only [go_sem,i] at h
    simp -implicitDefEqProofs only [go_sem,zH,zgN,hs,b,c,d,g,j,h,a,i,ya,yv]
   ·simp -implicitDefEqProofs only [go_sem,i] at h
    by_cases f : o.kind = 17
    ·simp -implicitDefEqProofs only [go_sem,zH,zgN,hs,b,c,d,g,j,h,a,i,ya,zgg,eq_true f,yg]
    ·by_cases k : o.kind = 19
     ·simp -implicitDefEqProofs only [go_sem,zH,zgN,hs,b,c,d,g,j,h,a,i,ya,zgg,f,eq_true k,yg]
     ·simp -implicitDefEqProofs only [go_sem,zH,zgN,hs,b,c,d,p,g,j,h,a,i,ya,zgg,f,k,yg]
 ·have l : ¬ ((zO o).1.length : Int) = (o.args.length : Int):=by omega
  simp -implicitDefEqProofs only [go_sem,zH,zgN,hs,b,c,j,l,ya,yv]
end AC
namespace AC
open Go Go.A Go.A.Lex
mutual
theorem zxk {n m : Nat} (h : n ≤ m) : ∀ c : C,c.lt n = true → c.lt m = true
 | .f _,_ => rfl
 | .ap t _ _,e => by simp only [C.lt,decide_eq_true_eq] at e ⊢; omega
 | .ptr id _ _ _,e => by simp only [C.lt,decide_eq_true_eq] at e ⊢; omega
 | .fp _ _,_ => rfl
 | .own id _ _ _,e => by simp only [C.lt,decide_eq_true_eq] at e ⊢; omega
 | .map id,e => by simp only [C.lt,decide_eq_true_eq] at e ⊢; omega
 | .fn _ a b,e => by
   simp only [C.lt,yc] at e ⊢;exact ⟨zfI h a e.1,zfI h b e.2⟩
 | .un,_ => rfl
theorem zfI {n m : Nat} (h : n ≤ m) : ∀ cs : List C,C.lts n cs = true → C.lts m cs = true
 | [],_ => by simp only [C.lts]
 | c :: cs,e => by
   simp only [C.lts,yc] at e ⊢;exact ⟨zxk h c e.1,zfI h cs e.2⟩
end
mutual
theorem zwU {n m : Nat} (h : n ≤ m) : ∀ v : V,v.lt n = true → v.lt m = true
 | .one c,e => by simp only [V.lt] at e ⊢; exact zxk h c e
 | .agg cs,e => by simp only [V.lt] at e ⊢; exact zfI h cs e
 | .tup vs,e => by simp only [V.lt] at e ⊢; exact zuJ h vs e
theorem zuJ {n m : Nat} (h : n ≤ m) : ∀ vs : List V,V.lts n vs = true → V.lts m vs = true
 | [],_ => by simp only [V.lts]
 | v :: vs,e => by
   simp only [V.lts,yc] at e ⊢;exact ⟨zwU h v e.1,zuJ h vs e.2⟩
end
theorem zsa {n m : Nat} (h : n ≤ m) : ∀ es : List (List C),C.ltss n es = true → C.ltss m es = true
 | [],_ => by simp only [C.ltss]
 | c :: cs,e => by
   simp only [C.ltss,yc] at e ⊢;exact ⟨zfI h c e.1,zsa h cs e.2⟩
theorem zt7 {n m : Nat} (h : n ≤ m) : ∀ es : List (Int × V),C.ltm n es = true → C.ltm m es = true
 | [],_ => by simp only [C.ltm]
 | c :: cs,e => by
   simp only [C.ltm,yc] at e ⊢;exact ⟨zwU h c.2 e.1,zt7 h cs e.2⟩
theorem zDM {n m : Nat} (h : n ≤ m) : ∀ o : Ob,o.lt n = true → o.lt m = true
 | .cells _ _ es,e => by simp only [Ob.lt] at e ⊢; exact zsa h es e
 | .tok _ _,_ => rfl
 | .mp es,e => by simp only [Ob.lt] at e ⊢; exact zt7 h es e
theorem zqR {n m : Nat} (h : n ≤ m) : ∀ os : List Ob,Obs.lt n os = true → Obs.lt m os = true
 | [],_ => by simp only [Obs.lt]
 | o :: os,e => by
   simp only [Obs.lt,yc] at e ⊢;exact ⟨zDM h o e.1,zqR h os e.2⟩
theorem zgB {σ : zd} {k : Nat} {o : Ob} (h : σ[k]? = some o) (r : zd) : (σ ++ r)[k]? = some o:=by
 have : k < σ.length:=(yj.1 h).1;rw [List.getElem?_append_left this,h]
theorem zib {σ : zd} {k : Nat} {o : Ob} (h : σ[k]? = some o) (j : Nat) : (k < σ.length + j) = True:=by
 have : k < σ.length:=(yj.1 h).1;simp; omega
theorem ziE {σ : zd} {k : Nat} {o : Ob} (h : σ[k]? = some o) : (k < σ.length) = True:=by
 have : k < σ.length:=(yj.1 h).1;simp; omega
theorem zHW (n : Nat) : (n < n + 1) = True:=by simp
theorem zHm (n : Nat) : (n < n + 2) = True:=by simp
theorem zHN (n : Nat) : (n < n + 3) = True:=by simp
theorem zHJ (n : Nat) : (n < n + 4) = True:=by simp
theorem zHL (n : Nat) : (n + 1 < n + 2) = True:=by simp
theorem zHZ (n : Nat) : (n + 1 < n + 3) = True:=by simp
theorem zHQ (n : Nat) : (n + 2 < n + 3) = True:=by simp
theorem zHw (n : Nat) : (n + 3 < n + 4) = True:=by simp
theorem zHs (n : Nat) : (n + 2 < n + 4) = True:=by simp
theorem zHF (n : Nat) : (n + 1 < n + 4) = True:=by simp
theorem zH0 (n k : Nat) : (n + k ≤ n + k) = True:=by simp
theorem zHU (n : Nat) : (n + 2 ≤ n + 1) = False:=by simp
theorem zHA (n : Nat) : (n + 3 ≤ n + 1) = False:=by simp
theorem zH2 (n : Nat) : (n + 3 ≤ n + 2) = False:=by simp
theorem zHV (n : Nat) : (n + 4 ≤ n + 1) = False:=by simp
theorem zHC (n : Nat) : (n + 4 ≤ n + 2) = False:=by simp
theorem zHr (n : Nat) : (n + 4 ≤ n + 3) = False:=by simp
attribute [go_sem] zHW zHm zHN zHJ zHL zHZ zHQ zHw zHs zHF zH0 zHU zHA zH2 zHV zHC zHr
def Ok (σ : zd) : Prop:=Obs.lt σ.length σ = true
theorem Ok.up {σ : zd} (h : Ok σ) (k : Nat) : Obs.lt (σ.length + k) σ = true:=zqR (Nat.le_add_right _ _) _ h
theorem Ok.at {σ : zd} (h : Ok σ) : Obs.lt σ.length σ = true:=h
theorem Ok.app {σ r : zd} (h : Ok σ) (a : Obs.lt (σ.length + r.length) r = true) : Ok (σ ++ r):=by
 unfold Ok;rw [List.length_append,zn1,Ok.up h,a];rfl
theorem zvA {e : List C} {k : Nat} (c : C) (h : k < e.length) : e.take k ++ c :: e.drop (k + 1) = e.set k c:=by
 rw [List.set_eq_take_append_cons_drop,if_pos h]
theorem zBv {a b : Nat} (h : a < b) : (a + 1 ≤ b) = True:=by simp; omega
end AC

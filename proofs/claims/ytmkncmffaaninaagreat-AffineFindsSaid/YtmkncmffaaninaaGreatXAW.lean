/- A part of the proof of AffineFinds. Conditions: none. -/
import Derived.Test.YtmkncmffaaninaaGreatXAV
import Derived.Test.YtmkncmffaaninaaGreatXAR
set_option linter.all false
open List renaming length_map → ya,drop_eq_getElem_cons → yb,drop_length → yd,all_cons → yf,find?_cons → yi,getElem?_eq_some_iff → yj,all_nil → yk,drop_zero → yl,take_of_length_le → ym,set_append_right → yn,map_cons → yp,map_nil → yq,getElem_mem → yr,length_replicate → yt,take_succ_cons → yu,take_append → yx,find?_nil → yy,any_cons → yz,sum_cons → yA,mem_cons → yB
open Bool renaming and_eq_true → yc,and_true → yg,or_eq_false_iff → yo,and_eq_false_iff → ys,and_false → yv,not_eq_true' → yw,not_not → yC,not_or → yD
open Int renaming natCast_zero → ye,lt_irrefl → yh
namespace AC
open Go Go.A Go.A.Lex
def zgh (o : POp) : Bool:=zdT o.bits o.lanes && ((zY o).2 && ((if zfx o.kind then decide (o.dst = 0) else value o.dst) && (decide ((zY o).1.length = o.args.length) && !o.args.any fun v => !value v)))
@[go_sem] theorem zAz (v : Int) (σ : zd) : call T 254 [vI v] σ = some (vB (!value v),σ):=by
  rw [ze (fn:=zkX) rfl];simp -implicitDefEqProofs only [go_sem,zkX]
@[go_sem] theorem zjX (o : POp) (j : zEI o) (i : o.args.length ≤ 4294967296) : call T 236 [vOp o] [] = some (vB (zgh o),[]):=by
  rw [ze (fn:=zdk) rfl];cases a : zdT o.bits o.lanes
  ·simp -implicitDefEqProofs only [go_sem,zdk,zgh,a]
  have b:=zr4 o a j;have h:=fun σ => zba o.args (fun v => !value v) 254 [] [] σ i (fun x _ => by simp -implicitDefEqProofs only [go_sem]);simp -implicitDefEqProofs only [go_sem,zcE] at b h;cases d : (zY o).2
  ·cases c : zfx o.kind
   ·simp -implicitDefEqProofs only [go_sem,zdk,zgh,a,b,d,c]
   ·simp -implicitDefEqProofs only [go_sem,zdk,zgh,a,b,d,c]
  ·cases c : zfx o.kind
   ·cases e : value o.dst
    ·simp -implicitDefEqProofs only [go_sem,zdk,zgh,a,b,d,c,e]
    ·by_cases g : (zY o).1.length = o.args.length
     ·simp -implicitDefEqProofs only [go_sem,zdk,zgh,a,b,d,c,e,g,h]
     ·have f : ¬ ((zY o).1.length : Int) = (o.args.length : Int):=by omega
      simp -implicitDefEqProofs only [go_sem,zdk,zgh,a,b,d,c,e,g,f]
   ·by_cases e : o.dst = 0
    ·by_cases g : (zY o).1.length = o.args.length
     ·simp -implicitDefEqProofs only [go_sem,zdk,zgh,a,b,d,c,eq_true e,g,h]
     ·have f : ¬ ((zY o).1.length : Int) = (o.args.length : Int):=by omega
      simp -implicitDefEqProofs only [go_sem,zdk,zgh,a,b,d,c,eq_true e,g,f]
    ·simp -implicitDefEqProofs only [go_sem,zdk,zgh,a,b,d,c,e]
theorem zy9 {o : POp} (h : zgh o = true) : zdT o.bits o.lanes = true:=by
 simp only [zgh,yc] at h;exact h.1
def zaC (o : POp) : List (Int × Int):=if zgh o = true then (zY o).1 else []
@[go_sem] theorem zqb (o : POp) (b : zEI o) (c : o.args.length ≤ 4294967296) : call T 238 [vOp o] [] = some (vSs (zaC o),[]):=by
  rw [ze (fn:=zik) rfl];have hm:=zjX o b c;cases h : zgh o
  ·simp -implicitDefEqProofs only [go_sem,h] at hm
   simp -implicitDefEqProofs only [go_sem,zik,hm,zaC,h]
  ·have a:=zr4 o (zy9 h) b
   simp -implicitDefEqProofs only [go_sem,h,zcE] at hm a;simp -implicitDefEqProofs only [go_sem,zik,hm,a,zaC,h]
def zad (o : POp) : Int × Int :=
 if zgh o = false ∨ zfx o.kind = true then (0,0) else if 10 ≤ o.kind ∧ o.kind ≤ 12 then (1,1) else if o.kind = 22 then (o.bits,1) else (o.bits,o.lanes)
@[go_sem] theorem zqq (o : POp) (f : zEI o) (e : o.args.length ≤ 4294967296) : call T 206 [vOp o] [] = some (.tup [vI (zad o).1,vI (zad o).2],[]):=by
  rw [ze (fn:=zdy) rfl];have hm:=zjX o f e;cases h : zgh o
  ·simp -implicitDefEqProofs only [go_sem,h] at hm
   simp -implicitDefEqProofs only [go_sem,zdy,hm,zad,h]
  ·simp -implicitDefEqProofs only [go_sem,h] at hm
   cases a : zfx o.kind
   ·by_cases c : 10 ≤ o.kind
    ·by_cases d : o.kind ≤ 12
     ·simp -implicitDefEqProofs only [go_sem,zdy,hm,zad,h,a,c,d]
     ·by_cases b : o.kind = 22
      ·simp -implicitDefEqProofs only [b] at a hm c d
       simp -implicitDefEqProofs only [go_sem,zdy,hm,zad,h,a,c,d,b]
      ·simp -implicitDefEqProofs only [go_sem,zdy,hm,zad,h,a,c,d,b,and_false]
    ·have b : ¬ o.kind = 22:=by omega
     simp -implicitDefEqProofs only [go_sem,zdy,hm,zad,h,a,c,b,false_and]
   ·simp -implicitDefEqProofs only [go_sem,zdy,hm,zad,h,a]
def impure (k : Int) : Bool:=decide (k = 4) || decide (k = 16) || decide (k = 17) || decide (k = 18) || decide (k = 19) || decide (k = 20)
def pure (k : Int) : Bool:=!impure k && (decide (0 ≤ k) && decide (k ≤ 22))
def num (n : Int) : Bool:=decide (0 ≤ n) && decide (n ≤ 2147483647)
@[go_sem] theorem zC9 (n : Int) (σ : zd) : call T 192 [vI n] σ = some (vB (!num n),σ):=by
  rw [ze (fn:=zhG) rfl]
  by_cases c : n < 0
  ·have a : ¬ 0 ≤ n:=by omega
   simp -implicitDefEqProofs only [go_sem,zhG,num,c,a]
  ·have a : 0 ≤ n:=by omega
   by_cases d : 2147483647 < n
   ·have b : ¬ n ≤ 2147483647:=by omega
    simp -implicitDefEqProofs only [go_sem,zhG,num,c,a,d,b]
   ·have b : n ≤ 2147483647:=by omega
    simp -implicitDefEqProofs only [go_sem,zhG,num,c,a,d,b]
theorem zqC {α : Type} (p : α → Bool) (l : List α) : (!l.any fun x => !p x) = l.all p:=by
 induction l with
 | nil => rfl
 | cons x r ih => simp only [yz,yf,← ih,yD,yC]
@[go_sem] theorem zgO (l : List Int) (b : l.length ≤ 4294967296) : call T 152 [vIs l] [] = some (vB (l.all num),[]):=by
  rw [ze (fn:=zpN) rfl];have a:=fun σ => zba l (fun v => !num v) 192 [] [] σ b (fun x _ => by simp -implicitDefEqProofs only [go_sem]);simp -implicitDefEqProofs only [go_sem] at a;simp -implicitDefEqProofs only [go_sem,zpN,a,zqC]
theorem zsE (a : Int) : call T 152 [vL [[ei a]]] [] = some (vB (num a),[]):=by
 have:=zgO [a] (by simp);simpa only [vIs,yp,yq,ri,yf,yk,yg] using this
theorem zm4 (a b : Int) : call T 152 [vL [[ei a],[ei b]]] [] = some (vB (num a && num b),[]):=by
 have:=zgO [a,b] (by simp);simpa only [vIs,yp,yq,ri,yf,yk,yg] using this
theorem ztB (a b c d : Int) : call T 152 [vL [[ei a],[ei b],[ei c],[ei d]]] [] = some (vB (num a && (num b && (num c && num d))),[]):=by
 have:=zgO [a,b,c,d] (by simp);simpa only [vIs,yp,yq,ri,yf,yk,yg] using this
def zgv (l : List Int) : Bool:=decide (l.length ≤ 64) && l.all num
theorem zpI (a : List (List Int)) (j : a.length ≤ 4294967296) (h : ∀ l ∈ a,l.length ≤ 4294967296) : ∀ (d k : Nat) (a0 a1 a2 a6 a7 : V),a.length - k = d → k ≤ a.length →
  exec T zhm ⟨[a0,a1,a2,vLs a,vI a.length,vI k,a6,a7],[],0,0⟩ =
   some (if (a.drop k).all zgv = true then (.exit 0,⟨[vU,vU,vU,vU,vU,vU,vU,vU],[],0,0⟩) else (.ret,⟨[vU,vB false,vU,vU,vU,vU,vU,vU],[],0,0⟩)):=by
 intro d
 induction d with
 | zero =>
   intro k a0 a1 a2 a6 a7 i m;have b : k = a.length:=(by omega);subst b;rw [xl zhm rfl,zjR];simp -implicitDefEqProofs only [go_sem,yh,yd,yk]
 | succ d ih =>
   intro k a0 a1 a2 a6 a7 i m;have b : k < a.length:=(by omega);have hd : a.drop k = a[k] :: a.drop (k + 1):=yb b;have e:=zgO a[k] (h _ (yr b));rw [xl zhm rfl,zjR,hd]
   by_cases c : a[k].length ≤ 64
   ·have g : ¬ (64 : Int) < (a[k].length : Int):=by omega
    cases f : a[k].all num
    ·simp -implicitDefEqProofs only [go_sem,f] at e
     simp -implicitDefEqProofs only [go_sem,ilt b,zy b,rl,g,e,zgv,c,f]
    ·simp -implicitDefEqProofs only [go_sem,f] at e
     simp -implicitDefEqProofs only [go_sem,ilt b,zy b,rl,g,e,zgv,c,f,za b j];exact ih (k + 1) _ _ _ _ _ (by omega) (by omega)
   ·have g : (64 : Int) < (a[k].length : Int):=by omega
    simp -implicitDefEqProofs only [go_sem,ilt b,zy b,rl,g,zgv,c]
theorem zk1 (a : List (List Int)) (d : a.length ≤ 4294967296) (b : ∀ l ∈ a,l.length ≤ 4294967296) : call T 194 [vLs a] [] = some (vB (a.all zgv),[]):=by
 rw [ze (fn:=zkt) rfl];have h:=fun a0 a1 a2 a6 a7 => zpI a d b a.length 0 a0 a1 a2 a6 a7 (by omega) (by omega);simp only [yl,ye] at h;cases c : a.all zgv <;> simp -implicitDefEqProofs only [go_sem,c] at h <;> simp -implicitDefEqProofs only [go_sem,zkt,h]
theorem zeW {α : Type} {p : α → Bool} {l : List α} (h : l.find? (fun x => !p x) = none) : l.all p = true:=by
 simp only [List.find?_eq_none,yw,Bool.not_eq_false] at h;simpa [List.all_eq_true] using h
theorem zeY {α : Type} {p : α → Bool} {l : List α} {x : α} (h : l.find? (fun x => !p x) = some x) : l.all p = false:=by
 have a:=List.find?_some h;have b:=List.mem_of_find?_eq_some h;simp only [yw] at a;exact List.all_eq_false.2 ⟨x,b,by simp [a]⟩
section ends
variable {α : Type} (σ r : List α) (o p q' : α)
theorem zE2 : (σ ++ o :: r)[σ.length]? = some o:=by simp
theorem zDX : (σ ++ o :: p :: r)[σ.length + 1]? = some p:=by simp
theorem zEX : (σ ++ o :: p :: q' :: r)[σ.length + 2]? = some q':=by simp
theorem ztd (x : α) : (σ ++ o :: r).set σ.length x = σ ++ x :: r:=by simp [yn]
theorem zEi (x : α) : (σ ++ o :: p :: r).set (σ.length + 1) x = σ ++ o :: x :: r:=by simp [yn]
theorem zDI (x : α) : (σ ++ o :: p :: q' :: r).set (σ.length + 2) x = σ ++ o :: p :: x :: r:=by simp [yn]
theorem zAo : (σ ++ r).take σ.length = σ:=by simp
theorem zAL : (σ ++ o :: r).take (σ.length + 1) = σ ++ [o]:=by simp [yx,ym]
theorem zBl : (σ ++ o :: p :: r).take (σ.length + 2) = σ ++ [o,p]:=by simp [yx,ym]
end ends
theorem zGr (n : Nat) : (n + 1 ≤ n) = False:=by simp
theorem zGd (n : Nat) : (n + 2 ≤ n) = False:=by simp
theorem zF3 (n : Nat) : (n + 3 ≤ n) = False:=by simp
theorem zGz (n : Nat) : (n + 4 ≤ n) = False:=by simp
theorem zGi (n : Nat) : (n + 5 ≤ n) = False:=by simp
theorem zn2 (n : Nat) : ∀ (a b : List Ob),Obs.lt n (a ++ b) = (Obs.lt n a && Obs.lt n b)
 | [],b => by simp [Obs.lt]
 | x :: a,b => by simp [Obs.lt,zn2 n a b,Bool.and_assoc]
attribute [go_sem] zE2 zDX zEX ztd zEi zDI zAo zAL zBl zGr zGd zF3 zGz zGi zn2 List.take_left'
def zie (p : PPhi) : Bool:=(num p.bits && num p.dst) && (zgv p.src && zgv p.args)
def zmw (o : POp) : Bool:=(num o.kind && (num o.bits && (num o.lanes && num o.dst))) && zgv o.args
def zqi (b : PBlock) : Bool:=(num b.kind && num b.arg) && zgv b.to
def zrH (b : PBlock) : Bool:=b.phis.all zie && (b.ops.all zmw && zqi b)
def zHo (p : PPhi) : Prop:=p.src.length ≤ 4294967296 ∧ p.args.length ≤ 4294967296
def zwG (o : POp) : Prop:=zEI o ∧ o.args.length ≤ 4294967296
structure okB (b : PBlock) : Prop where
 phis : b.phis.length ≤ 4294967296
 ops : b.ops.length ≤ 4294967296
 phi : ∀ p ∈ b.phis,zHo p
 op : ∀ o ∈ b.ops,zwG o
 to : b.to.length ≤ 4294967296
theorem zrg (a : List Int) (b : a.length ≤ 4294967296) : call T 194 [vL [[eI a]]] [] = some (vB (zgv a),[]):=by
 have:=zk1 [a] (by simp) (by simpa using b);simpa only [vLs,yp,yq,rl,yf,yk,yg] using this
theorem zwE (a b : List Int) (c : a.length ≤ 4294967296) (hb : b.length ≤ 4294967296) : call T 194 [vL [[eI a],[eI b]]] [] = some (vB (zgv a && zgv b),[]):=by
 have:=zk1 [a,b] (by simp) (by simpa using ⟨c,hb⟩);simpa only [vLs,yp,yq,rl,yf,yk,yg] using this
section
variable (b : PBlock) (hb : okB b)
include hb
theorem zwX : ∀ (d k : Nat) (a0 a2 a3 a4 a8 a9 g f c e h : V),b.phis.length - k = d → k ≤ b.phis.length →
  exec T zfy ⟨[a0,.one (.ptr 0 0 0 0),a2,a3,a4,vL (b.phis.map rp),vI b.phis.length,vI k,a8,a9,g,f,c,e,h],[.cells 0 5 [zw b]],0,0⟩ =
   some (match (b.phis.drop k).find? (fun x => !zie x) with | none => (.exit 0,⟨[vU,.one (.ptr 0 0 0 0),vU,vU,vU,vU,vU,vU,vU,vU,vU,vU,vU,vU,vU],[.cells 0 5 [zw b]],0,0⟩) | some x => (.ret,⟨[vU,vU,vB false,vU,vU,vU,vU,vU,vU,vU,vU,vU,vU,vU,vU],[.cells 0 5 [zw b],.cells 0 4 [zw6 x]],0,0⟩)):=by
 intro d
 induction d with
 | zero =>
   intro k a0 a2 a3 a4 a8 a9 g f c e h j l;have a : k = b.phis.length:=(by omega);subst a;rw [xl zfy rfl,zhe];simp -implicitDefEqProofs only [go_sem,yh,yd,yy]
 | succ d ih =>
   intro k a0 a2 a3 a4 a8 a9 g f c e h j l;have a : k < b.phis.length:=(by omega);have hd : b.phis.drop k = b.phis[k] :: b.phis.drop (k + 1):=yb a;have i:=hb.phi _ (yr a);have c1:=zm4 b.phis[k].bits b.phis[k].dst;have c2:=zwE b.phis[k].src b.phis[k].args i.1 i.2;rw [xl zfy rfl,zhe,hd];cases e1 : (num b.phis[k].bits && num b.phis[k].dst)
   ·simp -implicitDefEqProofs only [go_sem,e1] at c1 c2
    simp -implicitDefEqProofs only [go_sem,ilt a,zy a,rp,c1,c2,zie,yi,e1]
   ·cases e2 : (zgv b.phis[k].src && zgv b.phis[k].args)
    ·simp -implicitDefEqProofs only [go_sem,e1,e2] at c1 c2
     simp -implicitDefEqProofs only [go_sem,ilt a,zy a,rp,c1,c2,zie,yi,e1,e2]
    ·simp -implicitDefEqProofs only [go_sem,e1,e2] at c1 c2
     simp -implicitDefEqProofs only [go_sem,ilt a,zy a,rp,c1,c2,zie,yi,e1,e2,za a hb.phis];exact ih (k + 1) _ _ _ _ _ _ _ _ _ _ _ (by omega) (by omega)
theorem zwH : ∀ (d k : Nat) (a0 a2 a3 a4 a5 a6 a7 a8 a9 c e : V),b.ops.length - k = d → k ≤ b.ops.length →
  exec T zfA ⟨[a0,.one (.ptr 0 0 0 0),a2,a3,a4,a5,a6,a7,a8,a9,vL (b.ops.map ro),vI b.ops.length,vI k,c,e],[.cells 0 5 [zw b]],0,0⟩ =
   some (match (b.ops.drop k).find? (fun x => !zmw x) with | none => (.exit 2,⟨[vU,.one (.ptr 0 0 0 0),vU,vU,vU,vU,vU,vU,vU,vU,vU,vU,vU,vU,vU],[.cells 0 5 [zw b]],0,0⟩) | some x => (.ret,⟨[vU,vU,vB false,vU,vU,vU,vU,vU,vU,vU,vU,vU,vU,vU,vU],[.cells 0 5 [zw b],.cells 0 6 [cOp x]],0,0⟩)):=by
 intro d
 induction d with
 | zero =>
   intro k a0 a2 a3 a4 a5 a6 a7 a8 a9 c e g h;have a : k = b.ops.length:=(by omega);subst a;rw [xl zfA rfl,zhf];simp -implicitDefEqProofs only [go_sem,yh,yd,yy]
 | succ d ih =>
   intro k a0 a2 a3 a4 a5 a6 a7 a8 a9 c e g h;have a : k < b.ops.length:=(by omega);have hd : b.ops.drop k = b.ops[k] :: b.ops.drop (k + 1):=yb a;have f:=hb.op _ (yr a);have c1:=ztB b.ops[k].kind b.ops[k].bits b.ops[k].lanes b.ops[k].dst;have c2:=zrg b.ops[k].args f.2;rw [xl zfA rfl,zhf,hd];cases e1 : (num b.ops[k].kind && (num b.ops[k].bits && (num b.ops[k].lanes && num b.ops[k].dst)))
   ·simp -implicitDefEqProofs only [go_sem,e1] at c1 c2
    simp -implicitDefEqProofs only [go_sem,ilt a,zy a,ro,c1,c2,zmw,yi,e1]
   ·cases e2 : zgv b.ops[k].args
    ·simp -implicitDefEqProofs only [go_sem,e1,e2] at c1 c2
     simp -implicitDefEqProofs only [go_sem,ilt a,zy a,ro,c1,c2,zmw,yi,e1,e2]
    ·simp -implicitDefEqProofs only [go_sem,e1,e2] at c1 c2
     simp -implicitDefEqProofs only [go_sem,ilt a,zy a,ro,c1,c2,zmw,yi,e1,e2,za a hb.ops];exact ih (k + 1) _ _ _ _ _ _ _ _ _ _ _ (by omega) (by omega)
set_option maxRecDepth 10000 in
@[go_sem] theorem ztu : call T 155 [zvp b] [] = some (vB (zrH b),[]):=by
  rw [ze (fn:=zdq) rfl];have a:=fun a0 a2 a3 a4 a8 a9 h g f c d => zwX b hb b.phis.length 0 a0 a2 a3 a4 a8 a9 h g f c d (by omega) (by omega);have e:=fun a0 a2 a3 a4 a5 a6 a7 a8 a9 c d => zwH b hb b.ops.length 0 a0 a2 a3 a4 a5 a6 a7 a8 a9 c d (by omega) (by omega);have c1:=zm4 b.kind b.arg;have c2:=zrg b.to hb.to;simp only [yl,ye] at a e
  cases e1 : b.phis.find? (fun x => !zie x) with
  | some x =>
    have a1:=zeY e1;simp -implicitDefEqProofs only [go_sem,e1] at a;simp -implicitDefEqProofs only [go_sem,zdq,a,zrH,a1]
  | none =>
  have a1:=zeW e1
  cases e2 : b.ops.find? (fun x => !zmw x) with
  | some x =>
    have a2:=zeY e2;simp -implicitDefEqProofs only [go_sem,e1,e2] at a e;simp -implicitDefEqProofs only [go_sem,zdq,a,e,zrH,a1,a2]
  | none =>
  have a2:=zeW e2;simp -implicitDefEqProofs only [go_sem,e1,e2] at a e;cases e3 : (num b.kind && num b.arg)
  ·simp -implicitDefEqProofs only [go_sem,e3] at c1 c2
   simp -implicitDefEqProofs only [go_sem,zdq,a,e,c1,c2,zrH,zqi,a1,a2,e3]
  ·simp -implicitDefEqProofs only [go_sem,e3] at c1 c2
   simp -implicitDefEqProofs only [go_sem,zdq,a,e,c1,c2,zrH,zqi,a1,a2,e3]
end
@[go_sem] theorem zra (b : PBlock) (hb : okB b) (σ : zd) (a : Obs.lt σ.length σ = true) : call T 154 [zvp b] σ = some (vB (!zrH b),σ):=by
  rw [ze (fn:=zkG) rfl];have h:=ztu b hb;simp -implicitDefEqProofs only [go_sem] at h;simp -implicitDefEqProofs only [go_sem,zkG,h,a]
structure okF (f : PFunc) : Prop where
 params : f.params.length ≤ 4294967296
 blocks : f.blocks.length ≤ 4294967296
 block : ∀ b ∈ f.blocks,okB b
 small : (f.blocks.map fun b => b.phis.length + b.ops.length).sum ≤ 4294967296
def zh5 (f : PFunc) : Nat:=f.blocks.length + (f.blocks.map fun b => b.phis.length + b.ops.length).sum
theorem zqH (l : List Nat) : ∀ k,(l.take k).sum ≤ l.sum:=by
 induction l with
 | nil => simp
 | cons x r ih =>
   intro k
   cases k with
   | zero => simp
   | succ k =>
     simp only [yu,yA];have:=ih k;omega
theorem znu (l : List Nat) (k : Nat) (a : k < l.length) : (l.take (k + 1)).sum = (l.take k).sum + l[k]:=by
 induction l generalizing k with
 | nil => simp at a
 | cons x r ih =>
   cases k with
   | zero => simp
   | succ k =>
     simp only [yu,yA,List.getElem_cons_succ];rw [ih k (by simpa using a)];omega
theorem zB2 (f : PFunc) (g : okF f) : ∀ (d k : Nat) (a0 a1 a2 a4 a8 : V),f.blocks.length - k = d → k ≤ f.blocks.length →
  exec T zib ⟨[a0,a1,a2,vI ((f.blocks.length + ((f.blocks.map fun b => b.phis.length + b.ops.length).take k).sum : Nat) : Int),a4,vL (f.blocks.map rb),vI f.blocks.length,vI k,a8],[.cells 0 3 [zcz f]],0,0⟩ =
   some (.exit 0,⟨[vU,vU,vU,vI (zh5 f : Int),vU,vU,vU,vU,vU],[.cells 0 3 [zcz f]],0,0⟩):=by
 intro d
 induction d with
 | zero =>
   intro k a0 a1 a2 a4 a8 j l;have a : k = f.blocks.length:=(by omega);subst a;rw [xl zib rfl,zkz];have e : (f.blocks.map fun b => b.phis.length + b.ops.length).take f.blocks.length = f.blocks.map fun b => b.phis.length + b.ops.length:=ym (by simp);simp -implicitDefEqProofs only [go_sem,yh,e,zh5]
 | succ d ih =>
   intro k a0 a1 a2 a4 a8 j l;have a : k < f.blocks.length:=(by omega);have c : k < (f.blocks.map fun b => b.phis.length + b.ops.length).length:=(by simpa using a);have e:=znu (f.blocks.map fun b => b.phis.length + b.ops.length) k c;have e2:=zqH (f.blocks.map fun b => b.phis.length + b.ops.length) (k + 1);have e3:=g.small;have e4:=g.blocks;simp only [List.getElem_map] at e
   have i : Go.IntKind.i64.wrap ((f.blocks[k].phis.length : Int) + (f.blocks[k].ops.length : Int)) = ((f.blocks[k].phis.length + f.blocks[k].ops.length : Nat) : Int):=by
    rw [wrap_i64] <;> omega
   have h : Go.IntKind.i64.wrap (((f.blocks.length + ((f.blocks.map fun b => b.phis.length + b.ops.length).take k).sum : Nat) : Int) + ((f.blocks[k].phis.length + f.blocks[k].ops.length : Nat) : Int)) = ((f.blocks.length + ((f.blocks.map fun b => b.phis.length + b.ops.length).take (k + 1)).sum : Nat) : Int):=by
    rw [wrap_i64] <;> omega
   rw [xl zib rfl,zkz];simp -implicitDefEqProofs only [go_sem,ilt a,zy a,rb,i,h,za a g.blocks];exact ih (k + 1) _ _ _ _ _ (by omega) (by omega)
@[go_sem] theorem zrB (f : PFunc) (a : okF f) : call T 151 [zfg f] [] = some (vI (zh5 f : Int),[]):=by
  rw [ze (fn:=zmm) rfl];have h:=fun a0 a1 a2 a4 a8 => zB2 f a f.blocks.length 0 a0 a1 a2 a4 a8 (by omega) (by omega);simp only [List.take_zero,List.sum_nil,Nat.add_zero,ye] at h;simp -implicitDefEqProofs only [go_sem] at h;simp -implicitDefEqProofs only [go_sem,zmm,h]
def zmU (f : PFunc) : Bool :=
 !(decide (f.blocks.length < 1) || (decide (64 < f.blocks.length) || (decide (16 < f.params.length) || (decide (512 < zh5 f) || (!num f.ret || !f.params.all num))))) && f.blocks.all zrH
@[go_sem] theorem zsU (f : PFunc) (h : okF f) : call T 105 [zfg f] [] = some (vB (zmU f),[]):=by
  rw [ze (fn:=ze2) rfl];have j:=zrB f h;have g:=zsE f.ret;have i:=zgO f.params h.params
  have k:=zjs f.blocks (fun b => !zrH b) 154 [] [] [.cells 0 3 [zcz f]] h.blocks (fun x m => by
   have:=zra x (h.block x m) [.cells 0 3 [zcz f]] rfl;simp -implicitDefEqProofs only [go_sem] at this
   simp -implicitDefEqProofs only [go_sem,this])
  have l : f.params.length ≤ 4294967296:=h.params;simp -implicitDefEqProofs only [go_sem] at j g k i
  by_cases c1 : f.blocks.length < 1
  ·have a : (f.blocks.length : Int) < 1:=by omega
   simp -implicitDefEqProofs only [go_sem,ze2,zmU,c1,a]
  have a : ¬ (f.blocks.length : Int) < 1:=by omega
  by_cases c2 : 64 < f.blocks.length
  ·have c : (64 : Int) < (f.blocks.length : Int):=by omega
   simp -implicitDefEqProofs only [go_sem,ze2,zmU,c1,a,c2,c]
  have c : ¬ (64 : Int) < (f.blocks.length : Int):=by omega
  by_cases c3 : 16 < f.params.length
  ·have d : (16 : Int) < (f.params.length : Int):=by omega
   simp -implicitDefEqProofs only [go_sem,ze2,zmU,c1,a,c2,c,c3,d]
  have d : ¬ (16 : Int) < (f.params.length : Int):=by omega
  by_cases c4 : 512 < zh5 f
  ·have e : (512 : Int) < (zh5 f : Int):=by omega
   simp -implicitDefEqProofs only [go_sem,ze2,zmU,c1,a,c2,c,c3,d,j,c4,e]
  have e : ¬ (512 : Int) < (zh5 f : Int):=by omega
  cases c5 : num f.ret
  ·simp -implicitDefEqProofs only [go_sem,c5] at g
   simp -implicitDefEqProofs only [go_sem,ze2,zmU,c1,a,c2,c,c3,d,j,c4,e,g,c5]
  cases c6 : f.params.all num
  ·simp -implicitDefEqProofs only [go_sem,c5,c6] at g i
   simp -implicitDefEqProofs only [go_sem,ze2,zmU,c1,a,c2,c,c3,d,j,c4,e,g,i,c5,c6]
  simp -implicitDefEqProofs only [go_sem,c5,c6] at g i;simp -implicitDefEqProofs only [go_sem,ze2,zmU,c1,a,c2,c,c3,d,j,c4,e,g,i,c5,c6,k,zqC]
theorem zgy (b : Int) : call T 125 [vI b] [] = some (vB (ziA b),[]):=by
 rw [ze (fn:=zaD) rfl]
 by_cases c1 : b = 1
 ·simp -implicitDefEqProofs only [go_sem,zaD,ziA,c1]
 by_cases c2 : b = 8
 ·simp -implicitDefEqProofs only [go_sem,zaD,ziA,c1,c2]
 by_cases c3 : b = 16
 ·simp -implicitDefEqProofs only [go_sem,zaD,ziA,c1,c2,c3]
 by_cases c4 : b = 32
 ·simp -implicitDefEqProofs only [go_sem,zaD,ziA,c1,c2,c3,c4]
 by_cases c5 : b = 64 <;> simp -implicitDefEqProofs only [go_sem,zaD,ziA,c1,c2,c3,c4,c5]
theorem zwu (v b : Int) (f : 0 ≤ v) (g : v < 18446744073709551616) : call T 224 [ziM v,vI b] [] = some (ziM (zAn v b),[]):=by
 rw [ze (fn:=zal) rfl];have hm:=zgy b;have d : Go.IntKind.u64.bits = 64:=rfl;cases hw : ziA b
 ·simp -implicitDefEqProofs only [go_sem,hw] at hm
  simp -implicitDefEqProofs only [go_sem,zal,hm,zAn,hw]
 have t : ∀ n : Int,v.tmod n = v % n:=fun n => Int.tmod_eq_emod_of_nonneg f;simp -implicitDefEqProofs only [go_sem,hw] at hm;rcases zds hw with rfl | rfl | rfl | rfl | rfl
 ·have c : IntKind.u64.wrap 1 = 1:=rfl
  have a : IntKind.u64.wrap (1 * 2 ^ min 1 64) = 2:=rfl;simp -implicitDefEqProofs only [go_sem,zal,hm,d,c,a,t,zAn,hw];rfl
 ·have c : IntKind.u64.wrap 8 = 8:=rfl
  have a : IntKind.u64.wrap (1 * 2 ^ min 8 64) = 256:=rfl;simp -implicitDefEqProofs only [go_sem,zal,hm,d,c,a,t,zAn,hw];rfl
 ·have c : IntKind.u64.wrap 16 = 16:=rfl
  have a : IntKind.u64.wrap (1 * 2 ^ min 16 64) = 65536:=rfl;simp -implicitDefEqProofs only [go_sem,zal,hm,d,c,a,t,zAn,hw];rfl
 ·have c : IntKind.u64.wrap 32 = 32:=rfl
  have a : IntKind.u64.wrap (1 * 2 ^ min 32 64) = 4294967296:=rfl;simp -implicitDefEqProofs only [go_sem,zal,hm,d,c,a,t,zAn,hw];rfl
 ·have e : v % 2 ^ (64 : Nat) = v:=by
   show v % 18446744073709551616 = v
   omega
  simp -implicitDefEqProofs only [go_sem,zal,hm,zAn,hw,Int.reduceToNat,e]
theorem zjN (v : Int) : call T 74 [vI v] [] = some (vB (value v),[]):=by
 rw [ze (fn:=zbb) rfl];have e1 : (v > 0) = (1 ≤ v):=by apply propext; omega
 have e2 : (v < 1024) = (v ≤ 1023):=by apply propext; omega
 by_cases c1 : 1 ≤ v
 ·have d1 : 0 < v:=by omega
  by_cases c2 : v ≤ 1023
  ·have d2 : v < 1024:=by omega
   simp -implicitDefEqProofs only [go_sem,zbb,value,c1,c2,eq_true d1,eq_true d2]
  ·have d2 : ¬ v < 1024:=by omega
   simp -implicitDefEqProofs only [go_sem,zbb,value,c1,c2,eq_true d1,d2]
 ·have d1 : ¬ 0 < v:=by omega
  simp -implicitDefEqProofs only [go_sem,zbb,value,c1,d1]
theorem zc1 (n : Int) : call T 122 [vI n] [] = some (vB (num n),[]):=by
 rw [ze (fn:=zdK) rfl]
 by_cases c1 : 0 ≤ n
 ·simp -implicitDefEqProofs only [go_sem,zdK,num,eq_true c1]
 ·simp -implicitDefEqProofs only [go_sem,zdK,num,c1]
theorem zzt (a b : List Int) (l : a.length = b.length) (j : a.length ≤ 4294967296) : ∀ (d k : Nat) (a2 a4 a5 a6 : V),a.length - k = d → k ≤ a.length →
  exec T zcA ⟨[vIs a,vIs b,a2,vI k,a4,a5,a6],[],0,0⟩ = some (if a.drop k = b.drop k then (.exit 0,⟨[vU,vU,vU,vU,vU,vU,vU],[],0,0⟩) else (.ret,⟨[vU,vU,vB false,vU,vU,vU,vU],[],0,0⟩)):=by
 intro d
 induction d with
 | zero =>
   intro k a2 a4 a5 a6 i m;have f : k = a.length:=(by omega);subst f;have e : a.drop a.length = b.drop a.length:=(by rw [yd,l,yd]);rw [xl zcA rfl,zeu,if_pos e];simp -implicitDefEqProofs only [go_sem,yh,ya]
 | succ d ih =>
   intro k a2 a4 a5 a6 i m;have f : k < a.length:=(by omega);have g : k < b.length:=(by omega);have hd : a.drop k = a[k] :: a.drop (k + 1):=yb f;have h : b.drop k = b[k] :: b.drop (k + 1):=yb g;have:=ih (k + 1) vU vU vU vU (by omega) (by omega);rw [xl zcA rfl,zeu,hd,h];simp -implicitDefEqProofs only [go_sem] at this
   by_cases c : a[k] = b[k]
   ·simp -implicitDefEqProofs only [go_sem,ilt f,zy f,zy g,ri,ya,za f j,c,this,List.cons.injEq]
   ·simp -implicitDefEqProofs only [go_sem,ilt f,zy f,zy g,ri,ya,c,List.cons.injEq,false_and]
theorem zkr (a b : List Int) (f : a.length ≤ 4294967296) : call T 22 [vIs a,vIs b] [] = some (vB (decide (a = b)),[]):=by
 rw [ze (fn:=zbw) rfl]
 by_cases e : a.length = b.length
 ·have h:=fun a2 a4 a5 a6 => zzt a b e f a.length 0 a2 a4 a5 a6 (by omega) (by omega)
  simp only [ye,yl] at h;have d : (a.length : Int) = (b.length : Int):=by omega
  by_cases c : a = b
  ·simp -implicitDefEqProofs only [go_sem,c] at h
   simp -implicitDefEqProofs only [go_sem,zbw,h,c,ya]
  ·simp -implicitDefEqProofs only [go_sem,c] at h
   simp -implicitDefEqProofs only [go_sem,zbw,h,c,ya,d]
 ·have d : ¬ (a.length : Int) = (b.length : Int):=by omega
  have c : ¬ a = b:=fun h => e (by rw [h]);simp -implicitDefEqProofs only [go_sem,zbw,c,ya,d]
theorem zCY (l : List Int) (x : Int) (e : l.length ≤ 4294967296) : ∀ (d k : Nat) (a2 a4 a5 : V),l.length - k = d → k ≤ l.length →
  exec T zc9 ⟨[vIs l,vI x,a2,vI k,a4,a5],[],0,0⟩ = some (if x ∈ l.drop k then (.ret,⟨[vU,vU,vB true,vU,vU,vU],[],0,0⟩) else (.exit 0,⟨[vU,vU,vU,vU,vU,vU],[],0,0⟩)):=by
 intro d
 induction d with
 | zero =>
   intro k a2 a4 a5 f g;have a : k = l.length:=(by omega);subst a;rw [xl zc9 rfl,ze9];simp -implicitDefEqProofs only [go_sem,yh,ya,yd,List.not_mem_nil]
 | succ d ih =>
   intro k a2 a4 a5 f g;have a : k < l.length:=(by omega);have hd : l.drop k = l[k] :: l.drop (k + 1):=yb a;have:=ih (k + 1) vU vU vU (by omega) (by omega);rw [xl zc9 rfl,ze9,hd];simp -implicitDefEqProofs only [go_sem] at this
   by_cases c : l[k] = x
   ·simp -implicitDefEqProofs only [go_sem,ilt a,zy a,ri,ya,c,yB]
   ·have b : ¬ x = l[k]:=fun h => c h.symm
    simp -implicitDefEqProofs only [go_sem,ilt a,zy a,ri,ya,za a e,c,b,this,yB]
theorem zmk (l : List Int) (x : Int) (a : l.length ≤ 4294967296) : call T 66 [vIs l,vI x] [] = some (vB (decide (x ∈ l)),[]):=by
 rw [ze (fn:=zdC) rfl];have h:=fun a2 a4 a5 => zCY l x a l.length 0 a2 a4 a5 (by omega) (by omega);simp only [ye,yl] at h
 by_cases c : x ∈ l
 ·simp -implicitDefEqProofs only [go_sem,c] at h
  simp -implicitDefEqProofs only [go_sem,zdC,h,c]
 ·simp -implicitDefEqProofs only [go_sem,c] at h
  simp -implicitDefEqProofs only [go_sem,zdC,h,c]
theorem zyE (l : List Int) (e : l.length ≤ 4294967296) : ∀ (d k : Nat) (a1 a3 a4 : V),l.length - k = d → k ≤ l.length →
  exec T zcL ⟨[vIs l,a1,vI k,a3,a4],[],0,0⟩ = some (if (l.drop k).all num = true then (.exit 0,⟨[vIs l,vU,vU,vU,vU],[],0,0⟩) else (.ret,⟨[vU,vB false,vU,vU,vU],[],0,0⟩)):=by
 intro d
 induction d with
 | zero =>
   intro k a1 a3 a4 f g;have a : k = l.length:=(by omega);subst a;rw [xl zcL rfl,zeM];simp -implicitDefEqProofs only [go_sem,yh,ya,yd,yk]
 | succ d ih =>
   intro k a1 a3 a4 f g;have a : k < l.length:=(by omega);have hd : l.drop k = l[k] :: l.drop (k + 1):=yb a;have:=ih (k + 1) vU vU vU (by omega) (by omega);have b:=zc1 l[k];rw [xl zcL rfl,zeM,hd,yf];simp -implicitDefEqProofs only [go_sem] at this;cases c : num l[k]
   ·simp -implicitDefEqProofs only [go_sem,c] at b
    simp -implicitDefEqProofs only [go_sem,ilt a,zy a,ri,ya,c,b]
   ·simp -implicitDefEqProofs only [go_sem,c] at b
    simp -implicitDefEqProofs only [go_sem,ilt a,zy a,ri,ya,za a e,c,b,this]
theorem zgR (l : List Int) (a : l.length ≤ 4294967296) : call T 121 [vIs l] [] = some (vB (zgv l),[]):=by
 rw [ze (fn:=zda) rfl];have h:=fun a1 a3 a4 => zyE l a l.length 0 a1 a3 a4 (by omega) (by omega);simp only [ye,yl] at h;have e : ((l.length : Int) ≤ 64) = (l.length ≤ 64):=by apply propext; omega
 cases c : l.all num
 ·simp -implicitDefEqProofs only [go_sem,c] at h
  simp -implicitDefEqProofs only [go_sem,zda,h,zgv,c,yv]
 ·simp -implicitDefEqProofs only [go_sem,c] at h
  simp -implicitDefEqProofs only [go_sem,zda,h,zgv,c,ya,e,yg]
theorem ztj (b l : Int) : call T 170 [vI b,vI l] [] = some (vB (zdT b l),[]):=by
 rw [ze (fn:=zan) rfl];have a:=zgy b;cases hm : ziA b
 ·simp -implicitDefEqProofs only [go_sem,hm] at a
  simp -implicitDefEqProofs only [go_sem,zan,zdT,hm,a]
 simp -implicitDefEqProofs only [go_sem,hm] at a
 by_cases c1 : l = 1
 ·simp -implicitDefEqProofs only [go_sem,zan,zdT,hm,a,c1]
 cases c : zmK l
 ·have d:=c
  simp only [zmK,yo,decide_eq_false_iff_not] at d;obtain ⟨⟨⟨c2,c3⟩,c4⟩,c5⟩:=d;simp -implicitDefEqProofs only [go_sem,zan,zdT,hm,a,c1,c2,c3,c4,c5,c]
 ·have h:=zds hm
  have e : (b > 1) = (8 ≤ b):=by apply propext; omega
  by_cases c8 : 8 ≤ b
  ·have c9 : 1 < b:=by omega
   rcases zgb c with rfl | rfl | rfl | rfl
   all_goals
    have g : Go.IntKind.i64.wrap (b * 2) = b * 2:=wrap_i64 (by omega) (by omega);have i : Go.IntKind.i64.wrap (b * 4) = b * 4:=wrap_i64 (by omega) (by omega);have j : Go.IntKind.i64.wrap (b * 8) = b * 8:=wrap_i64 (by omega) (by omega);have f : Go.IntKind.i64.wrap (b * 16) = b * 16:=wrap_i64 (by omega) (by omega);simp -implicitDefEqProofs only [go_sem,zan,zdT,hm,a,c1,c,c8,eq_true c9,g,i,j,f]
  ·have c9 : ¬ 1 < b:=by omega
   rcases zgb c with rfl | rfl | rfl | rfl
   all_goals simp -implicitDefEqProofs only [go_sem,zan,zdT,hm,a,c1,c,c8,c9]
set_option maxHeartbeats 8000000
def zhh (k : Int) : Bool:=decide (0 ≤ k) && decide (k ≤ 22)
theorem zin {k : Int} (h : zhh k = true) : k = 0 ∨ k = 1 ∨ k = 2 ∨ k = 3 ∨ k = 4 ∨ k = 5 ∨ k = 6 ∨ k = 7 ∨ k = 8 ∨ k = 9 ∨ k = 10 ∨ k = 11 ∨ k = 12 ∨ k = 13 ∨ k = 14 ∨ k = 15 ∨ k = 16 ∨ k = 17 ∨ k = 18 ∨ k = 19 ∨ k = 20 ∨ k = 21 ∨ k = 22:=by
 simp only [zhh,yc,decide_eq_true_eq] at h;omega
def zFf (o : POp) : Int:=if zhh o.kind = true then ((zY o).1.length : Int) else -1
section
variable (o : POp) (hs : zdT o.bits o.lanes = true) (ho : zEI o)
include hs
theorem zt6 : call T 171 [vOp o] [] = some (vI (zFf o),[]):=by
 rw [ze (fn:=zbs) rfl];obtain ⟨kind,bits,lanes,dst,args,b⟩:=o;obtain ⟨hm,h⟩:=zfV hs;dsimp only at *;cases c : zhh kind
 ·simp only [zhh,ys,decide_eq_false_iff_not] at c
  have a : zFf ⟨kind,bits,lanes,dst,args,b⟩ = -1:=by
   unfold zFf;rw [if_neg];simp only [zhh,yc,decide_eq_true_eq];omega
  have n0 : ¬ kind = 0:=by omega
  have f : ¬ kind = 1:=by omega
  have n2 : ¬ kind = 2:=by omega
  have e : ¬ kind = 3:=by omega
  have g : ¬ kind = 4:=by omega
  have n5 : ¬ kind = 5:=by omega
  have n6 : ¬ kind = 6:=by omega
  have n7 : ¬ kind = 7:=by omega
  have n8 : ¬ kind = 8:=by omega
  have n9 : ¬ kind = 9:=by omega
  have n10 : ¬ kind = 10:=by omega
  have n11 : ¬ kind = 11:=by omega
  have n12 : ¬ kind = 12:=by omega
  have n13 : ¬ kind = 13:=by omega
  have n14 : ¬ kind = 14:=by omega
  have n15 : ¬ kind = 15:=by omega
  have n16 : ¬ kind = 16:=by omega
  have n17 : ¬ kind = 17:=by omega
  have n18 : ¬ kind = 18:=by omega
  have n19 : ¬ kind = 19:=by omega
  have n20 : ¬ kind = 20:=by omega
  have n21 : ¬ kind = 21:=by omega
  have n22 : ¬ kind = 22:=by omega
  rw [a];simp -implicitDefEqProofs only [go_sem,zbs,n0,f,n2,e,g,n5,n6,n7,n8,n9,n10,n11,n12,n13,n14,n15,n16,n17,n18,n19,n20,n21,n22]
 ·have d : ((lanes.toNat : Nat) : Int) = lanes:=by omega
  rcases zin c with rfl | rfl | rfl | rfl | rfl | rfl | rfl | rfl | rfl | rfl | rfl | rfl | rfl | rfl | rfl | rfl | rfl | rfl | rfl | rfl | rfl | rfl | rfl
  all_goals first
   | (simp -implicitDefEqProofs only [go_sem,zbs,zFf,zhh,zY,arith,asks,yt,d]; done)
   | (simp -implicitDefEqProofs only [go_sem,zbs,zFf,zhh,zY,arith,asks,yt,d]; rfl)
include ho
theorem zuq (k : zhh o.kind = true) : call T 172 [vOp o] [] = some (vB (zY o).2,[]):=by
 rw [ze (fn:=zaS) rfl];obtain ⟨kind,bits,lanes,dst,args,a⟩:=o;obtain ⟨hm,n⟩:=zfV hs;obtain ⟨l,m⟩:=ho;dsimp only at *;have j:=zds hm;have h:=zwu a bits l m;have c : Go.IntKind.u64.wrap bits = bits:=wrap_u64 (by omega) (by omega);have d : Go.IntKind.u64.wrap lanes = lanes:=wrap_u64 (by omega) (by omega);have e8 : (bits < 8) = (¬ 8 ≤ bits):=by apply propext; omega
 have el : (lanes < 2) = (lanes = 1):=by apply propext; omega
 simp -implicitDefEqProofs only [go_sem] at h
 by_cases b : kind = 14 ∨ kind = 15
 ·by_cases d1 : lanes = 1
  ·by_cases d2 : a ≤ 64
   ·have g : Go.IntKind.i64.wrap a = a:=wrap_i64 (by omega) (by omega)
    have i:=zgy a;simp -implicitDefEqProofs only [go_sem] at i
    by_cases d3 : a < bits <;> by_cases d4 : bits < a <;> rcases b with rfl | rfl <;> simp -implicitDefEqProofs only [go_sem,zaS,zY,arith,asks,d1,d2,d3,d4,c,g,i]
   ·have d3 : ¬ a < bits:=by omega
    have d4 : bits < a:=(by omega);rcases b with rfl | rfl <;> simp -implicitDefEqProofs only [go_sem,zaS,zY,arith,asks,d1,d2,d3,eq_true d4,c]
  ·rcases b with rfl | rfl <;> simp -implicitDefEqProofs only [go_sem,zaS,zY,arith,asks,d1]
 ·rcases zin k with rfl | rfl | rfl | rfl | rfl | rfl | rfl | rfl | rfl | rfl | rfl | rfl | rfl | rfl | rfl | rfl | rfl | rfl | rfl | rfl | rfl | rfl | rfl
  all_goals first
   | exact absurd (.inl rfl) b
   | exact absurd (.inr rfl) b
   | (simp -implicitDefEqProofs only [go_sem,zaS,zY,arith,asks,h,d,c] <;> by_cases d1 : lanes = 1 <;> have e : (lanes < 2) = (lanes = 1):=el <;> simp only [d1,eq_self] at e <;> by_cases d8 : 8 ≤ bits <;> have f : (bits < 8) = ¬ 8 ≤ bits:=e8 <;> simp only [d8,not_true_eq_false,not_false_eq_true] at f <;> by_cases di : a = 0 <;> simp -implicitDefEqProofs only [go_sem,d1,e,d8,f,di,h,d,c])
theorem zCK (f : o.args.length ≤ 4294967296) : ∀ (d k : Nat) (a0 a2 a4 a5 a6 a7 : V),o.args.length - k = d → k ≤ o.args.length →
  exec T zdd ⟨[a0,.one (.ptr 0 0 0 0),a2,vI k,a4,a5,a6,a7],[.cells 0 6 [cOp o]],0,0⟩ = some (if (o.args.drop k).all value = true then (.exit 0,⟨[vU,.one (.ptr 0 0 0 0),vU,vU,vU,vU,vU,vU],[.cells 0 6 [cOp o]],0,0⟩) else (.ret,⟨[vU,vU,vB false,vU,vU,vU,vU,vU],[.cells 0 6 [cOp o]],0,0⟩)):=by
 intro d
 induction d with
 | zero =>
   intro k a0 a2 a4 a5 a6 a7 e g;have a : k = o.args.length:=(by omega);subst a;rw [xl zdd rfl,ze6];simp -implicitDefEqProofs only [go_sem,yh,ya,yd,yk]
 | succ d ih =>
   intro k a0 a2 a4 a5 a6 a7 e g;have a : k < o.args.length:=(by omega);have hd : o.args.drop k = o.args[k] :: o.args.drop (k + 1):=yb a;have:=ih (k + 1) vU vU vU vU vU vU (by omega) (by omega);have b:=zjN o.args[k];rw [xl zdd rfl,ze6,hd,yf];simp -implicitDefEqProofs only [go_sem] at this;cases c : value o.args[k]
   ·simp -implicitDefEqProofs only [go_sem,c] at b
    simp -implicitDefEqProofs only [go_sem,ilt a,zy a,ri,ya,c,b]
   ·simp -implicitDefEqProofs only [go_sem,c] at b
    simp -implicitDefEqProofs only [go_sem,ilt a,zy a,ri,ya,za a f,c,b,this]
end
theorem zCt (l : List Int) : (!l.any fun v => !value v) = l.all value:=by
 induction l with
 | nil => rfl
 | cons x l ih => rw [yz,yf,yD,yC,ih]
theorem zqs {o : POp} (h : zhh o.kind = false) : (zY o).2 = false:=by
 simp only [zhh,ys,decide_eq_false_iff_not] at h
 have a1 : arith o.kind = false:=by
  simp only [arith,yo,decide_eq_false_iff_not];omega
 have a2 : asks o.kind = false:=by
  simp only [asks,yo,decide_eq_false_iff_not];omega
 unfold zY;simp only [a1,a2];rw [if_neg (by omega),if_neg (by simp),if_neg (by simp),if_neg (by omega),if_neg (by omega),if_neg (by omega),if_neg (by omega),if_neg (by omega),if_neg (by omega),if_neg (by omega),if_neg (by omega),if_neg (by omega)]
theorem zmT (o : POp) (ho : zwG o) : call T 126 [vOp o] [] = some (vB (zgh o),[]):=by
 rw [ze (fn:=zN) rfl];have b:=ztj o.bits o.lanes;cases hs : zdT o.bits o.lanes
 ·simp -implicitDefEqProofs only [go_sem,hs] at b
  simp -implicitDefEqProofs only [go_sem,zN,zgh,hs,b]
 have c:=zt6 o hs;have g:=fun a0 a2 a4 a5 a6 a7 => zCK o hs ho.1 ho.2 o.args.length 0 a0 a2 a4 a5 a6 a7 (by omega) (by omega);have p:=zjN o.dst;have a:=zCt o.args;simp only [ye,yl] at g;simp -implicitDefEqProofs only [go_sem,hs] at b c p;cases m : zhh o.kind
 ·have q:=zqs m
  have e : zFf o = -1:=by unfold zFf; rw [m]; rfl
  have n : ¬ (-1 : Int) = (o.args.length : Int):=by omega
  simp -implicitDefEqProofs only [e] at c;simp -implicitDefEqProofs only [go_sem,zN,zgh,hs,b,c,q,n,ya]
 have d:=zuq o hs ho.1 m;have e : zFf o = ((zY o).1.length : Int):=by unfold zFf; rw [m]; rfl
 simp -implicitDefEqProofs only [go_sem,e] at c d
 by_cases j : (zY o).1.length = o.args.length
 ·have k : ((zY o).1.length : Int) = (o.args.length : Int):=by omega
  cases h : (zY o).2
  ·simp -implicitDefEqProofs only [h] at d
   simp -implicitDefEqProofs only [go_sem,zN,zgh,hs,b,c,d,h,j,ya]
  ·simp -implicitDefEqProofs only [h] at d
   cases i : o.args.all value
   ·simp -implicitDefEqProofs only [go_sem,i] at g
    simp -implicitDefEqProofs only [go_sem,zN,zgh,hs,b,c,d,h,j,g,a,i,ya,yv]
   ·simp -implicitDefEqProofs only [go_sem,i] at g
    by_cases f : o.kind = 17
    ·simp -implicitDefEqProofs only [go_sem,zN,zgh,hs,b,c,d,h,j,g,a,i,ya,zfx,eq_true f,yg]
    ·by_cases l : o.kind = 19
     ·simp -implicitDefEqProofs only [go_sem,zN,zgh,hs,b,c,d,h,j,g,a,i,ya,zfx,f,eq_true l,yg]
     ·simp -implicitDefEqProofs only [go_sem,zN,zgh,hs,b,c,d,p,h,j,g,a,i,ya,zfx,f,l,yg]
 ·have k : ¬ ((zY o).1.length : Int) = (o.args.length : Int):=by omega
  simp -implicitDefEqProofs only [go_sem,zN,zgh,hs,b,c,j,k,ya,yv]
end AC
namespace AC
open Go Go.A Go.A.Lex
mutual
theorem zyh {n m : Nat} (h : n ≤ m) : ∀ c : C,c.lt n = true → c.lt m = true
 | .f _,_ => rfl
 | .ap t _ _,e => by simp only [C.lt,decide_eq_true_eq] at e ⊢; omega
 | .ptr id _ _ _,e => by simp only [C.lt,decide_eq_true_eq] at e ⊢; omega
 | .fp _ _,_ => rfl
 | .own id _ _ _,e => by simp only [C.lt,decide_eq_true_eq] at e ⊢; omega
 | .map id,e => by simp only [C.lt,decide_eq_true_eq] at e ⊢; omega
 | .fn _ a b,e => by
   simp only [C.lt,yc] at e ⊢;exact ⟨zfu h a e.1,zfu h b e.2⟩
 | .un,_ => rfl
theorem zfu {n m : Nat} (h : n ≤ m) : ∀ cs : List C,C.lts n cs = true → C.lts m cs = true
 | [],_ => by simp only [C.lts]
 | c :: cs,e => by
   simp only [C.lts,yc] at e ⊢;exact ⟨zyh h c e.1,zfu h cs e.2⟩
end
mutual
theorem zxQ {n m : Nat} (h : n ≤ m) : ∀ v : V,v.lt n = true → v.lt m = true
 | .one c,e => by simp only [V.lt] at e ⊢; exact zyh h c e
 | .agg cs,e => by simp only [V.lt] at e ⊢; exact zfu h cs e
 | .tup vs,e => by simp only [V.lt] at e ⊢; exact zt5 h vs e
theorem zt5 {n m : Nat} (h : n ≤ m) : ∀ vs : List V,V.lts n vs = true → V.lts m vs = true
 | [],_ => by simp only [V.lts]
 | v :: vs,e => by
   simp only [V.lts,yc] at e ⊢;exact ⟨zxQ h v e.1,zt5 h vs e.2⟩
end
theorem zrN {n m : Nat} (h : n ≤ m) : ∀ es : List (List C),C.ltss n es = true → C.ltss m es = true
 | [],_ => by simp only [C.ltss]
 | c :: cs,e => by
   simp only [C.ltss,yc] at e ⊢;exact ⟨zfu h c e.1,zrN h cs e.2⟩
theorem zvs {n m : Nat} (h : n ≤ m) : ∀ es : List (Int × V),C.ltm n es = true → C.ltm m es = true
 | [],_ => by simp only [C.ltm]
 | c :: cs,e => by
   simp only [C.ltm,yc] at e ⊢;exact ⟨zxQ h c.2 e.1,zvs h cs e.2⟩
theorem zEb {n m : Nat} (h : n ≤ m) : ∀ o : Ob,o.lt n = true → o.lt m = true
 | .cells _ _ es,e => by simp only [Ob.lt] at e ⊢; exact zrN h es e
 | .tok _ _,_ => rfl
 | .mp es,e => by simp only [Ob.lt] at e ⊢; exact zvs h es e
theorem zq1 {n m : Nat} (h : n ≤ m) : ∀ os : List Ob,Obs.lt n os = true → Obs.lt m os = true
 | [],_ => by simp only [Obs.lt]
 | o :: os,e => by
   simp only [Obs.lt,yc] at e ⊢;exact ⟨zEb h o e.1,zq1 h os e.2⟩
theorem zc6 {σ : zd} {k : Nat} {o : Ob} (h : σ[k]? = some o) (r : zd) : (σ ++ r)[k]? = some o:=by
 have : k < σ.length:=(yj.1 h).1;rw [List.getElem?_append_left this,h]
theorem zgj {σ : zd} {k : Nat} {o : Ob} (h : σ[k]? = some o) (j : Nat) : (k < σ.length + j) = True:=by
 have : k < σ.length:=(yj.1 h).1;simp; omega
theorem zf6 {σ : zd} {k : Nat} {o : Ob} (h : σ[k]? = some o) : (k < σ.length) = True:=by
 have : k < σ.length:=(yj.1 h).1;simp; omega
theorem zIT (n : Nat) : (n < n + 1) = True:=by simp
theorem zJa (n : Nat) : (n < n + 2) = True:=by simp
theorem zJj (n : Nat) : (n < n + 3) = True:=by simp
theorem zIE (n : Nat) : (n < n + 4) = True:=by simp
theorem zIQ (n : Nat) : (n + 1 < n + 2) = True:=by simp
theorem zJh (n : Nat) : (n + 1 < n + 3) = True:=by simp
theorem zJe (n : Nat) : (n + 2 < n + 3) = True:=by simp
theorem zI1 (n : Nat) : (n + 3 < n + 4) = True:=by simp
theorem zIV (n : Nat) : (n + 2 < n + 4) = True:=by simp
theorem zIU (n : Nat) : (n + 1 < n + 4) = True:=by simp
theorem zJl (n k : Nat) : (n + k ≤ n + k) = True:=by simp
theorem zJo (n : Nat) : (n + 2 ≤ n + 1) = False:=by simp
theorem zJq (n : Nat) : (n + 3 ≤ n + 1) = False:=by simp
theorem zJn (n : Nat) : (n + 3 ≤ n + 2) = False:=by simp
theorem zII (n : Nat) : (n + 4 ≤ n + 1) = False:=by simp
theorem zJd (n : Nat) : (n + 4 ≤ n + 2) = False:=by simp
theorem zJs (n : Nat) : (n + 4 ≤ n + 3) = False:=by simp
attribute [go_sem] zIT zJa zJj zIE zIQ zJh zJe zI1 zIV zIU zJl zJo zJq zJn zII zJd zJs
def Ok (σ : zd) : Prop:=Obs.lt σ.length σ = true
theorem Ok.up {σ : zd} (h : Ok σ) (k : Nat) : Obs.lt (σ.length + k) σ = true:=zq1 (Nat.le_add_right _ _) _ h
theorem Ok.at {σ : zd} (h : Ok σ) : Obs.lt σ.length σ = true:=h
theorem Ok.app {σ r : zd} (h : Ok σ) (a : Obs.lt (σ.length + r.length) r = true) : Ok (σ ++ r):=by
 unfold Ok;rw [List.length_append,zn2,Ok.up h,a];rfl
theorem ztg {e : List C} {k : Nat} (c : C) (h : k < e.length) : e.take k ++ c :: e.drop (k + 1) = e.set k c:=by
 rw [List.set_eq_take_append_cons_drop,if_pos h]
theorem zrE {a b : Nat} (h : a < b) : (a + 1 ≤ b) = True:=by simp; omega
end AC

/- A part of the proof of AliasBoth. Conditions: none. -/
import Derived.Test.YtmkncmffaaninaaGreatAAU
import Derived.Test.YtmkncmffaaninaaGreatAAQ
set_option linter.all false
open List renaming drop_eq_getElem_cons → ya,drop_length → yc,find?_cons → ye,getElem_mem → yf,take_of_length_le → yg,all_cons → yh,set_append_right → yi,drop_zero → yj,replicate → yk,count_cons_self → yl,all_nil → ym,map_cons → yn,map_nil → yp,count_cons_of_ne → yq,take_succ_cons → yr,take_append → yt,find?_nil → yu,sum_cons → yv
open Int renaming natCast_zero → yb,lt_irrefl → yd
open Bool renaming and_true → yo,not_eq_true' → ys
namespace AC
open Go Go.A Go.A.Lex
def zeI (o : POp) : Bool:=zdl o.bits o.lanes && ((zV o).2 && ((if zdz o.kind then decide (o.dst = 0) else value o.dst) && (decide ((zV o).1.length = o.args.length) && !o.args.any fun v => !value v)))
@[go_sem] theorem zwt (v : Int) (σ : zb) : call T 254 [vI v] σ = some (vB (!value v),σ):=by
  rw [zd (fn:=zhL) rfl];simp -implicitDefEqProofs only [go_sem,zhL]
@[go_sem] theorem zgj (o : POp) (j : zzD o) (i : o.args.length ≤ 4294967296) : call T 236 [vOp o] [] = some (vB (zeI o),[]):=by
  rw [zd (fn:=zbL) rfl];cases a : zdl o.bits o.lanes
  ·simp -implicitDefEqProofs only [go_sem,zbL,zeI,a]
  have c:=zon o a j;have h:=fun σ => zaq o.args (fun v => !value v) 254 [] [] σ i (fun x _ => by simp -implicitDefEqProofs only [go_sem]);simp -implicitDefEqProofs only [go_sem,zbg] at c h;cases d : (zV o).2
  ·cases b : zdz o.kind
   ·simp -implicitDefEqProofs only [go_sem,zbL,zeI,a,c,d,b]
   ·simp -implicitDefEqProofs only [go_sem,zbL,zeI,a,c,d,b]
  ·cases b : zdz o.kind
   ·cases f : value o.dst
    ·simp -implicitDefEqProofs only [go_sem,zbL,zeI,a,c,d,b,f]
    ·by_cases g : (zV o).1.length = o.args.length
     ·simp -implicitDefEqProofs only [go_sem,zbL,zeI,a,c,d,b,f,g,h]
     ·have e : ¬ ((zV o).1.length : Int) = (o.args.length : Int):=by omega
      simp -implicitDefEqProofs only [go_sem,zbL,zeI,a,c,d,b,f,g,e]
   ·by_cases f : o.dst = 0
    ·by_cases g : (zV o).1.length = o.args.length
     ·simp -implicitDefEqProofs only [go_sem,zbL,zeI,a,c,d,b,eq_true f,g,h]
     ·have e : ¬ ((zV o).1.length : Int) = (o.args.length : Int):=by omega
      simp -implicitDefEqProofs only [go_sem,zbL,zeI,a,c,d,b,eq_true f,g,e]
    ·simp -implicitDefEqProofs only [go_sem,zbL,zeI,a,c,d,b,f]
theorem zuR {o : POp} (h : zeI o = true) : zdl o.bits o.lanes = true:=by
 simp only [zeI,Bool.and_eq_true] at h;exact h.1
def zW (o : POp) : List (Int × Int):=if zeI o = true then (zV o).1 else []
@[go_sem] theorem znm (o : POp) (a : zzD o) (c : o.args.length ≤ 4294967296) : call T 238 [vOp o] [] = some (vSs (zW o),[]):=by
  rw [zd (fn:=zfC) rfl];have hm:=zgj o a c;cases h : zeI o
  ·simp -implicitDefEqProofs only [go_sem,h] at hm
   simp -implicitDefEqProofs only [go_sem,zfC,hm,zW,h]
  ·have b:=zon o (zuR h) a
   simp -implicitDefEqProofs only [go_sem,h,zbg] at hm b;simp -implicitDefEqProofs only [go_sem,zfC,hm,b,zW,h]
def zN (o : POp) : Int × Int :=
 if zeI o = false ∨ zdz o.kind = true then (0,0) else if 10 ≤ o.kind ∧ o.kind ≤ 12 then (1,1) else if o.kind = 22 then (o.bits,1) else (o.bits,o.lanes)
@[go_sem] theorem znJ (o : POp) (f : zzD o) (e : o.args.length ≤ 4294967296) : call T 206 [vOp o] [] = some (.tup [vI (zN o).1,vI (zN o).2],[]):=by
  rw [zd (fn:=zbU) rfl];have hm:=zgj o f e;cases h : zeI o
  ·simp -implicitDefEqProofs only [go_sem,h] at hm
   simp -implicitDefEqProofs only [go_sem,zbU,hm,zN,h]
  ·simp -implicitDefEqProofs only [go_sem,h] at hm
   cases a : zdz o.kind
   ·by_cases b : 10 ≤ o.kind
    ·by_cases d : o.kind ≤ 12
     ·simp -implicitDefEqProofs only [go_sem,zbU,hm,zN,h,a,b,d]
     ·by_cases c : o.kind = 22
      ·simp -implicitDefEqProofs only [c] at a hm b d
       simp -implicitDefEqProofs only [go_sem,zbU,hm,zN,h,a,b,d,c]
      ·simp -implicitDefEqProofs only [go_sem,zbU,hm,zN,h,a,b,d,c,and_false]
    ·have c : ¬ o.kind = 22:=by omega
     simp -implicitDefEqProofs only [go_sem,zbU,hm,zN,h,a,b,c,false_and]
   ·simp -implicitDefEqProofs only [go_sem,zbU,hm,zN,h,a]
def impure (k : Int) : Bool:=decide (k = 4) || decide (k = 16) || decide (k = 17) || decide (k = 18) || decide (k = 19) || decide (k = 20)
def pure (k : Int) : Bool:=!impure k && (decide (0 ≤ k) && decide (k ≤ 22))
def num (n : Int) : Bool:=decide (0 ≤ n) && decide (n ≤ 2147483647)
@[go_sem] theorem zyo (n : Int) (σ : zb) : call T 192 [vI n] σ = some (vB (!num n),σ):=by
  rw [zd (fn:=ze3) rfl]
  by_cases c : n < 0
  ·have a : ¬ 0 ≤ n:=by omega
   simp -implicitDefEqProofs only [go_sem,ze3,num,c,a]
  ·have a : 0 ≤ n:=by omega
   by_cases d : 2147483647 < n
   ·have b : ¬ n ≤ 2147483647:=by omega
    simp -implicitDefEqProofs only [go_sem,ze3,num,c,a,d,b]
   ·have b : n ≤ 2147483647:=by omega
    simp -implicitDefEqProofs only [go_sem,ze3,num,c,a,d,b]
theorem zmW {α : Type} (p : α → Bool) (l : List α) : (!l.any fun x => !p x) = l.all p:=by
 induction l with
 | nil => rfl
 | cons x r ih => simp only [List.any_cons,yh,← ih,Bool.not_or,Bool.not_not]
@[go_sem] theorem zef (l : List Int) (b : l.length ≤ 4294967296) : call T 152 [vIs l] [] = some (vB (l.all num),[]):=by
  rw [zd (fn:=zmf) rfl];have a:=fun σ => zaq l (fun v => !num v) 192 [] [] σ b (fun x _ => by simp -implicitDefEqProofs only [go_sem]);simp -implicitDefEqProofs only [go_sem] at a;simp -implicitDefEqProofs only [go_sem,zmf,a,zmW]
theorem zo7 (a : Int) : call T 152 [vL [[ei a]]] [] = some (vB (num a),[]):=by
 have:=zef [a] (by simp);simpa only [vIs,yn,yp,ri,yh,ym,yo] using this
theorem zjK (a b : Int) : call T 152 [vL [[ei a],[ei b]]] [] = some (vB (num a && num b),[]):=by
 have:=zef [a,b] (by simp);simpa only [vIs,yn,yp,ri,yh,ym,yo] using this
theorem zqa (a b c d : Int) : call T 152 [vL [[ei a],[ei b],[ei c],[ei d]]] [] = some (vB (num a && (num b && (num c && num d))),[]):=by
 have:=zef [a,b,c,d] (by simp);simpa only [vIs,yn,yp,ri,yh,ym,yo] using this
def zfh (l : List Int) : Bool:=decide (l.length ≤ 64) && l.all num
theorem zmB (a : List (List Int)) (j : a.length ≤ 4294967296) (h : ∀ l ∈ a,l.length ≤ 4294967296) : ∀ (d k : Nat) (a0 a1 a2 a6 a7 : V),a.length - k = d → k ≤ a.length →
  exec T zey ⟨[a0,a1,a2,vLs a,vI a.length,vI k,a6,a7],[],0,0⟩ =
   some (if (a.drop k).all zfh = true then (.exit 0,⟨[vU,vU,vU,vU,vU,vU,vU,vU],[],0,0⟩) else (.ret,⟨[vU,vB false,vU,vU,vU,vU,vU,vU],[],0,0⟩)):=by
 intro d
 induction d with
 | zero =>
   intro k a0 a1 a2 a6 a7 m i;have b : k = a.length:=(by omega);subst b;rw [xl zey rfl,zgT];simp -implicitDefEqProofs only [go_sem,yd,yc,ym]
 | succ d ih =>
   intro k a0 a1 a2 a6 a7 m i;have b : k < a.length:=(by omega);have hd : a.drop k = a[k] :: a.drop (k + 1):=ya b;have f:=zef a[k] (h _ (yf b));rw [xl zey rfl,zgT,hd]
   by_cases c : a[k].length ≤ 64
   ·have e : ¬ (64 : Int) < (a[k].length : Int):=by omega
    cases g : a[k].all num
    ·simp -implicitDefEqProofs only [go_sem,g] at f
     simp -implicitDefEqProofs only [go_sem,ilt b,z6 b,rl,e,f,zfh,c,g]
    ·simp -implicitDefEqProofs only [go_sem,g] at f
     simp -implicitDefEqProofs only [go_sem,ilt b,z6 b,rl,e,f,zfh,c,g,zf b j];exact ih (k + 1) _ _ _ _ _ (by omega) (by omega)
   ·have e : (64 : Int) < (a[k].length : Int):=by omega
    simp -implicitDefEqProofs only [go_sem,ilt b,z6 b,rl,e,zfh,c]
theorem zha (a : List (List Int)) (c : a.length ≤ 4294967296) (b : ∀ l ∈ a,l.length ≤ 4294967296) : call T 194 [vLs a] [] = some (vB (a.all zfh),[]):=by
 rw [zd (fn:=zhq) rfl];have h:=fun a0 a1 a2 a6 a7 => zmB a c b a.length 0 a0 a1 a2 a6 a7 (by omega) (by omega);simp only [yj,yb] at h;cases d : a.all zfh <;> simp -implicitDefEqProofs only [go_sem,d] at h <;> simp -implicitDefEqProofs only [go_sem,zhq,h]
theorem zed {α : Type} {p : α → Bool} {l : List α} (h : l.find? (fun x => !p x) = none) : l.all p = true:=by
 simp only [List.find?_eq_none,ys,Bool.not_eq_false] at h;simpa [List.all_eq_true] using h
theorem zec {α : Type} {p : α → Bool} {l : List α} {x : α} (h : l.find? (fun x => !p x) = some x) : l.all p = false:=by
 have a:=List.find?_some h;have b:=List.mem_of_find?_eq_some h;simp only [ys] at a;exact List.all_eq_false.2 ⟨x,b,by simp [a]⟩
section ends
variable {α : Type} (σ r : List α) (o p q' : α)
theorem zzW : (σ ++ o :: r)[σ.length]? = some o:=by simp
theorem zzp : (σ ++ o :: p :: r)[σ.length + 1]? = some p:=by simp
theorem zyr : (σ ++ o :: p :: q' :: r)[σ.length + 2]? = some q':=by simp
theorem zzy (x : α) : (σ ++ o :: r).set σ.length x = σ ++ x :: r:=by simp [yi]
theorem zy5 (x : α) : (σ ++ o :: p :: r).set (σ.length + 1) x = σ ++ o :: x :: r:=by simp [yi]
theorem zy9 (x : α) : (σ ++ o :: p :: q' :: r).set (σ.length + 2) x = σ ++ o :: p :: x :: r:=by simp [yi]
theorem zxm : (σ ++ r).take σ.length = σ:=by simp
theorem zwL : (σ ++ o :: r).take (σ.length + 1) = σ ++ [o]:=by simp [yt,yg]
theorem zx6 : (σ ++ o :: p :: r).take (σ.length + 2) = σ ++ [o,p]:=by simp [yt,yg]
end ends
theorem zAi (n : Nat) : (n + 1 ≤ n) = False:=by simp
theorem zBd (n : Nat) : (n + 2 ≤ n) = False:=by simp
theorem zAM (n : Nat) : (n + 3 ≤ n) = False:=by simp
theorem zA4 (n : Nat) : (n + 4 ≤ n) = False:=by simp
theorem zBf (n : Nat) : (n + 5 ≤ n) = False:=by simp
theorem zk7 (n : Nat) : ∀ (a b : List Ob),Obs.lt n (a ++ b) = (Obs.lt n a && Obs.lt n b)
 | [],b => by simp [Obs.lt]
 | x :: a,b => by simp [Obs.lt,zk7 n a b,Bool.and_assoc]
attribute [go_sem] zzW zzp zyr zzy zy5 zy9 zxm zwL zx6 zAi zBd zAM zA4 zBf zk7 List.take_left'
def zmh (p : PPhi) : Bool:=(num p.bits && num p.dst) && (zfh p.src && zfh p.args)
def ziy (o : POp) : Bool:=(num o.kind && (num o.bits && (num o.lanes && num o.dst))) && zfh o.args
def ztI (b : PBlock) : Bool:=(num b.kind && num b.arg) && zfh b.to
def zvG (b : PBlock) : Bool:=b.phis.all zmh && (b.ops.all ziy && ztI b)
def zDq (p : PPhi) : Prop:=p.src.length ≤ 4294967296 ∧ p.args.length ≤ 4294967296
def zyg (o : POp) : Prop:=zzD o ∧ o.args.length ≤ 4294967296
structure okB (b : PBlock) : Prop where
 phis : b.phis.length ≤ 4294967296
 ops : b.ops.length ≤ 4294967296
 phi : ∀ p ∈ b.phis,zDq p
 op : ∀ o ∈ b.ops,zyg o
 to : b.to.length ≤ 4294967296
theorem zni (a : List Int) (b : a.length ≤ 4294967296) : call T 194 [vL [[eI a]]] [] = some (vB (zfh a),[]):=by
 have:=zha [a] (by simp) (by simpa using b);simpa only [vLs,yn,yp,rl,yh,ym,yo] using this
theorem zr3 (a b : List Int) (c : a.length ≤ 4294967296) (hb : b.length ≤ 4294967296) : call T 194 [vL [[eI a],[eI b]]] [] = some (vB (zfh a && zfh b),[]):=by
 have:=zha [a,b] (by simp) (by simpa using ⟨c,hb⟩);simpa only [vLs,yn,yp,rl,yh,ym,yo] using this
section
variable (b : PBlock) (hb : okB b)
include hb
theorem zsy : ∀ (d k : Nat) (a0 a2 a3 a4 a8 a9 h e f g c : V),b.phis.length - k = d → k ≤ b.phis.length →
  exec T zc2 ⟨[a0,.one (.ptr 0 0 0 0),a2,a3,a4,vL (b.phis.map rp),vI b.phis.length,vI k,a8,a9,h,e,f,g,c],[.cells 0 5 [zK b]],0,0⟩ =
   some (match (b.phis.drop k).find? (fun x => !zmh x) with | none => (.exit 0,⟨[vU,.one (.ptr 0 0 0 0),vU,vU,vU,vU,vU,vU,vU,vU,vU,vU,vU,vU,vU],[.cells 0 5 [zK b]],0,0⟩) | some x => (.ret,⟨[vU,vU,vB false,vU,vU,vU,vU,vU,vU,vU,vU,vU,vU,vU,vU],[.cells 0 5 [zK b],.cells 0 4 [zxT x]],0,0⟩)):=by
 intro d
 induction d with
 | zero =>
   intro k a0 a2 a3 a4 a8 a9 h e f g c m l;have a : k = b.phis.length:=(by omega);subst a;rw [xl zc2 rfl,zep];simp -implicitDefEqProofs only [go_sem,yd,yc,yu]
 | succ d ih =>
   intro k a0 a2 a3 a4 a8 a9 h e f g c m l;have a : k < b.phis.length:=(by omega);have hd : b.phis.drop k = b.phis[k] :: b.phis.drop (k + 1):=ya a;have j:=hb.phi _ (yf a);have c1:=zjK b.phis[k].bits b.phis[k].dst;have c2:=zr3 b.phis[k].src b.phis[k].args j.1 j.2;rw [xl zc2 rfl,zep,hd];cases i : (num b.phis[k].bits && num b.phis[k].dst)
   ·simp -implicitDefEqProofs only [go_sem,i] at c1 c2
    simp -implicitDefEqProofs only [go_sem,ilt a,z6 a,rp,c1,c2,zmh,ye,i]
   ·cases e2 : (zfh b.phis[k].src && zfh b.phis[k].args)
    ·simp -implicitDefEqProofs only [go_sem,i,e2] at c1 c2
     simp -implicitDefEqProofs only [go_sem,ilt a,z6 a,rp,c1,c2,zmh,ye,i,e2]
    ·simp -implicitDefEqProofs only [go_sem,i,e2] at c1 c2
     simp -implicitDefEqProofs only [go_sem,ilt a,z6 a,rp,c1,c2,zmh,ye,i,e2,zf a hb.phis];exact ih (k + 1) _ _ _ _ _ _ _ _ _ _ _ (by omega) (by omega)
theorem zr2 : ∀ (d k : Nat) (a0 a2 a3 a4 a5 a6 a7 a8 a9 e c : V),b.ops.length - k = d → k ≤ b.ops.length →
  exec T zc1 ⟨[a0,.one (.ptr 0 0 0 0),a2,a3,a4,a5,a6,a7,a8,a9,vL (b.ops.map ro),vI b.ops.length,vI k,e,c],[.cells 0 5 [zK b]],0,0⟩ =
   some (match (b.ops.drop k).find? (fun x => !ziy x) with | none => (.exit 2,⟨[vU,.one (.ptr 0 0 0 0),vU,vU,vU,vU,vU,vU,vU,vU,vU,vU,vU,vU,vU],[.cells 0 5 [zK b]],0,0⟩) | some x => (.ret,⟨[vU,vU,vB false,vU,vU,vU,vU,vU,vU,vU,vU,vU,vU,vU,vU],[.cells 0 5 [zK b],.cells 0 6 [cOp x]],0,0⟩)):=by
 intro d
 induction d with
 | zero =>
   intro k a0 a2 a3 a4 a5 a6 a7 a8 a9 e c i g;have a : k = b.ops.length:=(by omega);subst a;rw [xl zc1 rfl,zeo];simp -implicitDefEqProofs only [go_sem,yd,yc,yu]
 | succ d ih =>
   intro k a0 a2 a3 a4 a5 a6 a7 a8 a9 e c i g;have a : k < b.ops.length:=(by omega);have hd : b.ops.drop k = b.ops[k] :: b.ops.drop (k + 1):=ya a;have h:=hb.op _ (yf a);have c1:=zqa b.ops[k].kind b.ops[k].bits b.ops[k].lanes b.ops[k].dst;have c2:=zni b.ops[k].args h.2;rw [xl zc1 rfl,zeo,hd];cases f : (num b.ops[k].kind && (num b.ops[k].bits && (num b.ops[k].lanes && num b.ops[k].dst)))
   ·simp -implicitDefEqProofs only [go_sem,f] at c1 c2
    simp -implicitDefEqProofs only [go_sem,ilt a,z6 a,ro,c1,c2,ziy,ye,f]
   ·cases e2 : zfh b.ops[k].args
    ·simp -implicitDefEqProofs only [go_sem,f,e2] at c1 c2
     simp -implicitDefEqProofs only [go_sem,ilt a,z6 a,ro,c1,c2,ziy,ye,f,e2]
    ·simp -implicitDefEqProofs only [go_sem,f,e2] at c1 c2
     simp -implicitDefEqProofs only [go_sem,ilt a,z6 a,ro,c1,c2,ziy,ye,f,e2,zf a hb.ops];exact ih (k + 1) _ _ _ _ _ _ _ _ _ _ _ (by omega) (by omega)
set_option maxRecDepth 10000 in
@[go_sem] theorem zqe : call T 155 [zmx b] [] = some (vB (zvG b),[]):=by
  rw [zd (fn:=zbP) rfl];have a:=fun a0 a2 a3 a4 a8 a9 j h i d c => zsy b hb b.phis.length 0 a0 a2 a3 a4 a8 a9 j h i d c (by omega) (by omega);have e:=fun a0 a2 a3 a4 a5 a6 a7 a8 a9 d c => zr2 b hb b.ops.length 0 a0 a2 a3 a4 a5 a6 a7 a8 a9 d c (by omega) (by omega);have c1:=zjK b.kind b.arg;have c2:=zni b.to hb.to;simp only [yj,yb] at a e
  cases f : b.phis.find? (fun x => !zmh x) with
  | some x =>
    have a1:=zec f;simp -implicitDefEqProofs only [go_sem,f] at a;simp -implicitDefEqProofs only [go_sem,zbP,a,zvG,a1]
  | none =>
  have a1:=zed f
  cases e2 : b.ops.find? (fun x => !ziy x) with
  | some x =>
    have a2:=zec e2;simp -implicitDefEqProofs only [go_sem,f,e2] at a e;simp -implicitDefEqProofs only [go_sem,zbP,a,e,zvG,a1,a2]
  | none =>
  have a2:=zed e2;simp -implicitDefEqProofs only [go_sem,f,e2] at a e;cases g : (num b.kind && num b.arg)
  ·simp -implicitDefEqProofs only [go_sem,g] at c1 c2
   simp -implicitDefEqProofs only [go_sem,zbP,a,e,c1,c2,zvG,ztI,a1,a2,g]
  ·simp -implicitDefEqProofs only [go_sem,g] at c1 c2
   simp -implicitDefEqProofs only [go_sem,zbP,a,e,c1,c2,zvG,ztI,a1,a2,g]
end
@[go_sem] theorem zmw (b : PBlock) (hb : okB b) (σ : zb) (a : Obs.lt σ.length σ = true) : call T 154 [zmx b] σ = some (vB (!zvG b),σ):=by
  rw [zd (fn:=zhZ) rfl];have h:=zqe b hb;simp -implicitDefEqProofs only [go_sem] at h;simp -implicitDefEqProofs only [go_sem,zhZ,h,a]
structure okF (f : PFunc) : Prop where
 params : f.params.length ≤ 4294967296
 blocks : f.blocks.length ≤ 4294967296
 block : ∀ b ∈ f.blocks,okB b
 small : (f.blocks.map fun b => b.phis.length + b.ops.length).sum ≤ 4294967296
def zlQ (f : PFunc) : Nat:=f.blocks.length + (f.blocks.map fun b => b.phis.length + b.ops.length).sum
theorem ztd (l : List Nat) : ∀ k,(l.take k).sum ≤ l.sum:=by
 induction l with
 | nil => simp
 | cons x r ih =>
   intro k
   cases k with
   | zero => simp
   | succ k =>
     simp only [yr,yv];have:=ih k;omega
theorem zpL (l : List Nat) (k : Nat) (a : k < l.length) : (l.take (k + 1)).sum = (l.take k).sum + l[k]:=by
 induction l generalizing k with
 | nil => simp at a
 | cons x r ih =>
   cases k with
   | zero => simp
   | succ k =>
     simp only [yr,yv,List.getElem_cons_succ];rw [ih k (by simpa using a)];omega
theorem zwl (f : PFunc) (g : okF f) : ∀ (d k : Nat) (a0 a1 a2 a4 a8 : V),f.blocks.length - k = d → k ≤ f.blocks.length →
  exec T zfz ⟨[a0,a1,a2,vI ((f.blocks.length + ((f.blocks.map fun b => b.phis.length + b.ops.length).take k).sum : Nat) : Int),a4,vL (f.blocks.map rb),vI f.blocks.length,vI k,a8],[.cells 0 3 [zcN f]],0,0⟩ =
   some (.exit 0,⟨[vU,vU,vU,vI (zlQ f : Int),vU,vU,vU,vU,vU],[.cells 0 3 [zcN f]],0,0⟩):=by
 intro d
 induction d with
 | zero =>
   intro k a0 a1 a2 a4 a8 l h;have a : k = f.blocks.length:=(by omega);subst a;rw [xl zfz rfl,zhY];have e : (f.blocks.map fun b => b.phis.length + b.ops.length).take f.blocks.length = f.blocks.map fun b => b.phis.length + b.ops.length:=yg (by simp);simp -implicitDefEqProofs only [go_sem,yd,e,zlQ]
 | succ d ih =>
   intro k a0 a1 a2 a4 a8 l h;have a : k < f.blocks.length:=(by omega);have c : k < (f.blocks.map fun b => b.phis.length + b.ops.length).length:=(by simpa using a);have e:=zpL (f.blocks.map fun b => b.phis.length + b.ops.length) k c;have e2:=ztd (f.blocks.map fun b => b.phis.length + b.ops.length) (k + 1);have m:=g.small;have n:=g.blocks;simp only [List.getElem_map] at e
   have j : Go.IntKind.i64.wrap ((f.blocks[k].phis.length : Int) + (f.blocks[k].ops.length : Int)) = ((f.blocks[k].phis.length + f.blocks[k].ops.length : Nat) : Int):=by
    rw [wrap_i64] <;> omega
   have i : Go.IntKind.i64.wrap (((f.blocks.length + ((f.blocks.map fun b => b.phis.length + b.ops.length).take k).sum : Nat) : Int) + ((f.blocks[k].phis.length + f.blocks[k].ops.length : Nat) : Int)) = ((f.blocks.length + ((f.blocks.map fun b => b.phis.length + b.ops.length).take (k + 1)).sum : Nat) : Int):=by
    rw [wrap_i64] <;> omega
   rw [xl zfz rfl,zhY];simp -implicitDefEqProofs only [go_sem,ilt a,z6 a,rb,j,i,zf a g.blocks];exact ih (k + 1) _ _ _ _ _ (by omega) (by omega)
@[go_sem] theorem zn2 (f : PFunc) (a : okF f) : call T 151 [zbS f] [] = some (vI (zlQ f : Int),[]):=by
  rw [zd (fn:=zja) rfl];have h:=fun a0 a1 a2 a4 a8 => zwl f a f.blocks.length 0 a0 a1 a2 a4 a8 (by omega) (by omega);simp only [List.take_zero,List.sum_nil,Nat.add_zero,yb] at h;simp -implicitDefEqProofs only [go_sem] at h;simp -implicitDefEqProofs only [go_sem,zja,h]
def zpM (f : PFunc) : Bool :=
 !(decide (f.blocks.length < 1) || (decide (64 < f.blocks.length) || (decide (16 < f.params.length) || (decide (512 < zlQ f) || (!num f.ret || !f.params.all num))))) && f.blocks.all zvG
@[go_sem] theorem zpl (f : PFunc) (h : okF f) : call T 105 [zbS f] [] = some (vB (zpM f),[]):=by
  rw [zd (fn:=zcL) rfl];have i:=zn2 f h;have g:=zo7 f.ret;have j:=zef f.params h.params
  have k:=zgJ f.blocks (fun b => !zvG b) 154 [] [] [.cells 0 3 [zcN f]] h.blocks (fun x l => by
   have:=zmw x (h.block x l) [.cells 0 3 [zcN f]] rfl;simp -implicitDefEqProofs only [go_sem] at this
   simp -implicitDefEqProofs only [go_sem,this])
  have m : f.params.length ≤ 4294967296:=h.params;simp -implicitDefEqProofs only [go_sem] at i g k j
  by_cases c1 : f.blocks.length < 1
  ·have a : (f.blocks.length : Int) < 1:=by omega
   simp -implicitDefEqProofs only [go_sem,zcL,zpM,c1,a]
  have a : ¬ (f.blocks.length : Int) < 1:=by omega
  by_cases c2 : 64 < f.blocks.length
  ·have c : (64 : Int) < (f.blocks.length : Int):=by omega
   simp -implicitDefEqProofs only [go_sem,zcL,zpM,c1,a,c2,c]
  have c : ¬ (64 : Int) < (f.blocks.length : Int):=by omega
  by_cases c3 : 16 < f.params.length
  ·have d : (16 : Int) < (f.params.length : Int):=by omega
   simp -implicitDefEqProofs only [go_sem,zcL,zpM,c1,a,c2,c,c3,d]
  have d : ¬ (16 : Int) < (f.params.length : Int):=by omega
  by_cases c4 : 512 < zlQ f
  ·have e : (512 : Int) < (zlQ f : Int):=by omega
   simp -implicitDefEqProofs only [go_sem,zcL,zpM,c1,a,c2,c,c3,d,i,c4,e]
  have e : ¬ (512 : Int) < (zlQ f : Int):=by omega
  cases c5 : num f.ret
  ·simp -implicitDefEqProofs only [go_sem,c5] at g
   simp -implicitDefEqProofs only [go_sem,zcL,zpM,c1,a,c2,c,c3,d,i,c4,e,g,c5]
  cases c6 : f.params.all num
  ·simp -implicitDefEqProofs only [go_sem,c5,c6] at g j
   simp -implicitDefEqProofs only [go_sem,zcL,zpM,c1,a,c2,c,c3,d,i,c4,e,g,j,c5,c6]
  simp -implicitDefEqProofs only [go_sem,c5,c6] at g j;simp -implicitDefEqProofs only [go_sem,zcL,zpM,c1,a,c2,c,c3,d,i,c4,e,g,j,c5,c6,k,zmW]
end AC
namespace AC
def tr (t : List Int) (a : Int) : Int:=t.getD a.toNat (-2)
def zU (t : List Int) : Nat → Int → Int → Option Int
 | 0,_,_ => none
 | r + 1,n,a => if a < 0 then some (-1) else if (t.length : Int) ≤ a then some (-1) else if tr t a = -1 then some n else zU t r (n + 1) (tr t a)
def zx (t : List Int) (a : Int) : Int:=(zU t t.length 0 a).getD (-1)
def zbo (t : List Int) : Nat → Nat → List Int → Option Nat
 | _,n,[] => some n
 | k,n,x :: r => if x = -2 then zbo t (k + 1) n r else if zx t k < 0 then none else zbo t (k + 1) (if x = -1 then n + 1 else n) r
def zfY (t : List Int) : Bool:=zbo t 0 0 t == some 1
def inS (t : List Int) (l : List Int) : Bool:=zfY t && !l.any fun a => decide (zx t a < 0)
def zgA (t : List Int) : Nat → Int → Int → Int
 | 0,a,_ => a
 | r + 1,a,b => if a = b then a else if zx t b ≤ zx t a then zgA t r (tr t a) b else zgA t r a (tr t b)
def zuH (t : List Int) (a b : Int) : Int:=if inS t [a,b] = true then zgA t (zx t a + zx t b).toNat a b else -2
def ziA (t : List Int) (a b : Int) : Bool:=inS t [a,b] && decide (zuH t a b = a)
def inR (n : Nat) (a : Int) : Bool:=decide (0 ≤ a) && decide (a < n)
def zng (t at' : List Int) : Nat → Int → Int → Option Int
 | 0,_,_ => none
 | r + 1,a,b => if inR t.length a && (inR at'.length a && inR at'.length b) then (if tr at' b < tr at' a then zng t at' r (tr t a) b else some a) else none
def zqC (t at' : List Int) (K : Nat) : Nat → Int → Int → Option Int
 | 0,_,_ => none
 | r + 1,a,b => if a = b then some a else match zng t at' K a b with
   | none => none
   | some a' => match zng t at' K b a' with
     | none => none
     | some b' => zqC t at' K r a' b'
def zjy (t at' : List Int) (K : Nat) : List Int → Int → Option Int
 | [],b => some b
 | p :: r,b => if inR t.length p = true then (if tr t p = -2 then zjy t at' K r b else if b = -2 then zjy t at' K r p else match zqC t at' K K b p with
   | none => none
   | some c => zjy t at' K r c) else none
def zpA (pred : List (List Int)) (t at' : List Int) (K : Nat) : List Int → Option (Option (Int × Int))
 | [] => some none
 | x :: r => if inR t.length x = true then (match zjy t at' K (pred.getD x.toNat []) (-2) with
   | none => none
   | some b => if tr t x = b then zpA pred t at' K r else some (some (x,b))) else none
def zeR (pred : List (List Int)) (at' : List Int) (K : Nat) (tail : List Int) : Nat → List Int → Option (List Int)
 | 0,_ => none
 | r + 1,t => match zpA pred t at' K tail with
   | none => none
   | some none => some t
   | some (some (x,b)) => zeR pred at' K tail r (t.set x.toNat b)
theorem ziU {pred : List (List Int)} {at' : List Int} {K : Nat} {tail : List Int} : ∀ {r : Nat} {t a : List Int},zeR pred at' K tail r t = some a → a.length = t.length
 | 0,_,_,h => by simp [zeR] at h
 | r + 1,t,a,h => by
   simp only [zeR] at h;split at h
   ·cases h
   ·injection h with h; rw [h]
   ·rw [ziU h]; simp
def zhN : Nat → List Int → List Int → List Int
 | _,[],at' => at'
 | i,x :: r,at' => zhN (i + 1) r (at'.set x.toNat (i : Int))
theorem zgB : ∀ (l : List Int) (i : Nat) (a : List Int),(zhN i l a).length = a.length
 | [],_,_ => rfl
 | x :: r,i,a => by rw [zhN,zgB r]; simp
def ziH (n root : Nat) : List Int:=(yk n (-2 : Int)).set root root
def at0 (n : Nat) (order : List Int) : List Int:=zhN 0 order (yk n 0)
def scan (seen : List Bool) : List Int → Nat → Option (Int × Nat)
 | [],_ => none
 | y :: r,j => if seen.getD y.toNat false = true then scan seen r (j + 1) else some (y,j + 1)
structure DF where
 seen : List Bool
 next : List Nat
 out : List Int
 stk : List Int
def zvp (succ : List (List Int)) (x : Int) : Nat:=(succ.getD x.toNat []).length
def zd9 (succ : List (List Int)) (d : DF) (x : Int) : Option (Int × Nat):=scan d.seen ((succ.getD x.toNat []).drop (d.next.getD x.toNat 0)) (d.next.getD x.toNat 0)
def dfs (succ : List (List Int)) : Nat → DF → Option (List Int)
 | 0,_ => none
 | k + 1,d => match d.stk with
   | [] => none
   | x :: s => match zd9 succ d x with
     | some (y,j) => dfs succ k ⟨d.seen.set y.toNat true,d.next.set x.toNat j,d.out,y :: x :: s⟩
     | none => match s with
       | [] => some (d.out ++ [x])
       | _ :: _ => dfs succ k ⟨d.seen,d.next.set x.toNat (zvp succ x),d.out ++ [x],s⟩
structure DInv (succ : List (List Int)) (d : DF) : Prop where
 seen : d.seen.length = 64
 next : d.next.length = 64
 le : ∀ X,X < succ.length → d.next.getD X 0 ≤ (succ.getD X []).length
 stk : ∀ x ∈ d.stk,0 ≤ x ∧ x < (succ.length : Int)
theorem zyk {seen : List Bool} : ∀ {l : List Int} {k : Nat} {y : Int} {j : Nat},scan seen l k = some (y,j) → k < j ∧ j ≤ k + l.length ∧ y ∈ l
 | [],_,_,_,h => by simp [scan] at h
 | z :: r,k,y,j,h => by
   simp only [scan] at h;split at h
   ·have:=zyk h
    simp only [List.length_cons,List.mem_cons];exact ⟨by omega,by omega,.inr this.2.2⟩
   ·simp only [Option.some.injEq,Prod.mk.injEq] at h
    obtain ⟨rfl,rfl⟩:=h;simp
def znU : List Bool:=yk 64 false
def zlI : List Nat:=yk 64 0
def zqn (root : Int) : DF:=⟨znU.set root.toNat true,zlI,[],[root]⟩
def zsl (i : Int) (out : List (List Int)) (x : Int) : List (List Int):=out.set x.toNat (out.getD x.toNat [] ++ [i])
theorem zms (i : Int) (out : List (List Int)) (x : Int) : (zsl i out x).length = out.length:=by simp [zsl]
theorem zfq (i : Int) : ∀ (l : List Int) (out : List (List Int)),(l.foldl (zsl i) out).length = out.length
 | [],_ => rfl
 | x :: r,out => by rw [List.foldl_cons,zfq i r,zms]
def zbd : Nat → List (List Int) → List (List Int) → List (List Int)
 | _,[],out => out
 | i,l :: r,out => zbd (i + 1) r (l.foldl (zsl i) out)
def zah (succ : List (List Int)) : List (List Int):=zbd 0 succ (yk succ.length [])
theorem zem : ∀ (l : List (List Int)) (i : Nat) (out : List (List Int)),(zbd i l out).length = out.length
 | [],_,_ => rfl
 | x :: r,i,out => by rw [zbd,zem r,zfq]
theorem zgF (succ : List (List Int)) : (zah succ).length = succ.length:=by rw [zah,zem]; simp
def zlw (succ : List (List Int)) : Prop:=succ.length ≤ 4294967296 ∧ ∀ l ∈ succ,l.length ≤ 4294967296
def zaD (n : Int) : Int → List Int → Bool
 | _,[] => true
 | last,x :: r => if x ≤ last ∨ n ≤ x then false else zaD n x r
def rising (l : List Int) (n : Int) : Bool:=zaD n (-1) l
def zdc (succ : List (List Int)) : Bool:=!(decide (succ.length < 1) || (decide (64 < succ.length) || succ.any fun l => !rising l succ.length))
def zyq (succ pred : List (List Int)) : Bool:=zdc succ && decide (zah succ = pred)
def zrr (k : Int) : Int:=if k = 0 ∨ k = 3 then 0 else if k = 1 then 1 else if k = 2 then 2 else -1
def zuE (n k : Int) : Bool:=decide (k < 1) || decide (n ≤ k)
theorem zaN {α : Type} {l : List α} {i : Nat} (v d : α) (h : i < l.length) : (l.set i v).getD i d = v:=by simp [h]
theorem getD_set_ne {α : Type} {l : List α} {i j : Nat} (v d : α) (h : i ≠ j) : (l.set i v).getD j d = l.getD j d:=by simp [List.getElem?_set_ne h]
theorem zjB (t : List Int) : ∀ (r : Nat) (n a m : Int),0 ≤ n → zU t r n a = some m → m = -1 ∨ n ≤ m
 | 0,_,_,_,_,h => by simp [zU] at h
 | r + 1,n,a,m,hn,h => by
   simp only [zU] at h;split at h
   ·simp at h; omega
   split at h
   ·simp at h; omega
   split at h
   ·simp at h; omega
   ·have:=zjB t r (n + 1) _ m (by omega) h
    omega
theorem zkb (t : List Int) : ∀ (r : Nat) (n a m : Int),0 ≤ n → 0 ≤ m → zU t r (n + 1) a = some m → zU t r n a = some (m - 1)
 | 0,_,_,_,_,_,h => by simp [zU] at h
 | r + 1,n,a,m,hn,hm,h => by
   simp only [zU] at h ⊢;split at h
   ·simp at h; omega
   split at h
   ·simp at h; omega
   split at h
   ·rename_i d b c
    simp only [d,b,c,if_true,if_false,Option.some.injEq] at h ⊢;omega
   ·rename_i d b c
    simp only [d,b,c,if_false];exact zkb t r (n + 1) _ m (by omega) hm h
theorem zj3 (t : List Int) : ∀ (r : Nat) (n a m : Int),zU t r n a = some m → zU t (r + 1) n a = some m
 | 0,_,_,_,h => by simp [zU] at h
 | r + 1,n,a,m,h => by
   rw [zU] at h ⊢;split at h
   ·rename_i b; simp only [b,if_true]; exact h
   split at h
   ·rename_i b c; simp only [b,c,if_true,if_false]; exact h
   split at h
   ·rename_i b c d; simp only [b,c,d,if_true,if_false]; exact h
   ·rename_i b c d
    simp only [b,c,d,if_false];exact zj3 t r (n + 1) _ m h
theorem znt {t : List Int} {a : Int} (h : 0 ≤ zx t a) : zU t t.length 0 a = some (zx t a):=by
 unfold zx at h ⊢
 cases e : zU t t.length 0 a with
 | none => rw [e] at h; simp at h
 | some m => rfl
theorem zfc {t : List Int} {a : Int} (h : 0 ≤ zx t a) : 0 ≤ a ∧ a < t.length:=by
 have:=znt h
 cases b : t.length with
 | zero => rw [b] at this; simp [zU] at this
 | succ r =>
   rw [b,zU] at this;split at this
   ·simp at this; omega
   split at this
   ·simp at this; omega
   ·rename_i d c
    rw [b] at c;omega
theorem zin {t : List Int} {a : Int} (b : 0 ≤ a) (d : a < t.length) (h : tr t a = -1) : zx t a = 0:=by
 unfold zx
 cases c : t.length with
 | zero => omega
 | succ r =>
   rw [zU,if_neg (by omega),if_neg (by omega),if_pos h];rfl
theorem zc6 {t : List Int} {a : Int} (h : 0 ≤ zx t a) (e : tr t a ≠ -1) : 1 ≤ zx t a ∧ zx t (tr t a) = zx t a - 1:=by
 have b:=znt h;obtain ⟨g,i⟩:=zfc h
 cases d : t.length with
 | zero => omega
 | succ r =>
   rw [d,zU,if_neg (by omega),if_neg (by omega),if_neg e] at b;have f:=zjB t r (0 + 1) _ _ (by omega) b;have c:=zj3 t r _ _ _ (zkb t r 0 _ _ (by omega) h b);refine ⟨by omega,?_⟩;rw [← d] at c;rw [zx,c];rfl
theorem ze9 {t : List Int} {a : Int} (h : zx t a = 0) : tr t a = -1:=by
 by_cases c : tr t a = -1
 ·exact c
 ·have:=zc6 (by omega) c
  omega
theorem zdt (t : List Int) : ∀ (l : List Int) (k n m : Nat),zbo t k n l = some m → m = n + l.count (-1)
 | [],_,_,_,h => by simp [zbo] at h; simp [h]
 | x :: r,k,n,m,h => by
   simp only [zbo] at h;split at h
   ·rename_i a
    subst a;rw [zdt t r _ _ _ h,yq (by decide)]
   split at h
   ·cases h
   ·split at h
    ·rename_i a
     subst a;rw [zdt t r _ _ _ h,yl];omega
    ·rename_i a
     rw [zdt t r _ _ _ h,yq (by simpa using a)]
theorem zrN {x : Int} : ∀ (l : List Int),l.count x ≤ 1 → ∀ i j (a : i < l.length) (b : j < l.length),l[i] = x → l[j] = x → i = j
 | [],_,i,_,a,_,_,_ => by simp at a
 | y :: r,h,i,j,a,b,e1,e2 => by
   have pos : ∀ k (c : k < r.length),r[k] = x → 1 ≤ r.count x:=fun k c e => by
    have : x ∈ r:=(by rw [← e]; exact yf c);exact List.count_pos_iff.2 this
   cases i with
   | zero =>
     cases j with
     | zero => rfl
     | succ j =>
       simp at e1 e2;subst e1;rw [yl] at h;have:=pos j (by simpa using b) e2;omega
   | succ i =>
     cases j with
     | zero =>
       simp at e1 e2;subst e2;rw [yl] at h;have:=pos i (by simpa using a) e1;omega
     | succ j =>
       have d : r.count x ≤ 1:=by
        rw [List.count_cons] at h;omega
       rw [zrN r d i j (by simpa using a) (by simpa using b) (by simpa using e1) (by simpa using e2)]
theorem zrH {t : List Int} (h : zfY t = true) {a b : Int} (k : 0 ≤ a ∧ a < t.length) (j : 0 ≤ b ∧ b < t.length) (g : tr t a = -1) (e : tr t b = -1) : a = b:=by
 have f : zbo t 0 0 t = some 1:=by simpa [zfY] using h
 have i:=zdt t t 0 0 1 f;have d : a.toNat < t.length:=by omega
 have c : b.toNat < t.length:=by omega
 have:=zrN t (x:=-1) (by omega) a.toNat b.toNat d c (by simpa [tr,d] using g) (by simpa [tr,c] using e);omega
theorem zAF {t : List Int} {a b : Int} (h : inS t [a,b] = true) : zfY t = true ∧ 0 ≤ zx t a ∧ 0 ≤ zx t b:=by
 simp [inS] at h;exact ⟨h.1,by omega,by omega⟩
end AC
namespace AC
open Go Go.A Go.A.Lex
@[go_sem] theorem zx4 (k : Int) : call T 143 [vI k] [] = some (vI (zrr k),[]):=by
  rw [zd (fn:=zde) rfl]
  by_cases c0 : k = 0
  ·simp -implicitDefEqProofs only [go_sem,zde,zrr,c0]
  by_cases c3 : k = 3
  ·simp -implicitDefEqProofs only [go_sem,zde,zrr,c0,c3]
  by_cases c1 : k = 1
  ·simp -implicitDefEqProofs only [go_sem,zde,zrr,c0,c3,c1]
  by_cases c2 : k = 2 <;> simp -implicitDefEqProofs only [go_sem,zde,zrr,c0,c3,c1,c2]
theorem zsn (l : List Int) (n : Int) (c : l.length ≤ 4294967296) : ∀ (d k : Nat) (last : Int) (a0 a2 a4 a8 a9 : V),l.length - k = d → k ≤ l.length →
  exec T zds ⟨[a0,vI n,a2,vI last,a4,vIs l,vI l.length,vI k,a8,a9],[],0,0⟩ =
   some (if zaD n last (l.drop k) = true then (.exit 0,⟨[vU,vU,vU,vU,vU,vU,vU,vU,vU,vU],[],0,0⟩) else (.ret,⟨[vU,vU,vB false,vU,vU,vU,vU,vU,vU,vU],[],0,0⟩)):=by
 intro d
 induction d with
 | zero =>
   intro k last a0 a2 a4 a8 a9 e b;have a : k = l.length:=(by omega);subst a;rw [xl zds rfl,zeT];simp -implicitDefEqProofs only [go_sem,yd,yc,zaD]
 | succ d ih =>
   intro k last a0 a2 a4 a8 a9 e b;have a : k < l.length:=(by omega);have hd : l.drop k = l[k] :: l.drop (k + 1):=ya a;rw [xl zds rfl,zeT,hd]
   by_cases c1 : l[k] ≤ last
   ·simp -implicitDefEqProofs only [go_sem,ilt a,z6 a,ri,c1,zaD]
   ·by_cases c2 : n ≤ l[k]
    ·simp -implicitDefEqProofs only [go_sem,ilt a,z6 a,ri,c1,c2,zaD]
    ·simp -implicitDefEqProofs only [go_sem,ilt a,z6 a,ri,c1,c2,zaD,zf a c]
     exact ih (k + 1) l[k] _ _ _ _ _ (by omega) (by omega)
@[go_sem] theorem zk6 (l : List Int) (n : Int) (b : l.length ≤ 4294967296) : call T 180 [vIs l,vI n] [] = some (vB (rising l n),[]):=by
  rw [zd (fn:=zfL) rfl];have h:=fun a0 a2 a4 a8 a9 => zsn l n b l.length 0 (-1) a0 a2 a4 a8 a9 (by omega) (by omega);simp only [yj,yb] at h;cases a : zaD n (-1) l <;> simp -implicitDefEqProofs only [go_sem,a] at h <;> simp -implicitDefEqProofs only [go_sem,zfL,rising,h,a]
theorem znP (l m : List Int) (g : l.length = m.length) (i : l.length ≤ 4294967296) (σ : zb) : ∀ (d k : Nat) (a2 a3 a4 a7 a8 : V),l.length - k = d → k ≤ l.length →
  exec T zb3 ⟨[vIs l,vIs m,a2,a3,a4,vI l.length,vI k,a7,a8],σ,σ.length,σ.length⟩ =
   some (if l.drop k = m.drop k then (.exit 0,⟨[vU,vU,vU,vU,vU,vU,vU,vU,vU],σ,σ.length,σ.length⟩) else (.ret,⟨[vU,vU,vB false,vU,vU,vU,vU,vU,vU],σ,σ.length,σ.length⟩)):=by
 intro d
 induction d with
 | zero =>
   intro k a2 a3 a4 a7 a8 h f;have a : k = l.length:=(by omega);subst a;have e : m.drop l.length = []:=(by simp [g]);rw [xl zb3 rfl,zc5,e];simp -implicitDefEqProofs only [go_sem,yd,yc]
 | succ d ih =>
   intro k a2 a3 a4 a7 a8 h f;have a : k < l.length:=(by omega);have b : k < m.length:=(by omega);have hd : l.drop k = l[k] :: l.drop (k + 1):=ya a;have c : m.drop k = m[k] :: m.drop (k + 1):=ya b;rw [xl zb3 rfl,zc5,hd,c]
   by_cases c1 : l[k] = m[k]
   ·simp -implicitDefEqProofs only [go_sem,ilt a,z6 a,z6 b,ri,c1,zf a i,List.cons.injEq]
    exact ih (k + 1) _ _ _ _ _ (by omega) (by omega)
   ·simp -implicitDefEqProofs only [go_sem,ilt a,z6 a,z6 b,ri,c1,List.cons.injEq,false_and]
@[go_sem] theorem ziK (l m : List Int) (σ : zb) (d : l.length ≤ 4294967296) : call T 184 [vIs l,vIs m] σ = some (vB (decide (l = m)),σ):=by
  rw [zd (fn:=zbh) rfl]
  by_cases a : l.length = m.length
  ·have h:=fun a2 a3 a4 a7 a8 => znP l m a d σ l.length 0 a2 a3 a4 a7 a8 (by omega) (by omega)
   have c : ((l.length : Int) = (m.length : Int)) = True:=(by simp [a]);simp only [yj,yb] at h
   by_cases he : l = m
   ·subst he
    simp -implicitDefEqProofs only [go_sem] at h;simp -implicitDefEqProofs only [go_sem,zbh,h]
   ·simp -implicitDefEqProofs only [go_sem,he] at h
    simp -implicitDefEqProofs only [go_sem,zbh,h,he,c]
  ·have he : ¬ l = m:=fun h => a (by rw [h])
   have b : ¬ (l.length : Int) = (m.length : Int):=(by omega);simp -implicitDefEqProofs only [go_sem,zbh,b,he]
theorem znT (l m : List (List Int)) (n : l.length = m.length) (p : l.length ≤ 4294967296) (i : ∀ x ∈ l,x.length ≤ 4294967296) (σ : zb) : ∀ (d k : Nat) (a0 a3 a4 a5 a6 a7 b c : V),l.length - k = d → k ≤ l.length →
  exec T zat ⟨[a0,vLs m,vFn 184 [],a3,a4,a5,a6,a7,vLs l,vI l.length,vI k,b,c],σ,σ.length,σ.length⟩ =
   some (if l.drop k = m.drop k then (.exit 0,⟨[vU,vU,vU,vU,vU,vU,vU,vU,vU,vU,vU,vU,vU],σ,σ.length,σ.length⟩) else (.ret,⟨[vU,vU,vU,vB false,vU,vU,vU,vU,vU,vU,vU,vU,vU],σ,σ.length,σ.length⟩)):=by
 intro d
 induction d with
 | zero =>
   intro k a0 a3 a4 a5 a6 a7 b c o j;have a : k = l.length:=(by omega);subst a;have e : m.drop l.length = []:=(by simp [n]);rw [xl zat rfl,zbK,e];simp -implicitDefEqProofs only [go_sem,yd,yc]
 | succ d ih =>
   intro k a0 a3 a4 a5 a6 a7 b c o j;have a : k < l.length:=(by omega);have f : k < m.length:=(by omega);have hd : l.drop k = l[k] :: l.drop (k + 1):=ya a;have h : m.drop k = m[k] :: m.drop (k + 1):=ya f;have g:=ziK l[k] m[k] σ (i _ (yf a));rw [xl zat rfl,zbK,hd,h]
   by_cases c1 : l[k] = m[k]
   ·simp -implicitDefEqProofs only [go_sem,c1] at g
    simp -implicitDefEqProofs only [go_sem,ilt a,z6 a,z6 f,rl,c1,g,zf a p,List.cons.injEq];exact ih (k + 1) _ _ _ _ _ _ _ _ (by omega) (by omega)
   ·simp -implicitDefEqProofs only [go_sem,c1] at g
    simp -implicitDefEqProofs only [go_sem,ilt a,z6 a,z6 f,rl,c1,g,List.cons.injEq,false_and]
@[go_sem] theorem ziY (l m : List (List Int)) (σ : zb) (g : l.length ≤ 4294967296) (e : ∀ x ∈ l,x.length ≤ 4294967296) : call T 183 [vLs l,vLs m,vFn 184 []] σ = some (vB (decide (l = m)),σ):=by
  rw [zd (fn:=zac) rfl]
  by_cases b : l.length = m.length
  ·have h:=fun a0 a3 a4 a5 a6 a7 d a => znT l m b g e σ l.length 0 a0 a3 a4 a5 a6 a7 d a (by omega) (by omega)
   have f : ((l.length : Int) = (m.length : Int)) = True:=(by simp [b]);simp only [yj,yb] at h
   by_cases he : l = m
   ·subst he
    simp -implicitDefEqProofs only [go_sem] at h;simp -implicitDefEqProofs only [go_sem,zac,h]
   ·simp -implicitDefEqProofs only [go_sem,he] at h
    simp -implicitDefEqProofs only [go_sem,zac,h,he,f]
  ·have he : ¬ l = m:=fun h => b (by rw [h])
   have c : ¬ (l.length : Int) = (m.length : Int):=(by omega);simp -implicitDefEqProofs only [go_sem,zac,c,he]
end AC

/- A part of the proof of AliasBoth. Conditions: none. -/
import Derived.Test.YtmkncmffaaninaaGreatAAY
import Derived.Test.YtmkncmffaaninaaGreatABA
import Derived.Test.YtmkncmffaaninaaGreatAAV
import Derived.Test.YtmkncmffaaninaaGreatAAX
set_option linter.all false
open Option renaming getD_none → ya,getD_some → yc,isSome_none → yi,isSome_some → yo
open And renaming intro → yb
open List renaming getElem?_eq_some_iff → yd,drop_eq_getElem_cons → ye,getD_eq_getElem?_getD → yf,eq_nil_of_length_eq_zero → yg,length_map → yh,set_append_right → yj,length_set → yk,getElem?_set_ne → yl,drop_length → yp,drop_zero → yq,getElem_mem → yr,replicate → ys,map_cons → yu,set_set → yv,set → yw
open Int renaming lt_irrefl → ym,natCast_zero → yn
open Bool renaming and_self → yt
namespace AC
open Go Go.A Go.A.Lex
abbrev zbw:=List (Int × Int) × Int
def vFm (x : zbw) : V:=fF x.1 x.2
abbrev zpf:=List (Int × zbw)
abbrev zmn:=List (Int × POp)
abbrev zqr : zbw:=([],0)
def zpD (a b : zbw) : zbw:=if zD 0 a.1 = true ∧ zD 0 b.1 = true then (zcE pl a.1 b.1,pl a.2 b.2) else zqr
def zmq (a b : zbw) : zbw:=if zD 0 a.1 = true ∧ zD 0 b.1 = true then (zcE mi a.1 b.1,mi a.2 b.2) else zqr
def zhO (a : zbw) (n : Int) : zbw:=if zD 0 a.1 = true then (zcE (ti n) a.1 [],ti n a.2 0) else zqr
def tell (k : Int) (a b : zbw) : Option zbw :=
 if k = 1 then some (zpD a b) else if k = 2 then some (zmq a b) else if k = 3 ∧ b.1.length = 0 then some (zhO a b.2)
 else if k = 3 ∧ a.1.length = 0 then some (zhO b a.2) else if k = 8 ∧ b.1.length = 0 ∧ b.2 < 64 then some (zhO a (IntKind.u64.wrap (1 * 2 ^ min b.2.toNat 64))) else none
def zqU (form : zpf → Int → Option (zbw × zpf)) (ops : zmn) (M : zpf) (v : Int) : Option (Option zbw × zpf) :=
 match getM v ops with
 | none => some (none,M)
 | some o => if o.bits ≠ 64 ∨ o.lanes ≠ 1 then some (none,M) else if o.kind = 0 then some (some ([],o.imm),M) else if o.kind < 1 ∨ 8 < o.kind then some (none,M)
   else match o.args with
    | a :: b :: _ => (form M a).bind fun x => (form x.2 b).bind fun y => if x.1.1.length + y.1.1.length ≤ 4294967296 ∧ 0 ≤ y.1.2 then some (tell o.kind x.1 y.1,y.2) else none
    | _ => none
def zj9 (v : Int) : Option zbw → zbw
 | some f => if 16 < f.1.length then ([(v,1)],0) else f
 | none => ([(v,1)],0)
def zh3 (ops : zmn) : Nat → zpf → Int → Option (zbw × zpf)
 | 0,_,_ => none
 | n + 1,M,v => match getM v M with
   | some f => some (f,M)
   | none => (zqU (zh3 ops n) ops M v).map fun r => (zj9 v r.1,zfV v (zj9 v r.1) r.2)
structure Finder (σ : zb) (x m1 m2 : Nat) (ops : zmn) (M : zpf) : Prop where
 hx : σ[x]? = some (.cells 0 2 [[.map m1,.map m2]])
 ho : σ[m1]? = some (.mp (zdj vOp ops))
 hf : σ[m2]? = some (.mp (zdj vFm M))
 ok : Ok σ
 n1 : m1 ≠ m2
 n2 : x ≠ m2
theorem zBN (n : Nat) (M : zpf) : C.ltm n (zdj vFm M) = true:=zmZ vFm n (fun a => by simp [vFm,fF,V.lt,C.lts,C.lt]) M
theorem zuw (n m : Nat) (o : Ob) (b : o.lt n = true) : ∀ σ : zb,Obs.lt n σ = true → Obs.lt n (σ.set m o) = true:=by
 intro σ h
 induction σ generalizing m with
 | nil => exact h
 | cons a r ih =>
   simp only [Obs.lt,Bool.and_eq_true] at h
   cases m with
   | zero => simp only [yw,Obs.lt,b,h.2,yt]
   | succ m => simp only [yw,Obs.lt,h.1,ih m h.2,yt]
theorem Finder.put {σ : zb} {x m1 m2 : Nat} {ops : zmn} {M : zpf} (h : Finder σ x m1 m2 ops M) (b : zpf) : Finder (σ.set m2 (.mp (zdj vFm b))) x m1 m2 ops b:=by
 have a : m2 < σ.length:=(yd.1 h.hf).1;refine ⟨?_,?_,?_,?_,h.n1,h.n2⟩
 ·rw [yl (fun e => h.n2 e.symm)]; exact h.hx
 ·rw [yl (fun e => h.n1 e.symm)]; exact h.ho
 ·simp [a]
 ·unfold Ok
  rw [yk];exact zuw _ _ _ (by simp only [Ob.lt]; exact zBN _ _) _ h.ok
theorem Finder.app {σ : zb} {x m1 m2 : Nat} {ops : zmn} {M : zpf} (h : Finder σ x m1 m2 ops M) (r : zb) (a : Obs.lt (σ.length + r.length) r = true) : Finder (σ ++ r) x m1 m2 ops M :=
 ⟨zcR h.hx r,zcR h.ho r,zcR h.hf r,h.ok.app a,h.n1,h.n2⟩
theorem zp4 {σ : zb} {m : Nat} {a : Ob} (h : σ[m]? = some a) (o : Ob) (r : zb) : (σ ++ r).set m o = σ.set m o ++ r:=by
 rw [List.set_append_left _ _ (yd.1 h).1]
theorem zpu {σ : zb} {m : Nat} {o : Ob} (h : σ[m]? = some o) : σ.set m o = σ:=by
 obtain ⟨a,rfl⟩:=yd.1 h;exact List.set_getElem_self a
theorem zvK (k : Int) (D : zmn) : zes k (zdj vOp D) = (getM k D).map vOp:=zjG vOp k D
theorem zAz (k : Int) (D : zpf) : zes k (zdj vFm D) = (getM k D).map vFm:=zjG vFm k D
def zB2 (ops : zmn) (n : Nat) : Prop:=∀ (σ : zb) (x m1 m2 : Nat) (M M' : zpf) (v : Int) (f : zbw),Finder σ x m1 m2 ops M → zh3 ops n M v = some (f,M') →
 call T 85 [.one (.ptr x 0 0 0),vI v] σ = some (vFm f,σ.set m2 (.mp (zdj vFm M')))
theorem zjH {α : Type} {σ : List α} {n : Nat} (h : σ.length = n) (o : α) (r : List α) : (σ ++ o :: r)[n]? = some o:=by subst h; simp
theorem zj2 {α : Type} {σ : List α} {n : Nat} (h : σ.length = n) (o p : α) (r : List α) : (σ ++ o :: p :: r)[n + 1]? = some p:=by subst h; simp
theorem zmV {α : Type} {σ : List α} {n : Nat} (h : σ.length = n) (o p a : α) (r : List α) : (σ ++ o :: p :: a :: r)[n + 2]? = some a:=by subst h; simp
theorem zmX {α : Type} {σ : List α} {n : Nat} (h : σ.length = n) (o p a s : α) (r : List α) : (σ ++ o :: p :: a :: s :: r)[n + 3]? = some s:=by subst h; simp
theorem zmG {α : Type} {σ : List α} {n : Nat} (h : σ.length = n) (x o : α) (r : List α) : (σ ++ o :: r).set n x = σ ++ x :: r:=by subst h; simp [yj]
theorem zml {α : Type} {σ : List α} {n : Nat} (h : σ.length = n) (x o p : α) (r : List α) : (σ ++ o :: p :: r).set (n + 1) x = σ ++ o :: x :: r:=by subst h; simp [yj]
theorem zq8 {α : Type} {σ : List α} {n : Nat} (h : σ.length = n) (x o p a : α) (r : List α) : (σ ++ o :: p :: a :: r).set (n + 2) x = σ ++ o :: p :: x :: r:=by subst h; simp [yj]
theorem zrv {α : Type} {σ : List α} {n : Nat} (h : σ.length = n) (x o p a s : α) (r : List α) : (σ ++ o :: p :: a :: s :: r).set (n + 3) x = σ ++ o :: p :: a :: x :: r:=by subst h; simp [yj]
theorem zkR {α : Type} {σ : List α} {n : Nat} (h : σ.length = n) (r : List α) : (σ ++ r).take n = σ:=by subst h; simp
theorem zyb : ∀ l : List Int,Fz.beqs (l.map ri) (l.map ri) = true
 | [] => rfl
 | x :: r => by
   rw [yu,Fz.beqs,zyb r];simp [ri,ei,Fz.beqR,Fz.beq,Value.beq]
theorem zbY (a b : Int) (l : List Int) : Fz.beqs ([.lit (.int .i64 a)] :: [.lit (.int .i64 b)] :: l.map ri) ([.lit (.int .i64 a)] :: [.lit (.int .i64 b)] :: l.map ri) = true:=zyb (a :: b :: l)
theorem n21 (n : Nat) : n + 2 + 1 = n + 3:=rfl
theorem zuz (a b : zbw) (c : a.1.length + b.1.length ≤ 4294967296) : call T 82 [fF a.1 a.2,fF b.1 b.2] [] = some (fF (zpD a b).1 (zpD a b).2,[]):=by
 rw [zwv a.1 b.1 a.2 b.2 c,zpD];split <;> rfl
theorem zsM (a b : zbw) (c : a.1.length + b.1.length ≤ 4294967296) : call T 81 [fF a.1 a.2,fF b.1 b.2] [] = some (fF (zmq a b).1 (zmq a b).2,[]):=by
 rw [zu7 a.1 b.1 a.2 b.2 c,zmq];split <;> rfl
theorem zju (a : zbw) (n : Int) (b : a.1.length ≤ 4294967296) : call T 83 [fF a.1 a.2,zge n] [] = some (fF (zhO a n).1 (zhO a n).2,[]):=by
 rw [zvx a.1 a.2 n b,zhO];split <;> rfl
set_option maxHeartbeats 2000000 in
theorem zvP (ops : zmn) (n : Nat) (hC : zB2 ops n) (σ : zb) (x m1 m2 : Nat) (M M' : zpf) (v : Int) (f : Option zbw) (h : Finder σ x m1 m2 ops M) (hm : zqU (zh3 ops n) ops M v = some (f,M')) :
  call T 139 [.one (.ptr x 0 0 0),vI v] σ = some (.tup [vFm (f.getD zqr),vB f.isSome],σ.set m2 (.mp (zdj vFm M'))):=by
 rw [zd (fn:=zg) rfl];have N:=fun r => zcR h.hx r;have go:=fun r => zcR h.ho r;have O:=fun j => zex h.hx j;have B:=h.hx;have z:=h.ho;have w:=zdT h.hx;have ok:=fun k => Ok.up h.ok k;have C:=Ok.at h.ok;have Q:=zpu h.hf;unfold zqU at hm
 cases e : getM v ops with
 | none =>
   rw [e] at hm;simp only [Option.some.injEq,Prod.mk.injEq] at hm;obtain ⟨rfl,rfl⟩:=hm;have A:=zvK v ops;rw [e] at A;simp -implicitDefEqProofs only [go_sem] at A;simp -implicitDefEqProofs only [go_sem,zg,N,go,O,B,z,w,ok,C,Q,A,vFm,fF,zM,ya,yi]
 | some o =>
   rw [e] at hm;have A:=zvK v ops;rw [e] at A;simp -implicitDefEqProofs only [go_sem] at A
   by_cases c1 : o.bits = 64
   ·by_cases c2 : o.lanes = 1
    ·by_cases c3 : o.kind = 0
     ·simp only [c1,c2,c3,ne_eq,not_true_eq_false,or_self,if_false,if_true,Option.some.injEq,Prod.mk.injEq] at hm
      obtain ⟨rfl,rfl⟩:=hm;simp -implicitDefEqProofs only [go_sem,zg,N,go,O,B,z,w,ok,C,Q,A,c1,c2,c3,vFm,fF,zM,yc,yo]
     ·by_cases c4 : o.kind < 1
      ·simp only [c1,c2,c3,c4,true_or,ne_eq,not_true_eq_false,or_self,if_false,if_true,Option.some.injEq,Prod.mk.injEq] at hm
       obtain ⟨rfl,rfl⟩:=hm;simp -implicitDefEqProofs only [go_sem,zg,N,go,O,B,z,w,ok,C,Q,A,c1,c2,c3,c4,vFm,fF,zM,ya,yi]
      ·by_cases c5 : 8 < o.kind
       ·simp only [c1,c2,c3,c4,c5,or_true,ne_eq,not_true_eq_false,or_self,if_false,if_true,Option.some.injEq,Prod.mk.injEq] at hm
        obtain ⟨rfl,rfl⟩:=hm;simp -implicitDefEqProofs only [go_sem,zg,N,go,O,B,z,w,ok,C,Q,A,c1,c2,c3,c4,c5,vFm,fF,zM,ya,yi]
       ·simp only [c1,c2,c3,c4,c5,ne_eq,not_true_eq_false,or_self,if_false] at hm
        obtain ⟨d,aD,V,K,args,L⟩:=o;simp only at c1 c2 c3 c4 c5 hm A;subst c1;subst c2
        match args,hm,A with
        | [],hm,_ => simp at hm
        | [_],hm,_ => simp at hm
        | a :: b :: rest,hm,A =>
        simp only [Option.bind_eq_some_iff] at hm;obtain ⟨⟨i,M1⟩,f1,⟨g,M2⟩,f2,hm⟩:=hm;simp only at f2 hm;split at hm
        case isFalse => simp at hm
        rename_i t;simp only [Option.some.injEq,Prod.mk.injEq] at hm;obtain ⟨rfl,rfl⟩:=hm;have r1:=h.app [Ob.cells 0 2 [[.f (.sl []),.f (.lit (.int .u64 0))]],.cells 0 6 [cOp ⟨d,64,1,K,a :: b :: rest,L⟩]] (by simp -implicitDefEqProofs only [go_sem]);have g1:=hC _ x m1 m2 _ _ a i r1 f1;rw [zp4 h.hf] at g1;have S:=h.put M1;have r2:=S.app [Ob.cells 0 2 [[.f (.sl []),.f (.lit (.int .u64 0))]],.cells 0 6 [cOp ⟨d,64,1,K,a :: b :: rest,L⟩]] (by simp -implicitDefEqProofs only [go_sem]);have W:=hC _ x m1 m2 _ _ b g r2 f2;rw [zp4 S.hf] at W;have h2:=S.put M2;rw [yv] at W h2;have D : (σ.set m2 (.mp (zdj vFm M1))).length = σ.length:=yk;have l : (σ.set m2 (.mp (zdj vFm M2))).length = σ.length:=yk;generalize σ.set m2 (.mp (zdj vFm M1)) = σ1 at *;generalize σ.set m2 (.mp (zdj vFm M2)) = σ2 at *;have Z:=fun (o : Ob) r => zjH D o r;have aF:=fun (o p : Ob) r => zj2 D o p r;have aA:=fun (o : Ob) r => zjH l o r;have aB:=fun (o p : Ob) r => zj2 l o p r;have X:=fun (o p q : Ob) r => zmV l o p q r;have aG:=fun (o p q s : Ob) r => zmX l o p q s r;have Y:=fun (x o : Ob) r => zmG l x o r;have aE:=fun (x o p : Ob) r => zml l x o p r;have aC:=fun (x o p q : Ob) r => zq8 l x o p q r;have aH:=fun (x o p q s : Ob) r => zrv l x o p q s r;have tb:=fun (r : zb) => zkR l r;have U:=fun k => Ok.up h2.ok k;have J:=Ok.at h2.ok;have R:=fun k => Ok.up S.ok k;have I:=Ok.at S.ok;simp only [D,l] at U J R I;simp -implicitDefEqProofs only [go_sem,vFm,fF,ri] at g1 W
        have ep : ∀ a b : zbw,zpD a b = if zD 0 a.1 = true ∧ zD 0 b.1 = true then (zcE pl a.1 b.1,pl a.2 b.2) else zqr:=fun _ _ => rfl
        have lA : i.1.length ≤ 4294967296:=(by omega);have lB : g.1.length ≤ 4294967296:=by omega
        have vP : ∀ (c : Prop) [Decidable c] (x y : zbw),(if c then x else y).1 = if c then x.1 else y.1:=fun c _ x y => by split <;> rfl
        have H:=yb N <| yb go <| yb O <| yb B <| yb z <| yb w <| yb ok <| yb C <| yb A <| yb D <| yb l <| yb g1 <| yb W <| yb Z <| yb aF <| yb aA <| yb aB <| yb X <| yb aG <| yb Y <| yb aE <| yb aC <| yb aH <| yb tb <| yb R <| yb U <| yb I J
        by_cases d1 : d = 1
        ·subst d1
         have u : tell 1 i g = some (zpD i g):=(by simp [tell]);have p1:=zuz i g t.1;simp -implicitDefEqProofs only [go_sem,fF] at p1;simp -implicitDefEqProofs only [go_sem,zg,H,vFm,fF,ri,zad,zM,u,zbY,n21,yc,ya,p1]
        by_cases d2 : d = 2
        ·subst d2
         have u : tell 2 i g = some (zmq i g):=(by simp [tell]);have p1:=zsM i g t.1;simp -implicitDefEqProofs only [go_sem,fF] at p1;simp -implicitDefEqProofs only [go_sem,zg,H,vFm,fF,ri,zad,zM,u,zbY,n21,yc,ya,p1]
        by_cases d3 : d = 3
        ·subst d3
         by_cases E : (g.1.length : Int) = 0
         ·have m : g.1 = []:=yg (by omega)
          have u : tell 3 i g = some (zhO i g.2):=(by simp [tell,m]);have p1:=zju i g.2 lA;simp -implicitDefEqProofs only [go_sem,fF] at p1;simp -implicitDefEqProofs only [go_sem,zg,H,vFm,fF,ri,zad,zM,u,zbY,n21,yc,ya,p1,E]
         ·have m : ¬ g.1 = []:=fun h => E (by rw [h]; rfl)
          by_cases G : (i.1.length : Int) = 0
          ·have P : i.1 = []:=yg (by omega)
           have u : tell 3 i g = some (zhO g i.2):=(by simp [tell,m,P]);have p1:=zju g i.2 lB;simp -implicitDefEqProofs only [go_sem,fF] at p1;simp -implicitDefEqProofs only [go_sem,zg,H,vFm,fF,ri,zad,zM,u,zbY,n21,yc,ya,p1,E,G,eq_true t.2]
          ·have P : ¬ i.1 = []:=fun h => G (by rw [h]; rfl)
           have u : tell 3 i g = none:=(by simp [tell,m,P]);simp -implicitDefEqProofs only [go_sem,zg,H,vFm,fF,ri,zad,zM,u,zbY,n21,yc,ya,E,G]
        by_cases d4 : d = 8
        ·subst d4
         by_cases E : (g.1.length : Int) = 0
         ·have m : g.1 = []:=yg (by omega)
          by_cases G : g.2 < 64
          ·have u : tell 8 i g = some (zhO i (IntKind.u64.wrap (1 * 2 ^ min g.2.toNat 64))):=by simp [tell,m,G]
           have p1:=zju i (IntKind.u64.wrap (1 * 2 ^ min g.2.toNat 64)) lA;simp -implicitDefEqProofs only [go_sem,fF] at p1;simp -implicitDefEqProofs only [go_sem,zg,H,vFm,fF,ri,zad,zM,u,zbY,n21,yc,ya,p1,E,G,eq_true t.2]
          ·have u : tell 8 i g = none:=by simp [tell,m,G]
           simp -implicitDefEqProofs only [go_sem,zg,H,vFm,fF,ri,zad,zM,u,zbY,n21,yc,ya,E,G]
         ·have m : ¬ g.1 = []:=fun h => E (by rw [h]; rfl)
          have u : tell 8 i g = none:=(by simp [tell,m]);simp -implicitDefEqProofs only [go_sem,zg,H,vFm,fF,ri,zad,zM,u,zbY,n21,yc,ya,E]
        have u : tell d i g = none:=(by simp [tell,d1,d2,d3,d4]);simp -implicitDefEqProofs only [go_sem,zg,H,vFm,fF,ri,zad,zM,u,zbY,n21,yc,ya,c3,c4,c5,d1,d2,d3,d4]
    ·simp only [c1,c2,not_false_eq_true,or_true,if_true,ne_eq,Option.some.injEq,Prod.mk.injEq] at hm
     obtain ⟨rfl,rfl⟩:=hm;simp -implicitDefEqProofs only [go_sem,zg,N,go,O,B,z,w,ok,C,Q,A,c1,c2,vFm,fF,zM,ya,yi]
   ·simp only [c1,not_false_eq_true,true_or,if_true,ne_eq,Option.some.injEq,Prod.mk.injEq] at hm
    obtain ⟨rfl,rfl⟩:=hm;simp -implicitDefEqProofs only [go_sem,zg,N,go,O,B,z,w,ok,C,Q,A,c1,vFm,fF,zM,ya,yi]
theorem zxB (ops : zmn) : ∀ n : Nat,zB2 ops n:=by
 intro n
 induction n with
 | zero => intro σ x m1 m2 M M' v f _ h; simp [zh3] at h
 | succ n ih =>
   intro σ x m1 m2 M M' v f h hf;rw [zd (fn:=zag) rfl];have gx:=fun r => zcR h.hx r;have gf:=fun r => zcR h.hf r;have Z:=fun j => zex h.hx j;have lf:=fun j => zex h.hf j;have B:=h.hx;have m:=h.hf;have w:=zdT h.hx;have l:=zdT h.hf;have ok:=fun k => Ok.up h.ok k;have C:=Ok.at h.ok;have i:=zAz v M;simp only [zh3] at hf
   cases e : getM v M with
   | some f0 =>
     rw [e] at hf i;simp only [Option.some.injEq,Prod.mk.injEq] at hf;obtain ⟨rfl,rfl⟩:=hf;have hs:=zpu h.hf;simp -implicitDefEqProofs only [go_sem,vFm,fF] at i hs;simp -implicitDefEqProofs only [go_sem,zag,gx,gf,Z,lf,B,m,w,l,ok,C,hs,i,vFm,fF,zM]
   | none =>
     rw [e] at hf i;simp only [Option.map_eq_some_iff] at hf;obtain ⟨⟨r,z⟩,hm,hf⟩:=hf;simp only [Prod.mk.injEq] at hf;obtain ⟨rfl,rfl⟩:=hf;have r1:=h.app [Ob.cells 0 2 [[.f (.sl []),.f (.lit (.int .u64 0))]],.cells 0 2 [[.f (.sl []),.f (.lit (.int .u64 0))]],.cells 0 2 [[.f (.sl (rows [(v,1)])),.f (.lit (.int .u64 0))]]] (by simp -implicitDefEqProofs only [go_sem]);have V:=zvP ops n ih _ x m1 m2 M z v r r1 hm;rw [zp4 h.hf] at V;have O:=h.put z;have a : (σ.set m2 (.mp (zdj vFm z))).length = σ.length:=yk;have g : ∀ Y,(σ.set m2 (.mp (zdj vFm z))).set m2 Y = σ.set m2 Y:=fun Y => yv _;have fx:=fun r => zcR O.hx r;have ff:=fun r => zcR O.hf r;have W:=O.hx;have P:=O.hf;have u:=fun k => Ok.up O.ok k;have b:=Ok.at O.ok;have y:=fun Y r => zp4 O.hf Y r;have h2:=h.put (zfV v (zj9 v r) z);have t:=fun k => Ok.up h2.ok k;have d:=Ok.at h2.ok;have hu : (σ.set m2 (.mp (zdj vFm (zfV v (zj9 v r) z)))).length = σ.length:=yk;have A:=zkc vFm v (zj9 v r) z;simp only [a,hu] at u b t d;generalize hσ1 : σ.set m2 (.mp (zdj vFm z)) = σ1 at *;simp only [g] at y;generalize hσ2 : σ.set m2 (.mp (zdj vFm (zfV v (zj9 v r) z))) = σ2 at *;have J:=fun (o : Ob) r => zjH a o r;have I:=fun (o p : Ob) r => zj2 a o p r;have N:=fun (o p q : Ob) r => zmV a o p q r;have R:=fun (o p q s : Ob) r => zmX a o p q s r;have X:=fun (x o : Ob) r => zmG a x o r;have U:=fun (x o p : Ob) r => zml a x o p r;have D:=fun (x o p q : Ob) r => zq8 a x o p q r;have Q:=fun (x o p q s : Ob) r => zrv a x o p q s r;have ta:=fun (r : zb) => zkR a r;have K:=fun (o : Ob) r => zjH hu o r;have L:=fun (o p : Ob) r => zj2 hu o p r;have E:=fun (o p q : Ob) r => zmV hu o p q r;have S:=fun (o p q s : Ob) r => zmX hu o p q s r;have H:=fun (x o : Ob) r => zmG hu x o r;have G:=fun (x o p : Ob) r => zml hu x o p r;have tb:=fun (r : zb) => zkR hu r;have aA : ∀ j,(x < σ.length + j) = True:=Z;have aB : ∀ j,(m2 < σ.length + j) = True:=lf
     cases r with
     | none =>
       simp only [zj9] at A hσ2 ⊢;simp -implicitDefEqProofs only [go_sem,vFm,fF,rows,row,ya,yi] at V i A hσ2;simp -implicitDefEqProofs only [go_sem,zag,gx,gf,Z,lf,B,m,w,l,ok,C,i,V,a,hu,g,fx,ff,W,P,u,b,t,d,y,A,hσ2,J,I,N,R,X,U,D,Q,ta,K,L,E,S,H,G,tb,vFm,fF,rows,row]
     | some f =>
       by_cases c : 16 < f.1.length
       ·have c' : (16 : Int) < (f.1.length : Int):=by omega
        simp only [zj9,if_pos c] at A hσ2 ⊢;simp -implicitDefEqProofs only [go_sem,vFm,fF,rows,row,yc,yo] at V i A hσ2;simp -implicitDefEqProofs only [go_sem,zag,gx,gf,Z,lf,B,m,w,l,ok,C,i,V,a,hu,g,fx,ff,W,P,u,b,t,d,y,A,hσ2,J,I,N,R,X,U,D,Q,ta,K,L,E,S,H,G,tb,vFm,fF,rows,row,yh,c']
       ·have c' : ¬ (16 : Int) < (f.1.length : Int):=by omega
        simp only [zj9,if_neg c] at A hσ2 ⊢;simp -implicitDefEqProofs only [go_sem,vFm,fF,rows,row,yc,yo] at V i A hσ2;simp -implicitDefEqProofs only [go_sem,zag,gx,gf,Z,lf,B,m,w,l,ok,C,i,V,a,hu,g,fx,ff,W,P,u,b,t,d,y,A,hσ2,J,I,N,R,X,U,D,Q,ta,K,L,E,S,H,G,tb,vFm,fF,rows,row,yh,c']
def zh0 : zmn → List POp → zmn
 | D,[] => D
 | D,o :: r => zh0 (zfV o.dst o D) r
def opsOf : zmn → List PBlock → zmn
 | D,[] => D
 | D,b :: r => opsOf (zh0 D b.ops) r
theorem zo5 (n : Nat) (D : zmn) : C.ltm n (zdj vOp D) = true:=zmZ vOp n (fun a => by simp [vOp,cOp,V.lt,C.lts,C.lt]) D
theorem zjE (n : Nat) (D : SMap) : C.ltm n (zdj vSh D) = true:=zmZ vSh n (fun a => by simp [vSh,V.lt,C.lts,C.lt]) D
theorem zwV (k : Int) (D : SMap) : zes k (zdj vSh D) = (getM k D).map vSh:=zjG vSh k D
theorem zAH (k : Int) (o : POp) (D : zmn) : zdW k (V.agg [.f (.lit (.int .i64 o.kind)),.f (.lit (.int .i64 o.bits)),.f (.lit (.int .i64 o.lanes)),.f (.lit (.int .i64 o.dst)),.f (.sl (o.args.map ri)),.f (.lit (.int .u64 o.imm))]) (zdj vOp D) = zdj vOp (zfV k o D):=zkc vOp k o D
abbrev zu0 (f : PFunc) (tree : List Int) (s : Int × Int) (D : zmn) (r : zb) : zb:=O0 f :: .cells 0 2 [[.f (.sl []),.f (.lit (.int .u64 0))]] :: O0 f :: O0 f ::
 .cells 0 8 [[.f (.sl (f.params.map ri)),.f (.lit (.int .i64 f.ret)),.f (.sl (f.blocks.map rb)),.f (.lit (.int .i64 2)),.f (.sl ((zA f).map rl)),.f (.sl ((zah (zA f)).map rl)),.f (.sl (tree.map ri)),.map 7]] ::
 .cells 0 1 [[.fn 159 [.ptr 4 0 0 0] []],[.fn 160 [.ptr 4 0 0 0] []],[.fn 161 [.ptr 4 0 0 0] []],[.fn 162 [.ptr 4 0 0 0] []],[.fn 163 [.ptr 4 0 0 0] []]] ::
 .cells 0 1 [[.ptr 4 0 0 0]] :: .mp (zdj zd2 (zgh f).1) :: .mp (zdj vSh (zdU f)) :: .cells 0 2 [[.f (.lit (.int .i64 s.1)),.f (.lit (.int .i64 s.2))]] ::
 .mp (zdj vOp D) :: .mp [] :: .cells 0 2 [[.map 10,.map 11]] :: r
section
variable (f : PFunc) (hf : okF f) (tree : List Int) (s : Int × Int) (v : Int)
include hf
theorem zC8 (b : PBlock) (j : okB b) (h : Nat) : ∀ (d k : Nat) (D : zmn) (a0 a2 a4 a5 a6 a8 a9 e a c : V),b.ops.length - k = d → k ≤ b.ops.length →
  exec T zfu ⟨[a0,vI v,a2,.one (.ptr 1 0 0 0),a4,a5,a6,.one (.ptr 12 0 0 0),a8,a9,e,vL (f.blocks.map rb),vI f.blocks.length,vI h,a,vL (b.ops.map ro),vI b.ops.length,vI k,c],zu0 f tree s D [.cells 0 5 [zK b]],0,0⟩ =
   some (.exit 2,⟨[vU,vI v,vU,.one (.ptr 1 0 0 0),vU,vU,vU,.one (.ptr 12 0 0 0),vU,vU,vU,vL (f.blocks.map rb),vI f.blocks.length,vI h,vU,vU,vU,vU,vU],zu0 f tree s (zh0 D (b.ops.drop k)) [.cells 0 5 [zK b]],0,0⟩):=by
 intro d
 induction d with
 | zero =>
   intro k D a0 a2 a4 a5 a6 a8 a9 e a c l i;have g : k = b.ops.length:=(by omega);subst g;rw [xl zfu rfl,zhf];simp -implicitDefEqProofs only [go_sem,zu0,ym,yp,zh0,zt,zo5,zjE]
 | succ d ih =>
   intro k D a0 a2 a4 a5 a6 a8 a9 e a c l i;have g : k < b.ops.length:=(by omega);have hd : b.ops.drop k = b.ops[k] :: b.ops.drop (k + 1):=ye g;have m:=zAH b.ops[k].dst b.ops[k] D;have:=ih (k + 1) (zfV b.ops[k].dst b.ops[k] D) vU vU vU vU vU vU vU vU vU vU (by omega) (by omega);rw [xl zfu rfl,zhf,hd,zh0];simp -implicitDefEqProofs only [go_sem,zu0] at this;simp -implicitDefEqProofs only [go_sem,zu0,ilt g,z6 g,ro,m,zt,zo5,zjE,zf g j.ops,this]
theorem zDH : ∀ (d k : Nat) (D : zmn) (a0 a2 a4 a5 a6 a8 a9 c a g h e b : V),f.blocks.length - k = d → k ≤ f.blocks.length →
  exec T zfm ⟨[a0,vI v,a2,.one (.ptr 1 0 0 0),a4,a5,a6,.one (.ptr 12 0 0 0),a8,a9,c,vL (f.blocks.map rb),vI f.blocks.length,vI k,a,g,h,e,b],zu0 f tree s D [],0,0⟩ =
   some (.exit 0,⟨[vU,vI v,vU,.one (.ptr 1 0 0 0),vU,vU,vU,.one (.ptr 12 0 0 0),vU,vU,vU,vU,vU,vU,vU,vU,vU,vU,vU],zu0 f tree s (opsOf D (f.blocks.drop k)) [],0,0⟩):=by
 intro d
 induction d with
 | zero =>
   intro k D a0 a2 a4 a5 a6 a8 a9 c a g h e b m j;have i : k = f.blocks.length:=(by omega);subst i;rw [xl zfm rfl,zh4];simp -implicitDefEqProofs only [go_sem,zu0,ym,yp,opsOf,zt,zo5,zjE]
 | succ d ih =>
   intro k D a0 a2 a4 a5 a6 a8 a9 c a g h e b m j;have i : k < f.blocks.length:=(by omega);have hd : f.blocks.drop k = f.blocks[k] :: f.blocks.drop (k + 1):=ye i;have l:=hf.block _ (yr i);have q:=fun a0 a2 a4 a5 a6 a8 a9 c a b => zC8 f hf tree s v f.blocks[k] l k f.blocks[k].ops.length 0 D a0 a2 a4 a5 a6 a8 a9 c a b (by omega) (by omega);simp only [yq,yn] at q;have:=ih (k + 1) (zh0 D f.blocks[k].ops) vU vU vU vU vU vU vU vU vU vU vU vU vU (by omega) (by omega);rw [xl zfm rfl,zh4,hd,opsOf];simp -implicitDefEqProofs only [go_sem,zu0] at this q;simp -implicitDefEqProofs only [go_sem,zu0,ilt i,z6 i,rb,q,zt,zo5,zjE,zf i hf.blocks,this]
omit hf in
theorem zxH (D : zmn) : Finder (zu0 f tree s D []) 12 10 11 D []:=by
 refine ⟨rfl,rfl,rfl,?_,by decide,by decide⟩;unfold Ok;simp -implicitDefEqProofs only [go_sem,zu0,zt,zo5,zjE]
end
theorem zsH (f : PFunc) (hf : okF f) (tree : List Int) (i : ziN f tree) (g : zfg f 2 tree = 0) (v : Int) (d : getM v (zdU f) ≠ some (64,1)) :
  call T 33 [zbS f,vI v] [] = some (.tup [vFm zqr,vI 10],[]):=by
 rw [zd (fn:=zc3) rfl];have b:=zqp f hf tree i g;have a:=zwV v (zdU f);simp -implicitDefEqProofs only [go_sem,zCT] at b
 cases e : getM v (zdU f) with
 | none =>
   rw [e] at a;simp -implicitDefEqProofs only [go_sem] at a;simp -implicitDefEqProofs only [go_sem,zc3,b,a,zhz,zl3,zt,zjE,vFm,fF,zM]
 | some p =>
   rw [e] at a d;have c : ¬ (p.1 = 64 ∧ p.2 = 1):=fun h => d (by rw [← h.1,← h.2]);simp -implicitDefEqProofs only [go_sem,vSh] at a
   by_cases c1 : p.1 = 64
   ·have c2 : ¬ p.2 = 1:=fun c2 => c ⟨c1,c2⟩
    simp -implicitDefEqProofs only [go_sem,zc3,b,a,c1,c2,zhz,zl3,zt,zjE,vFm,fF,zM]
   ·simp -implicitDefEqProofs only [go_sem,zc3,b,a,c1,zhz,zl3,zt,zjE,vFm,fF,zM]
theorem zx9 (f : PFunc) (hf : okF f) (tree : List Int) (o : ziN f tree) (l : zfg f 2 tree = 0) (v : Int) (m : getM v (zdU f) = some (64,1)) (n : Nat) (r : zbw) (i : zpf) (p : zh3 (opsOf [] f.blocks) n [] v = some (r,i)) :
  call T 33 [zbS f,vI v] [] = some (.tup [vFm r,vI 0],[]):=by
 rw [zd (fn:=zc3) rfl];have j:=zqp f hf tree o l;have c:=zwV v (zdU f);rw [m] at c;have q:=fun a0 a2 a4 a5 a6 a8 a9 h a e g b d => zDH f hf tree (64,1) v f.blocks.length 0 [] a0 a2 a4 a5 a6 a8 a9 h a e g b d (by omega) (by omega);have k:=zxB (opsOf [] f.blocks) n _ 12 10 11 [] i v r (zxH f tree (64,1) (opsOf [] f.blocks)) p;have he : zdj vOp [] = []:=rfl;simp only [yq,yn,he] at q;simp -implicitDefEqProofs only [go_sem,zCT] at j;simp -implicitDefEqProofs only [go_sem,vSh] at c;simp -implicitDefEqProofs only [go_sem,zu0,he,vFm,fF,List.set_cons_succ,List.set_cons_zero] at q k;simp -implicitDefEqProofs only [go_sem,zc3,j,c,q,k,zhz,zl3,zt,zjE,zo5,vFm,fF,zM]
theorem zvb (a us : List (Int × Int)) (n : a.length = us.length) (j : a.length ≤ 9223372036854775807) : ∀ (d k : Nat) (b2 b3 b4 b7 b8 : V),a.length - k = d → k ≤ a.length →
  (a.drop k = us.drop k → exec T zaG ⟨[vL (rows a),vL (rows us),b2,b3,b4,vI a.length,vI k,b7,b8],[],0,0⟩ = some (.exit 0,⟨[vU,vU,vU,vU,vU,vU,vU,vU,vU],[],0,0⟩)) ∧
  (a.drop k ≠ us.drop k → exec T zaG ⟨[vL (rows a),vL (rows us),b2,b3,b4,vI a.length,vI k,b7,b8],[],0,0⟩ = some (.ret,⟨[vU,vU,vB false,vU,vU,vU,vU,vU,vU],[],0,0⟩)):=by
 intro d
 induction d with
 | zero =>
   intro k b2 b3 b4 b7 b8 m l;have b : k = a.length:=(by omega);subst b;have e : us.drop a.length = []:=(by simp [n]);have o : a.drop a.length = []:=(by simp);refine ⟨fun _ => ?_,fun h => absurd (o.trans e.symm) h⟩;rw [xl zaG rfl,zcO];simp -implicitDefEqProofs only [go_sem,ym]
 | succ d ih =>
   intro k b2 b3 b4 b7 b8 m l;have b : k < a.length:=(by omega);have c : k < us.length:=(by omega);have hd : a.drop k = a[k] :: a.drop (k + 1):=ye b;have g : us.drop k = us[k] :: us.drop (k + 1):=ye c;have f : (k : Int) < (a.length : Int):=(by omega);rw [xl zaG rfl,zcO,hd,g];obtain ⟨m,l⟩:=ih (k + 1) (vB false) vU vU vU vU (by omega) (by omega);have i : (a[k] = us[k]) ↔ (a[k].1 = us[k].1 ∧ a[k].2 = us[k].2):=Prod.ext_iff
   by_cases c1 : a[k].1 = us[k].1
   ·by_cases c2 : a[k].2 = us[k].2
    ·simp -implicitDefEqProofs only [go_sem,f,zr0 b,zr0 c,row,zfk b j,List.cons.injEq,i,ne_eq,c1,c2,and_self,true_and]
     exact ih (k + 1) _ _ _ _ _ (by omega) (by omega)
    ·simp -implicitDefEqProofs only [go_sem,f,zr0 b,zr0 c,row,zfk b j,List.cons.injEq,i,ne_eq,c1,c2,and_false,false_and,not_false_eq_true,true_implies,false_implies]
   ·simp -implicitDefEqProofs only [go_sem,f,zr0 b,zr0 c,row,zfk b j,List.cons.injEq,i,ne_eq,c1,false_and,not_false_eq_true,true_implies,false_implies]
theorem zil (a us : List (Int × Int)) (f : a.length ≤ 9223372036854775807) : call T 133 [vL (rows a),vL (rows us)] [] = some (vB (decide (a = us)),[]):=by
 rw [zd (fn:=zaW) rfl]
 by_cases d : a.length = us.length
 ·have h:=zvb a us d f a.length 0
  have e : (us.length : Int) = a.length:=by omega
  by_cases he : a = us
  ·subst he
   have b:=fun b2 b3 b4 b7 b8 => (h b2 b3 b4 b7 b8 (by omega) (by omega)).1 rfl;simp -implicitDefEqProofs only [go_sem] at b;simp -implicitDefEqProofs only [go_sem,zaW,b,zad]
  ·have b:=fun b2 b3 b4 b7 b8 => (h b2 b3 b4 b7 b8 (by omega) (by omega)).2 (by simpa using he)
   simp -implicitDefEqProofs only [go_sem] at b;simp -implicitDefEqProofs only [go_sem,zaW,b,he,zad,e]
 ·have he : ¬ a = us:=fun h => d (by rw [h])
  have c : ¬ (a.length : Int) = (us.length : Int):=by omega
  simp -implicitDefEqProofs only [go_sem,zaW,c,he,zad]
def zdn (k : Int) : Int:=if k = 16 ∨ k = 17 then 0 else if k = 18 ∨ k = 19 then 1 else -1
theorem zel (k : Int) : call T 97 [vI k] [] = some (vI (zdn k),[]):=by
 rw [zd (fn:=zb2) rfl]
 by_cases c1 : k = 16
 ·simp -implicitDefEqProofs only [go_sem,zb2,zdn,c1]
 by_cases c2 : k = 17
 ·simp -implicitDefEqProofs only [go_sem,zb2,zdn,c1,c2]
 by_cases c3 : k = 18
 ·simp -implicitDefEqProofs only [go_sem,zb2,zdn,c1,c2,c3]
 by_cases c4 : k = 19
 ·simp -implicitDefEqProofs only [go_sem,zb2,zdn,c1,c2,c3,c4]
 simp -implicitDefEqProofs only [go_sem,zb2,zdn,c1,c2,c3,c4]
section
variable {f : PFunc} {tree : List Int} (R : RightF f tree)
include R
theorem zgY (block : Nat) (c : block < f.blocks.length) : call T 88 [zbS f,vI block] [] = some (vB true,[]):=by
 rw [zd (fn:=zb0) rfl];have a:=zog f R.ok 2 tree R.isT;have b : ziO f 2 tree = 0:=by rw [ziO,if_neg (by omega)]; exact R.look
 rw [b] at a;have h1 : ((block : Int) < (f.blocks.length : Int)) = True:=by simp; omega
 simp -implicitDefEqProofs only [go_sem] at a;simp -implicitDefEqProofs only [go_sem,zb0,a,h1,Int.natCast_nonneg,yh]
end
theorem zj8 (b : PBlock) (at' : Nat) (o : POp) (h : b.ops[at']? = some o) (l : o.kind = 16 ∨ o.kind = 17) (k : o.lanes = 1) (v : Int) (r : List Int) (i : o.args = v :: r) (m : Int) (hm : o.bits = 8 * m) (n : 0 ≤ m) (h1 : m ≤ 1000) :
  call T 89 [zmx b,vI at'] [] = some (.tup [vI v,vI m,vB true],[]):=by
 rw [zd (fn:=zap) rfl];have e : at' < b.ops.length:=(yd.1 h).1;have he : b.ops[at'] = o:=(yd.1 h).2;have g:=zel o.kind;have d : zdn o.kind = 0:=by unfold zdn; rw [if_pos l]
 rw [d] at g;have hw : IntKind.i64.wrap (1 * (8 * m)) = 8 * m:=by rw [wrap_i64] <;> omega
 have a : IntKind.i64.wrap m = m:=by rw [wrap_i64] <;> omega
 have j : (8 * m).tdiv 8 = m:=by rw [Int.mul_tdiv_cancel_left _ (by decide)]
 have c : ((at' : Int) < 0) = False:=by simp
 have f : ((b.ops.length : Int) ≤ (at' : Int)) = False:=by simp; omega
 simp -implicitDefEqProofs only [go_sem] at g;simp -implicitDefEqProofs only [go_sem,zap,c,f,z6 e,he,ro,ri,g,k,hm,hw,a,j,i,yh,yu]
section
variable {f : PFunc} {tree : List Int} (R : RightF f tree)
include R
theorem zfv (block : Nat) (a : block < f.blocks.length) (at' : Nat) (o : POp) (h : f.blocks[block].ops[at']? = some o) (i : o.kind = 16 ∨ o.kind = 17) (e : o.lanes = 1) (v : Int) (r : List Int) (g : o.args = v :: r) (m : Int) (hm : o.bits = 8 * m) (d : 0 ≤ m) (h1 : m ≤ 1000) :
  call T 38 [zbS f,vI block,vI at'] [] = some (.tup [vI v,vI m,vB true],[]):=by
 rw [zd (fn:=zbG) rfl];have b:=zgY R block a;have c:=zj8 f.blocks[block] at' o h i e v r g m hm d h1;simp -implicitDefEqProofs only [go_sem] at b c;simp -implicitDefEqProofs only [go_sem,zbG,b,z6 a,rb,c]
omit R in
theorem zhh (d m n x : Int) (o : Ob) (r : zb) : call T 92 [zge d,zge m,zge n,.one (.ptr 1 0 0 0)] (o :: .cells 0 1 [[.f (eu x)]] :: r) = some (vB true,o :: .cells 0 1 [[.f (eu d)]] :: r):=by
 rw [zd (fn:=zdk) rfl];simp -implicitDefEqProofs only [go_sem,zdk]
omit R in
theorem ziM (d m n : Int) (σ : zb) : call T 96 [zge d,zge m,zge n] σ = some (vB (decide (d = m)),σ):=by
 rw [zd (fn:=zdZ) rfl];simp -implicitDefEqProofs only [go_sem,zdZ]
omit R in
theorem zli (d m n : Int) (σ : zb) : call T 95 [zge d,zge m,zge n] σ = some (vB (decide (m ≤ d) && decide (n ≤ IntKind.u64.wrap (0 - d))),σ):=by
 rw [zd (fn:=zdE) rfl]
 by_cases c : m ≤ d
 ·simp -implicitDefEqProofs only [go_sem,zdE,c]
 ·simp -implicitDefEqProofs only [go_sem,zdE,c]
structure TwoT (f : PFunc) (block : Int) (a b : Int) (va vb m n : Int) (ra rb' : zbw) : Prop where
 hA : call T 38 [zbS f,vI block,vI a] [] = some (.tup [vI va,vI m,vB true],[])
 hB : call T 38 [zbS f,vI block,vI b] [] = some (.tup [vI vb,vI n,vB true],[])
 oA : call T 33 [zbS f,vI va] [] = some (.tup [vFm ra,vI 0],[])
 oB : call T 33 [zbS f,vI vb] [] = some (.tup [vFm rb',vI 0],[])
 m0 : 0 ≤ m ∧ m ≤ 1000
 n0 : 0 ≤ n ∧ n ≤ 1000
 la : ra.1.length ≤ 1000
omit R in
theorem zqd {block a b va vb m n : Int} {ra rb' : zbw} (h : TwoT f block a b va vb m n ra rb') : call T 40 [zbS f,vI block,vI a,vI b] [] =
  some (.tup [zge (if ra.1 = rb'.1 then IntKind.u64.wrap (rb'.2 - ra.2) else 0),vB (decide (ra.1 = rb'.1))],[]):=by
 rw [zd (fn:=zb5) rfl];obtain ⟨hA,hB,oA,oB,m0,n0,la⟩:=h;have hE:=zil ra.1 rb'.1 (by omega);have w1 : IntKind.u64.wrap m = m:=wrap_u64 (by omega) (by omega);have w2 : IntKind.u64.wrap n = n:=wrap_u64 (by omega) (by omega);have h1:=fun r => zhh (IntKind.u64.wrap (rb'.2 - ra.2)) m n 0 (.cells 0 3 [zcN f]) r
 have hw : ∀ σ,σ = [Ob.cells 0 3 [zcN f],.cells 0 1 [[.f (eu 0)]]] → call T 91 [zbS f,vI block,vI a,vI b,.one (.fn 92 [] [.ptr 1 0 0 0])] σ =
   some (vB (decide (ra.1 = rb'.1)),[Ob.cells 0 3 [zcN f],.cells 0 1 [[.f (eu (if ra.1 = rb'.1 then IntKind.u64.wrap (rb'.2 - ra.2) else 0))]]]):=by
  rintro σ rfl;rw [zd (fn:=zE) rfl];simp -implicitDefEqProofs only [go_sem,vFm,fF] at hA hB oA oB hE h1
  by_cases c : ra.1 = rb'.1
  ·simp -implicitDefEqProofs only [go_sem,zE,hA,hB,oA,oB,hE,w1,w2,eq_true c,h1]
  ·simp -implicitDefEqProofs only [go_sem,zE,hA,hB,oA,oB,hE,w1,w2,c]
 have hw':=hw _ rfl;simp -implicitDefEqProofs only [go_sem] at hw';simp -implicitDefEqProofs only [go_sem,zb5,hw']
omit R in
theorem zqD {block a b va vb m n : Int} {ra rb' : zbw} (h : TwoT f block a b va vb m n ra rb') (g : Nat) (p : Int → Int → Int → Bool) (hg : ∀ d m n σ,call T g [zge d,zge m,zge n] σ = some (vB (p d m n),σ)) :
  call T 91 [zbS f,vI block,vI a,vI b,.one (.fn g [] [])] [.cells 0 3 [zcN f]] = some (vB (decide (ra.1 = rb'.1) && p (IntKind.u64.wrap (rb'.2 - ra.2)) m n),[.cells 0 3 [zcN f]]):=by
 rw [zd (fn:=zE) rfl];obtain ⟨hA,hB,oA,oB,m0,n0,la⟩:=h;have hE:=zil ra.1 rb'.1 (by omega);have w1 : IntKind.u64.wrap m = m:=wrap_u64 (by omega) (by omega);have w2 : IntKind.u64.wrap n = n:=wrap_u64 (by omega) (by omega);simp -implicitDefEqProofs only [go_sem,vFm,fF] at hA hB oA oB hE hg
 by_cases c : ra.1 = rb'.1
 ·simp -implicitDefEqProofs only [go_sem,zE,hA,hB,oA,oB,hE,w1,w2,eq_true c,hg]
 ·simp -implicitDefEqProofs only [go_sem,zE,hA,hB,oA,oB,hE,w1,w2,c]
omit R in
theorem zlE {block a b va vb m n : Int} {ra rb' : zbw} (h : TwoT f block a b va vb m n ra rb') : call T 44 [zbS f,vI block,vI a,vI b] [] =
  some (vB (decide (ra.1 = rb'.1) && decide (IntKind.u64.wrap (rb'.2 - ra.2) = m)),[]):=by
 rw [zd (fn:=zcG) rfl];have hw:=zqD h 96 (fun d m _ => decide (d = m)) ziM;simp -implicitDefEqProofs only [go_sem] at hw;simp -implicitDefEqProofs only [go_sem,zcG,hw]
omit R in
theorem zov {block a b va vb m n : Int} {ra rb' : zbw} (h : TwoT f block a b va vb m n ra rb') : call T 42 [zbS f,vI block,vI a,vI b] [] =
  some (vB (decide (ra.1 = rb'.1) && (decide (m ≤ IntKind.u64.wrap (rb'.2 - ra.2)) && decide (n ≤ IntKind.u64.wrap (0 - IntKind.u64.wrap (rb'.2 - ra.2))))),[]):=by
 rw [zd (fn:=zdp) rfl];have hw:=zqD h 95 (fun d m n => decide (m ≤ d) && decide (n ≤ IntKind.u64.wrap (0 - d))) zli;simp -implicitDefEqProofs only [go_sem] at hw;simp -implicitDefEqProofs only [go_sem,zdp,hw]
end
def zcI : Nat → List POp → List Int
 | _,[] => []
 | k,o :: r => if 0 ≤ zdn o.kind then (k : Int) :: zcI (k + 1) r else zcI (k + 1) r
theorem zB3 (l : List Int) (x : Int) : l.map ri ++ [[.lit (.int .i64 x)]] = (l ++ [x]).map ri:=by simp [ri]
theorem zvj (f : PFunc) (b : PBlock) (g : okB b) : ∀ (d k : Nat) (acc : List Int) a0 a1 a2 a3 a5 a6 a7 a11 a12,b.ops.length - k = d → k ≤ b.ops.length → acc.length ≤ k →
  exec T zc0 ⟨[a0,a1,a2,a3,.one (.ap 1 0 (acc.map ri)),a5,a6,a7,vL (b.ops.map ro),vI b.ops.length,vI k,a11,a12],[.cells 0 3 [zcN f],.tok 1 [acc.length]],0,0⟩ =
   some (.exit 0,⟨[vU,vU,vU,vU,.one (.ap 1 0 ((acc ++ zcI k (b.ops.drop k)).map ri)),vU,vU,vU,vU,vU,vU,vU,vU],[.cells 0 3 [zcN f],.tok 1 [(acc ++ zcI k (b.ops.drop k)).length]],0,0⟩):=by
 intro d
 induction d with
 | zero =>
   intro k acc a0 a1 a2 a3 a5 a6 a7 a11 a12 h1 i j;have a : k = b.ops.length:=(by omega);subst a;rw [xl zc0 rfl,zer];simp -implicitDefEqProofs only [go_sem,ym,yp,zcI,List.append_nil]
 | succ d ih =>
   intro k acc a0 a1 a2 a3 a5 a6 a7 a11 a12 h1 i j;have a : k < b.ops.length:=(by omega);have hd : b.ops.drop k = b.ops[k] :: b.ops.drop (k + 1):=ye a;have h:=zel b.ops[k].kind;have e : acc.length + 1 ≤ LIM:=(by have:=g.ops; unfold LIM; omega);rw [xl zc0 rfl,zer,hd,zcI];simp -implicitDefEqProofs only [go_sem] at h
   by_cases c : 0 ≤ zdn b.ops[k].kind
   ·have:=ih (k + 1) (acc ++ [(k : Int)]) vU vU vU vU vU vU vU vU vU (by omega) (by omega) (by simp; omega)
    rw [List.append_assoc,List.singleton_append,← zB3] at this;simp -implicitDefEqProofs only [go_sem] at this;simp -implicitDefEqProofs only [go_sem,ilt a,z6 a,ro,h,c,e,yh,zf a g.ops,this]
   ·have:=ih (k + 1) acc vU vU vU vU vU vU vU vU vU (by omega) (by omega) (by omega)
    simp -implicitDefEqProofs only [go_sem] at this;simp -implicitDefEqProofs only [go_sem,ilt a,z6 a,ro,h,c,e,yh,zf a g.ops,this]
theorem zrd {f : PFunc} {tree : List Int} (R : RightF f tree) (block : Nat) (b : block < f.blocks.length) : call T 45 [zbS f,vI block] [] = some (vIs (zcI 0 f.blocks[block].ops),[]):=by
 rw [zd (fn:=zeY) rfl];have d:=zgY R block b;have q:=fun a0 a1 a2 a3 a5 a6 a7 c a => zvj f f.blocks[block] (R.ok.block _ (yr b)) f.blocks[block].ops.length 0 [] a0 a1 a2 a3 a5 a6 a7 c a (by omega) (by omega) (by simp);simp only [yq,yn,List.map_nil,List.nil_append,List.length_nil] at q;simp -implicitDefEqProofs only [go_sem] at d q;simp -implicitDefEqProofs only [go_sem,zeY,d,z6 b,rb,q,yh]
set_option maxHeartbeats 8000000
section
variable (o : POp) (hs : zdl o.bits o.lanes = true) (ho : zzD o)
include hs
include ho
end
end AC
namespace AC
open Go Go.A Go.A.Lex
set_option maxHeartbeats 4000000
end AC
namespace AC
open Go Go.A Go.A.Lex
def rU (u : Use) : List Fz:=[ei u.v,ei u.block,ei u.at',ei u.shape.1,ei u.shape.2]
abbrev vUs (l : List Use) : V:=.one (.f (.sl (l.map rU)))
attribute [go_sem] vUs
def zy (v : Int) : Nat → List Use → Int
 | _,[] => -1
 | k,u :: r => if u.v = v then (k : Int) else zy v (k + 1) r
def zbN : Nat → List Int → List Use
 | _,[] => []
 | k,b :: r => ⟨(k : Int) + 1,(b,1),-1,0⟩ :: zbN (k + 1) r
def zgL (i : Int) (l : List PPhi) : List Use:=l.map fun p => ⟨p.dst,(p.bits,1),i,-1⟩
def zev (i : Int) : Nat → List POp → List Use
 | _,[] => []
 | k,o :: r => if 0 < (zN o).1 then ⟨o.dst,zN o,i,(k : Int)⟩ :: zev i (k + 1) r else zev i (k + 1) r
def zaz : Nat → List PBlock → List Use
 | _,[] => []
 | k,b :: r => zgL k b.phis ++ (zev k 0 b.ops ++ zaz (k + 1) r)
def zR (f : PFunc) : List Use:=zbN 0 f.params ++ zaz 0 f.blocks
section
variable (f : PFunc) (hf : okF f)
include hf
end
def ziR (u : Use) : Use:=⟨u.v,u.shape,u.block,if u.at' = 1048576 then 1000 else u.at'⟩
section
variable (f : PFunc) (hf : okF f) (hret : ¬ f.ret = 0)
include hf
include hret
end
def rbo (b : Bool) : List Fz:=[.lit (.bool b)]
abbrev vBs (l : List Bool) : V:=.one (.f (.sl (l.map rbo)))
attribute [go_sem] vBs
def mark (w : Int) (out : List Bool) (y : Int) : List Bool:=if y = w then out else out.set y.toNat true
theorem zm6 (w : Int) (out : List Bool) (y : Int) : (mark w out y).length = out.length:=by unfold mark; split <;> simp
theorem zhr (w : Int) : ∀ (l : List Int) (out : List Bool),(l.foldl (mark w) out).length = out.length
 | [],_ => rfl
 | y :: l,out => by rw [List.foldl_cons,zhr w l,zm6]
theorem zyd {w : Int} {out : List Bool} {y : Int} {i : Nat} (h : out.getD i false = true) : (mark w out y).getD i false = true:=by
 unfold mark;split
 ·exact h
 ·have b : i < out.length:=by
   rcases Nat.lt_or_ge i out.length with a | a
   ·exact a
   ·rw [yf,List.getElem?_eq_none a] at h
    cases h
  by_cases c : y.toNat = i
  ·rw [c,yf,List.getElem?_set_self b]
   rfl
  ·rw [yf,yl c,← yf]
   exact h
def zj5 (w : Int) : Nat → List (List Int) → List Bool → List Bool
 | _,[],out => out
 | i,l :: r,out => zj5 w (i + 1) r (if out.getD i false = true then l.foldl (mark w) out else out)
theorem zhJ (w : Int) : ∀ (r : List (List Int)) (i : Nat) (out : List Bool),(zj5 w i r out).length = out.length
 | [],_,_ => rfl
 | l :: r,i,out => by
   rw [zj5,zhJ w r];split
   ·exact zhr w l out
   ·rfl
def zea (w : Int) (succ : List (List Int)) : Nat → List Bool → List Bool
 | 0,out => out
 | r + 1,out => zea w succ r (zj5 w 0 succ out)
theorem zjF (w : Int) (succ : List (List Int)) : ∀ (r : Nat) (out : List Bool),(zea w succ r out).length = out.length
 | 0,_ => rfl
 | r + 1,out => by rw [zea,zjF w succ r,zhJ]
def zj0 (succ : List (List Int)) (root w : Int) : List Bool:=if root = w then ys succ.length false else zea w succ succ.length ((ys succ.length false).set root.toNat true)
section
variable (succ pred : List (List Int)) (hn : succ.length ≤ 4294967296) (hl : ∀ l ∈ succ,l.length ≤ 4294967296) (hr : ∀ l ∈ succ,∀ y ∈ l,0 ≤ y ∧ y < (succ.length : Int)) (w : Int)
include hn hl hr
end
end AC

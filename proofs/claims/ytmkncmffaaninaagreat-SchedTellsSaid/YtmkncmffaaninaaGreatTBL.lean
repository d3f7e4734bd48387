/- A part of the proof of SchedTells. Conditions: none. -/
import Derived.Test.YtmkncmffaaninaaGreatTAW
import Derived.Test.YtmkncmffaaninaaGreatTAO
import Derived.Sort.Grow
import Derived.Lib.SlicesCompact
import Derived.Shelf.SlIterI.Sorted
import Derived.Shelf.SortM.Plain
import Derived.Shelf.SortM.SortNone
import Derived.Ground.GgzProg
import Derived.Ground.SlgmProg
import Derived.Test.YtmkncmffaaninaaGreatProg
import Derived.Shelf.SlicesG.CompactI
set_option linter.all false
open List renaming length_map → ya,drop_eq_getElem_cons → yb,getElem?_eq_some_iff → yc,drop_length → yd,getElem?_eq_getElem → yh,getElem_mem → yi,drop_zero → ym,getElem?_map → yo,length_cons → yp,replicate → yq,map_cons → yu
open Array renaming getElem?_eq_some_iff → ye,getElem?_append_left → yg,getElem?_modify → yk
open Option renaming map_eq_some_iff → yf,bind_eq_some_iff → yj
open Int renaming lt_irrefl → yl,natCast_zero → yn
open Nat renaming zero_add → yr,add_zero → yt,mul_one → yv
namespace AC
open Go Go.A Go.A.Lex
noncomputable instance : DecidableEq POp:=fun _ _ => Classical.propDecidable _
noncomputable instance : DecidableEq PPhi:=fun _ _ => Classical.propDecidable _
noncomputable instance : DecidableEq PBlock:=fun _ _ => Classical.propDecidable _
noncomputable instance : DecidableEq PFunc:=fun _ _ => Classical.propDecidable _
theorem zui (a b : POp) (j : a.args.length ≤ 4294967296) : call T 63 [vOp a,vOp b] [] = some (vB (decide (a = b)),[]):=by
 rw [ze (fn:=zX) rfl];obtain ⟨k,bi,i,ds,ar,m⟩:=a;obtain ⟨l,e,g,f,d,c⟩:=b;have h:=zbx ar d j;simp -implicitDefEqProofs only [go_sem] at h
 by_cases c1 : k = l
 case neg => simp -implicitDefEqProofs only [go_sem,zX,c1,POp.mk.injEq,false_and]
 by_cases c2 : bi = e
 case neg => simp -implicitDefEqProofs only [go_sem,zX,c1,c2,POp.mk.injEq,false_and,and_false]
 by_cases c3 : i = g
 case neg => simp -implicitDefEqProofs only [go_sem,zX,c1,c2,c3,POp.mk.injEq,false_and,and_false]
 by_cases c4 : ds = f
 case neg => simp -implicitDefEqProofs only [go_sem,zX,c1,c2,c3,c4,POp.mk.injEq,false_and,and_false]
 by_cases c5 : m = c
 case neg => simp -implicitDefEqProofs only [go_sem,zX,c1,c2,c3,c4,c5,POp.mk.injEq,false_and,and_false]
 simp -implicitDefEqProofs only [go_sem,zX,c1,c2,c3,c4,c5,h,POp.mk.injEq]
section
variable (f g : PFunc) (i : Nat) (x y : PBlock) (hx : okB x)
abbrev zgq (f g : PFunc) (x y : PBlock) (o : zd) : zd:=.cells 0 3 [z6 f] :: .cells 0 3 [z6 g] :: .cells 0 5 [zg x] :: .cells 0 5 [zg y] :: o
include hx
theorem zEB (D : x.phis.length = y.phis.length) : ∀ (d k : Nat),x.phis.length - k = d → k ≤ x.phis.length → ∃ o : zd,∀ (a0 a1 a4 a9 q l p m h n e j b : V),
  exec T zaV ⟨[a0,a1,.one (.ptr 0 0 0 0),.one (.ptr 1 0 0 0),a4,vI i,.one (.ptr 2 0 0 0),.one (.ptr 3 0 0 0),vI k,a9,q,l,p,m,h,n,e,j,b],zgq f g x y [],0,0⟩ =
   some (if x.phis.drop k = y.phis.drop k then (.exit 2,⟨[vU,vU,.one (.ptr 0 0 0 0),.one (.ptr 1 0 0 0),vU,vI i,.one (.ptr 2 0 0 0),.one (.ptr 3 0 0 0),vU,vU,vU,vU,vU,vU,vU,vU,vU,vU,vU],zgq f g x y [],0,0⟩)
    else (.ret,⟨[vU,vU,vU,vU,vB false,vU,vU,vU,vU,vU,vU,vU,vU,vU,vU,vU,vU,vU,vU],zgq f g x y o,0,0⟩)):=by
 intro d
 induction d with
 | zero =>
   intro k H I;have a : k = x.phis.length:=(by omega);subst a;refine ⟨[],fun a0 a1 a4 a9 q l p m h n e j b => ?_⟩;rw [xl zaV rfl,zcM,yd,D,yd,← D];simp -implicitDefEqProofs only [go_sem,yl,ya]
 | succ d ih =>
   intro k H I;have a : k < x.phis.length:=(by omega);have t : k < y.phis.length:=(by omega);have C:=hx.phi _ (yi a);have i1:=zbx x.phis[k].src y.phis[k].src C.1;have i2:=zbx x.phis[k].args y.phis[k].args C.2;simp -implicitDefEqProofs only [go_sem] at i1 i2;simp only [yb a,yb t,List.cons.injEq];generalize hX : x.phis[k] = X at *;generalize hY : y.phis[k] = Y at *;have r : (x.phis.map rp)[k]? = some (rp X):=(by rw [zj a,hX]);have s : (y.phis.map rp)[k]? = some (rp Y):=(by rw [zj t,hY]);obtain ⟨A,v,xs,u⟩:=X;obtain ⟨w,z,ys,B⟩:=Y
   by_cases c : PPhi.mk A v xs u = PPhi.mk w z ys B
   ·obtain ⟨o,G⟩:=ih (k + 1) (by omega) (by omega)
    refine ⟨o,fun a0 a1 a4 a9 q l p m h n e j b => ?_⟩;have:=G vU vU vU vU vU vU vU vU vU vU vU vU vU;rw [xl zaV rfl,zcM];have E:=c;rw [PPhi.mk.injEq] at E;obtain ⟨e1,e2,e3,e4⟩:=E;subst e1 e2 e3 e4;simp -implicitDefEqProofs only [go_sem,rp] at this r s i1 i2;simp -implicitDefEqProofs only [go_sem,ilt a,r,s,rp,i1,i2,ya,za a hx.phis,this]
   ·refine ⟨[.cells 0 4 [zuh ⟨A,v,xs,u⟩],.cells 0 4 [zuh ⟨w,z,ys,B⟩]],fun a0 a1 a4 a9 q l p m h n e j b => ?_⟩
    rw [xl zaV rfl,zcM];simp -implicitDefEqProofs only [go_sem,rp] at r s i1 i2;simp only [eq_false c,false_and,if_false]
    by_cases c1 : A = w
    case neg => simp -implicitDefEqProofs only [go_sem,ilt a,r,s,rp,ya,c1]
    by_cases c2 : v = z
    case neg => simp -implicitDefEqProofs only [go_sem,ilt a,r,s,rp,ya,c1,c2]
    by_cases c3 : xs = ys
    case neg => simp -implicitDefEqProofs only [go_sem,ilt a,r,s,rp,ya,c1,c2,i1,c3]
    subst c3;simp -implicitDefEqProofs only [go_sem] at i1
    by_cases c4 : u = B
    case neg => simp -implicitDefEqProofs only [go_sem,ilt a,r,s,rp,ya,c1,c2,i1,i2,c4]
    exact absurd (by rw [c1,c2,c4]) c
theorem zE8 (q : x.ops.length = y.ops.length) : ∀ (d k : Nat) (a0 a1 a4 a8 a9 p o m h n e l b : V),x.ops.length - k = d → k ≤ x.ops.length →
  exec T zcQ ⟨[a0,a1,.one (.ptr 0 0 0 0),.one (.ptr 1 0 0 0),a4,vI i,.one (.ptr 2 0 0 0),.one (.ptr 3 0 0 0),a8,a9,p,vI k,o,m,h,n,e,l,b],zgq f g x y [],0,0⟩ =
   some (if x.ops.drop k = y.ops.drop k then (.exit 4,⟨[vU,vU,.one (.ptr 0 0 0 0),.one (.ptr 1 0 0 0),vU,vI i,vU,vU,vU,vU,vU,vU,vU,vU,vU,vU,vU,vU,vU],zgq f g x y [],0,0⟩)
    else (.ret,⟨[vU,vU,vU,vU,vB false,vU,vU,vU,vU,vU,vU,vU,vU,vU,vU,vU,vU,vU,vU],zgq f g x y [],0,0⟩)):=by
 intro d
 induction d with
 | zero =>
   intro k a0 a1 a4 a8 a9 p o m h n e l b r s;have a : k = x.ops.length:=(by omega);subst a;rw [xl zcQ rfl,zeO,yd,q,yd,← q];simp -implicitDefEqProofs only [go_sem,yl,ya]
 | succ d ih =>
   intro k a0 a1 a4 a8 a9 p o m h n e l b r s;have a : k < x.ops.length:=(by omega);have j : k < y.ops.length:=(by omega);have i1:=zui x.ops[k] y.ops[k] (hx.op _ (yi a)).2;have:=ih (k + 1) vU vU vU vU vU vU vU vU vU vU vU vU vU (by omega) (by omega);rw [xl zcQ rfl,zeO];simp -implicitDefEqProofs only [go_sem] at this i1;simp only [yb a,yb j,List.cons.injEq]
   by_cases c : x.ops[k] = y.ops[k]
   ·simp -implicitDefEqProofs only [c] at i1
    simp -implicitDefEqProofs only [go_sem,ilt a,zj a,zj j,ro,i1,ya,za a hx.ops,this,c]
   ·simp -implicitDefEqProofs only [go_sem,ilt a,zj a,zj j,ro,i1,ya,c,false_and]
end
section
variable (f g : PFunc) (hf : okF f)
include hf
theorem zE4 (J : f.blocks.length = g.blocks.length) : ∀ (d k : Nat),f.blocks.length - k = d → k ≤ f.blocks.length → ∃ o : zd,∀ (a0 a1 a4 a6 a7 a8 a9 n p m j c l b i a : V),
  exec T zi ⟨[a0,a1,.one (.ptr 0 0 0 0),.one (.ptr 1 0 0 0),a4,vI k,a6,a7,a8,a9,n,p,m,j,c,l,b,i,a],[.cells 0 3 [z6 f],.cells 0 3 [z6 g]],0,0⟩ =
   some (if f.blocks.drop k = g.blocks.drop k then (.exit 0,⟨[vU,vU,vU,vU,vU,vU,vU,vU,vU,vU,vU,vU,vU,vU,vU,vU,vU,vU,vU],[.cells 0 3 [z6 f],.cells 0 3 [z6 g]],0,0⟩)
    else (.ret,⟨[vU,vU,vU,vU,vB false,vU,vU,vU,vU,vU,vU,vU,vU,vU,vU,vU,vU,vU,vU],.cells 0 3 [z6 f] :: .cells 0 3 [z6 g] :: o,0,0⟩)):=by
 intro d
 induction d with
 | zero =>
   intro k u v;have r : k = f.blocks.length:=(by omega);subst r;refine ⟨[],fun a0 a1 a4 a6 a7 a8 a9 n p m j c l b i a => ?_⟩;rw [xl zi rfl,zv,yd,J,yd,← J];simp -implicitDefEqProofs only [go_sem,yl,ya]
 | succ d ih =>
   intro k u v;have r : k < f.blocks.length:=(by omega);have D : k < g.blocks.length:=(by omega);have hx:=hf.block _ (yi r);simp only [yb r,yb D,List.cons.injEq];generalize hX : f.blocks[k] = x at *;generalize hY : g.blocks[k] = y at *;have s : (f.blocks.map rb)[k]? = some (rb x):=(by rw [zj r,hX]);have t : (g.blocks.map rb)[k]? = some (rb y):=(by rw [zj D,hY]);have i1:=zbx x.to y.to hx.to;simp -implicitDefEqProofs only [go_sem,rb] at i1 s t
   have step : ∀ I,(∀ (a0 a1 a4 a6 a7 a8 a9 n p m j c l b i a : V),¬ x = y → exec T zi ⟨[a0,a1,.one (.ptr 0 0 0 0),.one (.ptr 1 0 0 0),a4,vI k,a6,a7,a8,a9,n,p,m,j,c,l,b,i,a],[.cells 0 3 [z6 f],.cells 0 3 [z6 g]],0,0⟩ = some (.ret,⟨[vU,vU,vU,vU,vB false,vU,vU,vU,vU,vU,vU,vU,vU,vU,vU,vU,vU,vU,vU],zgq f g x y I,0,0⟩)) → ¬ x = y → ∃ o : zd,∀ (a0 a1 a4 a6 a7 a8 a9 n p m j c l b i a : V),
    exec T zi ⟨[a0,a1,.one (.ptr 0 0 0 0),.one (.ptr 1 0 0 0),a4,vI k,a6,a7,a8,a9,n,p,m,j,c,l,b,i,a],[.cells 0 3 [z6 f],.cells 0 3 [z6 g]],0,0⟩ =
    some (if x = y ∧ f.blocks.drop (k + 1) = g.blocks.drop (k + 1) then (.exit 0,⟨[vU,vU,vU,vU,vU,vU,vU,vU,vU,vU,vU,vU,vU,vU,vU,vU,vU,vU,vU],[.cells 0 3 [z6 f],.cells 0 3 [z6 g]],0,0⟩)
     else (.ret,⟨[vU,vU,vU,vU,vB false,vU,vU,vU,vU,vU,vU,vU,vU,vU,vU,vU,vU,vU,vU],.cells 0 3 [z6 f] :: .cells 0 3 [z6 g] :: o,0,0⟩)):=fun I h K =>
    ⟨.cells 0 5 [zg x] :: .cells 0 5 [zg y] :: I,fun a0 a1 a4 a6 a7 a8 a9 n p m j c l b i a => by rw [h a0 a1 a4 a6 a7 a8 a9 n p m j c l b i a K,if_neg (fun e => K e.1)]⟩
   obtain ⟨w,A,H,B,E⟩:=x;obtain ⟨C,G,N,O,M⟩:=y
   by_cases c1 : w.length = C.length
   case neg =>
    have z : ¬ (w.length : Int) = C.length:=(by omega);refine step [] (fun a0 a1 a4 a6 a7 a8 a9 n p m j c l b i a _ => ?_) (fun e => c1 (by injection e with q; rw [q]));rw [xl zi rfl,zv];simp -implicitDefEqProofs only [go_sem,ilt r,s,t,zgq,ya,z]
   by_cases c2 : A.length = G.length
   case neg =>
    have z : ¬ (A.length : Int) = G.length:=(by omega);refine step [] (fun a0 a1 a4 a6 a7 a8 a9 n p m j c l b i a _ => ?_) (fun e => c2 (by injection e with _ q; rw [q]));rw [xl zi rfl,zv];simp -implicitDefEqProofs only [go_sem,ilt r,s,t,zgq,ya,c1,z]
   by_cases c3 : H = N
   case neg =>
    refine step [] (fun a0 a1 a4 a6 a7 a8 a9 n p m j c l b i a _ => ?_) (fun e => c3 (by injection e));rw [xl zi rfl,zv];simp -implicitDefEqProofs only [go_sem,ilt r,s,t,zgq,ya,c1,c2,c3]
   subst c3
   by_cases c4 : B = O
   case neg =>
    refine step [] (fun a0 a1 a4 a6 a7 a8 a9 n p m j c l b i a _ => ?_) (fun e => c4 (by injection e));rw [xl zi rfl,zv];simp -implicitDefEqProofs only [go_sem,ilt r,s,t,zgq,ya,c1,c2,c4]
   subst c4
   by_cases c5 : E = M
   case neg =>
    refine step [] (fun a0 a1 a4 a6 a7 a8 a9 n p m j c l b i a _ => ?_) (fun e => c5 (by injection e));rw [xl zi rfl,zv];simp -implicitDefEqProofs only [go_sem,ilt r,s,t,zgq,ya,c1,c2,i1,c5]
   subst c5;obtain ⟨P,u⟩:=zEB f g k ⟨w,A,H,B,E⟩ ⟨C,G,H,B,E⟩ hx c1 w.length 0 (by simp) (by simp);have v:=fun a0 a1 a4 a8 a9 n m j c l b i a => zE8 f g k ⟨w,A,H,B,E⟩ ⟨C,G,H,B,E⟩ hx c2 A.length 0 a0 a1 a4 a8 a9 n m j c l b i a (by simp) (by simp);simp only [yn,ym] at u v;simp -implicitDefEqProofs only [go_sem] at i1
   by_cases c6 : w = C
   case neg =>
    refine step P (fun a0 a1 a4 a6 a7 a8 a9 n p m j c l b i a _ => ?_) (fun e => c6 (by injection e));rw [xl zi rfl,zv];simp -implicitDefEqProofs only [go_sem,zgq,c6] at u;simp -implicitDefEqProofs only [go_sem,ilt r,s,t,zgq,ya,c1,c2,i1,u]
   subst c6;simp -implicitDefEqProofs only [go_sem,zgq] at u
   by_cases c7 : A = G
   case neg =>
    refine step [] (fun a0 a1 a4 a6 a7 a8 a9 n p m j c l b i a _ => ?_) (fun e => c7 (by injection e));rw [xl zi rfl,zv];simp -implicitDefEqProofs only [go_sem,zgq,c7] at v;simp -implicitDefEqProofs only [go_sem,ilt r,s,t,zgq,ya,c2,i1,u,v]
   subst c7;obtain ⟨o,L⟩:=ih (k + 1) (by omega) (by omega);refine ⟨o,fun a0 a1 a4 a6 a7 a8 a9 n p m j c l b i a => ?_⟩;have:=L vU vU vU vU vU vU vU vU vU vU vU vU vU vU vU vU;rw [xl zi rfl,zv];simp -implicitDefEqProofs only [go_sem,zgq] at this v;simp -implicitDefEqProofs only [go_sem,ilt r,s,t,ya,i1,u,v,za r hf.blocks,this]
theorem zuR : call T 19 [zd4 f,zd4 g] [] = some (vB (decide (f = g)),[]):=by
 rw [ze (fn:=zam) rfl];obtain ⟨fp,fr,fb⟩:=f;obtain ⟨b,c,a⟩:=g;have i1:=zbx fp b hf.params;simp -implicitDefEqProofs only [go_sem] at i1
 by_cases c1 : fr = c
 case neg => simp -implicitDefEqProofs only [go_sem,zam,PFunc.mk.injEq,c1,false_and,and_false]
 subst c1
 by_cases c2 : fp = b
 case neg => simp -implicitDefEqProofs only [go_sem,zam,PFunc.mk.injEq,i1,c2,false_and,and_false]
 subst c2;simp -implicitDefEqProofs only [go_sem] at i1
 by_cases c3 : fb.length = a.length
 case neg =>
  have z : ¬ (fb.length : Int) = a.length:=by omega
  have d : ¬ fb = a:=fun e => c3 (by rw [e]);simp -implicitDefEqProofs only [go_sem,zam,PFunc.mk.injEq,i1,ya,z,d,and_false]
 obtain ⟨o,h⟩:=zE4 ⟨fp,fr,fb⟩ ⟨fp,fr,a⟩ hf c3 fb.length 0 (by simp) (by simp);simp only [yn,ym] at h
 by_cases c4 : fb = a
 ·subst c4
  simp -implicitDefEqProofs only [go_sem] at h;simp -implicitDefEqProofs only [go_sem,zam,i1,ya,h]
 ·simp -implicitDefEqProofs only [go_sem,c4] at h
  simp -implicitDefEqProofs only [go_sem,zam,PFunc.mk.injEq,i1,c3,ya,c4,h,Nat.not_succ_le_zero,and_false]
end
end AC
namespace Go.A
open Go.Sort
theorem zD5 {c : C} {v : Value} (h : zun c = some (.lit v)) : c = .f (.lit v):=by
 cases c <;> simp only [zun] at h <;> first | (injection h with h; injection h) | (injection h with h; rw [h]) | cases h
theorem zt9 : ∀ {es : List (List C)} {l : List Int},(zaj es).bind zg5 = some l → es = l.map zn
 | [],l,h => by simp [zaj,zg5] at h; subst h; rfl
 | e :: es,l,h => by
   simp only [zaj] at h;unfold zgl at h;split at h
   ·rename_i x xs a f
    simp only [Option.bind_some,zg5] at h;unfold zgl at h;split at h
    ·rename_i y ys b j
     injection h with h;subst h;have g:=zt9 (es:=es) (l:=ys) (by rw [f]; exact j);subst g
     have : e = zn y:=by
      unfold zxu at b;split at b
      ·rename_i z
       injection b with b;subst b
       cases e with
       | nil => simp [zeq] at a
       | cons c cs =>
         simp only [zeq] at a;unfold zgl at a;split at a
         ·rename_i a0 bs i d
          injection a with a;injection a with h3 h4;subst h3 h4
          cases cs with
          | nil => rw [zD5 i]; rfl
          | cons c2 cs =>
            simp only [zeq] at d;unfold zgl at d;split at d
            ·cases d
            ·cases d
         ·cases a
      ·cases b
     rw [this];rfl
    ·cases h
   ·simp at h
theorem zoK {a n : Nat} {o : Ob} {l : List Int} (h : ziA a n o = some l) : o = .cells a 1 (l.map zn) ∧ l.length = n ∧ n ≤ LIM:=by
 cases o with
 | tok _ _ => simp [ziA] at h
 | mp _ => simp [ziA] at h
 | cells ver' sz es =>
   simp only [ziA] at h;split at h
   ·rename_i c
    obtain ⟨rfl,rfl,b,d⟩:=c;have:=zt9 h;subst this;exact ⟨rfl,by simpa using b,d⟩
   ·cases h
section
variable {g : G} {w : World} {σ : zd}
theorem zwS (R : Rel g w σ) {id d : Nat} {l : List Int} (b : σ[id]? = some (.cells d 1 (l.map zn))) (h : l ≠ []) {u : Value} (r : zf g w σ (.one (.own id d 0 l.length)) u) :
  ∃ c arr t,u = .slice (some ⟨g.ρ id,0,none⟩) l.length c ∧ l.length ≤ c ∧ w.heap[g.ρ id]? = some (.cells arr t (0,0)) ∧ l.length ≤ arr.size ∧ (∀ (j : Nat) x,l[j]? = some x → arr[j]? = some (.int .i64 x)) ∧ g.ow (g.ρ id) = .ob id ∧ ∀ o,¬ g.N (g.ρ id) o:=by
 obtain ⟨a,c,e1,e2,e3,e4⟩:=zhl r b;have e : l.map zn ≠ []:=by simpa using h
 obtain ⟨n,m,arr,t,p,A,B⟩:=R.ob id _ b e;have k : 0 < l.length:=List.length_pos_iff.2 h;obtain ⟨_,f2,_⟩:=e4 (by simp; omega);have s:=f2 (by omega);refine ⟨c,arr,t,(by rw [e1,s]; try simp),e2,p,by simpa using A,fun j x q => ?_,n,m⟩;obtain ⟨_,y⟩:=B j (zn x) (by simp [q]);obtain ⟨v,z,i,_⟩:=y 0 (.f (.lit (.int .i64 x))) (by simp [zn]);simp only [zz,rep] at i;rw [← i.1];simpa using z
theorem zuT (R : Rel g w σ) {l : List Int} {b : Nat} {arr : Array Value} {t : TypeId} (h : w.heap[b]? = some (.cells arr t (0,0))) (c : ∀ (j : Nat) x,l[j]? = some x → arr[j]? = some (.int .i64 x)) : Holds (Value.int .i64) w b 0 l.toArray:=fun j d => by
 have a : j < l.length:=by simpa using d
 refine ⟨?_,by simp [World.frozen?,h]⟩;rw [ziQ h,yr,c j l[j] (by simp [a])];simp [a]
theorem ztd {q : Nat} {b : Nat} {d : Array Int} {os : Array Obj} {arr : Array Value} {t : TypeId} (h : w.heap[b]? = some (.cells arr t (0,0))) :
  (grow (putRow (Value.int .i64) (Sort.ahead w q) b 0 d) os).heap[b]? = some (.cells (putCells (Value.int .i64) 0 d arr) t (0,0)):=by
 have a : b < w.heap.size:=(ye.1 h).1;simp only [grow,putRow,mapBlock,Sort.ahead];rw [yg (by simpa using a),yk,if_pos rfl,h];rfl
theorem zrX {q : Nat} {b j : Nat} {d : Array Int} {os : Array Obj} (c : j < w.heap.size) (a : j ≠ b) :
  (grow (putRow (Value.int .i64) (Sort.ahead w q) b 0 d) os).heap[j]? = w.heap[j]?:=by
 simp only [grow,putRow,mapBlock,Sort.ahead];rw [yg (by simpa using c),yk,if_neg (Ne.symm a)]
theorem zjm (d : Array Int) (arr : Array Value) : (putCells (Value.int .i64) 0 d arr).size = arr.size:=by simp [putCells]
theorem zoT {d : Array Int} {arr : Array Value} {j : Nat} (b : j < d.size) (hd : d.size ≤ arr.size) : (putCells (Value.int .i64) 0 d arr)[j]? = some (.int .i64 d[j]):=by
 have c : j < arr.size:=by omega
 have a : j < (putCells (Value.int .i64) 0 d arr).size:=by rw [zjm]; exact c
 rw [Array.getElem?_eq_getElem a];simp [putCells,b]
theorem zEG (R : Rel g w σ) {id d : Nat} {l : List Int} (a : σ[id]? = some (.cells d 1 (l.map zn))) {l' : List Int} (m : l'.length = l.length) {arr : Array Value} {t : TypeId}
  (v : w.heap[g.ρ id]? = some (.cells arr t (0,0))) (E : l.length ≤ arr.size) (p : g.ow (g.ρ id) = .ob id) (z : ∀ o,¬ g.N (g.ρ id) o) (q : Nat) (os : Array Obj) :
  Ext g w σ g (grow (putRow (Value.int .i64) (Sort.ahead w q) (g.ρ id) 0 l'.toArray) os) (σ.set id (.cells d 1 (l'.map zn))) ∧
  Rel g (grow (putRow (Value.int .i64) (Sort.ahead w q) (g.ρ id) 0 l'.toArray) os) (σ.set id (.cells d 1 (l'.map zn))):=by
 refine replace (g':=g) R a (fun b => b = g.ρ id) rfl rfl rfl (by simp [grow,Sort.ahead]) (fun b r G => ⟨zrX r G,rfl,fun _ h => h⟩)
  (fun b r => ⟨.inl (by rw [r]; exact p),rfl,fun o h => absurd (by rw [r] at h; exact h) (z o)⟩) (fun _ _ _ h => h) (fun _ _ => rfl) (fun _ _ _ => rfl)
  (fun b o h => by have:=R.nb b o h; simp [grow,Sort.ahead]; omega) ?_ ?_ ?_ (fun _ _ h => by cases h) ?_
 ·intro D J B s
  refine .inl ⟨?_,rfl,fun _ C t0 f => ?_⟩
  ·rw [zu a] at s
   injection s with s;rw [zu (zD a),← s];simp [m]
  ·rw [v] at f
   injection f with f;injection f with f h0t;subst f;subst h0t;exact ⟨_,ztd v,zjm _ _⟩
 ·intro es' h; cases h
 ·intro k n h; simp [znR,a,Ob.fr] at h
 ·intro H y
  refine ⟨p,z,_,t,ztd v,by rw [zjm]; simp [m]; omega,fun i e he => ?_⟩;rw [yo,yf] at he;obtain ⟨x,A,rfl⟩:=he;refine ⟨rfl,fun j c u => ?_⟩;have I : i < l'.length:=(yc.1 A).1
  cases j with
  | succ j => simp [zn] at u
  | zero =>
    simp [zn] at u;subst u;refine ⟨.int .i64 x,?_,by simp [zz,rep,zzg],rfl⟩;rw [yv,yt,zoT (by simpa using I) (by simp; omega)];have:=(yc.1 A).2;simp [this]
theorem zEd (R : Rel g w σ) {id c : Nat} {l : List Int} (a : σ[id]? = some (.cells c 1 (l.map zn))) {d : Array Int} {arr : Array Value} {t : TypeId}
  (v : w.heap[g.ρ id]? = some (.cells arr t (0,0))) (m : g.ow (g.ρ id) = .ob id) (u : ∀ o,¬ g.N (g.ρ id) o) (q : Nat) (os : Array Obj) :
  Ext g w σ (g.give (g.ρ id)) (grow (putRow (Value.int .i64) (Sort.ahead w q) (g.ρ id) 0 d) os) (σ.set id (.cells (c + 1) 1 [])) ∧
  Rel (g.give (g.ρ id)) (grow (putRow (Value.int .i64) (Sort.ahead w q) (g.ρ id) 0 d) os) (σ.set id (.cells (c + 1) 1 [])):=by
 have i : g.ρ id < w.heap.size:=(ye.1 v).1
 refine replace (g':=g.give (g.ρ id)) R a (fun b => b = g.ρ id) rfl rfl rfl (by simp [grow,Sort.ahead]) (fun b i p => ⟨zrX i p,rfl,fun o h => h.elim (fun x => x) (fun e => absurd e p)⟩)
  (fun b i => ⟨.inl (by rw [i]; exact m),rfl,fun o h => absurd (by rw [i] at h; exact h) (u o)⟩) (fun _ _ _ h => .inl h) (fun _ _ => rfl) (fun _ _ _ => rfl)
  (fun b o h => by
   simp only [grow,Array.size_append,size_putRow,Sort.ahead];rcases h with h | h
   ·have:=R.nb b o h; omega
   ·omega) ?_ ?_ ?_ (fun _ _ h => by cases h) ?_
 ·intro s y r j
  rw [zu a] at j;injection j with j;injection j with h1 h2;injection h2 with h2 h3;subst h1 h2;exact .inr ⟨c + 1,0,by rw [zu (zD a)]; rfl,by omega⟩
 ·intro es' h; cases h
 ·intro k n h; simp [znR,a,Ob.fr] at h
 ·intro H f
  exact absurd rfl f
end
end Go.A
namespace Go.A
open Go.Lib
def zhx : Option Int → List Int → List Int
 | _,[] => []
 | p,x :: r => if p = some x then zhx p r else x :: zhx (some x) r
theorem zoa : ∀ (r : List Int) (x : Int),x :: zhx (some x) r = zp (x :: r)
 | [],x => rfl
 | y :: r,x => by
   simp only [zp,zhx]
   by_cases h : x = y
   ·subst h
    rw [if_pos rfl,if_pos rfl];exact zoa r x
   ·rw [if_neg (by simpa using h),if_neg h,zoa r y]
theorem ztx (l : List Int) : zhx none l = zp l:=by
 cases l with
 | nil => rfl
 | cons x r => simp [zhx,zoa]
theorem zuK (l : List Int) : ∀ (n k : Nat),k + n = l.length → (((List.range' k n).filter (keeps l.toArray)).map (l.toArray[·]!)) = zhx (if k = 0 then none else l[k - 1]?) (l.drop k)
 | 0,k,h => by
   rw [List.drop_of_length_le (by omega)];simp [zhx]
 | n + 1,k,h => by
   have f : k < l.length:=(by omega);have c:=zuK l n (k + 1) (by omega);rw [yb f];simp only [List.range'_succ,zhx,List.filter_cons];simp only [Nat.add_one_ne_zero,if_false,Nat.add_sub_cancel,yh f] at c;have e : l.toArray[k]! = l[k]:=by simp [f]
   by_cases d : k = 0
   ·subst d
    have a : keeps l.toArray 0 = true:=(by simp [keeps]);rw [a,if_pos rfl,if_pos rfl,if_neg (by simp),yu,c,e]
   ·have b : k - 1 < l.length:=by omega
    have e1 : l.toArray[k - 1]! = l[k - 1]:=(by simp [b]);rw [if_neg d,yh b]
    by_cases hd : l[k - 1] = l[k]
    ·have a : keeps l.toArray k = false:=by
      have : ¬ l.toArray[k]! ≠ l.toArray[k - 1]!:=(by rw [e,e1,hd]; simp);simp only [keeps,d,false_or,decide_eq_false_iff_not];exact this
     simp only [a,Bool.false_eq_true,if_false];rw [if_pos (by rw [hd]),c,hd]
    ·have a : keeps l.toArray k = true:=by
      have : l.toArray[k]! ≠ l.toArray[k - 1]!:=by rw [e,e1]; exact fun h => hd h.symm
      simp only [keeps,d,false_or,decide_eq_true_eq];exact this
     simp only [a,if_true,yu];rw [if_neg (by simpa using hd),c,e]
theorem zx2 (l : List Int) : Lib.compact l = zp l:=by
 have:=zuK l l.length 0 (by simp);simp only [if_true,ym] at this;rw [← ztx,← this,Lib.compact,compactUpTo,List.range_eq_range']
theorem zqK : ∀ l : List Int,(zp l).length ≤ l.length
 | [] => by simp [zp]
 | [x] => by simp [zp]
 | x :: y :: r => by
   have:=zqK (y :: r);simp only [zp];split
   ·simp only [yp] at this ⊢; omega
   ·simp only [yp] at this ⊢; omega
end Go.A
namespace Go.Proofs
open Go.Shelf
def Tryz.sorted_ren : Go.Shelf.Ren:=⟨fun | 6 => 145 | 8 => 176 | 9 => 117 | 11 => 226 | 13 => 168 | 12 => 167 | 23 => 222 | 24 => 223 | 14 => 213 | 15 => 214 | 16 => 215 | 17 => 216 | 18 => 217 | 19 => 218 | 20 => 219 | 21 => 220 | 22 => 221 | 25 => 241 | 26 => 242 | 27 => 243 | 28 => 244 | 29 => 245 | 30 => 246 | 31 => 256 | n => n,fun | 26 => 3 | 28 => 177 | 24 => 22 | 0 => 0 | 3 => 3 | 37 => 199 | 48 => 230 | 50 => 49 | 4 => 4 | 40 => 225 | 39 => 224 | 45 => 138 | 5 => 5 | 9 => 9 | 51 => 244 | 55 => 248 | 57 => 254 | 58 => 144 | 33 => 48 | n => n,fun | n => n⟩
theorem Tryz.sorted : Go.Proofs.SlLaysZI.n6 Tryz.prog Tryz.sorted_ren:={
 mixed:=by kernel_rfl
 f6:=⟨Tryz.f145.name,by decide,Tryz.func145.trans (congrArg some (by kernel_rfl))⟩
 f8:=⟨Tryz.f176.name,by decide,Tryz.func176.trans (congrArg some (by kernel_rfl))⟩
 f11:=⟨Tryz.f226.name,by decide,Tryz.func226.trans (congrArg some (by kernel_rfl))⟩
 t0:=Tryz.underlying0
 a0:=Tryz.isAgg0
 z0:=Tryz.sizeOf0
 v0:=Tryz.zeroValue0
 t24:=Tryz.underlying22
 a24:=Tryz.isAgg22
 z24:=Tryz.sizeOf22
 v24:=Tryz.zeroValue22
 t26:=Tryz.underlying3
 a26:=Tryz.isAgg3
 z26:=Tryz.sizeOf3
 v26:=Tryz.zeroValue3
 t28:=Tryz.underlying177
 a28:=Tryz.isAgg177
 z28:=Tryz.sizeOf177
 v28:=Tryz.zeroValue177
 i26:=by kernel_rfl }
def Tryz.sort_ren : Go.Shelf.Ren:=⟨fun | 5 => 117 | 8 => 168 | 7 => 167 | 19 => 222 | 20 => 223 | 10 => 213 | 11 => 214 | 12 => 215 | 13 => 216 | 14 => 217 | 15 => 218 | 16 => 219 | 17 => 220 | 18 => 221 | 30 => 241 | 31 => 242 | 32 => 243 | 33 => 244 | 34 => 245 | 35 => 246 | 40 => 256 | n => n,fun | 23 => 22 | 25 => 3 | 3 => 3 | 32 => 199 | 22 => 22 | 0 => 0 | 44 => 230 | 46 => 49 | 4 => 4 | 36 => 225 | 35 => 224 | 41 => 138 | 5 => 5 | 9 => 9 | 53 => 244 | 57 => 248 | 63 => 254 | 64 => 144 | n => n,fun | n => n⟩
theorem Tryz.sort : Go.Proofs.SlLaysM.n5 Tryz.prog Tryz.sort_ren:={
 mixed:=by kernel_rfl
 f5:=⟨Tryz.f117.name,by decide,Tryz.func117.trans (congrArg some (by kernel_rfl))⟩
 f7:=⟨Tryz.f167.name,by decide,Tryz.func167.trans (congrArg some (by kernel_rfl))⟩
 f8:=Tryz.func168.trans (congrArg some (by kernel_rfl))
 f10:=⟨Tryz.f213.name,by decide,Tryz.func213.trans (congrArg some (by kernel_rfl))⟩
 f11:=⟨Tryz.f214.name,by decide,Tryz.func214.trans (congrArg some (by kernel_rfl))⟩
 f12:=⟨Tryz.f215.name,by decide,Tryz.func215.trans (congrArg some (by kernel_rfl))⟩
 f13:=⟨Tryz.f216.name,by decide,Tryz.func216.trans (congrArg some (by kernel_rfl))⟩
 f14:=⟨Tryz.f217.name,by decide,Tryz.func217.trans (congrArg some (by kernel_rfl))⟩
 f15:=⟨Tryz.f218.name,by decide,Tryz.func218.trans (congrArg some (by kernel_rfl))⟩
 f16:=⟨Tryz.f219.name,by decide,Tryz.func219.trans (congrArg some (by kernel_rfl))⟩
 f17:=⟨Tryz.f220.name,by decide,Tryz.func220.trans (congrArg some (by kernel_rfl))⟩
 f18:=⟨Tryz.f221.name,by decide,Tryz.func221.trans (congrArg some (by kernel_rfl))⟩
 f19:=Tryz.func222.trans (congrArg some (by kernel_rfl))
 f20:=Tryz.func223.trans (congrArg some (by kernel_rfl))
 f30:=⟨Tryz.f241.name,by decide,Tryz.func241.trans (congrArg some (by kernel_rfl))⟩
 f31:=Tryz.func242.trans (congrArg some (by kernel_rfl))
 f32:=Tryz.func243.trans (congrArg some (by kernel_rfl))
 f33:=⟨Tryz.f244.name,by decide,Tryz.func244.trans (congrArg some (by kernel_rfl))⟩
 f34:=⟨Tryz.f245.name,by decide,Tryz.func245.trans (congrArg some (by kernel_rfl))⟩
 f35:=⟨Tryz.f246.name,by decide,Tryz.func246.trans (congrArg some (by kernel_rfl))⟩
 f40:=⟨Tryz.f256.name,by decide,Tryz.func256.trans (congrArg some (by kernel_rfl))⟩
 t0:=Tryz.underlying0
 a0:=Tryz.isAgg0
 z0:=Tryz.sizeOf0
 v0:=Tryz.zeroValue0
 t3:=Tryz.underlying3
 a3:=Tryz.isAgg3
 z3:=Tryz.sizeOf3
 v3:=Tryz.zeroValue3
 t4:=Tryz.underlying4
 a4:=Tryz.isAgg4
 z4:=Tryz.sizeOf4
 v4:=Tryz.zeroValue4
 t5:=Tryz.underlying5
 a5:=Tryz.isAgg5
 z5:=Tryz.sizeOf5
 v5:=Tryz.zeroValue5
 t9:=Tryz.underlying9
 a9:=Tryz.isAgg9
 z9:=Tryz.sizeOf9
 v9:=Tryz.zeroValue9
 t22:=Tryz.underlying22
 a22:=Tryz.isAgg22
 z22:=Tryz.sizeOf22
 v22:=Tryz.zeroValue22
 t23:=Tryz.underlying22
 a23:=Tryz.isAgg22
 z23:=Tryz.sizeOf22
 v23:=Tryz.zeroValue22
 t25:=Tryz.underlying3
 a25:=Tryz.isAgg3
 z25:=Tryz.sizeOf3
 v25:=Tryz.zeroValue3
 t32:=Tryz.underlying199
 a32:=Tryz.isAgg199
 z32:=Tryz.sizeOf199
 v32:=Tryz.zeroValue199
 t35:=Tryz.underlying224
 a35:=Tryz.isAgg224
 z35:=Tryz.sizeOf224
 v35:=Tryz.zeroValue224
 t36:=Tryz.underlying225
 a36:=Tryz.isAgg225
 z36:=Tryz.sizeOf225
 v36:=Tryz.zeroValue225
 t41:=Tryz.underlying138
 a41:=Tryz.isAgg138
 z41:=Tryz.sizeOf138
 v41:=Tryz.zeroValue138
 t44:=Tryz.underlying230
 a44:=Tryz.isAgg230
 z44:=Tryz.sizeOf230
 v44:=Tryz.zeroValue230
 t46:=Tryz.underlying49
 a46:=Tryz.isAgg49
 z46:=Tryz.sizeOf49
 v46:=Tryz.zeroValue49
 t53:=Tryz.underlying244
 a53:=Tryz.isAgg244
 z53:=Tryz.sizeOf244
 v53:=Tryz.zeroValue244
 t57:=Tryz.underlying248
 a57:=Tryz.isAgg248
 z57:=Tryz.sizeOf248
 v57:=Tryz.zeroValue248
 t63:=Tryz.underlying254
 a63:=Tryz.isAgg254
 z63:=Tryz.sizeOf254
 v63:=Tryz.zeroValue254
 t64:=Tryz.underlying144
 a64:=Tryz.isAgg144
 z64:=Tryz.sizeOf144
 v64:=Tryz.zeroValue144 }
def Tryz.compact_ren : Go.Shelf.Ren:=⟨fun | 43 => 118 | n => n,fun | 22 => 22 | 23 => 3 | 3 => 3 | 4 => 4 | 0 => 0 | n => n,fun n => n⟩
theorem Tryz.compact : Go.Proofs.SlLaysN.n43 Tryz.prog Tryz.compact_ren:={
 mixed:=by kernel_rfl
 f43:=⟨Tryz.f118.name,by decide,Tryz.func118.trans (congrArg some (by kernel_rfl))⟩
 t0:=Tryz.underlying0
 a0:=Tryz.isAgg0
 z0:=Tryz.sizeOf0
 v0:=Tryz.zeroValue0
 t3:=Tryz.underlying3
 a3:=Tryz.isAgg3
 z3:=Tryz.sizeOf3
 v3:=Tryz.zeroValue3
 t4:=Tryz.underlying4
 a4:=Tryz.isAgg4
 z4:=Tryz.sizeOf4
 v4:=Tryz.zeroValue4
 t22:=Tryz.underlying22
 a22:=Tryz.isAgg22
 z22:=Tryz.sizeOf22
 v22:=Tryz.zeroValue22
 t23:=Tryz.underlying3
 a23:=Tryz.isAgg3
 z23:=Tryz.sizeOf3
 v23:=Tryz.zeroValue3
 i23:=by kernel_rfl }
end Go.Proofs
namespace Go.Proofs
open Go.A Go.Sort
theorem zr5 {g : G} {w : World} {σ : zd} {id b : Nat} (d : σ[id]? = some (.cells b 1 [])) {u : Value} (e : zf g w σ (.one (.own id b 0 0)) u) : ∃ a,u = .slice a 0 0:=by
 obtain ⟨a,c,e1,e2,e3,e4⟩:=zhl e d;exact ⟨a,by rw [e1,e3 rfl]⟩
theorem zCR {σ : zd} {id : Nat} {o : Ob} (h : σ[id]? = some o) : σ.set id o = σ:=by
 apply List.ext_getElem?;intro j;rw [List.getElem?_set]
 by_cases e : id = j
 ·subst e
  rw [if_pos rfl,if_pos (yc.1 h).1,h]
 ·rw [if_neg e]
theorem Tryz.ext_sort (args : List V) (σ : zd) (v : V) (σ' : zd) (h : zmE args σ = some (v,σ')) :
  Go.A.Enters Tryz.prog 117 ∧ ∀ g w us,Rel g w σ → zA g w σ args us → Calls Tryz.prog 117 us.toArray w fun e w' => ∃ u g',e = .returned u ∧ zf g' w' σ' v u ∧ Rel g' w' σ' ∧ Ext g w σ g' w' σ':=by
 refine ⟨⟨Tryz.f117,_,Tryz.func117,by kernel_rfl,rfl⟩,fun g w us m j => ?_⟩;have b : ∀ (g : G) (w : World) (σ : zd),zf g w σ (.tup []) (.tuple #[]):=fun g w σ => by simp only [zf]; exact ⟨#[],rfl,by simp only [zA]⟩
 unfold zmE at h;split at h
 ·injection h with h
  simp only [Prod.mk.injEq] at h;obtain ⟨rfl,rfl⟩:=h;simp only [zA,zf,zz,rep] at j;obtain ⟨u,rest,rfl,⟨a,c,sz,rfl,_⟩,rfl⟩:=j;have k:=AnyM.slices_Sort_int_none Tryz.sort a c w;refine Calls.mono (f:=117) k fun e w' he => ?_;obtain ⟨rfl,rfl⟩:=he;exact ⟨_,g,rfl,b _ _ _,m,Ext.refl _ _ _⟩
 ·rename_i id D n
  rw [yf] at h;obtain ⟨l,r,y⟩:=h;rw [yj] at r;obtain ⟨o,d,r⟩:=r;obtain ⟨rfl,B,p⟩:=zoK r;subst B;simp only [zqq,Prod.mk.injEq] at y;obtain ⟨rfl,rfl⟩:=y;simp only [zA] at j;obtain ⟨u,rest,rfl,j,rfl⟩:=j;have i : (zcx l).length = l.length:=List.length_mergeSort l
  by_cases x : l = []
  ·subst x
   obtain ⟨a,rfl⟩:=zr5 d j;have k:=AnyM.slices_Sort_int_none Tryz.sort a 0 w;refine Calls.mono (f:=117) k fun e w' he => ?_;obtain ⟨rfl,rfl⟩:=he;have J : zcx [] = []:=(by simp [zcx]);rw [J,zCR d];exact ⟨_,g,rfl,b _ _ _,m,Ext.refl _ _ _⟩
  ·obtain ⟨c,arr,t,rfl,L,s,I,z,C,E⟩:=zwS m d x j
   have k:=AnyM.slices_Sort_int Tryz.sort (g.ρ id) 0 c l w (zuT m s z) (ye.1 s).1 (by unfold LIM at p; omega);refine Calls.mono (f:=117) k fun e w' he => ?_;obtain ⟨rfl,q,os,rfl⟩:=he;obtain ⟨H,K⟩:=zEG m d (l':=zcx l) i s I C E q os;exact ⟨_,g,rfl,b _ _ _,K,H⟩
 ·cases h
theorem Tryz.ext_compact (args : List V) (σ : zd) (v : V) (σ' : zd) (h : zf4 args σ = some (v,σ')) :
  Go.A.Enters Tryz.prog 118 ∧ ∀ g w us,Rel g w σ → zA g w σ args us → Calls Tryz.prog 118 us.toArray w fun e w' => ∃ u g',e = .returned u ∧ zf g' w' σ' v u ∧ Rel g' w' σ' ∧ Ext g w σ g' w' σ':=by
 refine ⟨⟨Tryz.f118,_,Tryz.func118,by kernel_rfl,rfl⟩,fun g w us B r => ?_⟩
 have p : ∀ (g : G) (w : World) (σ : zd) a c,zf g w σ (vsl []) (.slice a 0 c):=fun g w σ a c => by
  simp only [vsl,zf,zz,rep];exact ⟨a,c,0,rfl,by simp,by simp only [zb9],by simp⟩
 unfold zf4 at h;split at h
 ·injection h with h
  simp only [Prod.mk.injEq] at h;obtain ⟨rfl,rfl⟩:=h;simp only [zA,zf,zz,rep] at r;obtain ⟨u,rest,rfl,⟨a,c,sz,rfl,_⟩,rfl⟩:=r;have s:=AnyG.slices_Compact_int_empty Tryz.compact a c w;refine Calls.mono (f:=118) s fun e w' he => ?_;obtain ⟨rfl,rfl⟩:=he;exact ⟨_,g,rfl,p _ _ _ _ _,B,Ext.refl _ _ _⟩
 ·rename_i id D n
  rw [yf] at h;obtain ⟨l,z,C⟩:=h;rw [yj] at z;obtain ⟨o,m,z⟩:=z;obtain ⟨rfl,W,E⟩:=zoK z;subst W;simp only [zla,Prod.mk.injEq] at C;obtain ⟨rfl,rfl⟩:=C;simp only [zA] at r;obtain ⟨u,rest,rfl,r,rfl⟩:=r
  by_cases N : l = []
  ·subst N
   obtain ⟨a,rfl⟩:=zr5 m r;have s:=AnyG.slices_Compact_int_empty Tryz.compact a 0 w;refine Calls.mono (f:=118) s fun e w' he => ?_;obtain ⟨rfl,rfl⟩:=he
   obtain ⟨H,J⟩:=replace (g':=g) (w':=w') (new:=.cells (D + 1) 1 []) B m (fun _ => False) rfl rfl rfl (Nat.le_refl _) (fun b _ _ => ⟨rfl,rfl,fun _ h => h⟩) (fun b U => U.elim) (fun _ _ _ h => h) (fun _ _ => rfl) (fun _ _ _ => rfl) (fun b o h => B.nb b o h)
    (fun R aA Q I => by
     rw [zu m] at I;injection I with I;injection I with z C;injection C with C h3;subst z C
     exact .inr ⟨D + 1,0,by rw [zu (zD m)]; rfl,by omega⟩)
    (fun es' h => by cases h) (fun k n h => by simp [znR,m,Ob.fr] at h) (fun _ _ h => by cases h) (fun H M => absurd rfl M)
   exact ⟨_,g,rfl,p _ _ _ _ _,J,H⟩
  ·obtain ⟨c,arr,t,rfl,q1,L,q3,S,X,Z⟩:=zwS B m N r
   have s:=AnyG.slices_Compact_int Tryz.compact (g.ρ id) 0 c l w (zuT B L S) (by unfold LIM at E; omega) q1;rw [zx2] at s;refine Calls.mono (f:=118) s fun e w' he => ?_;obtain ⟨rfl,q,rfl⟩:=he;have hle:=zqK l;obtain ⟨H,J⟩:=zEd B m (d:=(zp l ++ yq (l.length - (zp l).length) 0).toArray) L X Z q #[];have P:=ztd (w:=w) (q:=q) (os:=#[]) (d:=(zp l ++ yq (l.length - (zp l).length) 0).toArray) L;rw [grow_empty] at H J P;refine ⟨_,g.give (g.ρ id),rfl,?_,J,H⟩;simp only [vsl,zf,zz,rep,ya];refine ⟨_,c,1,rfl,by omega,zfK (fun e he => by obtain ⟨x,_,rfl⟩:=List.mem_map.1 he; rfl),.inr ⟨g.ρ id,0,rfl,zgG fun i e he => ziW fun j x K => ?_⟩⟩;rw [yo,yf] at he;obtain ⟨y,O,rfl⟩:=he
   cases j with
   | succ j => simp [zxP] at K
   | zero =>
     simp [zxP] at K;subst K;have Y : i < (zp l).length:=(yc.1 O).1;refine ⟨.int .i64 y,.inr rfl,?_,by simp [rep,zzg]⟩;rw [ziQ P,yr,yv,yt,zoT (by simp; omega) (by simp; omega)];have:=(yc.1 O).2;simp [List.getElem_append_left Y,this]
 ·cases h
end Go.Proofs

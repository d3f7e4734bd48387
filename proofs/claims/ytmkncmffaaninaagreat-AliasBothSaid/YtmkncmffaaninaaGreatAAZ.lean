/- A part of the proof of AliasBoth. Conditions: none. -/
import Derived.Test.YtmkncmffaaninaaGreatAAY
set_option linter.all false
open Int renaming toNat_natCast → ya,natCast_nonneg → yd,lt_irrefl → yp,natCast_zero → yq,reduceToNat → yw
open List renaming length_cons → yb,take_of_length_le → yc,length_nil → ye,replicate → yg,drop_eq_getElem_cons → yh,getElem_mem → yi,length_append → yk,length_reverse → yl,map_set → yn,drop_length → yo,take_left' → yr,map_append → ys,map_replicate → yu,all_eq_true → yv,map → yy
open Option renaming bind_some → yf
open Bool renaming and_eq_true → ym
open Nat renaming mul_one → yt,zero_le → yx
namespace AC
open Go Go.A Go.A.Lex
theorem n64 : ((64 : Nat) : Int) = 64:=rfl
attribute [go_sem] n64
def cB (b : Bool) : C:=.f (.lit (.bool b))
def cN (n : Nat) : C:=.f (.lit (.int .i64 n))
section
variable (succ pred : List (List Int)) (hn : succ.length ≤ 64) (hs : ∀ l ∈ succ,l.length ≤ 4294967296) (hr : ∀ l ∈ succ,∀ y ∈ l,0 ≤ y ∧ y < (succ.length : Int))
abbrev obG : Ob:=.cells 0 2 [[.f (.sl (succ.map rl)),.f (.sl (pred.map rl))]]
abbrev stO (seen : List Bool) (next : List Nat) (vo : Nat) (out : List Int) (vs : Nat) (row : List Int) : zb :=
 [obG succ pred,.cells 0 64 [seen.map cB],.cells 0 64 [next.map cN],.cells vo 1 (out.map zF),.cells vs 1 (row.map zF)]
include hn hs hr
theorem zsq (X : Nat) (B : X < succ.length) (seen : List Bool) (J : seen.length = 64) (u : Nat) (out : List Int) (vs : Nat) (row : List Int) (m : Nat) (hm : m ≤ row.length) (M : m + 1 ≤ 4294967296) : ∀ (d a : Nat) (next : List Nat) (a0 a1 a3 a9 s n q r : V),next.length = 64 → next[X]? = some a → succ[X].length - a = d → a ≤ succ[X].length →
  exec T zd0 ⟨[a0,a1,.one (.ptr 0 0 0 0),a3,.one (.ptr 1 0 0 0),.one (.ptr 2 0 0 0),.one (.own 3 u 0 out.length),.one (.own 4 vs 0 m),vI X,a9,s,n,q,r],stO succ pred seen next u out vs row,0,0⟩ =
   some (match scan seen (succ[X].drop a) a with
    | none => (.exit 0,⟨[vU,vU,.one (.ptr 0 0 0 0),vU,.one (.ptr 1 0 0 0),.one (.ptr 2 0 0 0),.one (.own 3 u 0 out.length),.one (.own 4 vs 0 m),vI X,vU,vU,vU,vU,vU],stO succ pred seen (next.set X succ[X].length) u out vs row,0,0⟩)
    | some (y,j) => (.goto 0,⟨[vU,vU,.one (.ptr 0 0 0 0),vU,.one (.ptr 1 0 0 0),.one (.ptr 2 0 0 0),.one (.own 3 u 0 out.length),.one (.own 4 (vs + 1) 0 (m + 1)),vU,vU,vU,vU,vU,vU],stO succ pred (seen.set y.toNat true) (next.set X j) u out (vs + 1) (row.take m ++ [y]),0,0⟩)):=by
 intro d;have i : X < 64:=by omega
 have p : ((X : Int) < 64) = True:=by simp; omega
 have I:=hs _ (yi B)
 induction d with
 | zero =>
   intro a next a0 a1 a3 a9 s n q r c g N L
   have l : a = succ[X].length:=(by omega);subst l;have G : (next.map cN)[X]? = some (cN succ[X].length):=by simp [g]
   have E : next.set X succ[X].length = next:=by
    apply List.ext_getElem?;intro j;rw [List.getElem?_set]
    by_cases e : X = j
    ·subst e; rw [if_pos rfl,if_pos (by omega),g]
    ·rw [if_neg e]
   rw [xl zd0 rfl,zfM,E];simp -implicitDefEqProofs only [go_sem,stO,obG,z6 B,rl,p,yd,ya,yt,G,cN,yp,yo,scan]
 | succ d ih =>
   intro a next a0 a1 a3 a9 s n q r c g N L
   have l : a < succ[X].length:=(by omega);have hd : succ[X].drop a = succ[X][a] :: succ[X].drop (a + 1):=yh l;obtain ⟨Q,P⟩:=hr _ (yi B) _ (yi l);have A : (succ[X].map ri)[a]? = some (ri succ[X][a]):=z6 l;generalize succ[X][a] = y at *;obtain ⟨Y,rfl⟩ : ∃ Y : Nat,y = Y:=⟨y.toNat,by omega⟩;have K : Y < 64:=(by omega);have z : ((Y : Int) < 64) = True:=(by simp; omega);have G : (next.map cN)[X]? = some (cN a):=(by simp [g]);have t:=zsk (e:=next.map cN) (k:=X) (.f (.lit (.int .i64 ((a + 1 : Nat) : Int)))) (by simp; omega);have H : C.f (.lit (.int .i64 ((a + 1 : Nat) : Int))) = cN (a + 1):=rfl;have w : (next.map cN).set X (C.f (.lit (.int .i64 ((a + 1 : Nat) : Int)))) = (next.set X (a + 1)).map cN:=(by rw [H,yn]);rw [w] at t;have hle:=zxD (show X < next.length by omega)
   have b : (seen.map cB)[Y]? = some (cB (seen.getD Y false)):=by
    have : Y < seen.length:=(by omega);simp [this]
   have h:=zsk (e:=seen.map cB) (k:=Y) (.f (.lit (.bool true))) (by simp; omega);have o : (seen.map cB).set Y (C.f (.lit (.bool true))) = (seen.set Y true).map cB:=(by rw [yn]; rfl);rw [o] at h;have x:=zxD (show Y < seen.length by omega);have hw : Go.IntKind.i64.wrap ((a : Int) + 1) = ((a + 1 : Nat) : Int):=zf l I;have D : ((next.set X (a + 1)).map cN)[X]? = some (cN (a + 1)):=(by simp [c,i]);have v : 0 < m + 1 ∧ m + 1 ≤ LIM:=⟨by omega,by unfold LIM; omega⟩;rw [xl zd0 rfl,zfM,hd,scan];rw [ya];cases e : seen.getD Y false
   ·rw [e] at b
    have O : (row.map zF).take m ++ [[C.f (.lit (.int .i64 (Y : Int)))]] = (row.take m ++ [(Y : Int)]).map zF:=(by simp [zF,List.map_take]);simp -implicitDefEqProofs only [go_sem,stO,obG,z6 B,rl,p,yd,ya,yt,G,cN,ilt l,A,ri,z,hw,t,hle,D,b,cB,h,x,v,O]
   ·rw [e] at b
    have:=ih (a + 1) (next.set X (a + 1)) vU vU vU vU vU vU vU vU (by simpa using c) (by simp [c,i]) (by omega) (by omega);simp -implicitDefEqProofs only [go_sem,stO,obG,List.set_set] at this;simp -implicitDefEqProofs only [go_sem,stO,obG,z6 B,rl,p,yd,ya,yt,G,cN,ilt l,A,ri,z,hw,t,hle,D,b,cB,this]
end
attribute [go_sem] Option.any_some
def zh1 : Go.A.Code:=zl.p2.p2.p2.p2.p2.p2.p2
theorem zoO : zfF = .seq .skip zh1:=rfl
section
variable (succ pred : List (List Int)) (hn : succ.length ≤ 64) (hs : ∀ l ∈ succ,l.length ≤ 4294967296) (hr : ∀ l ∈ succ,∀ y ∈ l,0 ≤ y ∧ y < (succ.length : Int))
include hn hs hr
theorem zt9 {d : DF} (hd : DInv succ d) {x : Int} (f : 0 ≤ x ∧ x < (succ.length : Int)) {j : Nat} (c : j ≤ (succ.getD x.toNat []).length) : ∀ X,X < succ.length → (d.next.set x.toNat j).getD X 0 ≤ (succ.getD X []).length:=by
 intro X b;have a:=hd.next
 by_cases e : x.toNat = X
 ·subst e
  rw [zaN _ _ (by omega)];exact c
 ·rw [getD_set_ne _ _ e]
  exact hd.le X b
theorem zuB (d : DF) (a : List Int) (o vs : Nat) (X : Nat) (s : List Int) (y : Int) (j : Nat) (a0 a1 a3 a8 a9 l g i k : V) (hd : DInv succ d) (q : X < succ.length) (m : s.length + 2 ≤ 4294967296) (z : d.out.length + 1 ≤ 4294967296) (b : zd9 succ d X = some (y,j)) :
  exec T zh1 ⟨[a0,a1,.one (.ptr 0 0 0 0),a3,.one (.ptr 1 0 0 0),.one (.ptr 2 0 0 0),.one (.own 3 o 0 d.out.length),.one (.own 4 vs 0 (s.length + 1)),a8,a9,l,g,i,k],stO succ pred d.seen d.next o d.out vs (((X : Int) :: s).reverse ++ a),0,0⟩ =
   some (.goto 0,⟨[vU,vU,.one (.ptr 0 0 0 0),vU,.one (.ptr 1 0 0 0),.one (.ptr 2 0 0 0),.one (.own 3 o 0 d.out.length),.one (.own 4 (vs + 1) 0 (s.length + 2)),vU,vU,vU,vU,vU,vU],stO succ pred (d.seen.set y.toNat true) (d.next.set X j) o d.out (vs + 1) ((y :: (X : Int) :: s).reverse ++ []),0,0⟩):=by
 have u:=hd.next;have n : succ.getD X [] = succ[X]:=by simp [q]
 have v : d.next[X]? = some (d.next.getD X 0):=by
  have : X < d.next.length:=by omega
  simp [this]
 have hle:=hd.le X q;rw [n] at hle;have h:=fun a0 a1 a3 a9 l g i k => zsq succ pred hn hs hr X q d.seen hd.seen o d.out vs (((X : Int) :: s).reverse ++ a) (s.length + 1) (by simp only [yk,yl,yb,ye]; omega) (by first | omega | (simp only [yb,ye] at m ⊢; omega)) _ (d.next.getD X 0) d.next a0 a1 a3 a9 l g i k u v rfl hle
 have r : zd9 succ d (X : Int) = scan d.seen (succ[X].drop (d.next.getD X 0)) (d.next.getD X 0):=by
  unfold zd9;rw [ya,n]
 rw [r] at b
 have hw : Go.IntKind.i64.wrap (((s.length + 1 : Nat) : Int) - 1) = (s.length : Int):=by rw [wrap_i64] <;> first | omega | (simp only [yb,ye] at m ⊢; omega)
 have p : ((s.length : Int) < ((s.length + 1 : Nat) : Int)) = True:=by first | (simp; done) | (simp; omega)
 have c : ((((X : Int) :: s).reverse ++ a).map zF)[s.length]? = some [.f (.lit (.int .i64 (X : Int)))]:=by
  apply zjV;simp
 have t : (((X : Int) :: s).reverse ++ a).take (s.length + 1) = ((X : Int) :: s).reverse:=yr (by simp);have w : 0 < d.out.length + 1 ∧ d.out.length + 1 ≤ LIM:=⟨by omega,by unfold LIM; omega⟩
 have A : (d.out.map zF).take d.out.length ++ [[C.f (.lit (.int .i64 (X : Int)))]] = (d.out ++ [(X : Int)]).map zF:=by
  rw [yc (by simp),ys];rfl
 generalize hrow : ((X : Int) :: s).reverse ++ a = row at *;rw [b] at h;have e : (y :: (X : Int) :: s).reverse ++ [] = row.take (s.length + 1) ++ [y]:=by rw [t]; simp
 have x : 0 < s.length + 2 ∧ s.length + 2 ≤ LIM:=⟨by omega,by unfold LIM; omega⟩;rw [e];simp -implicitDefEqProofs only [go_sem,stO,obG] at h;simp -implicitDefEqProofs only [go_sem,zh1,zl,Code.p2,stO,obG,hw,p,yd,ya,c,h]
theorem zxj (d : DF) (a : List Int) (j vs : Nat) (X : Nat)  (a0 a1 a3 a8 a9 k e h i : V) (hd : DInv succ d) (q : X < succ.length) (o : ([] : List Int).length + 2 ≤ 4294967296) (w : d.out.length + 1 ≤ 4294967296) (c : zd9 succ d X = none) :
  exec T zh1 ⟨[a0,a1,.one (.ptr 0 0 0 0),a3,.one (.ptr 1 0 0 0),.one (.ptr 2 0 0 0),.one (.own 3 j 0 d.out.length),.one (.own 4 vs 0 (([] : List Int).length + 1)),a8,a9,k,e,h,i],stO succ pred d.seen d.next j d.out vs (((X : Int) :: ([] : List Int)).reverse ++ a),0,0⟩ =
   some (.ret,⟨[vU,vU,vU,.one (.own 3 (j + 1) 0 (d.out.length + 1)),vU,vU,vU,vU,vU,vU,vU,vU,vU,vU],stO succ pred d.seen (d.next.set X succ[X].length) (j + 1) (d.out ++ [(X : Int)]).reverse vs (((X : Int) :: []).reverse ++ a),0,0⟩):=by
 have s:=hd.next;have p : succ.getD X [] = succ[X]:=by simp [q]
 have t : d.next[X]? = some (d.next.getD X 0):=by
  have : X < d.next.length:=by omega
  simp [this]
 have hle:=hd.le X q;rw [p] at hle;have g:=fun a0 a1 a3 a9 k e h i => zsq succ pred hn hs hr X q d.seen hd.seen j d.out vs (((X : Int) :: ([] : List Int)).reverse ++ a) (([] : List Int).length + 1) (by simp only [yk,yl,yb,ye]; omega) (by first | omega | (simp only [yb,ye] at o ⊢; omega)) _ (d.next.getD X 0) d.next a0 a1 a3 a9 k e h i s t rfl hle
 have r : zd9 succ d (X : Int) = scan d.seen (succ[X].drop (d.next.getD X 0)) (d.next.getD X 0):=by
  unfold zd9;rw [ya,p]
 rw [r] at c
 have hw : Go.IntKind.i64.wrap (((([] : List Int).length + 1 : Nat) : Int) - 1) = (([] : List Int).length : Int):=by rw [wrap_i64] <;> first | omega | (simp only [yb,ye] at o ⊢; omega)
 have n : ((([] : List Int).length : Int) < ((([] : List Int).length + 1 : Nat) : Int)) = True:=by first | (simp; done) | (simp; omega)
 have b : ((((X : Int) :: ([] : List Int)).reverse ++ a).map zF)[([] : List Int).length]? = some [.f (.lit (.int .i64 (X : Int)))]:=by
  apply zjV;simp
 have u : (((X : Int) :: ([] : List Int)).reverse ++ a).take (([] : List Int).length + 1) = ((X : Int) :: ([] : List Int)).reverse:=yr (by simp);have l : 0 < d.out.length + 1 ∧ d.out.length + 1 ≤ LIM:=⟨by omega,by unfold LIM; omega⟩
 have v : (d.out.map zF).take d.out.length ++ [[C.f (.lit (.int .i64 (X : Int)))]] = (d.out ++ [(X : Int)]).map zF:=by
  rw [yc (by simp),ys];rfl
 generalize hrow : ((X : Int) :: ([] : List Int)).reverse ++ a = row at *;rw [c] at g;have m:=zq1 (stO succ pred d.seen (d.next.set X succ[X].length) (j + 1) (d.out ++ [(X : Int)]) vs row) 3 (j + 1) (d.out ++ [(X : Int)]) (by simp; omega) rfl (d.out.length + 1) (by simp);simp -implicitDefEqProofs only [go_sem,stO,obG] at g m hw n b;simp -implicitDefEqProofs only [go_sem,zh1,zl,Code.p2,stO,obG,hw,n,yd,ya,b,g,l,v,m]
theorem zwG (d : DF) (a : List Int) (q vs : Nat) (X : Nat) (z : Int) (b : List Int) (a0 a1 a3 a8 a9 l h j k : V) (hd : DInv succ d) (s : X < succ.length) (o : (z :: b).length + 2 ≤ 4294967296) (A : d.out.length + 1 ≤ 4294967296) (g : zd9 succ d X = none) :
  exec T zh1 ⟨[a0,a1,.one (.ptr 0 0 0 0),a3,.one (.ptr 1 0 0 0),.one (.ptr 2 0 0 0),.one (.own 3 q 0 d.out.length),.one (.own 4 vs 0 ((z :: b).length + 1)),a8,a9,l,h,j,k],stO succ pred d.seen d.next q d.out vs (((X : Int) :: (z :: b)).reverse ++ a),0,0⟩ =
   some (.goto 0,⟨[vU,vU,.one (.ptr 0 0 0 0),vU,.one (.ptr 1 0 0 0),.one (.ptr 2 0 0 0),.one (.own 3 (q + 1) 0 (d.out.length + 1)),.one (.own 4 vs 0 (b.length + 1)),vU,vU,vU,vU,vU,vU],stO succ pred d.seen (d.next.set X succ[X].length) (q + 1) (d.out ++ [(X : Int)]) vs ((z :: b).reverse ++ ((X : Int) :: a)),0,0⟩):=by
 have u:=hd.next;have p : succ.getD X [] = succ[X]:=by simp [s]
 have v : d.next[X]? = some (d.next.getD X 0):=by
  have : X < d.next.length:=by omega
  simp [this]
 have hle:=hd.le X s;rw [p] at hle;have i:=fun a0 a1 a3 a9 l h j k => zsq succ pred hn hs hr X s d.seen hd.seen q d.out vs (((X : Int) :: z :: b).reverse ++ a) ((z :: b).length + 1) (by simp only [yk,yl,yb,ye]; omega) (by first | omega | (simp only [yb,ye] at o ⊢; omega)) _ (d.next.getD X 0) d.next a0 a1 a3 a9 l h j k u v rfl hle
 have t : zd9 succ d (X : Int) = scan d.seen (succ[X].drop (d.next.getD X 0)) (d.next.getD X 0):=by
  unfold zd9;rw [ya,p]
 rw [t] at g
 have hw : Go.IntKind.i64.wrap ((((z :: b).length + 1 : Nat) : Int) - 1) = ((z :: b).length : Int):=by rw [wrap_i64] <;> first | omega | (simp only [yb,ye] at o ⊢; omega)
 have n : (((z :: b).length : Int) < (((z :: b).length + 1 : Nat) : Int)) = True:=by first | (simp; done) | (simp; omega)
 have c : ((((X : Int) :: z :: b).reverse ++ a).map zF)[(z :: b).length]? = some [.f (.lit (.int .i64 (X : Int)))]:=by
  apply zjV;simp
 have w : (((X : Int) :: z :: b).reverse ++ a).take ((z :: b).length + 1) = ((X : Int) :: z :: b).reverse:=yr (by simp);have m : 0 < d.out.length + 1 ∧ d.out.length + 1 ≤ LIM:=⟨by omega,by unfold LIM; omega⟩
 have y : (d.out.map zF).take d.out.length ++ [[C.f (.lit (.int .i64 (X : Int)))]] = (d.out ++ [(X : Int)]).map zF:=by
  rw [yc (by simp),ys];rfl
 generalize hrow : ((X : Int) :: z :: b).reverse ++ a = row at *;rw [g] at i;have e : (z :: b).reverse ++ ((X : Int) :: a) = row:=by rw [← hrow]; simp
 have r : (b.length ≤ b.length + 1) = True:=by simp
 have x : ((0 : Int) < ((b.length + 1 : Nat) : Int)) = True:=by first | (simp; done) | (simp; omega)
 rw [e];simp -implicitDefEqProofs only [go_sem,stO,obG] at i hw n c;simp -implicitDefEqProofs only [go_sem,zh1,zl,Code.p2,stO,obG,hw,n,yd,ya,c,i,m,y,x,r,Nat.sub_zero]
theorem zAo : ∀ (k : Nat) (d : DF) (a : List Int) (n vs : Nat) (o : List Int) (a0 a1 a3 a8 a9 m f g i : V),DInv succ d → d.stk.length + k ≤ 4294967296 → d.out.length + k ≤ 4294967296 → dfs succ k d = some o →
  ∃ seen' next' vo' vs' row',exec T (.sc zl zfF) ⟨[a0,a1,.one (.ptr 0 0 0 0),a3,.one (.ptr 1 0 0 0),.one (.ptr 2 0 0 0),.one (.own 3 n 0 d.out.length),.one (.own 4 vs 0 d.stk.length),a8,a9,m,f,g,i],stO succ pred d.seen d.next n d.out vs (d.stk.reverse ++ a),0,0⟩ =
    some (.ret,⟨[vU,vU,vU,.one (.own 3 vo' 0 o.length),vU,vU,vU,vU,vU,vU,vU,vU,vU,vU],stO succ pred seen' next' vo' o.reverse vs' row',0,0⟩):=by
 intro k
 induction k with
 | zero => intro d a n vs o _ _ _ _ _ _ _ _ _ _ _ _ h; simp [dfs] at h
 | succ k ih =>
   intro d a n vs o a0 a1 a3 a8 a9 m f g i hd p H h;simp only [dfs] at h
   cases c : d.stk with
   | nil => rw [c] at h; cases h
   | cons x s =>
     rw [c] at h p;simp only at h;simp only [yb] at p;obtain ⟨C,B⟩:=hd.stk x (by rw [c]; simp);obtain ⟨X,rfl⟩ : ∃ X : Nat,x = X:=⟨x.toNat,by omega⟩;have t : X < succ.length:=(by omega);have l : succ.getD X [] = succ[X]:=(by simp [t]);have u : zvp succ (X : Int) = succ[X].length:=by unfold zvp; rw [ya,l]
     cases b : zd9 succ d (X : Int) with
     | some yj =>
       obtain ⟨y,j⟩:=yj;rw [b] at h;simp only [ya] at h;have q:=b;unfold zd9 at q;rw [ya,l] at q;obtain ⟨I,G,E⟩:=zyk q;have hle:=hd.le X t;rw [l] at hle;have D:=hr _ (yi t) y (List.mem_of_mem_drop E)
       have r : DInv succ ⟨d.seen.set y.toNat true,d.next.set X j,d.out,y :: (X : Int) :: s⟩:=⟨by simpa using hd.seen,by simpa using hd.next,by
         have:=zt9 succ hn hs hr hd ⟨C,B⟩ (j:=j) (by rw [ya,l]; rw [List.length_drop] at G; omega)
         rwa [ya] at this,fun z A => by
        rcases List.mem_cons.1 A with rfl | A
        ·exact D
        ·exact hd.stk z (by rw [c]; exact A)⟩
       obtain ⟨seen',next',vo',vs',row',v⟩:=ih _ [] n (vs + 1) o vU vU vU vU vU vU vU vU vU r (by simp only [yb]; omega) (by simp only; omega) h;refine ⟨seen',next',vo',vs',row',?_⟩;rw [← v,zfb,zoO,zdv,zfd];simp only [yf,zqm];have e:=zuB succ pred hn hs hr d a n vs X s y j a0 a1 a3 a8 a9 m f g i hd t (by omega) (by omega) b;simp only [yb] at e ⊢;rw [e];simp only [yf,scK,zgd];rw [← zoO]
     | none =>
       rw [b] at h;simp only at h
       cases s with
       | nil =>
         simp only [Option.some.injEq] at h;subst h;have e:=zxj succ pred hn hs hr d a n vs X a0 a1 a3 a8 a9 m f g i hd t (by simp) (by omega) b;refine ⟨d.seen,d.next.set X succ[X].length,n + 1,vs,(((X : Int) :: []).reverse ++ a),?_⟩;rw [zfb,zoO,zdv,zfd];simp only [yf,zqm];simp only [yb,ye] at e ⊢;rw [e];simp only [yf,scK];rw [show (d.out ++ [(X : Int)]).length = d.out.length + 1 by simp]
       | cons z s' =>
         simp only [ya] at h;have e:=zwG succ pred hn hs hr d a n vs X z s' a0 a1 a3 a8 a9 m f g i hd t (by simp only [yb] at p ⊢; omega) (by omega) b
         have r : DInv succ ⟨d.seen,d.next.set X (zvp succ X),d.out ++ [(X : Int)],z :: s'⟩:=⟨hd.seen,by simpa using hd.next,by
          have:=zt9 succ hn hs hr hd ⟨C,B⟩ (j:=zvp succ X) (by rw [ya,l,u]; exact Nat.le_refl _)
          rwa [ya] at this,fun w hw => hd.stk w (by rw [c]; exact List.mem_cons_of_mem _ hw)⟩
         obtain ⟨seen',next',vo',vs',row',v⟩:=ih _ ((X : Int) :: a) (n + 1) vs o vU vU vU vU vU vU vU vU vU r (by simp only [yb] at p ⊢; omega) (by simp only [yk,yb,ye]; omega) h;refine ⟨seen',next',vo',vs',row',?_⟩;rw [← v,zfb,zoO,zdv,zfd];simp only [yf,zqm];simp only [yb,yk,ye,u] at e ⊢;rw [e];simp only [yf,scK,zgd];rw [← zoO]
end
@[go_sem] theorem zn5 (succ pred : List (List Int)) (a : zlw succ) : call T 148 [.agg [.f (.sl (succ.map rl)),.f (.sl (pred.map rl))]] [] = some (vB (zyq succ pred),[]):=by
  rw [zd (fn:=zgK) rfl];have hm:=zhM succ a;cases e : zdc succ
  ·simp -implicitDefEqProofs only [go_sem,zpj,e] at hm
   simp -implicitDefEqProofs only [go_sem,zgK,hm,zyq,e]
  ·have b:=ziY (zah succ) pred [.cells 0 2 [[.f (.sl (succ.map rl)),.f (.sl (pred.map rl))]],.cells 0 2 [[.f (.sl (succ.map rl)),.f (.sl ((zah succ).map rl))]]] (by rw [zgF]; exact a.1) (zmF succ a (zh7 e))
   simp -implicitDefEqProofs only [go_sem,zpj,e] at hm b;simp -implicitDefEqProofs only [go_sem,zgK,hm,b,zyq,e]
theorem zhw : znU.length = 64:=rfl
theorem zld : zlI.length = 64:=rfl
def zDp : Go.A.Code:=zl.p1
def zDw : Go.A.Code:=zl.p2.p1
def zC9 : Go.A.Code:=zl.p2.p2.p1
def zDc : Go.A.Code:=zl.p2.p2.p2.p1
def zDj : Go.A.Code:=zl.p2.p2.p2.p2.p1
def zDl : Go.A.Code:=zl.p2.p2.p2.p2.p2.p1
theorem zDG : zl = .seq zDp (.seq zDw (.seq zC9 (.seq zDc (.seq zDj (.seq zDl (.seq (.label 0) zh1)))))):=rfl
theorem zBp (succ pred : List (List Int)) (b : zlw succ) (hm : zyq succ pred = true) (root : Nat) (d : root < succ.length) : exec T zDp ⟨[.agg [.f (.sl (succ.map rl)),.f (.sl (pred.map rl))],vI root,.one (.ptr 0 0 0 0),vL [],vU,vU,vU,vU,vU,vU,vU,vU,vU,vU],[obG succ pred],0,0⟩ =
  some (.normal,⟨[.agg [.f (.sl (succ.map rl)),.f (.sl (pred.map rl))],vI root,.one (.ptr 0 0 0 0),vL [],vU,vU,vU,vU,vU,vU,vB false,vU,vU,vU],[obG succ pred],0,0⟩):=by
 have h:=zn5 succ pred b;rw [hm] at h;have c : ¬ (root : Int) < 0:=by omega
 have a : ¬ (succ.length : Int) ≤ (root : Int):=by omega
 simp -implicitDefEqProofs only [go_sem] at h;simp -implicitDefEqProofs only [go_sem,zDp,zl,Code.p1,obG,h,c,a]
theorem zy3 (succ pred : List (List Int)) (root : Nat) (j : root < 64) (c : Go.A.Code) (a0 a3 b : V) : exec T (.seq zDw (.seq zC9 (.seq zDc (.seq zDj (.seq zDl c))))) ⟨[a0,vI root,.one (.ptr 0 0 0 0),a3,vU,vU,vU,vU,vU,vU,b,vU,vU,vU],[obG succ pred],0,0⟩ =
  exec T c ⟨[a0,vI root,.one (.ptr 0 0 0 0),a3,.one (.ptr 1 0 0 0),.one (.ptr 2 0 0 0),.one (.own 3 0 0 0),.one (.own 4 0 0 1),vU,vU,b,vU,vU,vU],stO succ pred (znU.set root true) zlI 0 [] 0 [(root : Int)],0,0⟩:=by
 have h : ((root : Int) < 64) = True:=by simp; omega
 have a:=zsk (e:=znU.map cB) (k:=root) (.f (.lit (.bool true))) (by rw [List.length_map,zhw]; exact j);have g : (znU.map cB).set root (C.f (.lit (.bool true))) = (znU.set root true).map cB:=by rw [yn]; rfl
 rw [g] at a;have hle:=zxD (show root < 64 by omega);have d : zDw = .reg [w 4 (.al (znU.map cB) [])]:=rfl;have i : zC9 = .reg [w 5 (.al (zlI.map cN) [])]:=rfl;rw [d,i];simp -implicitDefEqProofs only [go_sem,zDc,zDj,zDl,zl,Code.p1,Code.p2,obG,stO,zhw,zld,h,yd,ya,yt,a,hle,zF]
@[go_sem] theorem zus (succ pred : List (List Int)) (n : zlw succ) (hm : zyq succ pred = true) (root : Nat) (v : root < succ.length) (k : Nat) (A : k ≤ 4294967295) (o : List Int) (t : dfs succ k (zqn root) = some o) :
   call T 100 [.agg [.f (.sl (succ.map rl)),.f (.sl (pred.map rl))],vI root] [] = some (vIs o.reverse,[]):=by
  rw [zd (fn:=zgN) rfl];have g : zdc succ = true:=by simp only [zyq,ym] at hm; exact hm.1
  obtain ⟨z,r,p⟩:=zfp g;have e : ∀ l ∈ succ,∀ y ∈ l,0 ≤ y ∧ y < (succ.length : Int):=fun l u y q => by have:=zkB _ _ _ (p l u) y q; omega
  have hd : DInv succ (zqn root):=⟨by simp [zqn,zhw],zld,fun X w => by
   have : zlI.getD X 0 = 0:=by
    have i : X < 64:=by omega
    have h : zlI[X]? = some 0:=by
     unfold zlI;rw [List.getElem?_replicate,if_pos i]
    rw [List.getD_eq_getElem?_getD,h];rfl
   simp only [zqn]
   omega,fun x s => by simp [zqn] at s; omega⟩
  obtain ⟨a,next',c,j,b,h⟩:=zAo succ pred r n.2 e k (zqn root) [] 0 0 o (.agg [.f (.sl (succ.map rl)),.f (.sl (pred.map rl))]) (vI root) (vL []) vU vU (vB false) vU vU vU hd (by simp [zqn]; omega) (by simp [zqn]; omega) t
  have m : exec T (.scope zl) ⟨[.agg [.f (.sl (succ.map rl)),.f (.sl (pred.map rl))],vI root,.one (.ptr 0 0 0 0),vL [],vU,vU,vU,vU,vU,vU,vU,vU,vU,vU],[obG succ pred],0,0⟩ = some (.ret,⟨[vU,vU,vU,.one (.own 3 c 0 o.length),vU,vU,vU,vU,vU,vU,vU,vU,vU,vU],stO succ pred a next' c o.reverse j b,0,0⟩):=by
   rw [← h,zkt,zfb,zfb]
   congr 1
   rw [zoO,zdv,zfd];simp only [yf,zqm];rw [zDG,zdv,zBp succ pred n hm root v];simp only [yf,zqm];rw [zy3 succ pred root (by omega),zdv,zos];rfl
  have d : (o.reverse.map zF).take o.length = o.reverse.map zF:=yc (by simp);simp -implicitDefEqProofs only [go_sem,obG,stO] at m;simp -implicitDefEqProofs only [go_sem,zgN,m,d,zez]
def zCW : List C → Bool
 | [.f (.lit (.int .i64 k))] => decide (k = -2)
 | _ => false
def zAb (n : Nat) : Bool:=match zdJ T (zG T 3000) 230 [vL [[ei (-2)]],vI n] [] with
 | some (.one (.own 0 0 0 m),[.cells 0 1 rows]) => decide (m = n) && (decide (rows.length = n) && rows.all zCW)
 | _ => false
set_option maxRecDepth 100000 in
theorem zA0 : ((List.range 64).all fun n => zAb (n + 1)) = true:=by kernel_rfl
theorem zBw {r : List C} (h : zCW r = true) : r = zF (-2):=by
 unfold zCW at h;split at h
 ·simp only [decide_eq_true_eq] at h
  subst h;rfl
 ·cases h
theorem zs7 (n : Nat) (e : 1 ≤ n) (d : n ≤ 64) : call T 230 [vL [[ei (-2)]],vI n] [] = some (.one (.own 0 0 0 n),[.cells 0 1 ((yg n (-2 : Int)).map zF)]):=by
 have h:=yv.1 zA0 (n - 1) (List.mem_range.2 (by omega));rw [show n - 1 + 1 = n by omega] at h;unfold zAb at h;split at h
 ·rename_i m rows he
  simp only [ym,decide_eq_true_eq,yv] at h;obtain ⟨rfl,a,c⟩:=h
  have : rows = (yg m (-2 : Int)).map zF:=by
   rw [yu];exact List.eq_replicate_iff.2 ⟨a,fun r b => zBw (c r b)⟩
  rw [← this];exact zh8 he
 ·cases h
theorem zhd {n : Nat} {a : Int} (h : inR n a = true) : 0 ≤ a ∧ a < (n : Int) ∧ ¬ a < 0 ∧ ¬ (n : Int) ≤ a:=by
 simp only [inR,ym,decide_eq_true_eq] at h;omega
section
variable (t at' : List Int)
theorem zy8 : ∀ (r : Nat) (a b c : Int) (a4 a5 a6 a7 : V),zng t at' r a b = some c →
  exec T zjg ⟨[vIs t,vIs at',vI a,vI b,a4,a5,a6,a7],[],0,0⟩ = some (.exit 2,⟨[vIs t,vIs at',vI c,vI b,vU,vU,vU,vU],[],0,0⟩):=by
 intro r
 induction r with
 | zero => intro a b c _ _ _ _ h; simp [zng] at h
 | succ r ih =>
   intro a b c a4 a5 a6 a7 h;rw [zng] at h;split at h
   ·rename_i l
    simp only [ym] at l;obtain ⟨p,n,o⟩:=l;obtain ⟨p1,p2,i,f⟩:=zhd p;obtain ⟨k,q,e,g⟩:=zhd n;obtain ⟨s1,s2,j,m⟩:=zhd o;rw [xl zjg rfl,zmy];split at h
    ·rename_i d
     have:=ih _ b c vU vU vU vU h;simp -implicitDefEqProofs only [go_sem] at this;simp -implicitDefEqProofs only [go_sem,p1,k,s1,zrY i f,zrY e g,zrY j m,d,this]
    ·rename_i d
     injection h with h;subst h;simp -implicitDefEqProofs only [go_sem,p1,k,s1,zrY i f,zrY e g,zrY j m,d]
   ·cases h
theorem zzT : ∀ (r : Nat) (a b c : Int) (a4 a5 a6 a7 : V),zng t at' r b a = some c →
  exec T zjp ⟨[vIs t,vIs at',vI a,vI b,a4,a5,a6,a7],[],0,0⟩ = some (.exit 4,⟨[vIs t,vIs at',vI a,vI c,vU,vU,vU,vU],[],0,0⟩):=by
 intro r
 induction r with
 | zero => intro a b c _ _ _ _ h; simp [zng] at h
 | succ r ih =>
   intro a b c a4 a5 a6 a7 h;rw [zng] at h;split at h
   ·rename_i l
    simp only [ym] at l;obtain ⟨p,n,o⟩:=l;obtain ⟨p1,p2,i,f⟩:=zhd p;obtain ⟨k,q,e,g⟩:=zhd n;obtain ⟨s1,s2,j,m⟩:=zhd o;rw [xl zjp rfl,zm1];split at h
    ·rename_i d
     have:=ih a _ c vU vU vU vU h;simp -implicitDefEqProofs only [go_sem] at this;simp -implicitDefEqProofs only [go_sem,p1,k,s1,zrY i f,zrY e g,zrY j m,d,this]
    ·rename_i d
     injection h with h;subst h;simp -implicitDefEqProofs only [go_sem,p1,k,s1,zrY i f,zrY e g,zrY j m,d]
   ·cases h
theorem zBl (K : Nat) : ∀ (r : Nat) (a b c : Int) (a4 a5 a6 a7 : V),zqC t at' K r a b = some c →
  exec T zjl ⟨[vIs t,vIs at',vI a,vI b,a4,a5,a6,a7],[],0,0⟩ = some (.exit 0,⟨[vU,vU,vI c,vU,vU,vU,vU,vU],[],0,0⟩):=by
 intro r
 induction r with
 | zero => intro a b c _ _ _ _ h; simp [zqC] at h
 | succ r ih =>
   intro a b c a4 a5 a6 a7 h;rw [zqC] at h;rw [xl zjl rfl,zmL];split at h
   ·rename_i d
    injection h with h;subst h;subst d;simp -implicitDefEqProofs only [go_sem]
   ·rename_i d
    split at h
    ·cases h
    ·rename_i e j
     split at h
     ·cases h
     ·rename_i f i
      have g:=fun a4 a5 a6 a7 => zy8 t at' K a b e a4 a5 a6 a7 j;have e2:=fun a4 a5 a6 a7 => zzT t at' K e b f a4 a5 a6 a7 i;have:=ih e f c vU vU vU vU h;simp -implicitDefEqProofs only [go_sem] at g e2 this;simp -implicitDefEqProofs only [go_sem,d,g,e2,this]
theorem zvU (K r : Nat) (a b c : Int) (h : zqC t at' K r a b = some c) : call T 231 [vIs t,vIs at',vI a,vI b] [] = some (vI c,[]):=by
 rw [zd (fn:=zkx) rfl];have:=fun a4 a5 a6 a7 => zBl t at' K r a b c a4 a5 a6 a7 h;simp -implicitDefEqProofs only [go_sem] at this;simp -implicitDefEqProofs only [go_sem,zkx,this]
end
theorem zs3 {t : List Int} {a : Int} (c : ¬ a < 0) (b : ¬ (t.length : Int) ≤ a) : (t.map zF)[a.toNat]? = some [.f (.lit (.int .i64 (tr t a)))]:=by
 have : a.toNat < t.length:=by omega
 simp [tr,this,zF]
section
variable (succ pred : List (List Int)) (hpl : pred.length = succ.length) (hps : ∀ l ∈ pred,l.length ≤ 4294967296) (n : Nat) (hn : n = succ.length) (hn64 : n ≤ 64) (root : Int) (order tail at' : List Int) (hat : at'.length = n) (htl : tail.length ≤ 4294967296)
abbrev stT (succ pred : List (List Int)) (t at' : List Int) : zb:=[obG succ pred,.cells 0 1 (t.map zF),.cells 0 1 (at'.map zF)]
include hpl hps hn hn64 hat htl
theorem zAD (K : Nat) (t : List Int) (C : t.length = n) (x : Int) (y : Int) (ps : List Int) (e : ps.length ≤ 4294967296) : ∀ (d k : Nat) (b c : Int) (a0 a3 a5 a8 a9 j o f p q i l a25 a26 a27 a28 : V),ps.length - k = d → k ≤ ps.length → zjy t at' K (ps.drop k) b = some c →
  exec T zgI ⟨[a0,vI root,.one (.ptr 0 0 0 0),a3,vIs order,a5,.one (.own 1 0 0 n),.one (.own 2 0 0 n),a8,a9,vI x,vI b,j,o,f,p,q,i,vIs tail,vI tail.length,vI y,l,vIs ps,vI ps.length,vI k,a25,a26,a27,a28],stT succ pred t at',0,0⟩ =
   some (.exit 4,⟨[vU,vI root,.one (.ptr 0 0 0 0),vU,vIs order,vU,.one (.own 1 0 0 n),.one (.own 2 0 0 n),vU,vU,vI x,vI c,vU,vU,vU,vU,vU,vU,vIs tail,vI tail.length,vI y,vU,vU,vU,vU,vU,vU,vU,vU],stT succ pred t at',0,0⟩):=by
 intro d;have r : (t.map zF).take n = t.map zF:=yc (by simp; omega);have v : (at'.map zF).take n = at'.map zF:=yc (by simp; omega)
 induction d with
 | zero =>
   intro k b c a0 a3 a5 a8 a9 j o f p q i l a25 a26 a27 a28 A z h;have a : k = ps.length:=(by omega);subst a;rw [yo] at h;simp only [zjy,Option.some.injEq] at h;subst h;rw [xl zgI rfl,ziX];simp -implicitDefEqProofs only [go_sem,stT,obG,yp]
 | succ d ih =>
   intro k b c a0 a3 a5 a8 a9 j o f p q i l a25 a26 a27 a28 A z h;have a : k < ps.length:=(by omega);have hd : ps.drop k = ps[k] :: ps.drop (k + 1):=yh a;rw [hd,zjy] at h;split at h
   ·rename_i B
    obtain ⟨p1,p2,u,s⟩:=zhd B;have g : ps[k] < (n : Int):=(by omega);rw [xl zgI rfl,ziX];split at h
    ·rename_i c1
     have:=ih (k + 1) b c vU vU vU vU vU vU vU vU vU vU vU vU vU vU vU vU (by omega) (by omega) h;simp -implicitDefEqProofs only [go_sem,stT,obG] at this;simp -implicitDefEqProofs only [go_sem,stT,obG,ilt a,z6 a,ri,p1,g,zs3 u s,c1,zf a e,this]
    ·rename_i c1
     split at h
     ·rename_i c2
      subst c2;have:=ih (k + 1) ps[k] c vU vU vU vU vU vU vU vU vU vU vU vU vU vU vU vU (by omega) (by omega) h;simp -implicitDefEqProofs only [go_sem,stT,obG] at this;simp -implicitDefEqProofs only [go_sem,stT,obG,ilt a,z6 a,ri,p1,g,zs3 u s,c1,zf a e,this]
     ·rename_i c2
      split at h
      ·cases h
      ·rename_i m hm
       have w:=zvU t at' K K b ps[k] m hm;have:=ih (k + 1) m c vU vU vU vU vU vU vU vU vU vU vU vU vU vU vU vU (by omega) (by omega) h;simp -implicitDefEqProofs only [go_sem,stT,obG] at this w;simp -implicitDefEqProofs only [go_sem,stT,obG,ilt a,z6 a,ri,p1,g,zs3 u s,c1,c2,r,v,zez,w,zf a e,this]
   ·cases h
theorem zA9 (K : Nat) (t : List Int) (E : t.length = n) : ∀ (d k : Nat) (res : Option (Int × Int)) (a0 a3 a5 a8 a9 r q g j a l m e i a22 a23 a24 a25 a26 a27 a28 : V),tail.length - k = d → k ≤ tail.length → zpA pred t at' K (tail.drop k) = some res →
  exec T zgm ⟨[a0,vI root,.one (.ptr 0 0 0 0),a3,vIs order,a5,.one (.own 1 0 0 n),.one (.own 2 0 0 n),a8,a9,r,q,g,j,a,l,m,e,vIs tail,vI tail.length,vI k,i,a22,a23,a24,a25,a26,a27,a28],stT succ pred t at',0,0⟩ =
   some (match res with
    | none => (.exit 2,⟨[vU,vI root,vU,vU,vU,vU,.one (.own 1 0 0 n),vU,vU,vU,vU,vU,vU,vU,vU,vU,vU,vU,vU,vU,vU,vU,vU,vU,vU,vU,vU,vU,vU],stT succ pred t at',0,0⟩)
    | some (x,b) => (.goto 0,⟨[vU,vI root,.one (.ptr 0 0 0 0),vU,vIs order,vU,.one (.own 1 0 0 n),.one (.own 2 0 0 n),vU,vU,vU,vU,vU,vU,vU,vU,vU,vU,vU,vU,vU,vU,vU,vU,vU,vU,vU,vU,vU],stT succ pred (t.set x.toNat b) at',0,0⟩)):=by
 intro d
 induction d with
 | zero =>
   intro k res a0 a3 a5 a8 a9 r q g j a l m e i a22 a23 a24 a25 a26 a27 a28 B z h;have p : k = tail.length:=(by omega);subst p;rw [yo] at h;simp only [zpA,Option.some.injEq] at h;subst h;rw [xl zgm rfl,zjd];simp -implicitDefEqProofs only [go_sem,stT,obG,yp]
 | succ d ih =>
   intro k res a0 a3 a5 a8 a9 r q g j a l m e i a22 a23 a24 a25 a26 a27 a28 B z h;have p : k < tail.length:=(by omega);have hd : tail.drop k = tail[k] :: tail.drop (k + 1):=yh p;rw [hd,zpA] at h;split at h
   ·rename_i D
    obtain ⟨p1,p2,y,w⟩:=zhd D;have s : tail[k] < (n : Int):=(by omega);have o : tail[k].toNat < pred.length:=(by omega);have v : pred.getD tail[k].toNat [] = pred[tail[k].toNat]:=(by simp [o]);rw [v] at h;split at h
    ·cases h
    ·rename_i b A
     have c:=fun a0 a3 a5 a8 a9 g j a l m e i a25 a26 a27 a28 => zAD succ pred hpl hps n hn hn64 root order tail at' hat htl K t E tail[k] k pred[tail[k].toNat] (hps _ (yi o)) _ 0 (-2) b a0 a3 a5 a8 a9 g j a l m e i a25 a26 a27 a28 rfl (yx _) A;rw [xl zgm rfl,zjd];simp only [yq] at c;split at h
     ·rename_i c1
      have:=ih (k + 1) res vU vU vU vU vU vU vU vU vU vU vU vU vU vU vU vU vU vU vU vU vU (by omega) (by omega) h;simp -implicitDefEqProofs only [go_sem,stT,obG] at this c;simp -implicitDefEqProofs only [go_sem,stT,obG,ilt p,z6 p,z6 o,ri,rl,p1,s,c,zs3 y w,c1,zf p htl,this]
     ·rename_i c1
      injection h with h;subst h;have u : (t.map zF).set tail[k].toNat [C.f (.lit (.int .i64 b))] = (t.set tail[k].toNat b).map zF:=(by rw [yn]; rfl);simp -implicitDefEqProofs only [go_sem,stT,obG] at c;simp -implicitDefEqProofs only [go_sem,stT,obG,ilt p,z6 p,z6 o,ri,rl,p1,s,c,zs3 y w,c1,u]
   ·cases h
end
def zjN : Go.A.Code:=zQ.p2.p2.p2.p2.p2.p2.p2
theorem zxJ : zi4 = .seq .skip zjN:=rfl
section
variable (succ pred : List (List Int)) (hpl : pred.length = succ.length) (hps : ∀ l ∈ pred,l.length ≤ 4294967296) (n : Nat) (hn : n = succ.length) (hn64 : n ≤ 64) (root : Nat) (hroot : root < n) (tail : List Int) (htl : tail.length ≤ 4294967295)
include hpl hps hn hn64
theorem zAA (order : List Int) (p : order.length ≤ 4294967296) (u : ∀ x ∈ order,0 ≤ x ∧ x < (n : Int)) (t : List Int) : ∀ (d k : Nat) (at' : List Int) (a0 a3 a5 a8 a9 l c g i e j b a20 h a22 a23 a24 a25 a26 a27 a28 : V),at'.length = n → order.length - k = d → k ≤ order.length →
  exec T zgO ⟨[a0,vI root,.one (.ptr 0 0 0 0),a3,vIs order,a5,.one (.own 1 0 0 n),.one (.own 2 0 0 n),a8,a9,l,c,g,i,vIs order,vI order.length,vI k,e,j,b,a20,h,a22,a23,a24,a25,a26,a27,a28],stT succ pred t at',0,0⟩ =
   some (.exit 0,⟨[vU,vI root,.one (.ptr 0 0 0 0),vU,vIs order,vU,.one (.own 1 0 0 n),.one (.own 2 0 0 n),vU,vU,vU,vU,vU,vU,vU,vU,vU,vU,vU,vU,vU,vU,vU,vU,vU,vU,vU,vU,vU],stT succ pred t (zhN k (order.drop k) at'),0,0⟩):=by
 intro d
 induction d with
 | zero =>
   intro k at' a0 a3 a5 a8 a9 l c g i e j b a20 h a22 a23 a24 a25 a26 a27 a28 q v r;have m : k = order.length:=(by omega);subst m;rw [xl zgO rfl,zi5];simp -implicitDefEqProofs only [go_sem,stT,obG,yp,yo,zhN]
 | succ d ih =>
   intro k at' a0 a3 a5 a8 a9 l c g i e j b a20 h a22 a23 a24 a25 a26 a27 a28 q v r;have m : k < order.length:=(by omega);have hd : order.drop k = order[k] :: order.drop (k + 1):=yh m;obtain ⟨p1,p2⟩:=u _ (yi m);have s:=zs3 (t:=at') (a:=order[k]) (by omega) (by omega);have o : (at'.map zF).set order[k].toNat [C.f (.lit (.int .i64 (k : Int)))] = (at'.set order[k].toNat (k : Int)).map zF:=(by rw [yn]; rfl);have:=ih (k + 1) (at'.set order[k].toNat (k : Int)) vU vU vU vU vU vU vU vU vU vU vU vU vU vU vU vU vU vU vU vU vU (by simpa using q) (by omega) (by omega);rw [xl zgO rfl,zi5,hd,zhN];simp -implicitDefEqProofs only [go_sem,stT,obG] at this;simp -implicitDefEqProofs only [go_sem,stT,obG,ilt m,z6 m,ri,p1,p2,s,o,zf m p,this]
include hroot htl
theorem zoi (K : Nat) (at' : List Int) (w : at'.length = n) (t : List Int) (A : t.length = n) (o : Int) (res : Option (Int × Int)) (h : zpA pred t at' K tail = some res)
  (a0 a3 a5 a8 a9 m d g j c k l e v s a20 i a22 a23 a24 a25 a26 a27 a28 : V) :
  exec T zjN ⟨[a0,vI root,.one (.ptr 0 0 0 0),a3,vIs (o :: tail),a5,.one (.own 1 0 0 n),.one (.own 2 0 0 n),a8,a9,m,d,g,j,c,k,l,e,v,s,a20,i,a22,a23,a24,a25,a26,a27,a28],stT succ pred t at',0,0⟩ =
   some (match res with
    | none => (.ret,⟨[vU,vU,vU,.one (.own 1 0 0 n),vU,vU,vU,vU,vU,vU,vU,vU,vU,vU,vU,vU,vU,vU,vU,vU,vU,vU,vU,vU,vU,vU,vU,vU,vU],stT succ pred (t.set root (-1)) at',0,0⟩)
    | some (x,b) => (.goto 0,⟨[vU,vI root,.one (.ptr 0 0 0 0),vU,vIs (o :: tail),vU,.one (.own 1 0 0 n),.one (.own 2 0 0 n),vU,vU,vU,vU,vU,vU,vU,vU,vU,vU,vU,vU,vU,vU,vU,vU,vU,vU,vU,vU,vU],stT succ pred (t.set x.toNat b) at',0,0⟩)):=by
 have q:=fun a0 a3 a5 a8 a9 m d g j c k l e i a22 a23 a24 a25 a26 a27 a28 => zA9 succ pred hpl hps n hn hn64 root (o :: tail) tail at' w (by omega) K t A tail.length 0 res a0 a3 a5 a8 a9 m d g j c k l e i a22 a23 a24 a25 a26 a27 a28 (by omega) (by omega) h;simp only [yq] at q;have p : (ri o).length = 1:=rfl;have z : (ri o :: tail.map ri).take (tail.length + 1) = ri o :: tail.map ri:=yc (by simp);have e2 : (1 ≤ tail.length + 1) = True:=by simp
 have u : ((root : Int) < (n : Int)) = True:=by simp; omega
 have r : (t.map zF).set root [C.f (.lit (.int .i64 (-1)))] = (t.set root (-1)).map zF:=by rw [yn]; rfl
 have y:=zs3 (t:=t) (a:=(root : Int)) (by omega) (by omega);rw [ya] at y
 cases res with
 | none =>
   simp -implicitDefEqProofs only [go_sem,stT,obG] at q;simp -implicitDefEqProofs only [go_sem,stT,obG,zjN,zQ,Code.p2,yw,p,zs9,z,e2,q,u,yd,ya,y,r]
 | some xb =>
   obtain ⟨x,b⟩:=xb;simp -implicitDefEqProofs only [go_sem,stT,obG] at q;simp -implicitDefEqProofs only [go_sem,stT,obG,zjN,zQ,Code.p2,yw,p,zs9,z,e2,q]
theorem zy4 (K : Nat) (at' : List Int) (l : at'.length = n) (q : Int) : ∀ (r : Nat) (t p : List Int) (a0 a3 a5 a8 a9 o d f i c k m e j a a20 g a22 a23 a24 a25 a26 a27 a28 : V),t.length = n → zeR pred at' K tail r t = some p →
  exec T (.sc zQ zi4) ⟨[a0,vI root,.one (.ptr 0 0 0 0),a3,vIs (q :: tail),a5,.one (.own 1 0 0 n),.one (.own 2 0 0 n),a8,a9,o,d,f,i,c,k,m,e,j,a,a20,g,a22,a23,a24,a25,a26,a27,a28],stT succ pred t at',0,0⟩ =
   some (.ret,⟨[vU,vU,vU,.one (.own 1 0 0 n),vU,vU,vU,vU,vU,vU,vU,vU,vU,vU,vU,vU,vU,vU,vU,vU,vU,vU,vU,vU,vU,vU,vU,vU,vU],stT succ pred (p.set root (-1)) at',0,0⟩):=by
 intro r
 induction r with
 | zero => intro t p _ _ _ _ _ _ _ _ _ _ _ _ _ _ _ _ _ _ _ _ _ _ _ _ _ h; simp [zeR] at h
 | succ r ih =>
   intro t p a0 a3 a5 a8 a9 o d f i c k m e j a a20 g a22 a23 a24 a25 a26 a27 a28 u h;rw [zeR] at h;rw [zfb,zxJ,zdv,zfd];simp only [yf,zqm];split at h
   ·cases h
   ·rename_i s
    injection h with h;subst h;rw [zoi succ pred hpl hps n hn hn64 root hroot tail htl K at' l t u q none s];simp only [yf,scK]
   ·rename_i x b s
    rw [zoi succ pred hpl hps n hn hn64 root hroot tail htl K at' l t u q (some (x,b)) s];simp only [yf,scK,znS];exact ih _ _ _ _ _ _ _ _ _ _ _ _ _ _ _ _ _ _ _ _ _ _ _ _ _ _ (by simpa using u) h
end
def zCd : Go.A.Code:=zQ.p1
def zCa : Go.A.Code:=zQ.p2.p1
def zBY : Go.A.Code:=zQ.p2.p2.p1
def zCy : Go.A.Code:=zQ.p2.p2.p2.p1
def zCu : Go.A.Code:=zQ.p2.p2.p2.p2.p1
def zCc : Go.A.Code:=zQ.p2.p2.p2.p2.p2.p1
theorem zDa : zQ = .seq zCd (.seq zCa (.seq zBY (.seq zCy (.seq zCu (.seq zCc (.seq (.label 0) zjN)))))):=rfl
theorem zrG (succ pred : List (List Int)) (S : zlw succ) (hm : zyq succ pred = true) (root : Nat) (N : root < succ.length) (k : Nat) (Y : k ≤ 4294967295) (o : List Int) (V : dfs succ k (zqn root) = some o)
  (d : Int) (tail : List Int) (a : o.reverse = d :: tail) (E : ∀ x ∈ o,0 ≤ x ∧ x < (succ.length : Int)) (Z : o.length ≤ 4294967295) (K r : Nat) (t : List Int) (P : zeR pred (at0 succ.length o.reverse) K tail r (ziH succ.length root) = some t) :
  call T 195 [.agg [.f (.sl (succ.map rl)),.f (.sl (pred.map rl))],vI root] [] = some (vIs (t.set root (-1)),[]):=by
 rw [zd (fn:=zk2) rfl];have b : zdc succ = true ∧ zah succ = pred:=by simpa [zyq] using hm
 obtain ⟨X,A,q3⟩:=zfp b.1;have hpl : pred.length = succ.length:=by rw [← b.2,zgF]
 have hps : ∀ l ∈ pred,l.length ≤ 4294967296:=by rw [← b.2]; exact zmF succ S (zh7 b.1)
 have y:=zus succ pred S hm root N k Y o V;have Q:=zs7 succ.length X A
 have htl : tail.length ≤ 4294967295:=by
  have : o.reverse.length = tail.length + 1:=by rw [a]; rfl
  rw [yl] at this;omega
 have G:=fun a0 a3 a5 a8 a9 u g m p j q e a20 n a22 a23 a24 a25 a26 a27 a28 => zAA succ pred hpl hps succ.length rfl A root (d :: tail) (by simp only [yb]; omega) (fun x U => E x (List.mem_reverse.1 (by rw [a]; exact U))) (yg succ.length (-2)) (d :: tail).length 0 (yg succ.length 0) a0 a3 a5 a8 a9 u g m p j q e a20 n a22 a23 a24 a25 a26 a27 a28 (by simp) rfl (yx _);simp only [List.drop_zero,yq] at G;rw [a] at y P;have I : ((root : Int) < (succ.length : Int)) = True:=by simp; omega
 have w : ((yg succ.length (-2 : Int)).map zF).set root [C.f (.lit (.int .i64 (root : Int)))] = (ziH succ.length root).map zF:=by rw [ziH,yn]; rfl
 have i : ((yg succ.length (-2 : Int)).map zF)[root]? = some [.f (.lit (.int .i64 (-2)))]:=by simp [N,zF]
 have M : (at0 succ.length (d :: tail)).length = succ.length:=by rw [at0,zgB]; simp
 have v : (succ.length : Int) ≤ (LIM : Int):=by unfold LIM; omega
 have W : yg succ.length [C.f (.lit (.int .i64 0))] = (yg succ.length (0 : Int)).map zF:=by rw [yu]; rfl
 have H : ¬ ((tail.length + 1 : Nat) : Int) = 0:=by omega
 have R : exec T (.scope zQ) ⟨[.agg [.f (.sl (succ.map rl)),.f (.sl (pred.map rl))],vI root,.one (.ptr 0 0 0 0),vL [],vU,vU,vU,vU,vU,vU,vU,vU,vU,vU,vU,vU,vU,vU,vU,vU,vU,vU,vU,vU,vU,vU,vU,vU,vU],[obG succ pred],0,0⟩ = some (.ret,⟨[vU,vU,vU,.one (.own 1 0 0 succ.length),vU,vU,vU,vU,vU,vU,vU,vU,vU,vU,vU,vU,vU,vU,vU,vU,vU,vU,vU,vU,vU,vU,vU,vU,vU],stT succ pred (t.set root (-1)) (at0 succ.length (d :: tail)),0,0⟩):=by
  have h:=fun a0 a3 a5 a8 a9 u g m p z L O j q e a20 n a22 a23 a24 a25 a26 a27 a28 => zy4 succ pred hpl hps succ.length rfl A root N tail htl K (at0 succ.length (d :: tail)) M d r (ziH succ.length root) t a0 a3 a5 a8 a9 u g m p z L O j q e a20 n a22 a23 a24 a25 a26 a27 a28 (by simp [ziH]) P;rw [← h vU vU vU vU vU vU vU vU vU vU vU vU vU vU vU vU vU vU vU vU vU vU vU vU];rw [zkt,zfb,zfb]
  congr 1
  rw [zxJ,zdv,zfd];simp only [yf,zqm];rw [zDa];have J : zCy = .regd [] [⟨.loc,.bsl .fz 1 [[.f (.lit (.int .i64 0))]] [(0,.c (vI (-2)))],none⟩,⟨.loc,.mv (.s 5),none⟩,⟨.loc,.call .ck (.c (.one (.fn 230 [] []))) [.l 1,.l 0],none⟩,⟨.loc,.mv (.s 5),none⟩,⟨.loc,.mks [.f (.lit (.int .i64 0))] none (.l 0),none⟩,⟨.slot 6,.mv (.l 2),none⟩,⟨.slot 7,.mv (.l 1),none⟩]:=rfl
  have D : (yy zF (yg succ.length (-2 : Int))).map (C.shifts 1) = yy zF (yg succ.length (-2 : Int)):=by
   rw [List.map_map];rfl
  simp -implicitDefEqProofs only [go_sem,obG,stT] at y Q G;simp -implicitDefEqProofs only [go_sem,obG,stT,zCd,zCa,zBY,J,zCu,zCc,zQ,Code.p1,Code.p2,y,Q,H,v,yd,ya,W,D,G,I,i,w];rfl
 have B : ((t.set root (-1)).map zF).take succ.length = (t.set root (-1)).map zF:=yc (by have:=ziU P; simp [ziH] at this; simp; omega);simp -implicitDefEqProofs only [go_sem,obG,stT] at R;simp -implicitDefEqProofs only [go_sem,zk2,R,B,zez]
def zf7 (params : List Int) (ret : Int) (ops : List POp) (arg : Int) : PFunc:=⟨params,ret,[⟨[],ops,0,arg,[]⟩]⟩
section
variable (params : List Int) (ret : Int) (ops : List POp) (arg : Int)
theorem zyW : zw0 [] = []:=by simp [zw0,zjb,zZ]
theorem zpC : zA (zf7 params ret ops arg) = [[]]:=by simp [zA,zf7,zyW]
theorem pred_one : zah [[]] = [[]]:=rfl
theorem zv4 : zbA (zf7 params ret ops arg) = true:=by
 rw [zbA,zpC];rfl
theorem zzg : ziN (zf7 params ret ops arg) [-1]:=by
 refine ⟨by simp,fun _ => ?_⟩;rw [zpC,pred_one];exact zrG [[]] [[]] ⟨by simp,by simp⟩ rfl 0 (by simp) 5 (by omega) [0] rfl 0 [] rfl (by simp) (by simp) 5 5 [0] rfl
theorem zwa : zdM (zf7 params ret ops arg) [-1] = true:=by
 rw [zdM,zv4,zpC,pred_one];rfl
theorem zyu : zcV (zf7 params ret ops arg) = zJ 0 0 ops ++ (if ret = 0 then [] else [⟨arg,(ret,1),0,zh2⟩]):=by
 simp [zcV,zf7,zcq,zhb,zd3,ze0,zi9]
theorem zzS : zgh (zf7 params ret ops arg) = match zdg 0 0 (zaX 0 [] params) ops with
  | (D2,some o) => (D2,some [.cells 0 5 [zK ⟨[],ops,0,arg,[]⟩],.cells 0 6 [cOp o]])
  | (D2,none) => (D2,none):=by
 simp only [zgh,zf7,zbp,zdx];rfl
end
end AC

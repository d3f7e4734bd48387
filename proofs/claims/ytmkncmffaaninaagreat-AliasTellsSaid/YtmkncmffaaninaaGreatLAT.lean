/- A part of the proof of AliasTells. Conditions: none. -/
import Derived.Test.YtmkncmffaaninaaGreatLAS
import Derived.Test.YtmkncmffaaninaaGreatLAO
import Derived.Test.YtmkncmffaaninaaGreatLAQ
set_option linter.all false
open Int renaming toNat_natCast → ya,natCast_nonneg → yh,lt_irrefl → yC,natCast_zero → yE,reduceToNat → yS,ofNat → y1
open List renaming length_cons → yb,mem_append → yd,take_of_length_le → ye,all_eq_true → yf,length_nil → yg,getD_eq_getElem?_getD → yi,mem_cons_of_mem → yk,mem_cons → ym,getElem_mem → yn,mem_cons_self → yo,replicate → yp,getElem?_cons_zero → yq,append_assoc → yr,drop_eq_getElem_cons → ys,length_append → yt,mem_singleton → yu,singleton_append → yv,getElem?_eq_getElem → yw,length_reverse → yx,map_set → yy,drop_length → yz,mem_map → yA,find?_cons → yB,mem_range → yD,take_left' → yF,map_append → yG,range → yH,nil_append → yI,nodup_cons → yJ,mem_iff_getElem → yK,map_replicate → yM,all_cons → yO,map_cons → yP,getElem_take → yQ,cons_append → yT,length_take → yU,all_map → yV,mem_filter → yX,map → y2
open Bool renaming and_eq_true → yc,not_eq_true' → yR,eq_iff_iff → yW,true_and → yY
open Option renaming bind_some → yl
open Nat renaming mul_one → yL,zero_add → yN,le_refl → yZ,zero_le → y0
namespace AC
open Go Go.A Go.A.Lex
theorem n64 : ((64 : Nat) : Int) = 64:=rfl
attribute [go_sem] n64
def cB (b : Bool) : C:=.f (.lit (.bool b))
def cN (n : Nat) : C:=.f (.lit (.int .i64 n))
section
variable (succ pred : List (List Int)) (hn : succ.length ≤ 64) (hs : ∀ l ∈ succ,l.length ≤ 4294967296) (hr : ∀ l ∈ succ,∀ y ∈ l,0 ≤ y ∧ y < (succ.length : Int))
abbrev obG : Ob:=.cells 0 2 [[.f (.sl (succ.map rl)),.f (.sl (pred.map rl))]]
abbrev stO (seen : List Bool) (next : List Nat) (vo : Nat) (out : List Int) (vs : Nat) (row : List Int) : zd :=
 [obG succ pred,.cells 0 64 [seen.map cB],.cells 0 64 [next.map cN],.cells vo 1 (out.map zL),.cells vs 1 (row.map zL)]
include hn hs hr
theorem zxW (X : Nat) (B : X < succ.length) (seen : List Bool) (H : seen.length = 64) (u : Nat) (out : List Int) (vs : Nat) (row : List Int) (m : Nat) (hm : m ≤ row.length) (M : m + 1 ≤ 4294967296) : ∀ (d a : Nat) (next : List Nat) (a0 a1 a3 a9 r n p o : V),next.length = 64 → next[X]? = some a → succ[X].length - a = d → a ≤ succ[X].length →
  exec T zho ⟨[a0,a1,.one (.ptr 0 0 0 0),a3,.one (.ptr 1 0 0 0),.one (.ptr 2 0 0 0),.one (.own 3 u 0 out.length),.one (.own 4 vs 0 m),vI X,a9,r,n,p,o],stO succ pred seen next u out vs row,0,0⟩ =
   some (match scan seen (succ[X].drop a) a with
    | none => (.exit 0,⟨[vU,vU,.one (.ptr 0 0 0 0),vU,.one (.ptr 1 0 0 0),.one (.ptr 2 0 0 0),.one (.own 3 u 0 out.length),.one (.own 4 vs 0 m),vI X,vU,vU,vU,vU,vU],stO succ pred seen (next.set X succ[X].length) u out vs row,0,0⟩)
    | some (y,j) => (.goto 0,⟨[vU,vU,.one (.ptr 0 0 0 0),vU,.one (.ptr 1 0 0 0),.one (.ptr 2 0 0 0),.one (.own 3 u 0 out.length),.one (.own 4 (vs + 1) 0 (m + 1)),vU,vU,vU,vU,vU,vU],stO succ pred (seen.set y.toNat true) (next.set X j) u out (vs + 1) (row.take m ++ [y]),0,0⟩)):=by
 intro d;have l : X < 64:=by omega
 have q : ((X : Int) < 64) = True:=by simp; omega
 have J:=hs _ (yn B)
 induction d with
 | zero =>
   intro a next a0 a1 a3 a9 r n p o b c N L
   have i : a = succ[X].length:=(by omega);subst i;have G : (next.map cN)[X]? = some (cN succ[X].length):=by simp [c]
   have w : next.set X succ[X].length = next:=by
    apply List.ext_getElem?;intro j;rw [List.getElem?_set]
    by_cases e : X = j
    ·subst e; rw [if_pos rfl,if_pos (by omega),c]
    ·rw [if_neg e]
   rw [xl zho rfl,zjC,w];simp -implicitDefEqProofs only [go_sem,stO,obG,zt B,rl,q,yh,ya,yL,G,cN,yC,yz,scan]
 | succ d ih =>
   intro a next a0 a1 a3 a9 r n p o b c N L
   have i : a < succ[X].length:=(by omega);have hd : succ[X].drop a = succ[X][a] :: succ[X].drop (a + 1):=ys i;obtain ⟨P,O⟩:=hr _ (yn B) _ (yn i);have A : (succ[X].map ri)[a]? = some (ri succ[X][a]):=zt i;generalize succ[X][a] = y at *;obtain ⟨Y,rfl⟩ : ∃ Y : Nat,y = Y:=⟨y.toNat,by omega⟩;have K : Y < 64:=(by omega);have E : ((Y : Int) < 64) = True:=(by simp; omega);have G : (next.map cN)[X]? = some (cN a):=(by simp [c]);have s:=zvo (e:=next.map cN) (k:=X) (.f (.lit (.int .i64 ((a + 1 : Nat) : Int)))) (by simp; omega);have I : C.f (.lit (.int .i64 ((a + 1 : Nat) : Int))) = cN (a + 1):=rfl;have z : (next.map cN).set X (C.f (.lit (.int .i64 ((a + 1 : Nat) : Int)))) = (next.set X (a + 1)).map cN:=(by rw [I,yy]);rw [z] at s;have hle:=zsK (show X < next.length by omega)
   have g : (seen.map cB)[Y]? = some (cB (seen.getD Y false)):=by
    have : Y < seen.length:=(by omega);simp [this]
   have h:=zvo (e:=seen.map cB) (k:=Y) (.f (.lit (.bool true))) (by simp; omega);have t : (seen.map cB).set Y (C.f (.lit (.bool true))) = (seen.set Y true).map cB:=(by rw [yy]; rfl);rw [t] at h;have x:=zsK (show Y < seen.length by omega);have hw : Go.IntKind.i64.wrap ((a : Int) + 1) = ((a + 1 : Nat) : Int):=za i J;have v : ((next.set X (a + 1)).map cN)[X]? = some (cN (a + 1)):=(by simp [b,l]);have D : 0 < m + 1 ∧ m + 1 ≤ LIM:=⟨by omega,by unfold LIM; omega⟩;rw [xl zho rfl,zjC,hd,scan];rw [ya];cases e : seen.getD Y false
   ·rw [e] at g
    have er : (row.map zL).take m ++ [[C.f (.lit (.int .i64 (Y : Int)))]] = (row.take m ++ [(Y : Int)]).map zL:=(by simp [zL,List.map_take]);simp -implicitDefEqProofs only [go_sem,stO,obG,zt B,rl,q,yh,ya,yL,G,cN,ilt i,A,ri,E,hw,s,hle,v,g,cB,h,x,D,er]
   ·rw [e] at g
    have:=ih (a + 1) (next.set X (a + 1)) vU vU vU vU vU vU vU vU (by simpa using b) (by simp [b,l]) (by omega) (by omega);simp -implicitDefEqProofs only [go_sem,stO,obG,List.set_set] at this;simp -implicitDefEqProofs only [go_sem,stO,obG,zt B,rl,q,yh,ya,yL,G,cN,ilt i,A,ri,E,hw,s,hle,v,g,cB,this]
end
attribute [go_sem] Option.any_some
def zll : Go.A.Code:=zA.p2.p2.p2.p2.p2.p2.p2
theorem zsV : zjx = .seq .skip zll:=rfl
section
variable (succ pred : List (List Int)) (hn : succ.length ≤ 64) (hs : ∀ l ∈ succ,l.length ≤ 4294967296) (hr : ∀ l ∈ succ,∀ y ∈ l,0 ≤ y ∧ y < (succ.length : Int))
include hn hs hr
theorem zzQ {d : DF} (hd : DInv succ d) {x : Int} (f : 0 ≤ x ∧ x < (succ.length : Int)) {j : Nat} (c : j ≤ (succ.getD x.toNat []).length) : ∀ X,X < succ.length → (d.next.set x.toNat j).getD X 0 ≤ (succ.getD X []).length:=by
 intro X a;have b:=hd.next
 by_cases e : x.toNat = X
 ·subst e
  rw [zbO _ _ (by omega)];exact c
 ·rw [getD_set_ne _ _ e]
  exact hd.le X a
theorem zAL (d : DF) (a : List Int) (n vs : Nat) (X : Nat) (s : List Int) (y : Int) (j : Nat) (a0 a1 a3 a8 a9 i c h g : V) (hd : DInv succ d) (t : X < succ.length) (m : s.length + 2 ≤ 4294967296) (x : d.out.length + 1 ≤ 4294967296) (b : zhz succ d X = some (y,j)) :
  exec T zll ⟨[a0,a1,.one (.ptr 0 0 0 0),a3,.one (.ptr 1 0 0 0),.one (.ptr 2 0 0 0),.one (.own 3 n 0 d.out.length),.one (.own 4 vs 0 (s.length + 1)),a8,a9,i,c,h,g],stO succ pred d.seen d.next n d.out vs (((X : Int) :: s).reverse ++ a),0,0⟩ =
   some (.goto 0,⟨[vU,vU,.one (.ptr 0 0 0 0),vU,.one (.ptr 1 0 0 0),.one (.ptr 2 0 0 0),.one (.own 3 n 0 d.out.length),.one (.own 4 (vs + 1) 0 (s.length + 2)),vU,vU,vU,vU,vU,vU],stO succ pred (d.seen.set y.toNat true) (d.next.set X j) n d.out (vs + 1) ((y :: (X : Int) :: s).reverse ++ []),0,0⟩):=by
 have p:=hd.next;have o : succ.getD X [] = succ[X]:=by simp [t]
 have r : d.next[X]? = some (d.next.getD X 0):=by
  have : X < d.next.length:=by omega
  simp [this]
 have hle:=hd.le X t;rw [o] at hle;have l:=fun a0 a1 a3 a9 i c h g => zxW succ pred hn hs hr X t d.seen hd.seen n d.out vs (((X : Int) :: s).reverse ++ a) (s.length + 1) (by simp only [yt,yx,yb,yg]; omega) (by first | omega | (simp only [yb,yg] at m ⊢; omega)) _ (d.next.getD X 0) d.next a0 a1 a3 a9 i c h g p r rfl hle
 have q : zhz succ d (X : Int) = scan d.seen (succ[X].drop (d.next.getD X 0)) (d.next.getD X 0):=by
  unfold zhz;rw [ya,o]
 rw [q] at b
 have hw : Go.IntKind.i64.wrap (((s.length + 1 : Nat) : Int) - 1) = (s.length : Int):=by rw [wrap_i64] <;> first | omega | (simp only [yb,yg] at m ⊢; omega)
 have u : ((s.length : Int) < ((s.length + 1 : Nat) : Int)) = True:=by first | (simp; done) | (simp; omega)
 have k : ((((X : Int) :: s).reverse ++ a).map zL)[s.length]? = some [.f (.lit (.int .i64 (X : Int)))]:=by
  apply zoi;simp
 have v : (((X : Int) :: s).reverse ++ a).take (s.length + 1) = ((X : Int) :: s).reverse:=yF (by simp);have w : 0 < d.out.length + 1 ∧ d.out.length + 1 ≤ LIM:=⟨by omega,by unfold LIM; omega⟩
 have eo : (d.out.map zL).take d.out.length ++ [[C.f (.lit (.int .i64 (X : Int)))]] = (d.out ++ [(X : Int)]).map zL:=by
  rw [ye (by simp),yG];rfl
 generalize hrow : ((X : Int) :: s).reverse ++ a = row at *;rw [b] at l;have e : (y :: (X : Int) :: s).reverse ++ [] = row.take (s.length + 1) ++ [y]:=by rw [v]; simp
 have z : 0 < s.length + 2 ∧ s.length + 2 ≤ LIM:=⟨by omega,by unfold LIM; omega⟩;rw [e];simp -implicitDefEqProofs only [go_sem,stO,obG] at l;simp -implicitDefEqProofs only [go_sem,zll,zA,Code.p2,stO,obG,hw,u,yh,ya,k,l]
theorem zDD (d : DF) (a : List Int) (j vs : Nat) (X : Nat)  (a0 a1 a3 a8 a9 i e h g : V) (hd : DInv succ d) (t : X < succ.length) (l : ([] : List Int).length + 2 ≤ 4294967296) (u : d.out.length + 1 ≤ 4294967296) (b : zhz succ d X = none) :
  exec T zll ⟨[a0,a1,.one (.ptr 0 0 0 0),a3,.one (.ptr 1 0 0 0),.one (.ptr 2 0 0 0),.one (.own 3 j 0 d.out.length),.one (.own 4 vs 0 (([] : List Int).length + 1)),a8,a9,i,e,h,g],stO succ pred d.seen d.next j d.out vs (((X : Int) :: ([] : List Int)).reverse ++ a),0,0⟩ =
   some (.ret,⟨[vU,vU,vU,.one (.own 3 (j + 1) 0 (d.out.length + 1)),vU,vU,vU,vU,vU,vU,vU,vU,vU,vU],stO succ pred d.seen (d.next.set X succ[X].length) (j + 1) (d.out ++ [(X : Int)]).reverse vs (((X : Int) :: []).reverse ++ a),0,0⟩):=by
 have q:=hd.next;have o : succ.getD X [] = succ[X]:=by simp [t]
 have s : d.next[X]? = some (d.next.getD X 0):=by
  have : X < d.next.length:=by omega
  simp [this]
 have hle:=hd.le X t;rw [o] at hle;have k:=fun a0 a1 a3 a9 i e h g => zxW succ pred hn hs hr X t d.seen hd.seen j d.out vs (((X : Int) :: ([] : List Int)).reverse ++ a) (([] : List Int).length + 1) (by simp only [yt,yx,yb,yg]; omega) (by first | omega | (simp only [yb,yg] at l ⊢; omega)) _ (d.next.getD X 0) d.next a0 a1 a3 a9 i e h g q s rfl hle
 have r : zhz succ d (X : Int) = scan d.seen (succ[X].drop (d.next.getD X 0)) (d.next.getD X 0):=by
  unfold zhz;rw [ya,o]
 rw [r] at b
 have hw : Go.IntKind.i64.wrap (((([] : List Int).length + 1 : Nat) : Int) - 1) = (([] : List Int).length : Int):=by rw [wrap_i64] <;> first | omega | (simp only [yb,yg] at l ⊢; omega)
 have n : ((([] : List Int).length : Int) < ((([] : List Int).length + 1 : Nat) : Int)) = True:=by first | (simp; done) | (simp; omega)
 have c : ((((X : Int) :: ([] : List Int)).reverse ++ a).map zL)[([] : List Int).length]? = some [.f (.lit (.int .i64 (X : Int)))]:=by
  apply zoi;simp
 have v : (((X : Int) :: ([] : List Int)).reverse ++ a).take (([] : List Int).length + 1) = ((X : Int) :: ([] : List Int)).reverse:=yF (by simp);have p : 0 < d.out.length + 1 ∧ d.out.length + 1 ≤ LIM:=⟨by omega,by unfold LIM; omega⟩
 have eo : (d.out.map zL).take d.out.length ++ [[C.f (.lit (.int .i64 (X : Int)))]] = (d.out ++ [(X : Int)]).map zL:=by
  rw [ye (by simp),yG];rfl
 generalize hrow : ((X : Int) :: ([] : List Int)).reverse ++ a = row at *;rw [b] at k;have m:=zv2 (stO succ pred d.seen (d.next.set X succ[X].length) (j + 1) (d.out ++ [(X : Int)]) vs row) 3 (j + 1) (d.out ++ [(X : Int)]) (by simp; omega) rfl (d.out.length + 1) (by simp);simp -implicitDefEqProofs only [go_sem,stO,obG] at k m hw n c;simp -implicitDefEqProofs only [go_sem,zll,zA,Code.p2,stO,obG,hw,n,yh,ya,c,k,p,eo,m]
theorem zDf (d : DF) (a : List Int) (o vs : Nat) (X : Nat) (z : Int) (b : List Int) (a0 a1 a3 a8 a9 k h j i : V) (hd : DInv succ d) (v : X < succ.length) (n : (z :: b).length + 2 ≤ 4294967296) (w : d.out.length + 1 ≤ 4294967296) (c : zhz succ d X = none) :
  exec T zll ⟨[a0,a1,.one (.ptr 0 0 0 0),a3,.one (.ptr 1 0 0 0),.one (.ptr 2 0 0 0),.one (.own 3 o 0 d.out.length),.one (.own 4 vs 0 ((z :: b).length + 1)),a8,a9,k,h,j,i],stO succ pred d.seen d.next o d.out vs (((X : Int) :: (z :: b)).reverse ++ a),0,0⟩ =
   some (.goto 0,⟨[vU,vU,.one (.ptr 0 0 0 0),vU,.one (.ptr 1 0 0 0),.one (.ptr 2 0 0 0),.one (.own 3 (o + 1) 0 (d.out.length + 1)),.one (.own 4 vs 0 (b.length + 1)),vU,vU,vU,vU,vU,vU],stO succ pred d.seen (d.next.set X succ[X].length) (o + 1) (d.out ++ [(X : Int)]) vs ((z :: b).reverse ++ ((X : Int) :: a)),0,0⟩):=by
 have s:=hd.next;have q : succ.getD X [] = succ[X]:=by simp [v]
 have u : d.next[X]? = some (d.next.getD X 0):=by
  have : X < d.next.length:=by omega
  simp [this]
 have hle:=hd.le X v;rw [q] at hle;have l:=fun a0 a1 a3 a9 k h j i => zxW succ pred hn hs hr X v d.seen hd.seen o d.out vs (((X : Int) :: z :: b).reverse ++ a) ((z :: b).length + 1) (by simp only [yt,yx,yb,yg]; omega) (by first | omega | (simp only [yb,yg] at n ⊢; omega)) _ (d.next.getD X 0) d.next a0 a1 a3 a9 k h j i s u rfl hle
 have t : zhz succ d (X : Int) = scan d.seen (succ[X].drop (d.next.getD X 0)) (d.next.getD X 0):=by
  unfold zhz;rw [ya,q]
 rw [t] at c
 have hw : Go.IntKind.i64.wrap ((((z :: b).length + 1 : Nat) : Int) - 1) = ((z :: b).length : Int):=by rw [wrap_i64] <;> first | omega | (simp only [yb,yg] at n ⊢; omega)
 have p : (((z :: b).length : Int) < (((z :: b).length + 1 : Nat) : Int)) = True:=by first | (simp; done) | (simp; omega)
 have g : ((((X : Int) :: z :: b).reverse ++ a).map zL)[(z :: b).length]? = some [.f (.lit (.int .i64 (X : Int)))]:=by
  apply zoi;simp
 have y : (((X : Int) :: z :: b).reverse ++ a).take ((z :: b).length + 1) = ((X : Int) :: z :: b).reverse:=yF (by simp);have r : 0 < d.out.length + 1 ∧ d.out.length + 1 ≤ LIM:=⟨by omega,by unfold LIM; omega⟩
 have eo : (d.out.map zL).take d.out.length ++ [[C.f (.lit (.int .i64 (X : Int)))]] = (d.out ++ [(X : Int)]).map zL:=by
  rw [ye (by simp),yG];rfl
 generalize hrow : ((X : Int) :: z :: b).reverse ++ a = row at *;rw [c] at l;have e : (z :: b).reverse ++ ((X : Int) :: a) = row:=by rw [← hrow]; simp
 have m : (b.length ≤ b.length + 1) = True:=by simp
 have x : ((0 : Int) < ((b.length + 1 : Nat) : Int)) = True:=by first | (simp; done) | (simp; omega)
 rw [e];simp -implicitDefEqProofs only [go_sem,stO,obG] at l hw p g;simp -implicitDefEqProofs only [go_sem,zll,zA,Code.p2,stO,obG,hw,p,yh,ya,g,l,r,eo,x,m,Nat.sub_zero]
theorem zH6 : ∀ (k : Nat) (d : DF) (a : List Int) (n vs : Nat) (o : List Int) (a0 a1 a3 a8 a9 l f i g : V),DInv succ d → d.stk.length + k ≤ 4294967296 → d.out.length + k ≤ 4294967296 → dfs succ k d = some o →
  ∃ seen' next' vo' vs' row',exec T (.sc zA zjx) ⟨[a0,a1,.one (.ptr 0 0 0 0),a3,.one (.ptr 1 0 0 0),.one (.ptr 2 0 0 0),.one (.own 3 n 0 d.out.length),.one (.own 4 vs 0 d.stk.length),a8,a9,l,f,i,g],stO succ pred d.seen d.next n d.out vs (d.stk.reverse ++ a),0,0⟩ =
    some (.ret,⟨[vU,vU,vU,.one (.own 3 vo' 0 o.length),vU,vU,vU,vU,vU,vU,vU,vU,vU,vU],stO succ pred seen' next' vo' o.reverse vs' row',0,0⟩):=by
 intro k
 induction k with
 | zero => intro d a n vs o _ _ _ _ _ _ _ _ _ _ _ _ h; simp [dfs] at h
 | succ k ih =>
   intro d a n vs o a0 a1 a3 a8 a9 l f i g hd p D h;simp only [dfs] at h
   cases e : d.stk with
   | nil => rw [e] at h; cases h
   | cons x s =>
     rw [e] at h p;simp only at h;simp only [yb] at p;obtain ⟨B,C⟩:=hd.stk x (by rw [e]; simp);obtain ⟨X,rfl⟩ : ∃ X : Nat,x = X:=⟨x.toNat,by omega⟩;have t : X < succ.length:=(by omega);have m : succ.getD X [] = succ[X]:=(by simp [t]);have u : zAi succ (X : Int) = succ[X].length:=by unfold zAi; rw [ya,m]
     cases b : zhz succ d (X : Int) with
     | some yj =>
       obtain ⟨y,j⟩:=yj;rw [b] at h;simp only [ya] at h;have q:=b;unfold zhz at q;rw [ya,m] at q;obtain ⟨I,E,H⟩:=zDm q;have hle:=hd.le X t;rw [m] at hle;have G:=hr _ (yn t) y (List.mem_of_mem_drop H)
       have r : DInv succ ⟨d.seen.set y.toNat true,d.next.set X j,d.out,y :: (X : Int) :: s⟩:=⟨by simpa using hd.seen,by simpa using hd.next,by
         have:=zzQ succ hn hs hr hd ⟨B,C⟩ (j:=j) (by rw [ya,m]; rw [List.length_drop] at E; omega)
         rwa [ya] at this,fun z v => by
        rcases ym.1 v with rfl | v
        ·exact G
        ·exact hd.stk z (by rw [e]; exact v)⟩
       obtain ⟨seen',next',vo',vs',row',A⟩:=ih _ [] n (vs + 1) o vU vU vU vU vU vU vU vU vU r (by simp only [yb]; omega) (by simp only; omega) h;refine ⟨seen',next',vo',vs',row',?_⟩;rw [← A,ziN,zsV,zdY,ziB];simp only [yl,zsm];have c:=zAL succ pred hn hs hr d a n vs X s y j a0 a1 a3 a8 a9 l f i g hd t (by omega) (by omega) b;simp only [yb] at c ⊢;rw [c];simp only [yl,scK,zjL];rw [← zsV]
     | none =>
       rw [b] at h;simp only at h
       cases s with
       | nil =>
         simp only [Option.some.injEq] at h;subst h;have c:=zDD succ pred hn hs hr d a n vs X a0 a1 a3 a8 a9 l f i g hd t (by simp) (by omega) b;refine ⟨d.seen,d.next.set X succ[X].length,n + 1,vs,(((X : Int) :: []).reverse ++ a),?_⟩;rw [ziN,zsV,zdY,ziB];simp only [yl,zsm];simp only [yb,yg] at c ⊢;rw [c];simp only [yl,scK];rw [show (d.out ++ [(X : Int)]).length = d.out.length + 1 by simp]
       | cons z s' =>
         simp only [ya] at h;have c:=zDf succ pred hn hs hr d a n vs X z s' a0 a1 a3 a8 a9 l f i g hd t (by simp only [yb] at p ⊢; omega) (by omega) b
         have r : DInv succ ⟨d.seen,d.next.set X (zAi succ X),d.out ++ [(X : Int)],z :: s'⟩:=⟨hd.seen,by simpa using hd.next,by
          have:=zzQ succ hn hs hr hd ⟨B,C⟩ (j:=zAi succ X) (by rw [ya,m,u]; exact yZ _)
          rwa [ya] at this,fun w hw => hd.stk w (by rw [e]; exact yk _ hw)⟩
         obtain ⟨seen',next',vo',vs',row',A⟩:=ih _ ((X : Int) :: a) (n + 1) vs o vU vU vU vU vU vU vU vU vU r (by simp only [yb] at p ⊢; omega) (by simp only [yt,yb,yg]; omega) h;refine ⟨seen',next',vo',vs',row',?_⟩;rw [← A,ziN,zsV,zdY,ziB];simp only [yl,zsm];simp only [yb,yt,yg,u] at c ⊢;rw [c];simp only [yl,scK,zjL];rw [← zsV]
end
@[go_sem] theorem zsG (succ pred : List (List Int)) (a : zl5 succ) : call T 148 [.agg [.f (.sl (succ.map rl)),.f (.sl (pred.map rl))]] [] = some (vB (zEX succ pred),[]):=by
  rw [ze (fn:=zkj) rfl];have hm:=zlo succ a;cases e : zbY succ
  ·simp -implicitDefEqProofs only [go_sem,zlE,e] at hm
   simp -implicitDefEqProofs only [go_sem,zkj,hm,zEX,e]
  ·have b:=zne (z7 succ) pred [.cells 0 2 [[.f (.sl (succ.map rl)),.f (.sl (pred.map rl))]],.cells 0 2 [[.f (.sl (succ.map rl)),.f (.sl ((z7 succ).map rl))]]] (by rw [zcT]; exact a.1) (zlq succ a (zic e))
   simp -implicitDefEqProofs only [go_sem,zlE,e] at hm b;simp -implicitDefEqProofs only [go_sem,zkj,hm,b,zEX,e]
theorem zmb : zsE.length = 64:=rfl
theorem zpZ : zqg.length = 64:=rfl
def zKV : Go.A.Code:=zA.p1
def zKK : Go.A.Code:=zA.p2.p1
def zK0 : Go.A.Code:=zA.p2.p2.p1
def zLp : Go.A.Code:=zA.p2.p2.p2.p1
def zKD : Go.A.Code:=zA.p2.p2.p2.p2.p1
def zKG : Go.A.Code:=zA.p2.p2.p2.p2.p2.p1
theorem zLs : zA = .seq zKV (.seq zKK (.seq zK0 (.seq zLp (.seq zKD (.seq zKG (.seq (.label 0) zll)))))):=rfl
theorem zIk (succ pred : List (List Int)) (b : zl5 succ) (hm : zEX succ pred = true) (root : Nat) (d : root < succ.length) : exec T zKV ⟨[.agg [.f (.sl (succ.map rl)),.f (.sl (pred.map rl))],vI root,.one (.ptr 0 0 0 0),vL [],vU,vU,vU,vU,vU,vU,vU,vU,vU,vU],[obG succ pred],0,0⟩ =
  some (.normal,⟨[.agg [.f (.sl (succ.map rl)),.f (.sl (pred.map rl))],vI root,.one (.ptr 0 0 0 0),vL [],vU,vU,vU,vU,vU,vU,vB false,vU,vU,vU],[obG succ pred],0,0⟩):=by
 have h:=zsG succ pred b;rw [hm] at h;have a : ¬ (root : Int) < 0:=by omega
 have c : ¬ (succ.length : Int) ≤ (root : Int):=by omega
 simp -implicitDefEqProofs only [go_sem] at h;simp -implicitDefEqProofs only [go_sem,zKV,zA,Code.p1,obG,h,a,c]
theorem zFQ (succ pred : List (List Int)) (root : Nat) (h : root < 64) (c : Go.A.Code) (a0 a3 b : V) : exec T (.seq zKK (.seq zK0 (.seq zLp (.seq zKD (.seq zKG c))))) ⟨[a0,vI root,.one (.ptr 0 0 0 0),a3,vU,vU,vU,vU,vU,vU,b,vU,vU,vU],[obG succ pred],0,0⟩ =
  exec T c ⟨[a0,vI root,.one (.ptr 0 0 0 0),a3,.one (.ptr 1 0 0 0),.one (.ptr 2 0 0 0),.one (.own 3 0 0 0),.one (.own 4 0 0 1),vU,vU,b,vU,vU,vU],stO succ pred (zsE.set root true) zqg 0 [] 0 [(root : Int)],0,0⟩:=by
 have d : ((root : Int) < 64) = True:=by simp; omega
 have a:=zvo (e:=zsE.map cB) (k:=root) (.f (.lit (.bool true))) (by rw [List.length_map,zmb]; exact h);have i : (zsE.map cB).set root (C.f (.lit (.bool true))) = (zsE.set root true).map cB:=by rw [yy]; rfl
 rw [i] at a;have hle:=zsK (show root < 64 by omega);have j : zKK = .reg [w 4 (.al (zsE.map cB) [])]:=rfl;have g : zK0 = .reg [w 5 (.al (zqg.map cN) [])]:=rfl;rw [j,g];simp -implicitDefEqProofs only [go_sem,zLp,zKD,zKG,zA,Code.p1,Code.p2,obG,stO,zmb,zpZ,d,yh,ya,yL,a,hle,zL]
@[go_sem] theorem zBh (succ pred : List (List Int)) (m : zl5 succ) (hm : zEX succ pred = true) (root : Nat) (r : root < succ.length) (k : Nat) (v : k ≤ 4294967295) (o : List Int) (q : dfs succ k (zvp root) = some o) :
   call T 100 [.agg [.f (.sl (succ.map rl)),.f (.sl (pred.map rl))],vI root] [] = some (vIs o.reverse,[]):=by
  rw [ze (fn:=zkg) rfl];have j : zbY succ = true:=by simp only [zEX,yc] at hm; exact hm.1
  obtain ⟨w,n,s⟩:=zhC j;have e : ∀ l ∈ succ,∀ y ∈ l,0 ≤ y ∧ y < (succ.length : Int):=fun l u y p => by have:=zpb _ _ _ (s l u) y p; omega
  have hd : DInv succ (zvp root):=⟨by simp [zvp,zmb],zpZ,fun X z => by
   have : zqg.getD X 0 = 0:=by
    have d : X < 64:=by omega
    have h : zqg[X]? = some 0:=by
     unfold zqg;rw [List.getElem?_replicate,if_pos d]
    rw [yi,h];rfl
   simp only [zvp]
   omega,fun x t => by simp [zvp] at t; omega⟩
  obtain ⟨a,next',c,g,b,h⟩:=zH6 succ pred n m.2 e k (zvp root) [] 0 0 o (.agg [.f (.sl (succ.map rl)),.f (.sl (pred.map rl))]) (vI root) (vL []) vU vU (vB false) vU vU vU hd (by simp [zvp]; omega) (by simp [zvp]; omega) q
  have e1 : exec T (.scope zA) ⟨[.agg [.f (.sl (succ.map rl)),.f (.sl (pred.map rl))],vI root,.one (.ptr 0 0 0 0),vL [],vU,vU,vU,vU,vU,vU,vU,vU,vU,vU],[obG succ pred],0,0⟩ = some (.ret,⟨[vU,vU,vU,.one (.own 3 c 0 o.length),vU,vU,vU,vU,vU,vU,vU,vU,vU,vU],stO succ pred a next' c o.reverse g b,0,0⟩):=by
   rw [← h,zo7,ziN,ziN]
   congr 1
   rw [zsV,zdY,ziB];simp only [yl,zsm];rw [zLs,zdY,zIk succ pred m hm root r];simp only [yl,zsm];rw [zFQ succ pred root (by omega),zdY,zto];rfl
  have i : (o.reverse.map zL).take o.length = o.reverse.map zL:=ye (by simp);simp -implicitDefEqProofs only [go_sem,obG,stO] at e1;simp -implicitDefEqProofs only [go_sem,zkg,e1,i,zgy]
def zKO : List C → Bool
 | [.f (.lit (.int .i64 k))] => decide (k = -2)
 | _ => false
def zG7 (n : Nat) : Bool:=match zg2 T (zae T 3000) 230 [vL [[ei (-2)]],vI n] [] with
 | some (.one (.own 0 0 0 m),[.cells 0 1 rows]) => decide (m = n) && (decide (rows.length = n) && rows.all zKO)
 | _ => false
set_option maxRecDepth 100000 in
theorem zHS : ((yH 64).all fun n => zG7 (n + 1)) = true:=by kernel_rfl
theorem zIv {r : List C} (h : zKO r = true) : r = zL (-2):=by
 unfold zKO at h;split at h
 ·simp only [decide_eq_true_eq] at h
  subst h;rfl
 ·cases h
theorem zxX (n : Nat) (d : 1 ≤ n) (e : n ≤ 64) : call T 230 [vL [[ei (-2)]],vI n] [] = some (.one (.own 0 0 0 n),[.cells 0 1 ((yp n (-2 : Int)).map zL)]):=by
 have h:=yf.1 zHS (n - 1) (yD.2 (by omega));rw [show n - 1 + 1 = n by omega] at h;unfold zG7 at h;split at h
 ·rename_i m rows he
  simp only [yc,decide_eq_true_eq,yf] at h;obtain ⟨rfl,c,a⟩:=h
  have : rows = (yp m (-2 : Int)).map zL:=by
   rw [yM];exact List.eq_replicate_iff.2 ⟨c,fun r b => zIv (a r b)⟩
  rw [← this];exact zms he
 ·cases h
theorem zlC {n : Nat} {a : Int} (h : inR n a = true) : 0 ≤ a ∧ a < (n : Int) ∧ ¬ a < 0 ∧ ¬ (n : Int) ≤ a:=by
 simp only [inR,yc,decide_eq_true_eq] at h;omega
section
variable (t at' : List Int)
theorem zFu : ∀ (r : Nat) (a b c : Int) (a4 a5 a6 a7 : V),zq6 t at' r a b = some c →
  exec T znv ⟨[vIs t,vIs at',vI a,vI b,a4,a5,a6,a7],[],0,0⟩ = some (.exit 2,⟨[vIs t,vIs at',vI c,vI b,vU,vU,vU,vU],[],0,0⟩):=by
 intro r
 induction r with
 | zero => intro a b c _ _ _ _ h; simp [zq6] at h
 | succ r ih =>
   intro a b c a4 a5 a6 a7 h;rw [zq6] at h;split at h
   ·rename_i i
    simp only [yc] at i;obtain ⟨p,n,o⟩:=i;obtain ⟨p1,p2,l,f⟩:=zlC p;obtain ⟨j,q,k,e⟩:=zlC n;obtain ⟨s1,s2,g,m⟩:=zlC o;rw [xl znv rfl,zr5];split at h
    ·rename_i d
     have:=ih _ b c vU vU vU vU h;simp -implicitDefEqProofs only [go_sem] at this;simp -implicitDefEqProofs only [go_sem,p1,j,s1,zwv l f,zwv k e,zwv g m,d,this]
    ·rename_i d
     injection h with h;subst h;simp -implicitDefEqProofs only [go_sem,p1,j,s1,zwv l f,zwv k e,zwv g m,d]
   ·cases h
theorem zFg : ∀ (r : Nat) (a b c : Int) (a4 a5 a6 a7 : V),zq6 t at' r b a = some c →
  exec T zny ⟨[vIs t,vIs at',vI a,vI b,a4,a5,a6,a7],[],0,0⟩ = some (.exit 4,⟨[vIs t,vIs at',vI a,vI c,vU,vU,vU,vU],[],0,0⟩):=by
 intro r
 induction r with
 | zero => intro a b c _ _ _ _ h; simp [zq6] at h
 | succ r ih =>
   intro a b c a4 a5 a6 a7 h;rw [zq6] at h;split at h
   ·rename_i i
    simp only [yc] at i;obtain ⟨p,n,o⟩:=i;obtain ⟨p1,p2,l,f⟩:=zlC p;obtain ⟨j,q,k,e⟩:=zlC n;obtain ⟨s1,s2,g,m⟩:=zlC o;rw [xl zny rfl,zrZ];split at h
    ·rename_i d
     have:=ih a _ c vU vU vU vU h;simp -implicitDefEqProofs only [go_sem] at this;simp -implicitDefEqProofs only [go_sem,p1,j,s1,zwv l f,zwv k e,zwv g m,d,this]
    ·rename_i d
     injection h with h;subst h;simp -implicitDefEqProofs only [go_sem,p1,j,s1,zwv l f,zwv k e,zwv g m,d]
   ·cases h
theorem zIt (K : Nat) : ∀ (r : Nat) (a b c : Int) (a4 a5 a6 a7 : V),zwH t at' K r a b = some c →
  exec T znh ⟨[vIs t,vIs at',vI a,vI b,a4,a5,a6,a7],[],0,0⟩ = some (.exit 0,⟨[vU,vU,vI c,vU,vU,vU,vU,vU],[],0,0⟩):=by
 intro r
 induction r with
 | zero => intro a b c _ _ _ _ h; simp [zwH] at h
 | succ r ih =>
   intro a b c a4 a5 a6 a7 h;rw [zwH] at h;rw [xl znh rfl,zrv];split at h
   ·rename_i e
    injection h with h;subst h;subst e;simp -implicitDefEqProofs only [go_sem]
   ·rename_i e
    split at h
    ·cases h
    ·rename_i d g
     split at h
     ·cases h
     ·rename_i f i
      have e1:=fun a4 a5 a6 a7 => zFu t at' K a b d a4 a5 a6 a7 g;have e2:=fun a4 a5 a6 a7 => zFg t at' K d b f a4 a5 a6 a7 i;have:=ih d f c vU vU vU vU h;simp -implicitDefEqProofs only [go_sem] at e1 e2 this;simp -implicitDefEqProofs only [go_sem,e,e1,e2,this]
theorem zDj (K r : Nat) (a b c : Int) (h : zwH t at' K r a b = some c) : call T 231 [vIs t,vIs at',vI a,vI b] [] = some (vI c,[]):=by
 rw [ze (fn:=zpt) rfl];have:=fun a4 a5 a6 a7 => zIt t at' K r a b c a4 a5 a6 a7 h;simp -implicitDefEqProofs only [go_sem] at this;simp -implicitDefEqProofs only [go_sem,zpt,this]
end
theorem zx6 {t : List Int} {a : Int} (b : ¬ a < 0) (c : ¬ (t.length : Int) ≤ a) : (t.map zL)[a.toNat]? = some [.f (.lit (.int .i64 (tr t a)))]:=by
 have : a.toNat < t.length:=by omega
 simp [tr,this,zL]
section
variable (succ pred : List (List Int)) (hpl : pred.length = succ.length) (hps : ∀ l ∈ pred,l.length ≤ 4294967296) (n : Nat) (hn : n = succ.length) (hn64 : n ≤ 64) (root : Int) (order tail at' : List Int) (hat : at'.length = n) (htl : tail.length ≤ 4294967296)
abbrev stT (succ pred : List (List Int)) (t at' : List Int) : zd:=[obG succ pred,.cells 0 1 (t.map zL),.cells 0 1 (at'.map zL)]
include hpl hps hn hn64 hat htl
theorem zIo (K : Nat) (t : List Int) (C : t.length = n) (x : Int) (y : Int) (ps : List Int) (e : ps.length ≤ 4294967296) : ∀ (d k : Nat) (b c : Int) (a0 a3 a5 a8 a9 g f p j q l i a25 a26 a27 a28 : V),ps.length - k = d → k ≤ ps.length → zoc t at' K (ps.drop k) b = some c →
  exec T zkB ⟨[a0,vI root,.one (.ptr 0 0 0 0),a3,vIs order,a5,.one (.own 1 0 0 n),.one (.own 2 0 0 n),a8,a9,vI x,vI b,g,f,p,j,q,l,vIs tail,vI tail.length,vI y,i,vIs ps,vI ps.length,vI k,a25,a26,a27,a28],stT succ pred t at',0,0⟩ =
   some (.exit 4,⟨[vU,vI root,.one (.ptr 0 0 0 0),vU,vIs order,vU,.one (.own 1 0 0 n),.one (.own 2 0 0 n),vU,vU,vI x,vI c,vU,vU,vU,vU,vU,vU,vIs tail,vI tail.length,vI y,vU,vU,vU,vU,vU,vU,vU,vU],stT succ pred t at',0,0⟩):=by
 intro d;have s : (t.map zL).take n = t.map zL:=ye (by simp; omega);have v : (at'.map zL).take n = at'.map zL:=ye (by simp; omega)
 induction d with
 | zero =>
   intro k b c a0 a3 a5 a8 a9 g f p j q l i a25 a26 a27 a28 B A h;have a : k = ps.length:=(by omega);subst a;rw [yz] at h;simp only [zoc,Option.some.injEq] at h;subst h;rw [xl zkB rfl,znN];simp -implicitDefEqProofs only [go_sem,stT,obG,yC]
 | succ d ih =>
   intro k b c a0 a3 a5 a8 a9 g f p j q l i a25 a26 a27 a28 B A h;have a : k < ps.length:=(by omega);have hd : ps.drop k = ps[k] :: ps.drop (k + 1):=ys a;rw [hd,zoc] at h;split at h
   ·rename_i z
    obtain ⟨p1,p2,u,r⟩:=zlC z;have o : ps[k] < (n : Int):=(by omega);rw [xl zkB rfl,znN];split at h
    ·rename_i c1
     have:=ih (k + 1) b c vU vU vU vU vU vU vU vU vU vU vU vU vU vU vU vU (by omega) (by omega) h;simp -implicitDefEqProofs only [go_sem,stT,obG] at this;simp -implicitDefEqProofs only [go_sem,stT,obG,ilt a,zt a,ri,p1,o,zx6 u r,c1,za a e,this]
    ·rename_i c1
     split at h
     ·rename_i c2
      subst c2;have:=ih (k + 1) ps[k] c vU vU vU vU vU vU vU vU vU vU vU vU vU vU vU vU (by omega) (by omega) h;simp -implicitDefEqProofs only [go_sem,stT,obG] at this;simp -implicitDefEqProofs only [go_sem,stT,obG,ilt a,zt a,ri,p1,o,zx6 u r,c1,za a e,this]
     ·rename_i c2
      split at h
      ·cases h
      ·rename_i m hm
       have w:=zDj t at' K K b ps[k] m hm;have:=ih (k + 1) m c vU vU vU vU vU vU vU vU vU vU vU vU vU vU vU vU (by omega) (by omega) h;simp -implicitDefEqProofs only [go_sem,stT,obG] at this w;simp -implicitDefEqProofs only [go_sem,stT,obG,ilt a,zt a,ri,p1,o,zx6 u r,c1,c2,s,v,zgy,w,za a e,this]
   ·cases h
theorem zIj (K : Nat) (t : List Int) (E : t.length = n) : ∀ (d k : Nat) (res : Option (Int × Int)) (a0 a3 a5 a8 a9 r q c a l g m i e a22 a23 a24 a25 a26 a27 a28 : V),tail.length - k = d → k ≤ tail.length → zuH pred t at' K (tail.drop k) = some res →
  exec T zkp ⟨[a0,vI root,.one (.ptr 0 0 0 0),a3,vIs order,a5,.one (.own 1 0 0 n),.one (.own 2 0 0 n),a8,a9,r,q,c,a,l,g,m,i,vIs tail,vI tail.length,vI k,e,a22,a23,a24,a25,a26,a27,a28],stT succ pred t at',0,0⟩ =
   some (match res with
    | none => (.exit 2,⟨[vU,vI root,vU,vU,vU,vU,.one (.own 1 0 0 n),vU,vU,vU,vU,vU,vU,vU,vU,vU,vU,vU,vU,vU,vU,vU,vU,vU,vU,vU,vU,vU,vU],stT succ pred t at',0,0⟩)
    | some (x,b) => (.goto 0,⟨[vU,vI root,.one (.ptr 0 0 0 0),vU,vIs order,vU,.one (.own 1 0 0 n),.one (.own 2 0 0 n),vU,vU,vU,vU,vU,vU,vU,vU,vU,vU,vU,vU,vU,vU,vU,vU,vU,vU,vU,vU,vU],stT succ pred (t.set x.toNat b) at',0,0⟩)):=by
 intro d
 induction d with
 | zero =>
   intro k res a0 a3 a5 a8 a9 r q c a l g m i e a22 a23 a24 a25 a26 a27 a28 D B h;have p : k = tail.length:=(by omega);subst p;rw [yz] at h;simp only [zuH,Option.some.injEq] at h;subst h;rw [xl zkp rfl,znF];simp -implicitDefEqProofs only [go_sem,stT,obG,yC]
 | succ d ih =>
   intro k res a0 a3 a5 a8 a9 r q c a l g m i e a22 a23 a24 a25 a26 a27 a28 D B h;have p : k < tail.length:=(by omega);have hd : tail.drop k = tail[k] :: tail.drop (k + 1):=ys p;rw [hd,zuH] at h;split at h
   ·rename_i A
    obtain ⟨p1,p2,y,w⟩:=zlC A;have u : tail[k] < (n : Int):=(by omega);have o : tail[k].toNat < pred.length:=(by omega);have v : pred.getD tail[k].toNat [] = pred[tail[k].toNat]:=(by simp [o]);rw [v] at h;split at h
    ·cases h
    ·rename_i b z
     have j:=fun a0 a3 a5 a8 a9 c a l g m i e a25 a26 a27 a28 => zIo succ pred hpl hps n hn hn64 root order tail at' hat htl K t E tail[k] k pred[tail[k].toNat] (hps _ (yn o)) _ 0 (-2) b a0 a3 a5 a8 a9 c a l g m i e a25 a26 a27 a28 rfl (y0 _) z;rw [xl zkp rfl,znF];simp only [yE] at j;split at h
     ·rename_i c1
      have:=ih (k + 1) res vU vU vU vU vU vU vU vU vU vU vU vU vU vU vU vU vU vU vU vU vU (by omega) (by omega) h;simp -implicitDefEqProofs only [go_sem,stT,obG] at this j;simp -implicitDefEqProofs only [go_sem,stT,obG,ilt p,zt p,zt o,ri,rl,p1,u,j,zx6 y w,c1,za p htl,this]
     ·rename_i c1
      injection h with h;subst h;have s : (t.map zL).set tail[k].toNat [C.f (.lit (.int .i64 b))] = (t.set tail[k].toNat b).map zL:=(by rw [yy]; rfl);simp -implicitDefEqProofs only [go_sem,stT,obG] at j;simp -implicitDefEqProofs only [go_sem,stT,obG,ilt p,zt p,zt o,ri,rl,p1,u,j,zx6 y w,c1,s]
   ·cases h
end
def zos : Go.A.Code:=zaD.p2.p2.p2.p2.p2.p2.p2
theorem zB7 : znb = .seq .skip zos:=rfl
section
variable (succ pred : List (List Int)) (hpl : pred.length = succ.length) (hps : ∀ l ∈ pred,l.length ≤ 4294967296) (n : Nat) (hn : n = succ.length) (hn64 : n ≤ 64) (root : Nat) (hroot : root < n) (tail : List Int) (htl : tail.length ≤ 4294967295)
include hpl hps hn hn64
theorem zII (order : List Int) (p : order.length ≤ 4294967296) (r : ∀ x ∈ order,0 ≤ x ∧ x < (n : Int)) (t : List Int) : ∀ (d k : Nat) (at' : List Int) (a0 a3 a5 a8 a9 l b e c j g m a20 h a22 a23 a24 a25 a26 a27 a28 : V),at'.length = n → order.length - k = d → k ≤ order.length →
  exec T zkv ⟨[a0,vI root,.one (.ptr 0 0 0 0),a3,vIs order,a5,.one (.own 1 0 0 n),.one (.own 2 0 0 n),a8,a9,l,b,e,c,vIs order,vI order.length,vI k,j,g,m,a20,h,a22,a23,a24,a25,a26,a27,a28],stT succ pred t at',0,0⟩ =
   some (.exit 0,⟨[vU,vI root,.one (.ptr 0 0 0 0),vU,vIs order,vU,.one (.own 1 0 0 n),.one (.own 2 0 0 n),vU,vU,vU,vU,vU,vU,vU,vU,vU,vU,vU,vU,vU,vU,vU,vU,vU,vU,vU,vU,vU],stT succ pred t (zme k (order.drop k) at'),0,0⟩):=by
 intro d
 induction d with
 | zero =>
   intro k at' a0 a3 a5 a8 a9 l b e c j g m a20 h a22 a23 a24 a25 a26 a27 a28 q v s;have i : k = order.length:=(by omega);subst i;rw [xl zkv rfl,znI];simp -implicitDefEqProofs only [go_sem,stT,obG,yC,yz,zme]
 | succ d ih =>
   intro k at' a0 a3 a5 a8 a9 l b e c j g m a20 h a22 a23 a24 a25 a26 a27 a28 q v s;have i : k < order.length:=(by omega);have hd : order.drop k = order[k] :: order.drop (k + 1):=ys i;obtain ⟨p1,p2⟩:=r _ (yn i);have u:=zx6 (t:=at') (a:=order[k]) (by omega) (by omega);have o : (at'.map zL).set order[k].toNat [C.f (.lit (.int .i64 (k : Int)))] = (at'.set order[k].toNat (k : Int)).map zL:=(by rw [yy]; rfl);have:=ih (k + 1) (at'.set order[k].toNat (k : Int)) vU vU vU vU vU vU vU vU vU vU vU vU vU vU vU vU vU vU vU vU vU (by simpa using q) (by omega) (by omega);rw [xl zkv rfl,znI,hd,zme];simp -implicitDefEqProofs only [go_sem,stT,obG] at this;simp -implicitDefEqProofs only [go_sem,stT,obG,ilt i,zt i,ri,p1,p2,u,o,za i p,this]
include hroot htl
theorem zsY (K : Nat) (at' : List Int) (s : at'.length = n) (t : List Int) (y : t.length = n) (o0 : Int) (res : Option (Int × Int)) (h : zuH pred t at' K tail = some res)
  (a0 a3 a5 a8 a9 k c e d l i m j r u a20 g a22 a23 a24 a25 a26 a27 a28 : V) :
  exec T zos ⟨[a0,vI root,.one (.ptr 0 0 0 0),a3,vIs (o0 :: tail),a5,.one (.own 1 0 0 n),.one (.own 2 0 0 n),a8,a9,k,c,e,d,l,i,m,j,r,u,a20,g,a22,a23,a24,a25,a26,a27,a28],stT succ pred t at',0,0⟩ =
   some (match res with
    | none => (.ret,⟨[vU,vU,vU,.one (.own 1 0 0 n),vU,vU,vU,vU,vU,vU,vU,vU,vU,vU,vU,vU,vU,vU,vU,vU,vU,vU,vU,vU,vU,vU,vU,vU,vU],stT succ pred (t.set root (-1)) at',0,0⟩)
    | some (x,b) => (.goto 0,⟨[vU,vI root,.one (.ptr 0 0 0 0),vU,vIs (o0 :: tail),vU,.one (.own 1 0 0 n),.one (.own 2 0 0 n),vU,vU,vU,vU,vU,vU,vU,vU,vU,vU,vU,vU,vU,vU,vU,vU,vU,vU,vU,vU,vU],stT succ pred (t.set x.toNat b) at',0,0⟩)):=by
 have q:=fun a0 a3 a5 a8 a9 k c e d l i m j g a22 a23 a24 a25 a26 a27 a28 => zIj succ pred hpl hps n hn hn64 root (o0 :: tail) tail at' s (by omega) K t y tail.length 0 res a0 a3 a5 a8 a9 k c e d l i m j g a22 a23 a24 a25 a26 a27 a28 (by omega) (by omega) h;simp only [yE] at q;have p : (ri o0).length = 1:=rfl;have e1 : (ri o0 :: tail.map ri).take (tail.length + 1) = ri o0 :: tail.map ri:=ye (by simp);have e2 : (1 ≤ tail.length + 1) = True:=by simp
 have v : ((root : Int) < (n : Int)) = True:=by simp; omega
 have o : (t.map zL).set root [C.f (.lit (.int .i64 (-1)))] = (t.set root (-1)).map zL:=by rw [yy]; rfl
 have w:=zx6 (t:=t) (a:=(root : Int)) (by omega) (by omega);rw [ya] at w
 cases res with
 | none =>
   simp -implicitDefEqProofs only [go_sem,stT,obG] at q;simp -implicitDefEqProofs only [go_sem,stT,obG,zos,zaD,Code.p2,yS,p,zyD,e1,e2,q,v,yh,ya,w,o]
 | some xb =>
   obtain ⟨x,b⟩:=xb;simp -implicitDefEqProofs only [go_sem,stT,obG] at q;simp -implicitDefEqProofs only [go_sem,stT,obG,zos,zaD,Code.p2,yS,p,zyD,e1,e2,q]
theorem zFr (K : Nat) (at' : List Int) (k : at'.length = n) (o0 : Int) : ∀ (r : Nat) (t p : List Int) (a0 a3 a5 a8 a9 j a d c m g o i e l a20 f a22 a23 a24 a25 a26 a27 a28 : V),t.length = n → ziH pred at' K tail r t = some p →
  exec T (.sc zaD znb) ⟨[a0,vI root,.one (.ptr 0 0 0 0),a3,vIs (o0 :: tail),a5,.one (.own 1 0 0 n),.one (.own 2 0 0 n),a8,a9,j,a,d,c,m,g,o,i,e,l,a20,f,a22,a23,a24,a25,a26,a27,a28],stT succ pred t at',0,0⟩ =
   some (.ret,⟨[vU,vU,vU,.one (.own 1 0 0 n),vU,vU,vU,vU,vU,vU,vU,vU,vU,vU,vU,vU,vU,vU,vU,vU,vU,vU,vU,vU,vU,vU,vU,vU,vU],stT succ pred (p.set root (-1)) at',0,0⟩):=by
 intro r
 induction r with
 | zero => intro t p _ _ _ _ _ _ _ _ _ _ _ _ _ _ _ _ _ _ _ _ _ _ _ _ _ h; simp [ziH] at h
 | succ r ih =>
   intro t p a0 a3 a5 a8 a9 j a d c m g o i e l a20 f a22 a23 a24 a25 a26 a27 a28 s h;rw [ziH] at h;rw [ziN,zB7,zdY,ziB];simp only [yl,zsm];split at h
   ·cases h
   ·rename_i q
    injection h with h;subst h;rw [zsY succ pred hpl hps n hn hn64 root hroot tail htl K at' k t s o0 none q];simp only [yl,scK]
   ·rename_i x b q
    rw [zsY succ pred hpl hps n hn hn64 root hroot tail htl K at' k t s o0 (some (x,b)) q];simp only [yl,scK,zsu];exact ih _ _ _ _ _ _ _ _ _ _ _ _ _ _ _ _ _ _ _ _ _ _ _ _ _ _ (by simpa using s) h
end
def zJE : Go.A.Code:=zaD.p1
def zJh : Go.A.Code:=zaD.p2.p1
def zJ7 : Go.A.Code:=zaD.p2.p2.p1
def zJ5 : Go.A.Code:=zaD.p2.p2.p2.p1
def zJS : Go.A.Code:=zaD.p2.p2.p2.p2.p1
def zJf : Go.A.Code:=zaD.p2.p2.p2.p2.p2.p1
theorem zKN : zaD = .seq zJE (.seq zJh (.seq zJ7 (.seq zJ5 (.seq zJS (.seq zJf (.seq (.label 0) zos)))))):=rfl
theorem zw9 (succ pred : List (List Int)) (Q : zl5 succ) (hm : zEX succ pred = true) (root : Nat) (A : root < succ.length) (k : Nat) (U : k ≤ 4294967295) (o : List Int) (R : dfs succ k (zvp root) = some o)
  (o0 : Int) (tail : List Int) (a : o.reverse = o0 :: tail) (D : ∀ x ∈ o,0 ≤ x ∧ x < (succ.length : Int)) (W : o.length ≤ 4294967295) (K r : Nat) (t : List Int) (J : ziH pred (at0 succ.length o.reverse) K tail r (zmP succ.length root) = some t) :
  call T 195 [.agg [.f (.sl (succ.map rl)),.f (.sl (pred.map rl))],vI root] [] = some (vIs (t.set root (-1)),[]):=by
 rw [ze (fn:=zpx) rfl];have b : zbY succ = true ∧ z7 succ = pred:=by simpa [zEX] using hm
 obtain ⟨S,y,Y⟩:=zhC b.1;have hpl : pred.length = succ.length:=by rw [← b.2,zcT]
 have hps : ∀ l ∈ pred,l.length ≤ 4294967296:=by rw [← b.2]; exact zlq succ Q (zic b.1)
 have w:=zBh succ pred Q hm root A k U o R;have P:=zxX succ.length S y
 have htl : tail.length ≤ 4294967295:=by
  have : o.reverse.length = tail.length + 1:=by rw [a]; rfl
  rw [yx] at this;omega
 have I:=fun a0 a3 a5 a8 a9 p d g e n j q a20 m a22 a23 a24 a25 a26 a27 a28 => zII succ pred hpl hps succ.length rfl y root (o0 :: tail) (by simp only [yb]; omega) (fun x X => D x (List.mem_reverse.1 (by rw [a]; exact X))) (yp succ.length (-2)) (o0 :: tail).length 0 (yp succ.length 0) a0 a3 a5 a8 a9 p d g e n j q a20 m a22 a23 a24 a25 a26 a27 a28 (by simp) rfl (y0 _);simp only [List.drop_zero,yE] at I;rw [a] at w J;have O : ((root : Int) < (succ.length : Int)) = True:=by simp; omega
 have u : ((yp succ.length (-2 : Int)).map zL).set root [C.f (.lit (.int .i64 (root : Int)))] = (zmP succ.length root).map zL:=by rw [zmP,yy]; rfl
 have i : ((yp succ.length (-2 : Int)).map zL)[root]? = some [.f (.lit (.int .i64 (-2)))]:=by simp [A,zL]
 have H : (at0 succ.length (o0 :: tail)).length = succ.length:=by rw [at0,zj5]; simp
 have v : (succ.length : Int) ≤ (LIM : Int):=by unfold LIM; omega
 have V : yp succ.length [C.f (.lit (.int .i64 0))] = (yp succ.length (0 : Int)).map zL:=by rw [yM]; rfl
 have z : ¬ ((tail.length + 1 : Nat) : Int) = 0:=by omega
 have e1 : exec T (.scope zaD) ⟨[.agg [.f (.sl (succ.map rl)),.f (.sl (pred.map rl))],vI root,.one (.ptr 0 0 0 0),vL [],vU,vU,vU,vU,vU,vU,vU,vU,vU,vU,vU,vU,vU,vU,vU,vU,vU,vU,vU,vU,vU,vU,vU,vU,vU],[obG succ pred],0,0⟩ = some (.ret,⟨[vU,vU,vU,.one (.own 1 0 0 succ.length),vU,vU,vU,vU,vU,vU,vU,vU,vU,vU,vU,vU,vU,vU,vU,vU,vU,vU,vU,vU,vU,vU,vU,vU,vU],stT succ pred (t.set root (-1)) (at0 succ.length (o0 :: tail)),0,0⟩):=by
  have h:=fun a0 a3 a5 a8 a9 p d g e L B N n j q a20 m a22 a23 a24 a25 a26 a27 a28 => zFr succ pred hpl hps succ.length rfl y root A tail htl K (at0 succ.length (o0 :: tail)) H o0 r (zmP succ.length root) t a0 a3 a5 a8 a9 p d g e L B N n j q a20 m a22 a23 a24 a25 a26 a27 a28 (by simp [zmP]) J;rw [← h vU vU vU vU vU vU vU vU vU vU vU vU vU vU vU vU vU vU vU vU vU vU vU vU];rw [zo7,ziN,ziN]
  congr 1
  rw [zB7,zdY,ziB];simp only [yl,zsm];rw [zKN];have E : zJ5 = .regd [] [⟨.loc,.bsl .fz 1 [[.f (.lit (.int .i64 0))]] [(0,.c (vI (-2)))],none⟩,⟨.loc,.mv (.s 5),none⟩,⟨.loc,.call .ck (.c (.one (.fn 230 [] []))) [.l 1,.l 0],none⟩,⟨.loc,.mv (.s 5),none⟩,⟨.loc,.mks [.f (.lit (.int .i64 0))] none (.l 0),none⟩,⟨.slot 6,.mv (.l 2),none⟩,⟨.slot 7,.mv (.l 1),none⟩]:=rfl
  have G : (y2 zL (yp succ.length (-2 : Int))).map (C.shifts 1) = y2 zL (yp succ.length (-2 : Int)):=by
   rw [List.map_map];rfl
  simp -implicitDefEqProofs only [go_sem,obG,stT] at w P I;simp -implicitDefEqProofs only [go_sem,obG,stT,zJE,zJh,zJ7,E,zJS,zJf,zaD,Code.p1,Code.p2,w,P,z,v,yh,ya,V,G,I,O,i,u];rfl
 have M : ((t.set root (-1)).map zL).take succ.length = (t.set root (-1)).map zL:=ye (by have:=zm9 J; simp [zmP] at this; simp; omega);simp -implicitDefEqProofs only [go_sem,obG,stT] at e1;simp -implicitDefEqProofs only [go_sem,zpx,e1,M,zgy]
open Dm
theorem zwy {α : Type} (k a : Int) (v : α) : ∀ D : List (Int × α),getM k (zjb a v D) = if a = k then some v else getM k D
 | [] => by by_cases c : a = k <;> simp [zjb,getM,c]
 | e :: D => by
   rw [zjb]
   by_cases c : e.1 = a
   ·rw [if_pos c,getM,getM]
    by_cases d : a = k
    ·rw [if_pos d,if_pos d]
    ·rw [if_neg d,if_neg d,if_neg (fun h => d (c.symm.trans h))]
   ·rw [if_neg c,getM,getM,zwy k a v D]
    by_cases d : e.1 = k
    ·rw [if_pos d,if_pos d,if_neg (fun h => c (d.trans h.symm))]
    ·rw [if_neg d,if_neg d]
def toP (u : Use) : PDef:=⟨u.block,u.at',u.shape⟩
def lk (ds : List Use) (v : Int) : Option PDef:=(ds.find? fun u => decide (u.v = v)).map toP
def Rep (D : ziO) (ds : List Use) : Prop:=∀ v,getM v D = lk ds v
theorem zJP (ds : List Use) (u : Use) (v : Int) : lk (ds ++ [u]) v = if (lk ds v).isSome = true then lk ds v else if u.v = v then some (toP u) else none:=by
 unfold lk;rw [List.find?_append]
 cases h : ds.find? (fun u => decide (u.v = v)) with
 | some x => simp
 | none =>
   by_cases c : u.v = v
   ·simp [c]
   ·simp [c]
theorem zyp {D : ziO} {ds : List Use} (R : Rep D ds) (u : Use) (h : (lk ds u.v).isNone = true) : Rep (zjb u.v (toP u) D) (ds ++ [u]):=by
 intro v;rw [zwy,zJP,R v]
 by_cases c : u.v = v
 ·subst c
  have : (lk ds u.v).isSome = false:=by
   cases e : lk ds u.v
   ·rfl
   ·rw [e] at h; cases h
  rw [if_pos rfl,this,if_neg (by simp),if_pos rfl]
 ·rw [if_neg c,if_neg c]
  cases e : lk ds v <;> simp
def zhE : List Use → List Use → Bool
 | _,[] => true
 | pre,u :: r => (value u.v && (lk pre u.v).isNone) && zhE (pre ++ [u]) r
theorem znQ : ∀ (a b pre : List Use),zhE pre (a ++ b) = (zhE pre a && zhE (pre ++ a) b)
 | [],b,pre => by rw [yI,List.append_nil,zhE,yY]
 | u :: a,b,pre => by
   rw [yT,zhE,zhE,znQ a b];simp only [Bool.and_assoc,yr,yv]
theorem zo1 {ds : List Use} {v : Int} : (lk ds v).isNone = true ↔ ∀ u ∈ ds,u.v ≠ v:=by
 unfold lk;rw [Option.isNone_map,Option.isNone_iff_eq_none,List.find?_eq_none];simp
theorem zzM (v : Int) : ∀ (pre : List Use) (u : Use) (r : List Use) (k : Nat),u.v = v → (zp v k (pre ++ u :: r) = ((k + pre.length : Nat) : Int) ↔ ∀ x ∈ pre,x.v ≠ v)
 | [],u,r,k,h => by simp [zp,h]
 | x :: pre,u,r,k,h => by
   rw [yT,zp]
   by_cases c : x.v = v
   ·rw [if_pos c]
    constructor
    ·intro e
     simp only [yb] at e;omega
    ·intro e
     exact absurd c (e x yo)
   ·rw [if_neg c]
    have b:=zzM v pre u r (k + 1) h;rw [show k + 1 + pre.length = k + (x :: pre).length by simp only [yb]; omega] at b;rw [b];constructor
    ·intro e y a
     rcases ym.1 a with rfl | a
     ·exact c
     ·exact e y a
    ·exact fun e y a => e y (yk _ a)
theorem zsj (defs : List Use) : ∀ (r pre : List Use),defs = pre ++ r → zgj defs pre.length r = zhE pre r
 | [],_,_ => rfl
 | u :: r,pre,h => by
   have b:=zsj defs r (pre ++ [u]) (by rw [h]; simp);rw [yt,List.length_singleton] at b;rw [zgj,zhE,b]
   congr 2
   have a:=zzM u.v pre u r 0 rfl;rw [← h,yN] at a;rw [yW,decide_eq_true_eq,a,zo1]
theorem zoB {v : Int} : value v = true ↔ ¬ (v < 1 ∨ 1023 < v):=by
 unfold value;rw [yc,decide_eq_true_eq,decide_eq_true_eq];omega
theorem zts : ∀ (l : List Int) (k : Nat) (D : ziO) (pre : List Use),Rep D pre → (∀ u ∈ pre,u.v ≤ (k : Int)) → k + l.length ≤ 16 → Rep (zb4 k D l) (pre ++ zaS k l) ∧ zhE pre (zaS k l) = true
 | [],k,D,pre,R,_,_ => by simpa [zb4,zaS,zhE] using R
 | b :: l,k,D,pre,R,hp,hl => by
   have c : (lk pre ((k : Int) + 1)).isNone = true:=zo1.2 fun u hu => by have:=hp u hu; omega
   simp only [yb] at hl
   obtain ⟨a,e⟩:=zts l (k + 1) (zjb ((k : Int) + 1) ⟨-1,0,(b,1)⟩ D) (pre ++ [(⟨(k : Int) + 1,(b,1),-1,0⟩ : Use)]) (zyp R (⟨(k : Int) + 1,(b,1),-1,0⟩ : Use) c) (fun u hu => by
    rcases yd.1 hu with hu | hu
    ·have:=hp u hu; omega
    ·rw [yu.1 hu]; show (k : Int) + 1 ≤ _; omega) (by omega)
   rw [zb4,zaS,zhE,e];rw [yr,yv] at a;refine ⟨a,?_⟩;have d : value ((k : Int) + 1) = true:=zoB.2 (by omega);simp only [d,c,Bool.and_true]
theorem zy4 (i : Int) : ∀ (l : List PPhi) (D : ziO) (pre : List Use),Rep D pre → ((zgT i D l).2.isNone = zhE pre (zdk i l)) ∧ (zhE pre (zdk i l) = true → Rep (zgT i D l).1 (pre ++ zdk i l))
 | [],D,pre,R => ⟨rfl,fun _ => by simpa [zgT,zdk] using R⟩
 | p :: l,D,pre,R => by
   have e : zdk i (p :: l) = ⟨p.dst,(p.bits,1),i,-1⟩ :: zdk i l:=rfl;rw [zgT,e,zhE]
   by_cases c : p.dst < 1 ∨ 1023 < p.dst
   ·have a : value p.dst = false:=by
     cases h : value p.dst
     ·rfl
     ·exact absurd c (zoB.1 h)
    rw [if_pos c,a];exact ⟨rfl,fun h => by simp at h⟩
   ·have a : value p.dst = true:=zoB.2 c
    rw [if_neg c,a,R p.dst];cases g : (lk pre p.dst).isNone
    ·rw [if_neg (by simp)]
     exact ⟨rfl,fun h => by simp at h⟩
    ·rw [if_pos rfl]
     have f : Rep (zjb p.dst ⟨i,-1,(p.bits,1)⟩ D) (pre ++ [(⟨p.dst,(p.bits,1),i,-1⟩ : Use)]):=zyp R (⟨p.dst,(p.bits,1),i,-1⟩ : Use) g;obtain ⟨d,b⟩:=zy4 i l _ _ f;rw [yr,yv] at b;exact ⟨by simpa using d,fun h => b (by simpa using h)⟩
theorem zxN {o : POp} (h : 0 < (zJ o).1) : value o.dst = true:=by
 unfold zJ at h;split at h
 ·simp at h
 ·rename_i c
  have hm : zeO o = true:=by
   cases e : zeO o
   ·exact absurd (.inl e) c
   ·rfl
  have a : zdr o.kind = false:=by
   cases e : zdr o.kind
   ·rfl
   ·exact absurd (.inr e) c
  unfold zeO at hm;simp only [yc] at hm;have:=hm.2.2.1;rw [a] at this;simpa using this
theorem zxr (i : Int) : ∀ (l : List POp) (k : Nat) (D : ziO) (pre : List Use),Rep D pre → ((zgv i k D l).2.isNone = zhE pre (zed i k l)) ∧ (zhE pre (zed i k l) = true → Rep (zgv i k D l).1 (pre ++ zed i k l))
 | [],k,D,pre,R => ⟨rfl,fun _ => by simpa [zgv,zed] using R⟩
 | o :: l,k,D,pre,R => by
   rw [zgv,zed]
   by_cases c : (zJ o).1 ≤ 0
   ·rw [if_pos c,if_neg (show ¬ 0 < (zJ o).1 by omega)]
    exact zxr i l (k + 1) D pre R
   ·rw [if_neg c,if_pos (show 0 < (zJ o).1 by omega),zhE,zxN (o:=o) (by omega),R o.dst]
    cases e : (lk pre o.dst).isNone
    ·rw [if_neg (by simp)]
     exact ⟨rfl,fun h => by simp at h⟩
    ·rw [if_pos rfl]
     have d : Rep (zjb o.dst ⟨i,(k : Int),zJ o⟩ D) (pre ++ [(⟨o.dst,zJ o,i,(k : Int)⟩ : Use)]):=zyp R (⟨o.dst,zJ o,i,(k : Int)⟩ : Use) e;obtain ⟨b,a⟩:=zxr i l (k + 1) _ _ d;rw [yr,yv] at a;exact ⟨by simpa using b,fun h => a (by simpa using h)⟩
theorem zsU : ∀ (l : List PBlock) (k : Nat) (D : ziO) (pre : List Use),Rep D pre → ((zc9 k D l).2.isNone = zhE pre (zah k l)) ∧ (zhE pre (zah k l) = true → Rep (zc9 k D l).1 (pre ++ zah k l))
 | [],k,D,pre,R => ⟨rfl,fun _ => by simpa [zc9,zah] using R⟩
 | b :: l,k,D,pre,R => by
   obtain ⟨p1,p2⟩:=zy4 (k : Int) b.phis D pre R;rw [zc9,zah,znQ,znQ]
   cases f : zgT (k : Int) D b.phis with
   | mk D1 q =>
     rw [f] at p1 p2
     cases q with
     | some x =>
       rw [← p1];exact ⟨rfl,fun h => by simp at h⟩
     | none =>
       rw [← p1];have d:=p2 (by rw [← p1]; rfl);simp only at d;obtain ⟨a,c⟩:=zxr (k : Int) b.ops 0 D1 _ d;simp only
       cases e : zgv (k : Int) 0 D1 b.ops with
       | mk D2 q2 =>
         rw [e] at a c
         cases q2 with
         | some x =>
           rw [← a];exact ⟨rfl,fun h => by simp at h⟩
         | none =>
           rw [← a];have g:=c (by rw [← a]; rfl);obtain ⟨b1,b2⟩:=zsU l (k + 1) D2 _ g;rw [yr] at b1 b2;simp only [yr] at b1 b2;refine ⟨by simpa using b1,fun h => ?_⟩;have:=b2 (by simpa using h);simpa [yr] using this
theorem zyT {f : PFunc} (h : f.params.length ≤ 16) : ((zj4 f).2.isNone = zgj (zD f) 0 (zD f)) ∧ (zgj (zD f) 0 (zD f) = true → Rep (zj4 f).1 (zD f)):=by
 have e:=zsj (zD f) (zD f) [] (by simp);rw [yg] at e;have c : Rep [] []:=fun v => rfl;obtain ⟨a,b⟩:=zts f.params 0 [] [] c (by simp) (by omega);rw [yI] at a;obtain ⟨b1,b2⟩:=zsU f.blocks 0 _ _ a
 have ea : zhE [] (zD f) = zhE (zaS 0 f.params) (zah 0 f.blocks):=by
  unfold zD;rw [znQ,b,yY,yI]
 rw [e,ea];exact ⟨b1,b2⟩
end AC
namespace AC
open Go Go.A Go.A.Lex
open Dm
theorem zIT {f : PFunc} (hf : okF f) (h : zaQ f = true) : ∃ (t : List Int) (O : Int → Prop) (pos : Int → Nat),TreeOf (zn f) ((0 : Nat) : Int) O pos t ∧ zm6 f (t.set 0 (-1)):=by
 have hm:=zgr h;obtain ⟨g,n64,j⟩:=zfA hm;obtain ⟨o,o0,tail,t,O,pos,e,c,d,k,b,Q,i⟩:=zHP hm (root:=0) (by omega);refine ⟨t,O,pos,Q,?_,fun _ => ?_⟩
 ·rw [zm2 Q]; omega
 ·have a : zEX (zn f) (z7 (zn f)) = true:=by unfold zEX; rw [hm]; simp
  exact zw9 (zn f) (z7 (zn f)) (zjN hf) a 0 (by omega) 200 (by omega) o e o0 tail c d (by omega) 200 5000 t b
theorem zva (f : PFunc) (hf : okF f) : ∃ tree,zm6 f tree ∧ (zaQ f = true → ∃ (t : List Int) (O : Int → Prop) (pos : Int → Nat),TreeOf (zn f) ((0 : Nat) : Int) O pos t ∧ tree = t.set 0 (-1)):=by
 cases c : zaQ f
 ·exact ⟨[],⟨by simp,fun h => by rw [c] at h; cases h⟩,fun h => by cases h⟩
 ·obtain ⟨t,O,pos,Q,a⟩:=zIT hf c
  exact ⟨_,a,fun _ => ⟨t,O,pos,Q,rfl⟩⟩
noncomputable def zG6 (f : PFunc) : List Int:=open Classical in if h : okF f then (zva f h).choose else []
theorem zyB {f : PFunc} (hf : okF f) : zm6 f (zG6 f):=by
 unfold zG6;rw [dif_pos hf];exact (zva f hf).choose_spec.1
theorem zIV {f : PFunc} (hf : okF f) (h : zaQ f = true) : ∃ (t : List Int) (O : Int → Prop) (pos : Int → Nat),TreeOf (zn f) ((0 : Nat) : Int) O pos t ∧ zG6 f = t.set 0 (-1):=by
 unfold zG6;rw [dif_pos hf];exact (zva f hf).choose_spec.2 h
theorem zzX (f : PFunc) (hf : okF f) (level : Int) : call T 51 [za9 f,vI level] [] = some (vI (zna f level (zG6 f)),[]):=zsT f hf level _ (zyB hf)
section
variable {f : PFunc} (hf : okF f) (hg : zaQ f = true) {t : List Int} {O : Int → Prop} {pos : Int → Nat} (Q : TreeOf (zn f) ((0 : Nat) : Int) O pos t)
include hg Q
theorem zmZ : ∀ (l : List PBlock) (i : Nat),ze2 (z7 (zn f)) (t.set 0 (-1)) i l = zb0 (z7 (zn f)) (zef (zn f) 0 (-1)) i l
 | [],_ => rfl
 | b :: l,i => by
   rw [ze2,zb0,zmZ l (i + 1),zsM,zlk]
   congr 1
   have e : zmM (t.set 0 (-1)) (i : Int) (i : Int) = (zef (zn f) 0 (-1)).getD i false:=by
    rw [yW];have c:=zE0 Q (i : Int) (i : Int);have a:=zxE (zgr hg) Q i;rw [c];exact ⟨fun h => a.2 h.1,fun h => ⟨a.1 h,a.1 h,zFf _⟩⟩
   rw [e,Bool.and_comm (b.phis.all _)]
theorem zBa : zgZ f (t.set 0 (-1)) = zhu f:=by
 unfold zgZ zhu;rw [zmZ hg Q]
end
theorem zmE (ask : Use → Int) (c : Int) (b : c ≠ 0) : ∀ l : List Use,(∀ u ∈ l,ask u = 0 ∨ ask u = c) → zab ask l = if l.all (fun u => decide (ask u = 0)) = true then 0 else c
 | [],_ => rfl
 | u :: l,h => by
   have e:=zmE ask c b l fun x d => h x (yk _ d);rw [zab,yO];rcases h u yo with a | a
   ·rw [if_pos a,e,a]
    simp
   ·rw [if_neg (by rw [a]; exact b),a]
    simp [b]
theorem zpi {l : List Use} {p q : Use → Bool} (h : ∀ u ∈ l,p u = q u) : l.all p = l.all q:=by
 induction l with
 | nil => rfl
 | cons x l ih => rw [yO,yO,h x yo,ih fun y a => h y (yk _ a)]
theorem zmv (defs : List Use) (v : Int) : ∀ (k : Nat),(zp v k defs < 0 ↔ (lk defs v).isNone = true) ∧ (0 ≤ zp v k defs → defs[(zp v k defs - k).toNat]? = defs.find? (fun u => decide (u.v = v))):=by
 induction defs with
 | nil => intro k; simp [zp,lk]
 | cons u r ih =>
   intro k;obtain ⟨a,b⟩:=ih (k + 1);rw [zp]
   by_cases c : u.v = v
   ·rw [if_pos c]
    constructor
    ·constructor
     ·intro h; omega
     ·intro h
      exact absurd c (zo1.1 h u yo)
    ·intro _
     rw [Int.sub_self,yB,decide_eq_true c];rfl
   ·rw [if_neg c]
    have e : lk (u :: r) v = lk r v:=(by unfold lk; rw [yB,decide_eq_false c]);rw [e];refine ⟨a,fun h => ?_⟩;have:=b h;have d:=zkr v r (k + 1) h;rw [yB,decide_eq_false c,← this];rw [show (zp v (k + 1) r - (k : Int)).toNat = (zp v (k + 1) r - ((k + 1 : Nat) : Int)).toNat + 1 by omega,List.getElem?_cons_succ]
theorem zGQ {defs : List Use} {v : Int} {p : PDef} (h : lk defs v = some p) : toP (zjF defs v) = p:=by
 obtain ⟨a,b⟩:=zmv defs v 0
 have d : 0 ≤ zp v 0 defs:=by
  by_cases c : zp v 0 defs < 0
  ·have:=a.1 c
   rw [h] at this;cases this
  ·omega
 have:=b d;rw [show zp v 0 defs - ((0 : Nat) : Int) = zp v 0 defs by omega] at this;unfold lk at h
 cases e : defs.find? (fun u => decide (u.v = v)) with
 | none => rw [e] at h; cases h
 | some x =>
   rw [e] at h this;unfold zjF;rw [yi,this];simpa using h
theorem zn9 (p : PPhi) : ∀ (l : List Int) (k : Nat),k + l.length ≤ p.src.length → ∀ u ∈ zX p k l,u.block ∈ p.src ∧ u.at' = 1048576
 | [],_,_ => by simp [zX]
 | v :: l,k,h => by
   simp only [yb] at h;intro u hu;rw [zX] at hu;rcases ym.1 hu with rfl | hu
   ·refine ⟨?_,rfl⟩
    show p.src.getD k 0 ∈ p.src
    rw [yi,yw (by omega)];exact yn _
   ·exact zn9 p l (k + 1) (by omega) u hu
theorem zqe (o : POp) (i at' : Int) : ∀ (l : List (Int × Int)) (k : Nat),∀ u ∈ zy o i at' k l,u.block = i ∧ u.at' = at'
 | [],_ => by simp [zy]
 | s :: l,k => by
   intro u hu;rw [zy] at hu;rcases ym.1 hu with rfl | hu
   ·exact ⟨rfl,rfl⟩
   ·exact zqe o i at' l (k + 1) u hu
theorem zoD (i : Int) : ∀ (l : List POp) (k : Nat),∀ u ∈ zk i k l,u.block = i ∧ 0 ≤ u.at' ∧ u.at' < ((k + l.length : Nat) : Int)
 | [],_ => by simp [zk]
 | o :: l,k => by
   intro u hu;rw [zk] at hu;rcases yd.1 hu with hu | hu
   ·obtain ⟨a,b⟩:=zqe o i (k : Int) _ 0 u hu
    simp only [yb];exact ⟨a,by omega,by omega⟩
   ·obtain ⟨a,b,c⟩:=zoD i l (k + 1) u hu
    simp only [yb];exact ⟨a,b,by omega⟩
theorem znf (pred : List (List Int)) (reach : List Bool) : ∀ (l : List PBlock) (i : Nat),zb0 pred reach i l = true → ∀ k b,l[k]? = some b → zlk pred reach (i + k) b = true
 | [],_,_ => by simp
 | b :: l,i,h => by
   rw [zb0,yc] at h;intro k c a
   cases k with
   | zero =>
     simp only [yq,Option.some.injEq] at a;subst a;exact h.1
   | succ k =>
     have:=znf pred reach l (i + 1) h.2 k c (by simpa using a)
     rwa [show i + 1 + k = i + (k + 1) by omega] at this
theorem zm0 (f : PFunc) (P : Int → Prop) : ∀ (l : List PBlock) (k : Nat),(∀ j b,l[j]? = some b → P ((k + j : Nat) : Int) ∧ b.ops.length ≤ 1000 ∧ ∀ p ∈ b.phis,p.args.length = p.src.length ∧ ∀ x ∈ p.src,P x) → ∀ u ∈ zaH f k l,P u.block ∧ (u.at' = 1048576 ∨ (0 ≤ u.at' ∧ u.at' < 1000))
 | [],_,_ => by simp [zaH]
 | b :: l,k,h => by
   intro u hu;obtain ⟨d,n,i⟩:=h 0 b rfl;rw [Nat.add_zero] at d;rw [zaH,zgE] at hu;rcases yd.1 hu with hu | hu
   ·rcases yd.1 hu with hu | hu
    ·unfold zaF at hu
     rw [List.mem_flatMap] at hu;obtain ⟨p,a,hu⟩:=hu;obtain ⟨e1,e2⟩:=i p a;obtain ⟨g,e⟩:=zn9 p p.args 0 (by omega) u hu;exact ⟨e2 _ g,.inl e⟩
    ·rcases yd.1 hu with hu | hu
     ·obtain ⟨g,e,o⟩:=zoD (k : Int) b.ops 0 u hu
      rw [g];exact ⟨d,.inr ⟨e,by omega⟩⟩
     ·unfold zbP at hu
      split at hu
      ·simp at hu
      ·rw [yu.1 hu]
       exact ⟨d,.inl rfl⟩
   ·exact zm0 f P l (k + 1) (fun j c m => by
    have:=h (j + 1) c (by simpa using m)
    rwa [show k + (j + 1) = k + 1 + j by omega] at this) u hu
theorem zld (i : Int) : ∀ (l : List POp) (k : Nat),∀ u ∈ zed i k l,u.block = i ∧ 0 ≤ u.at' ∧ u.at' < ((k + l.length : Nat) : Int)
 | [],_ => by simp [zed]
 | o :: l,k => by
   intro u hu;rw [zed] at hu;simp only [yb];split at hu
   ·rcases ym.1 hu with rfl | hu
    ·exact ⟨rfl,by show (0 : Int) ≤ (k : Int); omega,by show (k : Int) < _; omega⟩
    ·obtain ⟨a,b,c⟩:=zld i l (k + 1) u hu
     exact ⟨a,b,by omega⟩
   ·obtain ⟨a,b,c⟩:=zld i l (k + 1) u hu
    exact ⟨a,b,by omega⟩
theorem zkS : ∀ (l : List PBlock) (k : Nat),(∀ b ∈ l,b.ops.length ≤ 1000) → ∀ u ∈ zah k l,(k : Int) ≤ u.block ∧ u.block < ((k + l.length : Nat) : Int) ∧ u.at' < 1000
 | [],_,_ => by simp [zah]
 | b :: l,k,h => by
   intro u hu;have g:=h b yo;simp only [yb];rw [zah] at hu;rcases yd.1 hu with hu | hu
   ·unfold zdk at hu
    obtain ⟨p,_,rfl⟩:=yA.1 hu;exact ⟨Int.le_refl _,by show (k : Int) < _; omega,by show (-1 : Int) < 1000; omega⟩
   ·rcases yd.1 hu with hu | hu
    ·obtain ⟨d,f,a⟩:=zld (k : Int) b.ops 0 u hu
     exact ⟨by omega,by omega,by omega⟩
    ·obtain ⟨d,f,a⟩:=zkS l (k + 1) (fun c e => h c (yk _ e)) u hu
     exact ⟨by omega,by omega,a⟩
theorem zlc : ∀ (l : List Int) (k : Nat),∀ u ∈ zaS k l,u.block = -1 ∧ u.at' = 0
 | [],_ => by simp [zaS]
 | b :: l,k => by
   intro u hu;rw [zaS] at hu;rcases ym.1 hu with rfl | hu
   ·exact ⟨rfl,rfl⟩
   ·exact zlc l (k + 1) u hu
theorem zsb {f : PFunc} (h : ziR f ≤ 512) : ∀ b ∈ f.blocks,b.ops.length ≤ 1000:=fun b c => by
 have key : ∀ l : List PBlock,b ∈ l → b.phis.length + b.ops.length ≤ (l.map fun b => b.phis.length + b.ops.length).sum:=by
  intro l
  induction l with
  | nil => intro h; cases h
  | cons a l ih =>
    intro h;simp only [yP,List.sum_cons];rcases ym.1 h with rfl | h
    ·omega
    ·have:=ih h; omega
 have:=key _ c;unfold ziR at h;omega
theorem zEt {f : PFunc} (hf : okF f) (level : Int) (hm : zm8 f = true) : ziQ f level (zG6 f) = zap f level ∨ level < 0 ∨ 2 < level:=by
 by_cases A : level < 0 ∨ 2 < level
 ·exact .inr A
 left;unfold ziQ zap;have o : ¬ zm8 f = false:=by simp [hm]
 have tf : ¬ (true = false):=by simp
 have ff : false = false:=rfl;rw [if_neg A,if_neg o,if_neg o];cases hg : zaQ f
 ·have e1 : zgZ f (zG6 f) = false:=by unfold zgZ; rw [hg]; rfl
  have e2 : zhu f = false:=by unfold zhu; rw [hg]; rfl
  rw [if_pos e1,if_pos e2]
 obtain ⟨t,O,pos,Q,N⟩:=zIV hf hg;have l:=zgr hg;rw [N,zBa hg Q];cases I : zhu f
 ·rw [if_pos ff,if_pos ff]
 rw [if_neg tf,if_neg tf];cases ht : zfB f level
 ·rw [if_pos ff,if_pos ff]
 rw [if_neg tf,if_neg tf];obtain ⟨n1,n64,np,z,nb⟩:=zii hm;obtain ⟨d1,d2⟩:=zyT (f:=f) np
 cases hd : zj4 f with
 | mk D q =>
   rw [hd] at d1 d2
   cases q with
   | some x =>
     have : zgj (zD f) 0 (zD f) = false:=d1.symm;simp only;rw [if_pos this]
   | none =>
     have w : zgj (zD f) 0 (zD f) = true:=d1.symm;have R:=d2 w;simp only at R ⊢;rw [w,if_neg tf]
     have s : zb0 (z7 (zn f)) (zef (zn f) 0 (-1)) 0 f.blocks = true:=by
      unfold zhu at I;rw [yc] at I;exact I.2
     have m : ∀ i : Nat,i < f.blocks.length → O (i : Int):=fun i H => by
      have:=znf _ _ _ _ s i _ (yw H);unfold zlk at this;rw [yc,yN] at this;exact (zxE l Q i).1 this.1
     have Z:=(zfA l).2.2;have V : (zn f).length = f.blocks.length:=by simp [zn]
     have U : ∀ u ∈ zdU f,O u.block ∧ (u.at' = 1048576 ∨ (0 ≤ u.at' ∧ u.at' < 1000)):=by
      refine zm0 f O f.blocks 0 fun j b L => ?_;have Y:=(List.getElem?_eq_some_iff.1 L).1;have g:=znf _ _ _ _ s j b L;rw [yN] at g ⊢;unfold zlk at g;simp only [yc,yf] at g;refine ⟨m j Y,zsb z b (List.mem_of_getElem? L),fun p n => ?_⟩;have C:=g.2.2 p n;unfold zjr at C;simp only [yc,decide_eq_true_eq] at C;refine ⟨C.2,fun x S => ?_⟩;rw [C.1] at S;have:=(zoC Z (x:=(j : Int)) ⟨by omega,by omega⟩ x).1 (by rw [ya]; exact S);obtain ⟨y,J⟩ : ∃ y : Nat,(y : Int) = x:=⟨x.toNat,by have:=this.1; omega⟩;rw [← J];exact m y (by have:=this.2.1; omega)
     have K : ∀ d ∈ zD f,(d.block < 0 ∨ O d.block) ∧ d.at' < 1000:=fun d a => by
      unfold zD at a;rcases yd.1 a with a | a
      ·obtain ⟨e1,e2⟩:=zlc _ _ d a
       exact ⟨.inl (by omega),by omega⟩
      ·obtain ⟨e1,e2,e3⟩:=zkS f.blocks 0 (zsb z) d a
       refine ⟨.inr ?_,e3⟩;obtain ⟨y,J⟩ : ∃ y : Nat,(y : Int) = d.block:=⟨d.block.toNat,by omega⟩;rw [← J];exact m y (by omega)
     have f1:=zmE (zkR D) 7 (by omega) (zdU f) fun u _ => by unfold zkR; split <;> simp
     have a1 : (zdU f).all (fun u => decide (zkR D u = 0)) = (zec f).all (zl8 (zD f)):=by
      unfold zec;rw [yV];refine zpi fun u _ => ?_
      show decide (zkR D u = 0) = zl8 (zD f) (zad u)
      have e:=(zmv (zD f) u.v 0).1;unfold zkR zl8;rw [R u.v]
      show _ = !decide (zp u.v 0 (zD f) < 0)
      by_cases c : zp u.v 0 (zD f) < 0
      ·rw [if_pos (e.1 c),decide_eq_true c]; rfl
      ·rw [if_neg (fun h => c (e.2 h)),decide_eq_false c]; rfl
     rw [f1,a1];cases b1 : (zec f).all (zl8 (zD f))
     ·simp
     have k : ∀ u ∈ zdU f,∃ p,lk (zD f) u.v = some p:=fun u hu => by
      have:=yf.1 b1 (zad u) (List.mem_map_of_mem hu);unfold zl8 at this;have e:=(zmv (zD f) u.v 0).1
      cases h : lk (zD f) u.v with
      | some p => exact ⟨p,rfl⟩
      | none =>
        have W:=e.2 (by rw [h]; rfl);have : (!decide (zp u.v 0 (zD f) < 0)) = true:=this;rw [decide_eq_true W] at this;cases this
     have B : ∀ u ∈ zdU f,zk6 D u.v = toP (zjF (zD f) u.v):=fun u hu => by
      obtain ⟨p,n⟩:=k u hu;unfold zk6;rw [R u.v,n,zGQ n];rfl
     have f2:=zmE (zbS D) 6 (by omega) (zdU f) fun u _ => by unfold zbS; split <;> simp
     have a2 : (zdU f).all (fun u => decide (zbS D u = 0)) = (zec f).all (sameShape (zD f)):=by
      unfold zec;rw [yV];refine zpi fun u hu => ?_
      show decide (zbS D u = 0) = sameShape (zD f) (zad u)
      unfold zbS sameShape;rw [B u hu]
      show decide ((if (zjF (zD f) u.v).shape = u.shape then (0 : Int) else 6) = 0) = decide ((zjF (zD f) u.v).shape = u.shape)
      by_cases c : (zjF (zD f) u.v).shape = u.shape
      ·rw [if_pos c,decide_eq_true c]; rfl
      ·rw [if_neg c,decide_eq_false c]; rfl
     rw [f2,a2];cases b2 : (zec f).all (sameShape (zD f))
     ·simp
     have f3:=zmE (za0 D (t.set 0 (-1))) 7 (by omega) (zdU f) fun u _ => by
      unfold za0;simp only;split
      ·simp
      ·split <;> simp
     have a3 : (zdU f).all (fun u => decide (za0 D (t.set 0 (-1)) u = 0)) = (zec f).all (zhG (zD f) (zdK (zn f) 0)):=by
      have e7 : zdK (zn f) 0 = t.set 0 (-1):=zCa l Q;rw [e7];unfold zec;rw [yV];refine zpi fun u hu => ?_
      show decide (za0 D (t.set 0 (-1)) u = 0) = zhG (zD f) (t.set 0 (-1)) (zad u)
      obtain ⟨uo,ua⟩:=U u hu;unfold za0 zhG;rw [B u hu];have M : (zad u).v = u.v:=rfl;have E : (zad u).block = u.block:=rfl;rw [M,E];obtain ⟨d,a⟩ : ∃ d,d = zjF (zD f) u.v:=⟨_,rfl⟩;rw [← a]
      have G : d ∈ zD f:=by
       obtain ⟨p,n⟩:=k u hu;have H:=zmv (zD f) u.v 0
       have h0 : 0 ≤ zp u.v 0 (zD f):=by
        by_cases c : zp u.v 0 (zD f) < 0
        ·have:=H.1.1 c
         rw [n] at this;cases this
        ·omega
       have X:=zkr u.v (zD f) 0 h0;rw [a];unfold zjF;rw [yi,yw (by omega)];exact yn _
      obtain ⟨db,da⟩:=K d G
      show decide ((if d.block < 0 then (0 : Int) else if (d.block = u.block ∧ d.at' < u.at') ∨ (d.block ≠ u.block ∧ zmM (t.set 0 (-1)) d.block u.block = true) then 0 else 7) = 0) = _
      by_cases c1 : d.block < 0
      ·rw [if_pos c1,decide_eq_true c1]; rfl
      ·rw [if_neg c1,decide_eq_false c1]
       have dO:=db.resolve_left c1;have r:=zEy Q dO uo
       by_cases c2 : d.block = u.block
       ·have P : (d.at' < u.at') ↔ (d.at' < (zad u).at'):=by
         show _ ↔ d.at' < (if u.at' = 1048576 then 1000 else u.at')
         split <;> omega
        by_cases c3 : d.at' < u.at'
        ·rw [if_pos (.inl ⟨c2,c3⟩),decide_eq_true c2,decide_eq_true (P.1 c3)]; rfl
        ·rw [if_neg (fun h => h.elim (fun h => c3 h.2) (fun h => h.1 c2)),decide_eq_true c2,decide_eq_false (fun h => c3 (P.2 h))]; rfl
       ·rw [decide_eq_false c2]
        by_cases c4 : zmM (t.set 0 (-1)) d.block u.block = true
        ·rw [if_pos (.inr ⟨c2,c4⟩),decide_eq_true (r.2 c4)]; rfl
        ·rw [if_neg (fun h => h.elim (fun h => c2 h.1) (fun h => c4 h.2)),decide_eq_false (fun h => c4 (r.1 h))]; rfl
     rw [f3,a3];cases b3 : (zec f).all (zhG (zD f) (zdK (zn f) 0)) <;> simp
theorem zvw {f : PFunc} (hf : okF f) (level : Int) : zna f level (zG6 f) = zap f level:=by
 unfold zna
 by_cases a : level < 0 ∨ 2 < level
 ·rw [if_pos a]
  unfold zap;rw [if_pos a]
 ·rw [if_neg a]
  cases hm : zm8 f
  ·unfold ziQ zap
   rw [if_neg a,if_pos hm,if_pos hm]
  ·exact (zEt hf level hm).resolve_right a
end AC
namespace AC
open Go Go.A
abbrev zJF:=List (Int × Int)
def op0 : POp:=⟨0,0,0,0,[],0⟩
def onB (ops : List POp) (a k : Nat) : Bool:=decide (k < a) && ((decide ((ops.getD k op0).dst ≠ 0) && decide ((ops.getD k op0).dst ∈ (ops.getD a op0).args)) || (!pure (ops.getD k op0).kind && !pure (ops.getD a op0).kind))
def zAa (ops : List POp) (a : Nat) : List Int:=((yH a).filter (onB ops a)).map y1
theorem zCD {ops : List POp} {a : Nat} {x : Int} : x ∈ zAa ops a ↔ ∃ k : Nat,(k : Int) = x ∧ onB ops a k = true:=by
 unfold zAa;rw [yA];constructor
 ·rintro ⟨k,b,rfl⟩
  exact ⟨k,rfl,(yX.1 b).2⟩
 ·rintro ⟨k,rfl,b⟩
  refine ⟨k,yX.2 ⟨?_,b⟩,rfl⟩;unfold onB at b;simp only [yc,decide_eq_true_eq] at b;exact yD.2 b.1
structure OneDef (ops : List POp) : Prop where
 pos : ∀ o ∈ ops,0 ≤ o.dst
 one : ∀ i j (hi : i < ops.length) (hj : j < ops.length),0 < ops[i].dst → ops[i].dst = ops[j].dst → i = j
def ints (n : Nat) : List Int:=(yH n).map y1
theorem zyL {n : Nat} {x : Int} : x ∈ ints n ↔ 0 ≤ x ∧ x < (n : Int):=by
 unfold ints;rw [yA];constructor
 ·rintro ⟨k,a,rfl⟩
  have:=yD.1 a;exact ⟨by show (0 : Int) ≤ (k : Int); omega,by show (k : Int) < _; omega⟩
 ·rintro ⟨b,c⟩
  exact ⟨x.toNat,yD.2 (by omega),by show (x.toNat : Int) = x; omega⟩
theorem zGr (n : Nat) : (ints n).length = n:=by simp [ints]
theorem zAf (n : Nat) : (ints n).Nodup:=by
 unfold ints;refine List.Pairwise.map (R:=(· ≠ ·)) _ (fun x y h e => h ?_) List.nodup_range;exact Int.ofNat.inj e
theorem zEe (n : Nat) : ints (n + 1) = ints n ++ [(n : Int)]:=by simp [ints,List.range_succ]
theorem zsa : ∀ (n : Nat) (l : List Int),l.length = n → (∀ i : Nat,i < n → (i : Int) ∈ l) → l.Perm (ints n)
 | 0,l,h,_ => by
   rw [List.eq_nil_of_length_eq_zero h];exact List.Perm.refl _
 | n + 1,l,h,hm => by
   have a:=hm n (Nat.lt_succ_self n);have p:=List.perm_cons_erase a;have b : (l.erase (n : Int)).length = n:=(by rw [List.length_erase_of_mem a]; omega);have c:=zsa n (l.erase (n : Int)) b fun i d => (List.mem_erase_of_ne (by omega)).2 (hm i (by omega));rw [zEe];exact p.trans ((List.Perm.cons _ c).trans (List.perm_append_singleton _ _).symm)
theorem zuT {n : Nat} {l : List Int} (h : l.length = n) (hd : l.Nodup) (c : ∀ x ∈ l,0 ≤ x ∧ x < (n : Int)) : l.Perm (ints n):=by
 refine zsa n l h fun i d => ?_;refine Classical.byContradiction fun b => ?_
 have:=zjZ (l:=(i : Int) :: l) (n:=n) (yJ.2 ⟨b,hd⟩) fun x a => by
  rcases ym.1 a with rfl | a
  ·exact ⟨by omega,by omega⟩
  ·exact c x a
 simp only [yb] at this;omega
theorem zAw {l : List Int} : l.Nodup ↔ ∀ i (b : i < l.length),l[i] ∉ l.take i:=by
 constructor
 ·intro h i b hm
  obtain ⟨j,a,e⟩:=yK.1 hm;simp only [yU] at a;rw [yQ] at e;have:=(List.getElem_inj (h₀:=by omega) (h₁:=b) h).1 e;omega
 ·intro h
  unfold List.Nodup;rw [List.pairwise_iff_getElem];intro i j b a c e;refine h j a (yK.2 ⟨i,by simp only [yU]; omega,?_⟩);rw [yQ]; exact e
structure LegalP (ops : List POp) (order : List Int) : Prop where
 perm : order.Perm (ints ops.length)
 ahead : ∀ i k (hi : i < order.length) (hk : k < order.length),i < k → onB ops order[i].toNat order[k].toNat = false
theorem LegalP.len {ops : List POp} {order : List Int} (h : LegalP ops order) : order.length = ops.length:=by rw [h.perm.length_eq,zGr]
theorem LegalP.nodup {ops : List POp} {order : List Int} (h : LegalP ops order) : order.Nodup:=h.perm.nodup_iff.2 (zAf _)
theorem LegalP.range {ops : List POp} {order : List Int} (h : LegalP ops order) : ∀ x ∈ order,0 ≤ x ∧ x < (ops.length : Int):=fun x a => zyL.1 (h.perm.mem_iff.1 a)
theorem LegalP.all {ops : List POp} {order : List Int} (h : LegalP ops order) {x : Int} (a : 0 ≤ x) (b : x < (ops.length : Int)) : x ∈ order:=h.perm.mem_iff.2 (zyL.2 ⟨a,b⟩)
theorem getD_map {α : Type} (g : Nat → List α) (n k : Nat) (a : k < n) : ((yH n).map g).getD k [] = g k:=by
 rw [yi,List.getElem?_map,List.getElem?_range a]; rfl
def zyb (on : List (List Int)) (out : List Int) (a : Nat) : Bool:=!decide ((a : Int) ∈ out) && (on.getD a []).all fun y => decide (y ∈ out)
structure OutIs (ops : List POp) (out : List Int) : Prop where
 nodup : out.Nodup
 range : ∀ x ∈ out,0 ≤ x ∧ x < (ops.length : Int)
 ahead : ∀ i (hi : i < out.length),∀ y ∈ zAa ops out[i].toNat,y ∈ out.take i
theorem OutIs.le {ops : List POp} {out : List Int} (h : OutIs ops out) : out.length ≤ ops.length:=zjZ h.nodup h.range
theorem zEg {ops : List POp} {out : List Int} {a : Nat} (b : a < ops.length) : zyb ((yH ops.length).map (zAa ops)) out a = true ↔ (a : Int) ∉ out ∧ ∀ y ∈ zAa ops a,y ∈ out:=by
 unfold zyb;rw [getD_map _ _ _ b];simp
theorem OutIs.step {ops : List POp} {out : List Int} (h : OutIs ops out) {a : Nat} (l : a < ops.length) (j : zyb ((yH ops.length).map (zAa ops)) out a = true) : OutIs ops (out ++ [(a : Int)]):=by
 obtain ⟨f,k⟩:=(zEg l).1 j;refine ⟨?_,fun x d => ?_,fun i g y b => ?_⟩
 ·rw [List.nodup_append]
  refine ⟨h.nodup,by simp,fun x d y b e => ?_⟩;rw [yu.1 b] at e;exact f (e ▸ d)
 ·rcases yd.1 d with d | d
  ·exact h.range x d
  ·rw [yu.1 d]; omega
 ·by_cases c : i < out.length
  ·rw [List.getElem_append_left c] at b
   have:=h.ahead i c y b;rw [List.take_append_of_le_length (by omega)];exact this
  ·have e : i = out.length:=by simp at g; omega
   subst e;rw [List.getElem_append_right (yZ _)] at b;simp only [Nat.sub_self,List.getElem_singleton,ya] at b;rw [List.take_left];exact k y b
theorem OutIs.legal {ops : List POp} {out : List Int} (h : OutIs ops out) (d : out.length = ops.length) : LegalP ops out:=by
 refine ⟨zuT d h.nodup h.range,fun i k e a f => ?_⟩
 cases c : onB ops out[i].toNat out[k].toNat with
 | false => rfl
 | true =>
   exfalso;have b:=(h.range _ (yn a)).1;have hm:=h.ahead i e out[k] (zCD.2 ⟨out[k].toNat,by omega,c⟩);exact zAw.1 h.nodup k a (List.mem_of_mem_take (i:=i) (by rw [List.take_take,Nat.min_eq_left (by omega)]; exact hm))
def zDT (tree : List Int) (d u : Use) : Prop:=d.block < 0 ∨ (d.block = u.block ∧ d.at' < u.at') ∨ (d.block ≠ u.block ∧ zkP tree d.block u.block = d.block)
structure RightP (f : PFunc) (level : Int) : Prop where
 lvl : 0 ≤ level ∧ level ≤ 2
 may : zm8 f = true
 shape : zhu f = true
 typed : zfB f level = true
 values : ∀ d ∈ zD f,value d.v = true
 once : ((zD f).map Use.v).Nodup
 uses : ∀ u ∈ zec f,∃ d ∈ zD f,d.v = u.v ∧ d.shape = u.shape ∧ zDT (zdK (zn f) 0) d u
theorem zoe : ∀ (l pre : List Use),zhE pre l = true ↔ (∀ u ∈ l,value u.v = true) ∧ (l.map Use.v).Nodup ∧ ∀ u ∈ l,∀ x ∈ pre,x.v ≠ u.v
 | [],pre => by simp [zhE]
 | u :: r,pre => by
   rw [zhE,yc,yc,zoe r (pre ++ [u]),zo1,yP,yJ];constructor
   ·rintro ⟨⟨c,g⟩,f,d,h⟩
    refine ⟨fun x a => ?_,⟨fun hm => ?_,d⟩,fun x a y b => ?_⟩
    ·rcases ym.1 a with rfl | a
     ·exact c
     ·exact f x a
    ·obtain ⟨x,a,e⟩:=yA.1 hm
     exact h x a u (by simp) e.symm
    ·rcases ym.1 a with rfl | a
     ·exact g y b
     ·exact h x a y (by simp [b])
   ·rintro ⟨c,⟨g,f⟩,d⟩
    refine ⟨⟨c u yo,d u yo⟩,fun x a => c x (yk _ a),f,fun x a y b => ?_⟩;rcases yd.1 b with b | b
    ·exact d x (yk _ a) y b
    ·rw [yu.1 b]
     exact fun e => g (yA.2 ⟨x,a,e.symm⟩)
theorem zih : ∀ {defs : List Use},(defs.map Use.v).Nodup → ∀ {d : Use},d ∈ defs → defs.find? (fun u => decide (u.v = d.v)) = some d
 | [],_,_,hd => by simp at hd
 | x :: r,hn,d,hd => by
   rw [yP,yJ] at hn;rw [yB];rcases ym.1 hd with rfl | hd
   ·simp
   ·rw [decide_eq_false (fun e => hn.1 (yA.2 ⟨d,hd,e.symm⟩))]
    exact zih hn.2 hd
theorem zks {defs : List Use} (b : (defs.map Use.v).Nodup) {d : Use} (hd : d ∈ defs) : ¬ zp d.v 0 defs < 0 ∧ zjF defs d.v = d:=by
 obtain ⟨a,g⟩:=zmv defs d.v 0;have e:=zih b hd
 have f : ¬ zp d.v 0 defs < 0:=fun c => by
  have:=zo1.1 (a.1 c) d hd;exact this rfl
 refine ⟨f,?_⟩;have:=g (by omega);rw [show zp d.v 0 defs - ((0 : Nat) : Int) = zp d.v 0 defs by omega,e] at this;unfold zjF;rw [yi,this];rfl
theorem zDE {defs : List Use} {v : Int} (h : ¬ zp v 0 defs < 0) : ∃ d ∈ defs,d.v = v:=by
 obtain ⟨a,_⟩:=zmv defs v 0;refine Classical.byContradiction fun b => h (a.2 (zo1.2 fun u hu e => b ⟨u,hu,e⟩))
theorem zq0 {defs : List Use} (a : (defs.map Use.v).Nodup) {d : Use} (hd : d ∈ defs) (tree : List Int) (u : Use) (e : d.v = u.v) : zhG defs tree u = true ↔ zDT tree d u:=by
 unfold zhG zDT;rw [← e,(zks a hd).2];simp only [Bool.or_eq_true,yc,decide_eq_true_eq,yR,Bool.or_eq_false_iff,decide_eq_false_iff_not,Bool.not_eq_false',or_assoc]
theorem zi8 {f : PFunc} {level : Int} : zap f level = 0 ↔ RightP f level:=by
 unfold zap;constructor
 ·intro h
  split at h
  ·omega
  rename_i c1;split at h
  ·omega
  rename_i c2;split at h
  ·omega
  rename_i c3;split at h
  ·omega
  rename_i c4;split at h
  ·omega
  rename_i c5;split at h
  ·omega
  rename_i c6;split at h
  ·omega
  rename_i c7;split at h
  ·omega
  rename_i c8;simp only [Bool.not_eq_false] at c2 c3 c4 c5 c6 c7 c8;have c:=(zsj (zD f) (zD f) [] rfl).symm.trans c5;obtain ⟨v1,v2,_⟩:=(zoe _ _).1 c;refine ⟨by omega,c2,c3,c4,v1,v2,fun u hu => ?_⟩;have b:=yf.1 c6 u hu;have a:=yf.1 c7 u hu;have i:=yf.1 c8 u hu;unfold zl8 at b;simp only [yR,decide_eq_false_iff_not] at b;obtain ⟨d,hd,e⟩:=zDE b;refine ⟨d,hd,e,?_,(zq0 v2 hd _ u e).1 i⟩;unfold sameShape at a;rw [← e,(zks v2 hd).2] at a;simpa using a
 ·intro h
  have c : zgj (zD f) 0 (zD f) = true:=(zsj (zD f) (zD f) [] rfl).trans ((zoe _ _).2 ⟨h.values,h.once,fun _ _ _ j => by simp at j⟩)
  have a6 : (zec f).all (zl8 (zD f)) = true:=yf.2 fun u hu => by
   obtain ⟨d,hd,e,_⟩:=h.uses u hu;unfold zl8;rw [← e];simpa using (zks h.once hd).1
  have a7 : (zec f).all (sameShape (zD f)) = true:=yf.2 fun u hu => by
   obtain ⟨d,hd,e,es,_⟩:=h.uses u hu;unfold sameShape;rw [← e,(zks h.once hd).2,decide_eq_true_eq];exact es
  have a8 : (zec f).all (zhG (zD f) (zdK (zn f) 0)) = true:=yf.2 fun u hu => by
   obtain ⟨d,hd,e,_,g⟩:=h.uses u hu;exact (zq0 h.once hd _ u e).2 g
  have k:=h.lvl;rw [if_neg (by omega),if_neg (by simp [h.may]),if_neg (by simp [h.shape]),if_neg (by simp [h.typed]),if_neg (by simp [c]),if_neg (by simp [a6]),if_neg (by simp [a7]),if_neg (by simp [a8])]
theorem zeo {f : PFunc} {level : Int} (h : zfB f level = true) {b : PBlock} (c : b ∈ f.blocks) {o : POp} (a : o ∈ b.ops) : zeO o = true:=by
 unfold zfB at h;simp only [yc,yf] at h;have:=h.2.2 b c;unfold zkV at this;simp only [yc,yf] at this;have:=this.2 o a;unfold ofS at this;simp only [yc] at this;exact this.2.2
theorem zvr {o : POp} (h : zeO o = true) (hd : 0 < o.dst) : 0 < (zJ o).1:=by
 unfold zJ;unfold zeO at h;simp only [yc] at h;have hm : zeO o = true:=by unfold zeO; simp only [yc]; exact h
 cases c : zdr o.kind
 ·rw [if_neg (by simp [hm])]
  split
  ·decide
  ·have a:=h.1
   unfold zdS at a
   have b : 0 < o.bits:=by
    simp only [yc] at a;have:=zaW a.1;omega
   split <;> exact b
 ·rw [c] at h
  simp at h;omega
theorem zIG {o : POp} (h : zeO o = true) : 0 ≤ o.dst:=by
 unfold zeO at h;simp only [yc] at h;have:=h.2.2.1;split at this
 ·simp at this; omega
 ·have:=zoB.1 this; omega
theorem RightP.size {f : PFunc} {level : Int} (h : RightP f level) {b : PBlock} (a : b ∈ f.blocks) : b.ops.length ≤ 1000 ∧ ∀ o ∈ b.ops,o.args.length ≤ 64:=by
 have c:=zii h.may;refine ⟨zsb c.2.2.2.1 b a,?_⟩;exact (zsP (c.2.2.2.2 b a)).2
theorem zj6 (i : Int) (u : Use) : ∀ (l : List POp) (k : Nat),u ∈ zk i k l ↔ ∃ j o,l[j]? = some o ∧ u ∈ zln o i ((k + j : Nat) : Int)
 | [],k => by simp [zk]
 | o :: l,k => by
   rw [zk,yd,zj6 i u l (k + 1)];constructor
   ·rintro (h | ⟨j,x,a,b⟩)
    ·exact ⟨0,o,rfl,h⟩
    ·exact ⟨j + 1,x,by simpa using a,by rwa [show k + (j + 1) = k + 1 + j by omega]⟩
   ·rintro ⟨j,x,a,b⟩
    cases j with
    | zero =>
      simp only [yq,Option.some.injEq] at a;subst a;exact .inl b
    | succ j => exact .inr ⟨j,x,by simpa using a,by rwa [show k + 1 + j = k + (j + 1) by omega]⟩
theorem ziY (f : PFunc) (u : Use) : ∀ (l : List PBlock) (k : Nat),u ∈ zaH f k l ↔ ∃ j b,l[j]? = some b ∧ u ∈ zgE f ((k + j : Nat) : Int) b
 | [],k => by simp [zaH]
 | b :: l,k => by
   rw [zaH,yd,ziY f u l (k + 1)];constructor
   ·rintro (h | ⟨j,x,a,c⟩)
    ·exact ⟨0,b,rfl,h⟩
    ·exact ⟨j + 1,x,by simpa using a,by rwa [show k + (j + 1) = k + 1 + j by omega]⟩
   ·rintro ⟨j,x,a,c⟩
    cases j with
    | zero =>
      simp only [yq,Option.some.injEq] at a;subst a;exact .inl c
    | succ j => exact .inr ⟨j,x,by simpa using a,by rwa [show k + 1 + j = k + (j + 1) by omega]⟩
theorem zmG (i : Int) (d : Use) : ∀ (l : List POp) (k : Nat),d ∈ zed i k l ↔ ∃ j o,l[j]? = some o ∧ 0 < (zJ o).1 ∧ d = ⟨o.dst,zJ o,i,((k + j : Nat) : Int)⟩
 | [],k => by simp [zed]
 | o :: l,k => by
   have f:=zmG i d l (k + 1);rw [zed];constructor
   ·intro h
    have key : d ∈ zed i (k + 1) l → ∃ j x,(o :: l)[j]? = some x ∧ 0 < (zJ x).1 ∧ d = ⟨x.dst,zJ x,i,((k + j : Nat) : Int)⟩:=fun h => by
     obtain ⟨j,x,a,e,b⟩:=f.1 h;exact ⟨j + 1,x,by simpa using a,e,by rw [b,show k + (j + 1) = k + 1 + j by omega]⟩
    split at h
    ·rename_i c
     rcases ym.1 h with h | h
     ·exact ⟨0,o,rfl,c,h⟩
     ·exact key h
    ·exact key h
   ·rintro ⟨j,x,a,e,b⟩
    cases j with
    | zero =>
      simp only [yq,Option.some.injEq] at a;subst a;rw [if_pos e];exact ym.2 (.inl b)
    | succ j =>
      have:=f.2 ⟨j,x,by simpa using a,e,by rw [b,show k + (j + 1) = k + 1 + j by omega]⟩;split
      ·exact yk _ this
      ·exact this
theorem zhq (d : Use) : ∀ (l : List PBlock) (k : Nat),d ∈ zah k l ↔ ∃ j b,l[j]? = some b ∧ (d ∈ zdk ((k + j : Nat) : Int) b.phis ∨ d ∈ zed ((k + j : Nat) : Int) 0 b.ops)
 | [],k => by simp [zah]
 | b :: l,k => by
   rw [zah,yd,yd,zhq d l (k + 1)];constructor
   ·rintro (h | h | ⟨j,x,c,a⟩)
    ·exact ⟨0,b,rfl,.inl h⟩
    ·exact ⟨0,b,rfl,.inr h⟩
    ·exact ⟨j + 1,x,by simpa using c,by rwa [show k + (j + 1) = k + 1 + j by omega]⟩
   ·rintro ⟨j,x,c,a⟩
    cases j with
    | zero =>
      simp only [yq,Option.some.injEq] at c;subst c;rcases a with a | a
      ·exact .inl a
      ·exact .inr (.inl a)
    | succ j => exact .inr (.inr ⟨j,x,by simpa using c,by rwa [show k + 1 + j = k + (j + 1) by omega]⟩)
def zKY (ops : List POp) (order : List Int) : List POp:=order.map fun a => ops.getD a.toNat op0
def zK5 (b : PBlock) (order : List Int) : PBlock:=⟨b.phis,zKY b.ops order,b.kind,b.arg,b.to⟩
def zLx (f : PFunc) (k : Nat) (order : List Int) : PFunc:=match f.blocks[k]? with
 | some b => ⟨f.params,f.ret,f.blocks.set k (zK5 b order)⟩
 | none => f
section
variable {f : PFunc} {k : Nat} {b : PBlock} (hb : f.blocks[k]? = some b) (order : List Int)
include hb
end
section
variable {f : PFunc} {k : Nat} {b : PBlock} (hb : f.blocks[k]? = some b) {order : List Int} (hl : LegalP b.ops order)
include hb hl
end
end AC

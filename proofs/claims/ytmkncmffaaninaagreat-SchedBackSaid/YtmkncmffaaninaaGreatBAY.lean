/- A part of the proof of SchedBack. Conditions: none. -/
import Derived.Test.YtmkncmffaaninaaGreatBAX
import Derived.Test.YtmkncmffaaninaaGreatBAS
set_option linter.unusedVariables false
set_option linter.unusedSimpArgs false
set_option linter.unusedSectionVars false
open Int renaming toNat_natCast → ya,natCast_nonneg → ye,lt_irrefl → yr
open List renaming length_cons → yb,length_nil → yc,take_of_length_le → yd,length_append → yg,drop_eq_getElem_cons → yh,getElem_mem → yi,length_reverse → yl,drop_length → ym,take_left' → yn,map_append → yo,map_set → yq,all_eq_true → ys,replicate → yt
open Option renaming bind_some → yf
open Bool renaming and_eq_true → yk
open Nat renaming mul_one → yp
namespace AC
open Go Go.A Go.A.Lex
theorem n64 : ((64 : Nat) : Int) = 64:=rfl
attribute [go_sem] n64
def cB (b : Bool) : C:=.f (.lit (.bool b))
def cN (n : Nat) : C:=.f (.lit (.int .i64 n))
section
variable (succ pred : List (List Int)) (hn : succ.length ≤ 64) (hs : ∀ l ∈ succ,l.length ≤ 4294967296) (hr : ∀ l ∈ succ,∀ y ∈ l,0 ≤ y ∧ y < (succ.length : Int))
abbrev obG : Ob:=.cells 0 2 [[.f (.sl (succ.map rl)),.f (.sl (pred.map rl))]]
abbrev stO (seen : List Bool) (next : List Nat) (vo : Nat) (out : List Int) (vs : Nat) (row : List Int) : zb :=
 [obG succ pred,.cells 0 64 [seen.map cB],.cells 0 64 [next.map cN],.cells vo 1 (out.map zi),.cells vs 1 (row.map zi)]
include hn hs hr
theorem zrI (X : Nat) (hX : X < succ.length) (seen : List Bool) (hseen : seen.length = 64) (vo : Nat) (out : List Int) (vs : Nat) (row : List Int) (m : Nat) (hm : m ≤ row.length) (hm1 : m + 1 ≤ 4294967296) : ∀ (d nx : Nat) (next : List Nat) (a0 a1 a3 a9 a10 a11 a12 a13 : V),next.length = 64 → next[X]? = some nx → succ[X].length - nx = d → nx ≤ succ[X].length →
  exec T zdB ⟨[a0,a1,.one (.ptr 0 0 0 0),a3,.one (.ptr 1 0 0 0),.one (.ptr 2 0 0 0),.one (.own 3 vo 0 out.length),.one (.own 4 vs 0 m),vI X,a9,a10,a11,a12,a13],stO succ pred seen next vo out vs row,0,0⟩ =
   some (match scan seen (succ[X].drop nx) nx with
    | none => (.exit 0,⟨[vU,vU,.one (.ptr 0 0 0 0),vU,.one (.ptr 1 0 0 0),.one (.ptr 2 0 0 0),.one (.own 3 vo 0 out.length),.one (.own 4 vs 0 m),vI X,vU,vU,vU,vU,vU],stO succ pred seen (next.set X succ[X].length) vo out vs row,0,0⟩)
    | some (y,j) => (.goto 0,⟨[vU,vU,.one (.ptr 0 0 0 0),vU,.one (.ptr 1 0 0 0),.one (.ptr 2 0 0 0),.one (.own 3 vo 0 out.length),.one (.own 4 (vs + 1) 0 (m + 1)),vU,vU,vU,vU,vU,vU],stO succ pred (seen.set y.toNat true) (next.set X j) vo out (vs + 1) (row.take m ++ [y]),0,0⟩)):=by
 intro d
 have hX64 : X < 64:=by omega
 have hXi : ((X : Int) < 64) = True:=by simp; omega
 have hsX:=hs _ (yi hX)
 induction d with
 | zero =>
   intro nx next a0 a1 a3 a9 a10 a11 a12 a13 hnl hnx h1 h2
   have hk : nx = succ[X].length:=by omega
   subst hk
   have hg : (next.map cN)[X]? = some (cN succ[X].length):=by simp [hnx]
   have hset : next.set X succ[X].length = next:=by
    apply List.ext_getElem?
    intro j
    rw [List.getElem?_set]
    by_cases e : X = j
    ·subst e; rw [if_pos rfl,if_pos (by omega),hnx]
    ·rw [if_neg e]
   rw [xl zdB rfl,zfc,hset]
   simp -implicitDefEqProofs only [go_sem,stO,obG,zH hX,rl,hXi,ye,ya,yp,hg,cN,yr,ym,scan]
 | succ d ih =>
   intro nx next a0 a1 a3 a9 a10 a11 a12 a13 hnl hnx h1 h2
   have hk : nx < succ[X].length:=by omega
   have hd : succ[X].drop nx = succ[X][nx] :: succ[X].drop (nx + 1):=yh hk
   obtain ⟨y0,y1⟩:=hr _ (yi hX) _ (yi hk)
   have hgy : (succ[X].map ri)[nx]? = some (ri succ[X][nx]):=zH hk
   generalize succ[X][nx] = y at *
   obtain ⟨Y,rfl⟩ : ∃ Y : Nat,y = Y:=⟨y.toNat,by omega⟩
   have hY64 : Y < 64:=by omega
   have hYi : ((Y : Int) < 64) = True:=by simp; omega
   have hg : (next.map cN)[X]? = some (cN nx):=by simp [hnx]
   have hov:=zq7 (e:=next.map cN) (k:=X) (.f (.lit (.int .i64 ((nx + 1 : Nat) : Int)))) (by simp; omega)
   have hcs : C.f (.lit (.int .i64 ((nx + 1 : Nat) : Int))) = cN (nx + 1):=rfl
   have hov2 : (next.map cN).set X (C.f (.lit (.int .i64 ((nx + 1 : Nat) : Int)))) = (next.set X (nx + 1)).map cN:=by rw [hcs,yq]
   rw [hov2] at hov
   have hle:=zvQ (show X < next.length by omega)
   have hsy : (seen.map cB)[Y]? = some (cB (seen.getD Y false)):=by
    have : Y < seen.length:=by omega
    simp [this]
   have hovs:=zq7 (e:=seen.map cB) (k:=Y) (.f (.lit (.bool true))) (by simp; omega)
   have hovs2 : (seen.map cB).set Y (C.f (.lit (.bool true))) = (seen.set Y true).map cB:=by rw [yq]; rfl
   rw [hovs2] at hovs
   have hles:=zvQ (show Y < seen.length by omega)
   have hw : Go.IntKind.i64.wrap ((nx : Int) + 1) = ((nx + 1 : Nat) : Int):=zd hk hsX
   have hg2 : ((next.set X (nx + 1)).map cN)[X]? = some (cN (nx + 1)):=by simp [hnl,hX64]
   have hlim : 0 < m + 1 ∧ m + 1 ≤ LIM:=⟨by omega,by unfold LIM; omega⟩
   rw [xl zdB rfl,zfc,hd,scan]
   rw [ya]
   cases e : seen.getD Y false
   ·rw [e] at hsy
    have er : (row.map zi).take m ++ [[C.f (.lit (.int .i64 (Y : Int)))]] = (row.take m ++ [(Y : Int)]).map zi:=by simp [zi,List.map_take]
    simp -implicitDefEqProofs only [go_sem,stO,obG,zH hX,rl,hXi,ye,ya,yp,hg,cN,ilt hk,hgy,ri,hYi,hw,hov,hle,hg2,hsy,cB,hovs,hles,hlim,er]
   ·rw [e] at hsy
    have:=ih (nx + 1) (next.set X (nx + 1)) vU vU vU vU vU vU vU vU (by simpa using hnl) (by simp [hnl,hX64]) (by omega) (by omega)
    simp -implicitDefEqProofs only [go_sem,stO,obG,List.set_set] at this
    simp -implicitDefEqProofs only [go_sem,stO,obG,zH hX,rl,hXi,ye,ya,yp,hg,cN,ilt hk,hgy,ri,hYi,hw,hov,hle,hg2,hsy,cB,this]
end
end AC
namespace AC
open Go Go.A Go.A.Lex
attribute [go_sem] Option.any_some
def zhs : Go.A.Code:=zm.p2.p2.p2.p2.p2.p2.p2
theorem zns : zfm = .seq .skip zhs:=rfl
section
variable (succ pred : List (List Int)) (hn : succ.length ≤ 64) (hs : ∀ l ∈ succ,l.length ≤ 4294967296) (hr : ∀ l ∈ succ,∀ y ∈ l,0 ≤ y ∧ y < (succ.length : Int))
include hn hs hr
theorem zsr {d : DF} (hd : DInv succ d) {x : Int} (hx : 0 ≤ x ∧ x < (succ.length : Int)) {j : Nat} (hj : j ≤ (succ.getD x.toNat []).length) : ∀ X,X < succ.length → (d.next.set x.toNat j).getD X 0 ≤ (succ.getD X []).length:=by
 intro X hX
 have h64:=hd.next
 by_cases e : x.toNat = X
 ·subst e
  rw [zaF _ _ (by omega)]
  exact hj
 ·rw [getD_set_ne _ _ e]
  exact hd.le X hX
theorem zuf (d : DF) (stale : List Int) (vo vs : Nat) (X : Nat) (s : List Int) (y : Int) (j : Nat) (a0 a1 a3 a8 a9 a10 a11 a12 a13 : V) (hd : DInv succ d) (hX : X < succ.length) (hb1 : s.length + 2 ≤ 4294967296) (hb2 : d.out.length + 1 ≤ 4294967296) (hscan : zdN succ d X = some (y,j)) :
  exec T zhs ⟨[a0,a1,.one (.ptr 0 0 0 0),a3,.one (.ptr 1 0 0 0),.one (.ptr 2 0 0 0),.one (.own 3 vo 0 d.out.length),.one (.own 4 vs 0 (s.length + 1)),a8,a9,a10,a11,a12,a13],stO succ pred d.seen d.next vo d.out vs (((X : Int) :: s).reverse ++ stale),0,0⟩ =
   some (.goto 0,⟨[vU,vU,.one (.ptr 0 0 0 0),vU,.one (.ptr 1 0 0 0),.one (.ptr 2 0 0 0),.one (.own 3 vo 0 d.out.length),.one (.own 4 (vs + 1) 0 (s.length + 2)),vU,vU,vU,vU,vU,vU],stO succ pred (d.seen.set y.toNat true) (d.next.set X j) vo d.out (vs + 1) ((y :: (X : Int) :: s).reverse ++ []),0,0⟩):=by
 have hnl:=hd.next
 have hgX : succ.getD X [] = succ[X]:=by simp [hX]
 have hnx : d.next[X]? = some (d.next.getD X 0):=by
  have : X < d.next.length:=by omega
  simp [this]
 have hle:=hd.le X hX
 rw [hgX] at hle
 have hl0:=fun a0 a1 a3 a9 a10 a11 a12 a13 => zrI succ pred hn hs hr X hX d.seen hd.seen vo d.out vs (((X : Int) :: s).reverse ++ stale) (s.length + 1) (by simp only [yg,yl,yb,yc]; omega) (by first | omega | (simp only [yb,yc] at hb1 ⊢; omega)) _ (d.next.getD X 0) d.next a0 a1 a3 a9 a10 a11 a12 a13 hnl hnx rfl hle
 have hsc : zdN succ d (X : Int) = scan d.seen (succ[X].drop (d.next.getD X 0)) (d.next.getD X 0):=by
  unfold zdN
  rw [ya,hgX]
 rw [hsc] at hscan
 have hw : Go.IntKind.i64.wrap (((s.length + 1 : Nat) : Int) - 1) = (s.length : Int):=by rw [wrap_i64] <;> first | omega | (simp only [yb,yc] at hb1 ⊢; omega)
 have hi1 : ((s.length : Int) < ((s.length + 1 : Nat) : Int)) = True:=by first | (simp; done) | (simp; omega)
 have hgrow : ((((X : Int) :: s).reverse ++ stale).map zi)[s.length]? = some [.f (.lit (.int .i64 (X : Int)))]:=by
  apply zjA
  simp
 have hrt : (((X : Int) :: s).reverse ++ stale).take (s.length + 1) = ((X : Int) :: s).reverse:=yn (by simp)
 have hlim : 0 < d.out.length + 1 ∧ d.out.length + 1 ≤ LIM:=⟨by omega,by unfold LIM; omega⟩
 have eo : (d.out.map zi).take d.out.length ++ [[C.f (.lit (.int .i64 (X : Int)))]] = (d.out ++ [(X : Int)]).map zi:=by
  rw [yd (by simp),yo]
  rfl
 generalize hrow : ((X : Int) :: s).reverse ++ stale = row at *
 rw [hscan] at hl0
 have e : (y :: (X : Int) :: s).reverse ++ [] = row.take (s.length + 1) ++ [y]:=by rw [hrt]; simp
 have hp1 : 0 < s.length + 2 ∧ s.length + 2 ≤ LIM:=⟨by omega,by unfold LIM; omega⟩
 rw [e]
 simp -implicitDefEqProofs only [go_sem,stO,obG] at hl0
 simp -implicitDefEqProofs only [go_sem,zhs,zm,Code.p2,stO,obG,hw,hi1,ye,ya,hgrow,hl0]
theorem zu3 (d : DF) (stale : List Int) (vo vs : Nat) (X : Nat)  (a0 a1 a3 a8 a9 a10 a11 a12 a13 : V) (hd : DInv succ d) (hX : X < succ.length) (hb1 : ([] : List Int).length + 2 ≤ 4294967296) (hb2 : d.out.length + 1 ≤ 4294967296) (hscan : zdN succ d X = none) :
  exec T zhs ⟨[a0,a1,.one (.ptr 0 0 0 0),a3,.one (.ptr 1 0 0 0),.one (.ptr 2 0 0 0),.one (.own 3 vo 0 d.out.length),.one (.own 4 vs 0 (([] : List Int).length + 1)),a8,a9,a10,a11,a12,a13],stO succ pred d.seen d.next vo d.out vs (((X : Int) :: ([] : List Int)).reverse ++ stale),0,0⟩ =
   some (.ret,⟨[vU,vU,vU,.one (.own 3 (vo + 1) 0 (d.out.length + 1)),vU,vU,vU,vU,vU,vU,vU,vU,vU,vU],stO succ pred d.seen (d.next.set X succ[X].length) (vo + 1) (d.out ++ [(X : Int)]).reverse vs (((X : Int) :: []).reverse ++ stale),0,0⟩):=by
 have hnl:=hd.next
 have hgX : succ.getD X [] = succ[X]:=by simp [hX]
 have hnx : d.next[X]? = some (d.next.getD X 0):=by
  have : X < d.next.length:=by omega
  simp [this]
 have hle:=hd.le X hX
 rw [hgX] at hle
 have hl0:=fun a0 a1 a3 a9 a10 a11 a12 a13 => zrI succ pred hn hs hr X hX d.seen hd.seen vo d.out vs (((X : Int) :: ([] : List Int)).reverse ++ stale) (([] : List Int).length + 1) (by simp only [yg,yl,yb,yc]; omega) (by first | omega | (simp only [yb,yc] at hb1 ⊢; omega)) _ (d.next.getD X 0) d.next a0 a1 a3 a9 a10 a11 a12 a13 hnl hnx rfl hle
 have hsc : zdN succ d (X : Int) = scan d.seen (succ[X].drop (d.next.getD X 0)) (d.next.getD X 0):=by
  unfold zdN
  rw [ya,hgX]
 rw [hsc] at hscan
 have hw : Go.IntKind.i64.wrap (((([] : List Int).length + 1 : Nat) : Int) - 1) = (([] : List Int).length : Int):=by rw [wrap_i64] <;> first | omega | (simp only [yb,yc] at hb1 ⊢; omega)
 have hi1 : ((([] : List Int).length : Int) < ((([] : List Int).length + 1 : Nat) : Int)) = True:=by first | (simp; done) | (simp; omega)
 have hgrow : ((((X : Int) :: ([] : List Int)).reverse ++ stale).map zi)[([] : List Int).length]? = some [.f (.lit (.int .i64 (X : Int)))]:=by
  apply zjA
  simp
 have hrt : (((X : Int) :: ([] : List Int)).reverse ++ stale).take (([] : List Int).length + 1) = ((X : Int) :: ([] : List Int)).reverse:=yn (by simp)
 have hlim : 0 < d.out.length + 1 ∧ d.out.length + 1 ≤ LIM:=⟨by omega,by unfold LIM; omega⟩
 have eo : (d.out.map zi).take d.out.length ++ [[C.f (.lit (.int .i64 (X : Int)))]] = (d.out ++ [(X : Int)]).map zi:=by
  rw [yd (by simp),yo]
  rfl
 generalize hrow : ((X : Int) :: ([] : List Int)).reverse ++ stale = row at *
 rw [hscan] at hl0
 have hrv:=zpW (stO succ pred d.seen (d.next.set X succ[X].length) (vo + 1) (d.out ++ [(X : Int)]) vs row) 3 (vo + 1) (d.out ++ [(X : Int)]) (by simp; omega) rfl (d.out.length + 1) (by simp)
 simp -implicitDefEqProofs only [go_sem,stO,obG] at hl0 hrv hw hi1 hgrow
 simp -implicitDefEqProofs only [go_sem,zhs,zm,Code.p2,stO,obG,hw,hi1,ye,ya,hgrow,hl0,hlim,eo,hrv]
theorem zwm (d : DF) (stale : List Int) (vo vs : Nat) (X : Nat) (z : Int) (s' : List Int) (a0 a1 a3 a8 a9 a10 a11 a12 a13 : V) (hd : DInv succ d) (hX : X < succ.length) (hb1 : (z :: s').length + 2 ≤ 4294967296) (hb2 : d.out.length + 1 ≤ 4294967296) (hscan : zdN succ d X = none) :
  exec T zhs ⟨[a0,a1,.one (.ptr 0 0 0 0),a3,.one (.ptr 1 0 0 0),.one (.ptr 2 0 0 0),.one (.own 3 vo 0 d.out.length),.one (.own 4 vs 0 ((z :: s').length + 1)),a8,a9,a10,a11,a12,a13],stO succ pred d.seen d.next vo d.out vs (((X : Int) :: (z :: s')).reverse ++ stale),0,0⟩ =
   some (.goto 0,⟨[vU,vU,.one (.ptr 0 0 0 0),vU,.one (.ptr 1 0 0 0),.one (.ptr 2 0 0 0),.one (.own 3 (vo + 1) 0 (d.out.length + 1)),.one (.own 4 vs 0 (s'.length + 1)),vU,vU,vU,vU,vU,vU],stO succ pred d.seen (d.next.set X succ[X].length) (vo + 1) (d.out ++ [(X : Int)]) vs ((z :: s').reverse ++ ((X : Int) :: stale)),0,0⟩):=by
 have hnl:=hd.next
 have hgX : succ.getD X [] = succ[X]:=by simp [hX]
 have hnx : d.next[X]? = some (d.next.getD X 0):=by
  have : X < d.next.length:=by omega
  simp [this]
 have hle:=hd.le X hX
 rw [hgX] at hle
 have hl0:=fun a0 a1 a3 a9 a10 a11 a12 a13 => zrI succ pred hn hs hr X hX d.seen hd.seen vo d.out vs (((X : Int) :: z :: s').reverse ++ stale) ((z :: s').length + 1) (by simp only [yg,yl,yb,yc]; omega) (by first | omega | (simp only [yb,yc] at hb1 ⊢; omega)) _ (d.next.getD X 0) d.next a0 a1 a3 a9 a10 a11 a12 a13 hnl hnx rfl hle
 have hsc : zdN succ d (X : Int) = scan d.seen (succ[X].drop (d.next.getD X 0)) (d.next.getD X 0):=by
  unfold zdN
  rw [ya,hgX]
 rw [hsc] at hscan
 have hw : Go.IntKind.i64.wrap ((((z :: s').length + 1 : Nat) : Int) - 1) = ((z :: s').length : Int):=by rw [wrap_i64] <;> first | omega | (simp only [yb,yc] at hb1 ⊢; omega)
 have hi1 : (((z :: s').length : Int) < (((z :: s').length + 1 : Nat) : Int)) = True:=by first | (simp; done) | (simp; omega)
 have hgrow : ((((X : Int) :: z :: s').reverse ++ stale).map zi)[(z :: s').length]? = some [.f (.lit (.int .i64 (X : Int)))]:=by
  apply zjA
  simp
 have hrt : (((X : Int) :: z :: s').reverse ++ stale).take ((z :: s').length + 1) = ((X : Int) :: z :: s').reverse:=yn (by simp)
 have hlim : 0 < d.out.length + 1 ∧ d.out.length + 1 ≤ LIM:=⟨by omega,by unfold LIM; omega⟩
 have eo : (d.out.map zi).take d.out.length ++ [[C.f (.lit (.int .i64 (X : Int)))]] = (d.out ++ [(X : Int)]).map zi:=by
  rw [yd (by simp),yo]
  rfl
 generalize hrow : ((X : Int) :: z :: s').reverse ++ stale = row at *
 rw [hscan] at hl0
 have e : (z :: s').reverse ++ ((X : Int) :: stale) = row:=by rw [← hrow]; simp
 have hle2 : (s'.length ≤ s'.length + 1) = True:=by simp
 have hp : ((0 : Int) < ((s'.length + 1 : Nat) : Int)) = True:=by first | (simp; done) | (simp; omega)
 rw [e]
 simp -implicitDefEqProofs only [go_sem,stO,obG] at hl0 hw hi1 hgrow
 simp -implicitDefEqProofs only [go_sem,zhs,zm,Code.p2,stO,obG,hw,hi1,ye,ya,hgrow,hl0,hlim,eo,hp,hle2,Nat.sub_zero]
theorem zz4 : ∀ (k : Nat) (d : DF) (stale : List Int) (vo vs : Nat) (o : List Int) (a0 a1 a3 a8 a9 a10 a11 a12 a13 : V),DInv succ d → d.stk.length + k ≤ 4294967296 → d.out.length + k ≤ 4294967296 → dfs succ k d = some o →
  ∃ seen' next' vo' vs' row',exec T (.sc zm zfm) ⟨[a0,a1,.one (.ptr 0 0 0 0),a3,.one (.ptr 1 0 0 0),.one (.ptr 2 0 0 0),.one (.own 3 vo 0 d.out.length),.one (.own 4 vs 0 d.stk.length),a8,a9,a10,a11,a12,a13],stO succ pred d.seen d.next vo d.out vs (d.stk.reverse ++ stale),0,0⟩ =
    some (.ret,⟨[vU,vU,vU,.one (.own 3 vo' 0 o.length),vU,vU,vU,vU,vU,vU,vU,vU,vU,vU],stO succ pred seen' next' vo' o.reverse vs' row',0,0⟩):=by
 intro k
 induction k with
 | zero => intro d stale vo vs o _ _ _ _ _ _ _ _ _ _ _ _ h; simp [dfs] at h
 | succ k ih =>
   intro d stale vo vs o a0 a1 a3 a8 a9 a10 a11 a12 a13 hd hb1 hb2 h
   simp only [dfs] at h
   cases hstk : d.stk with
   | nil => rw [hstk] at h; cases h
   | cons x s =>
     rw [hstk] at h hb1
     simp only at h
     simp only [yb] at hb1
     obtain ⟨x0,x1⟩:=hd.stk x (by rw [hstk]; simp)
     obtain ⟨X,rfl⟩ : ∃ X : Nat,x = X:=⟨x.toNat,by omega⟩
     have hX : X < succ.length:=by omega
     have hgX : succ.getD X [] = succ[X]:=by simp [hX]
     have hlX : zui succ (X : Int) = succ[X].length:=by unfold zui; rw [ya,hgX]
     cases hscan : zdN succ d (X : Int) with
     | some yj =>
       obtain ⟨y,j⟩:=yj
       rw [hscan] at h
       simp only [ya] at h
       have hsc:=hscan
       unfold zdN at hsc
       rw [ya,hgX] at hsc
       obtain ⟨q1,q2,q3⟩:=zuG hsc
       have hle:=hd.le X hX
       rw [hgX] at hle
       have hy:=hr _ (yi hX) y (List.mem_of_mem_drop q3)
       have hd' : DInv succ ⟨d.seen.set y.toNat true,d.next.set X j,d.out,y :: (X : Int) :: s⟩:=⟨by simpa using hd.seen,by simpa using hd.next,by
         have:=zsr succ hn hs hr hd ⟨x0,x1⟩ (j:=j) (by rw [ya,hgX]; rw [List.length_drop] at q2; omega)
         rwa [ya] at this,fun z hz => by
        rcases List.mem_cons.1 hz with rfl | hz
        ·exact hy
        ·exact hd.stk z (by rw [hstk]; exact hz)⟩
       obtain ⟨seen',next',vo',vs',row',hx⟩:=ih _ [] vo (vs + 1) o vU vU vU vU vU vU vU vU vU hd' (by simp only [yb]; omega) (by simp only; omega) h
       refine ⟨seen',next',vo',vs',row',?_⟩
       rw [← hx,zeM,zns,zdY,zek]
       simp only [yf,zpy]
       have hrd:=zuf succ pred hn hs hr d stale vo vs X s y j a0 a1 a3 a8 a9 a10 a11 a12 a13 hd hX (by omega) (by omega) hscan
       simp only [yb] at hrd ⊢
       rw [hrd]
       simp only [yf,scK,zfC]
       rw [← zns]
     | none =>
       rw [hscan] at h
       simp only at h
       cases s with
       | nil =>
         simp only [Option.some.injEq] at h
         subst h
         have hrd:=zu3 succ pred hn hs hr d stale vo vs X a0 a1 a3 a8 a9 a10 a11 a12 a13 hd hX (by simp) (by omega) hscan
         refine ⟨d.seen,d.next.set X succ[X].length,vo + 1,vs,(((X : Int) :: []).reverse ++ stale),?_⟩
         rw [zeM,zns,zdY,zek]
         simp only [yf,zpy]
         simp only [yb,yc] at hrd ⊢
         rw [hrd]
         simp only [yf,scK]
         rw [show (d.out ++ [(X : Int)]).length = d.out.length + 1 by simp]
       | cons z s' =>
         simp only [ya] at h
         have hrd:=zwm succ pred hn hs hr d stale vo vs X z s' a0 a1 a3 a8 a9 a10 a11 a12 a13 hd hX (by simp only [yb] at hb1 ⊢; omega) (by omega) hscan
         have hd' : DInv succ ⟨d.seen,d.next.set X (zui succ X),d.out ++ [(X : Int)],z :: s'⟩:=⟨hd.seen,by simpa using hd.next,by
          have:=zsr succ hn hs hr hd ⟨x0,x1⟩ (j:=zui succ X) (by rw [ya,hgX,hlX]; exact Nat.le_refl _)
          rwa [ya] at this,fun w hw => hd.stk w (by rw [hstk]; exact List.mem_cons_of_mem _ hw)⟩
         obtain ⟨seen',next',vo',vs',row',hx⟩:=ih _ ((X : Int) :: stale) (vo + 1) vs o vU vU vU vU vU vU vU vU vU hd' (by simp only [yb] at hb1 ⊢; omega) (by simp only [yg,yb,yc]; omega) h
         refine ⟨seen',next',vo',vs',row',?_⟩
         rw [← hx,zeM,zns,zdY,zek]
         simp only [yf,zpy]
         simp only [yb,yg,yc,hlX] at hrd ⊢
         rw [hrd]
         simp only [yf,scK,zfC]
         rw [← zns]
end
end AC
namespace AC
open Go Go.A Go.A.Lex
@[go_sem] theorem znp (succ pred : List (List Int)) (hs : zkN succ) : call T 148 [.agg [.f (.sl (succ.map rl)),.f (.sl (pred.map rl))]] [] = some (vB (zwU succ pred),[]):=by
  rw [ze (fn:=zgd) rfl]
  have hm:=zhu succ hs
  cases e : zdb succ
  ·simp -implicitDefEqProofs only [go_sem,zoQ,e] at hm
   simp -implicitDefEqProofs only [go_sem,zgd,hm,zwU,e]
  ·have hq:=ziP (zam succ) pred [.cells 0 2 [[.f (.sl (succ.map rl)),.f (.sl (pred.map rl))]],.cells 0 2 [[.f (.sl (succ.map rl)),.f (.sl ((zam succ).map rl))]]] (by rw [zgl]; exact hs.1) (zlS succ hs (zhK e))
   simp -implicitDefEqProofs only [go_sem,zoQ,e] at hm hq
   simp -implicitDefEqProofs only [go_sem,zgd,hm,hq,zwU,e]
theorem zgH : znq.length = 64:=rfl
theorem zkL : zlf.length = 64:=rfl
def zB5 : Go.A.Code:=zm.p1
def zB6 : Go.A.Code:=zm.p2.p1
def zBH : Go.A.Code:=zm.p2.p2.p1
def zBt : Go.A.Code:=zm.p2.p2.p2.p1
def zBu : Go.A.Code:=zm.p2.p2.p2.p2.p1
def zBA : Go.A.Code:=zm.p2.p2.p2.p2.p2.p1
theorem zBO : zm = .seq zB5 (.seq zB6 (.seq zBH (.seq zBt (.seq zBu (.seq zBA (.seq (.label 0) zhs)))))):=rfl
theorem zzA (succ pred : List (List Int)) (hs : zkN succ) (hm : zwU succ pred = true) (root : Nat) (hr : root < succ.length) : exec T zB5 ⟨[.agg [.f (.sl (succ.map rl)),.f (.sl (pred.map rl))],vI root,.one (.ptr 0 0 0 0),vL [],vU,vU,vU,vU,vU,vU,vU,vU,vU,vU],[obG succ pred],0,0⟩ =
  some (.normal,⟨[.agg [.f (.sl (succ.map rl)),.f (.sl (pred.map rl))],vI root,.one (.ptr 0 0 0 0),vL [],vU,vU,vU,vU,vU,vU,vB false,vU,vU,vU],[obG succ pred],0,0⟩):=by
 have h:=znp succ pred hs
 rw [hm] at h
 have h1 : ¬ (root : Int) < 0:=by omega
 have h2 : ¬ (succ.length : Int) ≤ (root : Int):=by omega
 simp -implicitDefEqProofs only [go_sem] at h
 simp -implicitDefEqProofs only [go_sem,zB5,zm,Code.p1,obG,h,h1,h2]
theorem zyz (succ pred : List (List Int)) (root : Nat) (hr : root < 64) (c : Go.A.Code) (a0 a3 a10 : V) : exec T (.seq zB6 (.seq zBH (.seq zBt (.seq zBu (.seq zBA c))))) ⟨[a0,vI root,.one (.ptr 0 0 0 0),a3,vU,vU,vU,vU,vU,vU,a10,vU,vU,vU],[obG succ pred],0,0⟩ =
  exec T c ⟨[a0,vI root,.one (.ptr 0 0 0 0),a3,.one (.ptr 1 0 0 0),.one (.ptr 2 0 0 0),.one (.own 3 0 0 0),.one (.own 4 0 0 1),vU,vU,a10,vU,vU,vU],stO succ pred (znq.set root true) zlf 0 [] 0 [(root : Int)],0,0⟩:=by
 have hi : ((root : Int) < 64) = True:=by simp; omega
 have hov:=zq7 (e:=znq.map cB) (k:=root) (.f (.lit (.bool true))) (by rw [List.length_map,zgH]; exact hr)
 have h2 : (znq.map cB).set root (C.f (.lit (.bool true))) = (znq.set root true).map cB:=by rw [yq]; rfl
 rw [h2] at hov
 have hle:=zvQ (show root < 64 by omega)
 have hB : zB6 = .reg [w 4 (.al (znq.map cB) [])]:=rfl
 have hC : zBH = .reg [w 5 (.al (zlf.map cN) [])]:=rfl
 rw [hB,hC]
 simp -implicitDefEqProofs only [go_sem,zBt,zBu,zBA,zm,Code.p1,Code.p2,obG,stO,zgH,zkL,hi,ye,ya,yp,hov,hle,zi]
@[go_sem] theorem zum (succ pred : List (List Int)) (hs : zkN succ) (hm : zwU succ pred = true) (root : Nat) (hr : root < succ.length) (k : Nat) (hk : k ≤ 4294967295) (o : List Int) (ho : dfs succ k (zpz root) = some o) :
   call T 100 [.agg [.f (.sl (succ.map rl)),.f (.sl (pred.map rl))],vI root] [] = some (vIs o.reverse,[]):=by
  rw [ze (fn:=zgr) rfl]
  have hmk : zdb succ = true:=by simp only [zwU,yk] at hm; exact hm.1
  obtain ⟨q1,q2,q3⟩:=ze3 hmk
  have hrr : ∀ l ∈ succ,∀ y ∈ l,0 ≤ y ∧ y < (succ.length : Int):=fun l hl y hy => by have:=zkl _ _ _ (q3 l hl) y hy; omega
  have hd : DInv succ (zpz root):=⟨by simp [zpz,zgH],zkL,fun X hX => by
   have : zlf.getD X 0 = 0:=by
    have h64 : X < 64:=by omega
    have h : zlf[X]? = some 0:=by
     unfold zlf
     rw [List.getElem?_replicate,if_pos h64]
    rw [List.getD_eq_getElem?_getD,h]
    rfl
   simp only [zpz]
   omega,fun x hx => by simp [zpz] at hx; omega⟩
  obtain ⟨seen',next',vo',vs',row',h⟩:=zz4 succ pred q2 hs.2 hrr k (zpz root) [] 0 0 o (.agg [.f (.sl (succ.map rl)),.f (.sl (pred.map rl))]) (vI root) (vL []) vU vU (vB false) vU vU vU hd (by simp [zpz]; omega) (by simp [zpz]; omega) ho
  have e1 : exec T (.scope zm) ⟨[.agg [.f (.sl (succ.map rl)),.f (.sl (pred.map rl))],vI root,.one (.ptr 0 0 0 0),vL [],vU,vU,vU,vU,vU,vU,vU,vU,vU,vU],[obG succ pred],0,0⟩ = some (.ret,⟨[vU,vU,vU,.one (.own 3 vo' 0 o.length),vU,vU,vU,vU,vU,vU,vU,vU,vU,vU],stO succ pred seen' next' vo' o.reverse vs' row',0,0⟩):=by
   rw [← h,zj1,zeM,zeM]
   congr 1
   rw [zns,zdY,zek]
   simp only [yf,zpy]
   rw [zBO,zdY,zzA succ pred hs hm root hr]
   simp only [yf,zpy]
   rw [zyz succ pred root (by omega),zdY,zok]
   rfl
  have htk : (o.reverse.map zi).take o.length = o.reverse.map zi:=yd (by simp)
  simp -implicitDefEqProofs only [go_sem,obG,stO] at e1
  simp -implicitDefEqProofs only [go_sem,zgr,e1,htk,zbP]
end AC
namespace AC
open Go Go.A Go.A.Lex
def zB3 : List C → Bool
 | [.f (.lit (.int .i64 k))] => decide (k = -2)
 | _ => false
def zyJ (n : Nat) : Bool:=match zdq T (zD T 3000) 230 [vL [[ei (-2)]],vI n] [] with
 | some (.one (.own 0 0 0 m),[.cells 0 1 rows]) => decide (m = n) && (decide (rows.length = n) && rows.all zB3)
 | _ => false
set_option maxRecDepth 100000 in
theorem zyR : ((List.range 64).all fun n => zyJ (n + 1)) = true:=by kernel_rfl
theorem zza {r : List C} (h : zB3 r = true) : r = zi (-2):=by
 unfold zB3 at h
 split at h
 ·simp only [decide_eq_true_eq] at h
  subst h
  rfl
 ·cases h
theorem zrh (n : Nat) (h1 : 1 ≤ n) (hn : n ≤ 64) : call T 230 [vL [[ei (-2)]],vI n] [] = some (.one (.own 0 0 0 n),[.cells 0 1 ((yt n (-2 : Int)).map zi)]):=by
 have h:=ys.1 zyR (n - 1) (List.mem_range.2 (by omega))
 rw [show n - 1 + 1 = n by omega] at h
 unfold zyJ at h
 split at h
 ·rename_i m rows he
  simp only [yk,decide_eq_true_eq,ys] at h
  obtain ⟨rfl,h2,h3⟩:=h
  have : rows = (yt m (-2 : Int)).map zi:=by
   rw [List.map_replicate]
   exact List.eq_replicate_iff.2 ⟨h2,fun r hr => zza (h3 r hr)⟩
  rw [← this]
  exact zhN he
 ·cases h
theorem zgO {n : Nat} {a : Int} (h : inR n a = true) : 0 ≤ a ∧ a < (n : Int) ∧ ¬ a < 0 ∧ ¬ (n : Int) ≤ a:=by
 simp only [inR,yk,decide_eq_true_eq] at h
 omega
section
variable (t at' : List Int)
theorem zyy : ∀ (r : Nat) (a b c : Int) (a4 a5 a6 a7 : V),zlU t at' r a b = some c →
  exec T zi2 ⟨[vIs t,vIs at',vI a,vI b,a4,a5,a6,a7],[],0,0⟩ = some (.exit 2,⟨[vIs t,vIs at',vI c,vI b,vU,vU,vU,vU],[],0,0⟩):=by
 intro r
 induction r with
 | zero => intro a b c _ _ _ _ h; simp [zlU] at h
 | succ r ih =>
   intro a b c a4 a5 a6 a7 h
   rw [zlU] at h
   split at h
   ·rename_i hr
    simp only [yk] at hr
    obtain ⟨h1,h2,h3⟩:=hr
    obtain ⟨p1,p2,p3,p4⟩:=zgO h1
    obtain ⟨q1,q2,q3,q4⟩:=zgO h2
    obtain ⟨s1,s2,s3,s4⟩:=zgO h3
    rw [xl zi2 rfl,zmO]
    split at h
    ·rename_i hc
     have:=ih _ b c vU vU vU vU h
     simp -implicitDefEqProofs only [go_sem] at this
     simp -implicitDefEqProofs only [go_sem,p1,q1,s1,zq1 p3 p4,zq1 q3 q4,zq1 s3 s4,hc,this]
    ·rename_i hc
     injection h with h
     subst h
     simp -implicitDefEqProofs only [go_sem,p1,q1,s1,zq1 p3 p4,zq1 q3 q4,zq1 s3 s4,hc]
   ·cases h
theorem zxK : ∀ (r : Nat) (a b c : Int) (a4 a5 a6 a7 : V),zlU t at' r b a = some c →
  exec T ziE ⟨[vIs t,vIs at',vI a,vI b,a4,a5,a6,a7],[],0,0⟩ = some (.exit 4,⟨[vIs t,vIs at',vI a,vI c,vU,vU,vU,vU],[],0,0⟩):=by
 intro r
 induction r with
 | zero => intro a b c _ _ _ _ h; simp [zlU] at h
 | succ r ih =>
   intro a b c a4 a5 a6 a7 h
   rw [zlU] at h
   split at h
   ·rename_i hr
    simp only [yk] at hr
    obtain ⟨h1,h2,h3⟩:=hr
    obtain ⟨p1,p2,p3,p4⟩:=zgO h1
    obtain ⟨q1,q2,q3,q4⟩:=zgO h2
    obtain ⟨s1,s2,s3,s4⟩:=zgO h3
    rw [xl ziE rfl,zms]
    split at h
    ·rename_i hc
     have:=ih a _ c vU vU vU vU h
     simp -implicitDefEqProofs only [go_sem] at this
     simp -implicitDefEqProofs only [go_sem,p1,q1,s1,zq1 p3 p4,zq1 q3 q4,zq1 s3 s4,hc,this]
    ·rename_i hc
     injection h with h
     subst h
     simp -implicitDefEqProofs only [go_sem,p1,q1,s1,zq1 p3 p4,zq1 q3 q4,zq1 s3 s4,hc]
   ·cases h
theorem zz7 (K : Nat) : ∀ (r : Nat) (a b c : Int) (a4 a5 a6 a7 : V),zpQ t at' K r a b = some c →
  exec T ziB ⟨[vIs t,vIs at',vI a,vI b,a4,a5,a6,a7],[],0,0⟩ = some (.exit 0,⟨[vU,vU,vI c,vU,vU,vU,vU,vU],[],0,0⟩):=by
 intro r
 induction r with
 | zero => intro a b c _ _ _ _ h; simp [zpQ] at h
 | succ r ih =>
   intro a b c a4 a5 a6 a7 h
   rw [zpQ] at h
   rw [xl ziB rfl,zmM]
   split at h
   ·rename_i hc
    injection h with h
    subst h
    subst hc
    simp -implicitDefEqProofs only [go_sem]
   ·rename_i hc
    split at h
    ·cases h
    ·rename_i a' h1
     split at h
     ·cases h
     ·rename_i b' h2
      have e1:=fun a4 a5 a6 a7 => zyy t at' K a b a' a4 a5 a6 a7 h1
      have e2:=fun a4 a5 a6 a7 => zxK t at' K a' b b' a4 a5 a6 a7 h2
      have:=ih a' b' c vU vU vU vU h
      simp -implicitDefEqProofs only [go_sem] at e1 e2 this
      simp -implicitDefEqProofs only [go_sem,hc,e1,e2,this]
theorem zwu (K r : Nat) (a b c : Int) (h : zpQ t at' K r a b = some c) : call T 231 [vIs t,vIs at',vI a,vI b] [] = some (vI c,[]):=by
 rw [ze (fn:=zj3) rfl]
 have:=fun a4 a5 a6 a7 => zz7 t at' K r a b c a4 a5 a6 a7 h
 simp -implicitDefEqProofs only [go_sem] at this
 simp -implicitDefEqProofs only [go_sem,zj3,this]
end
end AC
namespace AC
open Go Go.A Go.A.Lex
theorem zrB {t : List Int} {a : Int} (h0 : ¬ a < 0) (h1 : ¬ (t.length : Int) ≤ a) : (t.map zi)[a.toNat]? = some [.f (.lit (.int .i64 (tr t a)))]:=by
 have : a.toNat < t.length:=by omega
 simp [tr,this,zi]
section
variable (succ pred : List (List Int)) (hpl : pred.length = succ.length) (hps : ∀ l ∈ pred,l.length ≤ 4294967296) (n : Nat) (hn : n = succ.length) (hn64 : n ≤ 64) (root : Int) (order tail at' : List Int) (hat : at'.length = n) (htl : tail.length ≤ 4294967296)
abbrev stT (succ pred : List (List Int)) (t at' : List Int) : zb:=[obG succ pred,.cells 0 1 (t.map zi),.cells 0 1 (at'.map zi)]
include hpl hps hn hn64 hat htl
theorem zzS (K : Nat) (t : List Int) (ht : t.length = n) (x : Int) (kx : Int) (ps : List Int) (hps0 : ps.length ≤ 4294967296) : ∀ (d k : Nat) (b c : Int) (a0 a3 a5 a8 a9 a12 a13 a14 a15 a16 a17 a21 a25 a26 a27 a28 : V),ps.length - k = d → k ≤ ps.length → zjR t at' K (ps.drop k) b = some c →
  exec T zf3 ⟨[a0,vI root,.one (.ptr 0 0 0 0),a3,vIs order,a5,.one (.own 1 0 0 n),.one (.own 2 0 0 n),a8,a9,vI x,vI b,a12,a13,a14,a15,a16,a17,vIs tail,vI tail.length,vI kx,a21,vIs ps,vI ps.length,vI k,a25,a26,a27,a28],stT succ pred t at',0,0⟩ =
   some (.exit 4,⟨[vU,vI root,.one (.ptr 0 0 0 0),vU,vIs order,vU,.one (.own 1 0 0 n),.one (.own 2 0 0 n),vU,vU,vI x,vI c,vU,vU,vU,vU,vU,vU,vIs tail,vI tail.length,vI kx,vU,vU,vU,vU,vU,vU,vU,vU],stT succ pred t at',0,0⟩):=by
 intro d
 have tk1 : (t.map zi).take n = t.map zi:=yd (by simp; omega)
 have tk2 : (at'.map zi).take n = at'.map zi:=yd (by simp; omega)
 induction d with
 | zero =>
   intro k b c a0 a3 a5 a8 a9 a12 a13 a14 a15 a16 a17 a21 a25 a26 a27 a28 h1 h2 h
   have hk : k = ps.length:=by omega
   subst hk
   rw [ym] at h
   simp only [zjR,Option.some.injEq] at h
   subst h
   rw [xl zf3 rfl,zi0]
   simp -implicitDefEqProofs only [go_sem,stT,obG,yr]
 | succ d ih =>
   intro k b c a0 a3 a5 a8 a9 a12 a13 a14 a15 a16 a17 a21 a25 a26 a27 a28 h1 h2 h
   have hk : k < ps.length:=by omega
   have hd : ps.drop k = ps[k] :: ps.drop (k + 1):=yh hk
   rw [hd,zjR] at h
   split at h
   ·rename_i hr
    obtain ⟨p1,p2,p3,p4⟩:=zgO hr
    have p2' : ps[k] < (n : Int):=by omega
    rw [xl zf3 rfl,zi0]
    split at h
    ·rename_i c1
     have:=ih (k + 1) b c vU vU vU vU vU vU vU vU vU vU vU vU vU vU vU vU (by omega) (by omega) h
     simp -implicitDefEqProofs only [go_sem,stT,obG] at this
     simp -implicitDefEqProofs only [go_sem,stT,obG,ilt hk,zH hk,ri,p1,p2',zrB p3 p4,c1,zd hk hps0,this]
    ·rename_i c1
     split at h
     ·rename_i c2
      subst c2
      have:=ih (k + 1) ps[k] c vU vU vU vU vU vU vU vU vU vU vU vU vU vU vU vU (by omega) (by omega) h
      simp -implicitDefEqProofs only [go_sem,stT,obG] at this
      simp -implicitDefEqProofs only [go_sem,stT,obG,ilt hk,zH hk,ri,p1,p2',zrB p3 p4,c1,zd hk hps0,this]
     ·rename_i c2
      split at h
      ·cases h
      ·rename_i m hm
       have hc:=zwu t at' K K b ps[k] m hm
       have:=ih (k + 1) m c vU vU vU vU vU vU vU vU vU vU vU vU vU vU vU vU (by omega) (by omega) h
       simp -implicitDefEqProofs only [go_sem,stT,obG] at this hc
       simp -implicitDefEqProofs only [go_sem,stT,obG,ilt hk,zH hk,ri,p1,p2',zrB p3 p4,c1,c2,tk1,tk2,zbP,hc,zd hk hps0,this]
   ·cases h
theorem zzi (K : Nat) (t : List Int) (ht : t.length = n) : ∀ (d k : Nat) (res : Option (Int × Int)) (a0 a3 a5 a8 a9 a10 a11 a12 a13 a14 a15 a16 a17 a21 a22 a23 a24 a25 a26 a27 a28 : V),tail.length - k = d → k ≤ tail.length → zoJ pred t at' K (tail.drop k) = some res →
  exec T zgb ⟨[a0,vI root,.one (.ptr 0 0 0 0),a3,vIs order,a5,.one (.own 1 0 0 n),.one (.own 2 0 0 n),a8,a9,a10,a11,a12,a13,a14,a15,a16,a17,vIs tail,vI tail.length,vI k,a21,a22,a23,a24,a25,a26,a27,a28],stT succ pred t at',0,0⟩ =
   some (match res with
    | none => (.exit 2,⟨[vU,vI root,vU,vU,vU,vU,.one (.own 1 0 0 n),vU,vU,vU,vU,vU,vU,vU,vU,vU,vU,vU,vU,vU,vU,vU,vU,vU,vU,vU,vU,vU,vU],stT succ pred t at',0,0⟩)
    | some (x,b) => (.goto 0,⟨[vU,vI root,.one (.ptr 0 0 0 0),vU,vIs order,vU,.one (.own 1 0 0 n),.one (.own 2 0 0 n),vU,vU,vU,vU,vU,vU,vU,vU,vU,vU,vU,vU,vU,vU,vU,vU,vU,vU,vU,vU,vU],stT succ pred (t.set x.toNat b) at',0,0⟩)):=by
 intro d
 induction d with
 | zero =>
   intro k res a0 a3 a5 a8 a9 a10 a11 a12 a13 a14 a15 a16 a17 a21 a22 a23 a24 a25 a26 a27 a28 h1 h2 h
   have hk : k = tail.length:=by omega
   subst hk
   rw [ym] at h
   simp only [zoJ,Option.some.injEq] at h
   subst h
   rw [xl zgb rfl,ziy]
   simp -implicitDefEqProofs only [go_sem,stT,obG,yr]
 | succ d ih =>
   intro k res a0 a3 a5 a8 a9 a10 a11 a12 a13 a14 a15 a16 a17 a21 a22 a23 a24 a25 a26 a27 a28 h1 h2 h
   have hk : k < tail.length:=by omega
   have hd : tail.drop k = tail[k] :: tail.drop (k + 1):=yh hk
   rw [hd,zoJ] at h
   split at h
   ·rename_i hr
    obtain ⟨p1,p2,p3,p4⟩:=zgO hr
    have p2' : tail[k] < (n : Int):=by omega
    have hpx : tail[k].toNat < pred.length:=by omega
    have hgp : pred.getD tail[k].toNat [] = pred[tail[k].toNat]:=by simp [hpx]
    rw [hgp] at h
    split at h
    ·cases h
    ·rename_i b hb
     have hl2:=fun a0 a3 a5 a8 a9 a12 a13 a14 a15 a16 a17 a21 a25 a26 a27 a28 => zzS succ pred hpl hps n hn hn64 root order tail at' hat htl K t ht tail[k] k pred[tail[k].toNat] (hps _ (yi hpx)) _ 0 (-2) b a0 a3 a5 a8 a9 a12 a13 a14 a15 a16 a17 a21 a25 a26 a27 a28 rfl (Nat.zero_le _) hb
     rw [xl zgb rfl,ziy]
     simp only [Int.natCast_zero] at hl2
     split at h
     ·rename_i c1
      have:=ih (k + 1) res vU vU vU vU vU vU vU vU vU vU vU vU vU vU vU vU vU vU vU vU vU (by omega) (by omega) h
      simp -implicitDefEqProofs only [go_sem,stT,obG] at this hl2
      simp -implicitDefEqProofs only [go_sem,stT,obG,ilt hk,zH hk,zH hpx,ri,rl,p1,p2',hl2,zrB p3 p4,c1,zd hk htl,this]
     ·rename_i c1
      injection h with h
      subst h
      have hset : (t.map zi).set tail[k].toNat [C.f (.lit (.int .i64 b))] = (t.set tail[k].toNat b).map zi:=by rw [yq]; rfl
      simp -implicitDefEqProofs only [go_sem,stT,obG] at hl2
      simp -implicitDefEqProofs only [go_sem,stT,obG,ilt hk,zH hk,zH hpx,ri,rl,p1,p2',hl2,zrB p3 p4,c1,hset]
   ·cases h
end
end AC

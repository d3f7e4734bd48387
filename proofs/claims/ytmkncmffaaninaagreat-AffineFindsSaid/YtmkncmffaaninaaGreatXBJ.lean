/- A part of the proof of AffineFinds. Conditions: none. -/
import Derived.Test.YtmkncmffaaninaaGreatXBI
import Derived.Test.YtmkncmffaaninaaGreatXAQ
set_option linter.all false
open Option renaming getD_none → ya,getD_some → yc,isSome_none → yh,isSome_some → yo
open And renaming intro → yb
open Int renaming natCast_nonneg → yd,toNat_natCast → yf,reduceAdd → yr
open List renaming set_append_right → ye,eq_nil_of_length_eq_zero → yg,length_append → yi,drop_eq_getElem_cons → yj,getElem?_eq_some_iff → yk,length_cons → yl,length_nil → ym,length_set → yn,headD_cons → yp,getElem?_set_ne → yq,all_cons → yt,all_nil → yu,length_map → yw,map_cons → yx,set_set → yz,set → yA
open Nat renaming le_refl → yv
open Bool renaming and_self → yy
namespace AC
open Go Go.A Go.A.Lex
theorem zuA {ts : List (Int × Int)} {k : Nat} (a : k < ts.length) : (rows ts)[k]? = some (row ts[k]):=by simp [rows,a]
theorem zp (ts : List (Int × Int)) : (rows ts).length = ts.length:=by simp [rows]
theorem zvB (ts : List (Int × Int)) (a b : Int) : rows ts ++ [[.lit (.int .i64 a),.lit (.int .u64 b)]] = rows (ts ++ [(a,b)]):=by simp [rows,row]
theorem zns : ∀ ts : List (Int × Int),Fz.beqs (rows ts) (rows ts) = true
 | [] => rfl
 | t :: r => by
   have:=zns r;simp only [rows,yx,row] at this ⊢;simp [Fz.beqs,Fz.beqR,Fz.beq,Value.beq,this]
theorem zj : rows [] = []:=rfl
def zp0 (a b : Int) (l : List (Int × Int)) : List (Int × Int):=if b = 0 then l else (a,b) :: l
def zbj (op : Int → Int → Int) : List (Int × Int) → List (Int × Int) → List (Int × Int)
 | [],[] => []
 | t :: ts,[] => zp0 t.1 (op t.2 0) (zbj op ts [])
 | [],u :: us => zp0 u.1 (op 0 u.2) (zbj op [] us)
 | t :: ts,u :: us => if t.1 < u.1 then zp0 t.1 (op t.2 0) (zbj op ts (u :: us)) else if u.1 < t.1 then zp0 u.1 (op 0 u.2) (zbj op (t :: ts) us) else zp0 t.1 (op t.2 u.2) (zbj op ts us)
 termination_by ts us => ts.length + us.length
def bx (ts : List (Int × Int)) (off : Int) : Ob:=.cells 0 2 [[.f (.sl (rows ts)),.f (.lit (.int .u64 off))]]
def bo6 (acc : List (Int × Int)) (off : Int) : Ob:=.cells 0 2 [[.ap 6 0 (rows acc),.f (.lit (.int .u64 off))]]
def zz : Ob:=.cells 0 2 [[.f (.sl []),.f (.lit (.int .u64 0))]]
theorem zkl (acc : List (Int × Int)) (a b : Int) (l : List (Int × Int)) : acc ++ zp0 a b l = (if b = 0 then acc else acc ++ [(a,b)]) ++ l:=by
 unfold zp0;split <;> simp
theorem zC8 (xs ys : List (List Fz)) : V.beq (.one (.f (.sl xs))) (.one (.f (.sl ys))) = Fz.beqs xs ys:=by simp only [V.beq,C.beq,Fz.beq]
theorem zvQ (k : IntKind) (a : Int) : V.beq (.one (.f (.lit (.int k a)))) (.one (.f (.lit (.int k a)))) = true:=by simp [V.beq,C.beq,Fz.beq,Value.beq]
theorem zCP (k c : IntKind) (a b : Int) (o : Nat) : V.beq (.one (.fp [.lit (.int k a),.lit (.int c b)] o)) (.one (.fp [.lit (.int k a),.lit (.int c b)] o)) = true:=by simp [V.beq,C.beq,Fz.beqR,Fz.beq,Value.beq]
def zqJ : Go.A.Code:=zu.p1
def zdr : Go.A.Code:=zu.p2.p1.p2.p1.p1
def zw9 : Go.A.Code:=zu.p2.p1.p2.p2
theorem zrJ : zu = .seq zqJ (.block 1 (.seq (.reg [w 9 (.al [.f (.lit (.int .i64 0)),.f (.lit (.int .u64 0))] [])]) (.seq (.block 2 zdr) zw9))):=rfl
section
variable (a0 a1 : V) (op : Int → Int → Int) (g : Nat) (caps : List C) (o0 o1 o2 : Ob) (ts us acc : List (Int × Int)) (off off' off2 : Int) (i k : Nat) (hl : ts.length + us.length ≤ 4294967296)
abbrev zhk (i k : V) (b9 b10 b11 b12 b13 : V) : List V:=[a0,a1,.one (.fn g [] caps),.one (.ptr 3 0 0 0),.one (.ptr 4 0 0 0),.one (.ptr 5 0 0 0),.one (.ptr 7 0 0 0),i,k,b9,b10,b11,b12,b13]
abbrev bst (tl : List Ob) : zd:=o0 :: o1 :: o2 :: bx ts off :: bx us off' :: zz :: .tok 2 [acc.length] :: bo6 acc off2 :: tl
def ob8 (v s : Int) : Ob:=.cells 0 2 [[.f (.lit (.int .i64 v)),.f (.lit (.int .u64 s))]]
theorem zzT (h : i < ts.length ∨ k < us.length) (a9 a10 a11 a12 a13 : V) : exec T zqJ ⟨zhk a0 a1 g caps (vI i) (vI k) a9 a10 a11 a12 a13,bst o0 o1 o2 ts us acc off off' off2 [],3,3⟩ = some (.normal,⟨zhk a0 a1 g caps (vI i) (vI k) a9 (vB true) a11 a12 a13,bst o0 o1 o2 ts us acc off off' off2 [],3,3⟩):=by
 unfold zqJ zu Code.p1
 by_cases ci : i < ts.length
 ·have a : (i : Int) < (ts.length : Int):=by omega
  simp -implicitDefEqProofs only [go_sem,zhk,bst,bx,bo6,zz,zp,a]
 ·have a : ¬ (i : Int) < (ts.length : Int):=by omega
  have b : (k : Int) < (us.length : Int):=by omega
  simp -implicitDefEqProofs only [go_sem,zhk,bst,bx,bo6,zz,zp,a,b]
theorem zwM (b : i = ts.length) (c : k = us.length) (a : C.lts 8 caps = true) (e : o0.lt 8 = true) (d : o1.lt 8 = true) (f : o2.lt 8 = true) (a9 a10 a11 a12 a13 : V) : exec T zqJ ⟨zhk a0 a1 g caps (vI i) (vI k) a9 a10 a11 a12 a13,bst o0 o1 o2 ts us acc off off' off2 [],3,3⟩ =
  some (.exit 0,⟨[vU,vU,vU,vU,vU,.one (.ptr 5 0 0 0),.one (.ptr 7 0 0 0),vU,vU,vU,vU,vU,vU,vU],bst o0 o1 o2 ts us acc off off' off2 [],3,3⟩):=by
 subst b;subst c;unfold zqJ zu Code.p1;simp -implicitDefEqProofs only [go_sem,zhk,bst,bx,bo6,zz,zp,Int.lt_irrefl]
include hl in
theorem zyJ (h j : V) (k : acc.length < ts.length + us.length) (v s : Int) (d e c f : V) : ∃ b,exec T zw9 ⟨zhk a0 a1 g caps h j (.one (.ptr 8 0 0 0)) d e c f,bst o0 o1 o2 ts us acc off off' off2 [ob8 v s],3,3⟩ =
  some (.normal,⟨zhk a0 a1 g caps h j (.one (.ptr 8 0 0 0)) d e c b,bst o0 o1 o2 ts us (if s = 0 then acc else acc ++ [(v,s)]) off off' off2 [ob8 v s],3,3⟩):=by
 have a : acc.length + 1 ≤ LIM:=by unfold LIM; omega
 unfold zw9 zu Code.p1 Code.p2
 by_cases i : s = 0
 ·exact ⟨vB false,by simp -implicitDefEqProofs only [go_sem,zhk,bst,bx,bo6,zz,ob8,zp,i,decide_true]⟩
 ·exact ⟨vB true,by simp -implicitDefEqProofs only [go_sem,zhk,bst,bx,bo6,zz,ob8,zp,i,decide_false,a,zvB]⟩
def zqy : Go.A.Code:=zdr.p1
def zvX : Go.A.Code:=zdr.p2.p1.p1
def zwt : Go.A.Code:=zdr.p2.p1.p2
def zwB : Go.A.Code:=zdr.p2.p2.p1
def zvV : Go.A.Code:=zdr.p2.p2.p2.p1.p1
def zwh : Go.A.Code:=zdr.p2.p2.p2.p1.p2
def zv2 : Go.A.Code:=zdr.p2.p2.p2.p2.p1
def zv3 : Go.A.Code:=zdr.p2.p2.p2.p2.p2
theorem ziV : zdr = .seq zqy (.cond (.s 11) (.seq zvX zwt) (.seq zwB (.cond (.s 12) (.seq zvV zwh) (.seq zv2 zv3)))):=rfl
variable (a10 a11 a12 a13 : V)
abbrev vp8 : V:=.one (.ptr 8 0 0 0)
theorem zvn (h : k = us.length ∨ ∃ (d : i < ts.length) (b : k < us.length),ts[i].1 < us[k].1) (b : k ≤ us.length) : exec T zqy ⟨zhk a0 a1 g caps (vI i) (vI k) vp8 a10 a11 a12 a13,bst o0 o1 o2 ts us acc off off' off2 [ob8 0 0],3,3⟩ =
  some (.normal,⟨zhk a0 a1 g caps (vI i) (vI k) vp8 a10 (vB true) a12 a13,bst o0 o1 o2 ts us acc off off' off2 [ob8 0 0],3,3⟩):=by
 unfold zqy zdr zu Code.p1 Code.p2
 by_cases ck : k = us.length
 ·subst ck
  simp -implicitDefEqProofs only [go_sem,zhk,bst,bx,bo6,zz,ob8,zp]
 ·have c : ¬ (k : Int) = (us.length : Int):=by omega
  rcases h with h | ⟨d,b,h⟩
  ·exact absurd h ck
  have a : (i : Int) < (ts.length : Int):=by omega
  simp -implicitDefEqProofs only [go_sem,zhk,bst,bx,bo6,zz,ob8,zp,c,a,yd,yf,zuA d,zuA b,row,h]
theorem zqW (c : k < us.length) (h : ∀ hi : i < ts.length,¬ ts[i].1 < us[k].1) : exec T zqy ⟨zhk a0 a1 g caps (vI i) (vI k) vp8 a10 a11 a12 a13,bst o0 o1 o2 ts us acc off off' off2 [ob8 0 0],3,3⟩ =
  some (.normal,⟨zhk a0 a1 g caps (vI i) (vI k) vp8 a10 (vB false) a12 a13,bst o0 o1 o2 ts us acc off off' off2 [ob8 0 0],3,3⟩):=by
 unfold zqy zdr zu Code.p1 Code.p2;have b : ¬ (k : Int) = (us.length : Int):=by omega
 by_cases hi : i < ts.length
 ·have a : (i : Int) < (ts.length : Int):=by omega
  simp -implicitDefEqProofs only [go_sem,zhk,bst,bx,bo6,zz,ob8,zp,b,a,yd,yf,zuA hi,zuA c,row,h hi]
 ·have a : ¬ (i : Int) < (ts.length : Int):=by omega
  simp -implicitDefEqProofs only [go_sem,zhk,bst,bx,bo6,zz,ob8,zp,b,a]
theorem zoE (b : i ≤ ts.length) (e : k < us.length) (c : Bool) (h : (∃ h : i < ts.length,c = decide (us[k].1 < ts[i].1)) ∨ (i = ts.length ∧ c = true)) : exec T zwB ⟨zhk a0 a1 g caps (vI i) (vI k) vp8 a10 a11 a12 a13,bst o0 o1 o2 ts us acc off off' off2 [ob8 0 0],3,3⟩ =
  some (.normal,⟨zhk a0 a1 g caps (vI i) (vI k) vp8 a10 a11 (vB c) a13,bst o0 o1 o2 ts us acc off off' off2 [ob8 0 0],3,3⟩):=by
 unfold zwB zdr zu Code.p1 Code.p2;rcases h with ⟨b,h⟩ | ⟨h,d⟩
 ·have a : ¬ (i : Int) = (ts.length : Int):=by omega
  simp -implicitDefEqProofs only [go_sem,zhk,bst,bx,bo6,zz,ob8,zp,a,yd,yf,zuA b,zuA e,row,h]
 ·subst d
  subst h;simp -implicitDefEqProofs only [go_sem,zhk,bst,bx,bo6,zz,ob8,zp]
section
variable (hdo : ∀ a b τ,call T g (ziM a :: ziM b :: caps.map V.one) (o0 :: o1 :: o2 :: τ) = some (ziM (op a b),o0 :: o1 :: o2 :: τ))
include hdo
theorem zr7 (a : i < ts.length) : exec T zvX ⟨zhk a0 a1 g caps (vI i) (vI k) vp8 a10 a11 a12 a13,bst o0 o1 o2 ts us acc off off' off2 [ob8 0 0],3,3⟩ =
  some (.normal,⟨zhk a0 a1 g caps (vI i) (vI k) vp8 a10 a11 a12 a13,bst o0 o1 o2 ts us acc off off' off2 [ob8 ts[i].1 (op ts[i].2 0)],3,3⟩):=by
 unfold zvX zdr zu Code.p1 Code.p2;simp -implicitDefEqProofs only [go_sem,zhk,bst,bx,bo6,zz,ob8,zng,zvN,zb8,zoi,yt,yu,yp,zC8,zCP,zvQ,zns,yd,yf,zuA a,row,hdo]
theorem zrY (a : k < us.length) : exec T zvV ⟨zhk a0 a1 g caps (vI i) (vI k) vp8 a10 a11 a12 a13,bst o0 o1 o2 ts us acc off off' off2 [ob8 0 0],3,3⟩ =
  some (.normal,⟨zhk a0 a1 g caps (vI i) (vI k) vp8 a10 a11 a12 a13,bst o0 o1 o2 ts us acc off off' off2 [ob8 us[k].1 (op 0 us[k].2)],3,3⟩):=by
 unfold zvV zdr zu Code.p1 Code.p2;simp -implicitDefEqProofs only [go_sem,zhk,bst,bx,bo6,zz,ob8,zng,zvN,zb8,zoi,yt,yu,yp,zC8,zCP,zvQ,zns,yd,yf,zuA a,row,hdo]
theorem zzR (a : i < ts.length) (b : k < us.length) : exec T zv2 ⟨zhk a0 a1 g caps (vI i) (vI k) vp8 a10 a11 a12 a13,bst o0 o1 o2 ts us acc off off' off2 [ob8 0 0],3,3⟩ =
  some (.normal,⟨zhk a0 a1 g caps (vI i) (vI k) vp8 a10 a11 a12 a13,bst o0 o1 o2 ts us acc off off' off2 [ob8 ts[i].1 (op ts[i].2 us[k].2)],3,3⟩):=by
 unfold zv2 zdr zu Code.p1 Code.p2;simp -implicitDefEqProofs only [go_sem,zhk,bst,bx,bo6,zz,ob8,zng,zvN,zb8,zoi,yt,yu,yp,zC8,zCP,zvQ,zns,yd,yf,zuA a,zuA b,row,hdo]
end
theorem zrZ (a : i < ts.length) (hw : ts.length ≤ 9223372036854775807) (τ : zd) : exec T zwt ⟨zhk a0 a1 g caps (vI i) (vI k) vp8 a10 a11 a12 a13,τ,3,3⟩ =
  some (.normal,⟨zhk a0 a1 g caps (vI (i + 1 : Nat)) (vI k) vp8 a10 a11 a12 a13,τ,3,3⟩):=by
 unfold zwt zdr zu Code.p1 Code.p2;simp -implicitDefEqProofs only [go_sem,zhk,zii a hw]
theorem zsB (a : k < us.length) (hw : us.length ≤ 9223372036854775807) (τ : zd) : exec T zwh ⟨zhk a0 a1 g caps (vI i) (vI k) vp8 a10 a11 a12 a13,τ,3,3⟩ =
  some (.normal,⟨zhk a0 a1 g caps (vI i) (vI (k + 1 : Nat)) vp8 a10 a11 a12 a13,τ,3,3⟩):=by
 unfold zwh zdr zu Code.p1 Code.p2;simp -implicitDefEqProofs only [go_sem,zhk,zii a hw]
theorem zzC (b : i < ts.length) (c : k < us.length) (hw : ts.length ≤ 9223372036854775807) (a : us.length ≤ 9223372036854775807) (τ : zd) : exec T zv3 ⟨zhk a0 a1 g caps (vI i) (vI k) vp8 a10 a11 a12 a13,τ,3,3⟩ =
  some (.normal,⟨zhk a0 a1 g caps (vI (i + 1 : Nat)) (vI (k + 1 : Nat)) vp8 a10 a11 a12 a13,τ,3,3⟩):=by
 unfold zv3 zdr zu Code.p1 Code.p2;simp -implicitDefEqProofs only [go_sem,zhk,zii b hw,zii c a]
theorem zkh (op : Int → Int → Int) (g : Nat) (caps : List C) (o0 o1 o2 : Ob) (d : C.lts 8 caps = true) (m : o0.lt 8 = true) (n : o1.lt 8 = true) (o : o2.lt 8 = true)
  (ts us : List (Int × Int)) (off off' off2 : Int) (hl : ts.length + us.length ≤ 4294967296) (i k f h : Nat) (l : i < ts.length ∨ k < us.length) (acc : List (Int × Int)) (e : acc.length < ts.length + us.length) (a0 a1 a9 a10 a11 a12 a13 : V) (v s : Int)
  (a : ∀ b11 b12 b13,∃ c11 c12 c13,exec T zdr ⟨zhk a0 a1 g caps (vI i) (vI k) vp8 (vB true) b11 b12 b13,bst o0 o1 o2 ts us acc off off' off2 [ob8 0 0],3,3⟩ =
   some (.normal,⟨zhk a0 a1 g caps (vI f) (vI h) vp8 (vB true) c11 c12 c13,bst o0 o1 o2 ts us acc off off' off2 [ob8 v s],3,3⟩)) (r : Option (Ex × St))
  (p : exec T zgJ ⟨zhk vU vU g caps (vI f) (vI h) vU vU vU vU vU,bst o0 o1 o2 ts us (if s = 0 then acc else acc ++ [(v,s)]) off off' off2 [],3,3⟩ = r) :
  exec T zgJ ⟨zhk a0 a1 g caps (vI i) (vI k) a9 a10 a11 a12 a13,bst o0 o1 o2 ts us acc off off' off2 [],3,3⟩ = r:=by
 obtain ⟨c11,c12,c13,a⟩:=a a11 a12 a13;obtain ⟨c,j⟩:=zyJ a0 a1 g caps o0 o1 o2 ts us acc off off' off2 hl (vI f) (vI h) e v s (vB true) c11 c12 c13;refine zHX (b:=zu) (s1:=⟨zhk a0 a1 g caps (vI f) (vI h) vp8 (vB true) c11 c12 c,bst o0 o1 o2 ts us (if s = 0 then acc else acc ++ [(v,s)]) off off' off2 [ob8 v s],3,3⟩) rfl ?_ ?_ p
 ·rw [zrJ]
  refine zlR (zzT a0 a1 g caps o0 o1 o2 ts us acc off off' off2 i k l a9 a10 a11 a12 a13) (zxX (zlR (s1:=⟨zhk a0 a1 g caps (vI i) (vI k) vp8 (vB true) a11 a12 a13,bst o0 o1 o2 ts us acc off off' off2 [ob8 0 0],3,3⟩) ?_ (zlR (zxX a) j)));simp -implicitDefEqProofs only [go_sem,zhk,bst,bx,bo6,zz,ob8]
 ·unfold Ob.lt at m n o
  simp -implicitDefEqProofs only [go_sem,zhk,bst,bx,bo6,zz,ob8,d,m,n,o]
theorem zCJ (op : Int → Int → Int) (g : Nat) (caps : List C) (o0 o1 o2 : Ob) (e : C.lts 8 caps = true) (t : o0.lt 8 = true) (u : o1.lt 8 = true) (v : o2.lt 8 = true)
  (hdo : ∀ a b τ,call T g (ziM a :: ziM b :: caps.map V.one) (o0 :: o1 :: o2 :: τ) = some (ziM (op a b),o0 :: o1 :: o2 :: τ))
  (ts us : List (Int × Int)) (off off' off2 : Int) (hl : ts.length + us.length ≤ 4294967296) :
  ∀ (d i k : Nat) (acc : List (Int × Int)) (a0 a1 a9 a10 a11 a12 a13 : V),(ts.length - i) + (us.length - k) ≤ d → i ≤ ts.length → k ≤ us.length → acc.length ≤ i + k →
  exec T zgJ ⟨zhk a0 a1 g caps (vI i) (vI k) a9 a10 a11 a12 a13,bst o0 o1 o2 ts us acc off off' off2 [],3,3⟩ =
  some (.exit 0,⟨[vU,vU,vU,vU,vU,.one (.ptr 5 0 0 0),.one (.ptr 7 0 0 0),vU,vU,vU,vU,vU,vU,vU],
   bst o0 o1 o2 ts us (acc ++ zbj op (ts.drop i) (us.drop k)) off off' off2 [],3,3⟩):=by
 intro d
 induction d with
 | zero =>
   intro i k acc a0 a1 a9 a10 a11 a12 a13 z p r x;have j : i = ts.length:=(by omega);have c : k = us.length:=(by omega);refine zGm (b:=zu) rfl ?_ (by simp);rw [zrJ];refine zHF ?_ (by simp);rw [zwM a0 a1 g caps o0 o1 o2 ts us acc off off' off2 i k j c e t u v];subst j;subst c;simp only [List.drop_length,zbj,List.append_nil]
 | succ d ih =>
   intro i k acc a0 a1 a9 a10 a11 a12 a13 z p r x
   by_cases j : i < ts.length
   ·have o : ts.drop i = ts[i] :: ts.drop (i + 1):=yj j
    by_cases c : k < us.length
    ·have l : us.drop k = us[k] :: us.drop (k + 1):=yj c
     by_cases n : ts[i].1 < us[k].1
     ·refine zkh op g caps o0 o1 o2 e t u v ts us off off' off2 hl i k (i + 1) k (.inl j) acc (by omega) a0 a1 a9 a10 a11 a12 a13 ts[i].1 (op ts[i].2 0) (fun s m f => ⟨vB true,m,f,?_⟩) _ ?_
      ·rw [ziV]
       exact zlR (zvn a0 a1 g caps o0 o1 o2 ts us acc off off' off2 i k _ _ _ _ (.inr ⟨j,c,n⟩) r) (zIB rfl (zlR (zr7 a0 a1 op g caps o0 o1 o2 ts us acc off off' off2 i k _ _ _ _ hdo j) (zrZ a0 a1 g caps ts i k _ _ _ _ j (by omega) _)))
      ·rw [ih (i + 1) k _ _ _ _ _ _ _ _ (by omega) (by omega) (by omega) (by split <;> (try rw [yi]) <;> (try simp only [yl,ym]) <;> omega),o,l,zbj,if_pos n,zkl]
     ·by_cases q : us[k].1 < ts[i].1
      ·refine zkh op g caps o0 o1 o2 e t u v ts us off off' off2 hl i k i (k + 1) (.inl j) acc (by omega) a0 a1 a9 a10 a11 a12 a13 us[k].1 (op 0 us[k].2) (fun s m f => ⟨vB false,vB true,f,?_⟩) _ ?_
       ·rw [ziV]
        exact zlR (zqW a0 a1 g caps o0 o1 o2 ts us acc off off' off2 i k _ _ _ _ c (fun _ => n)) (zIw rfl (zlR (zoE a0 a1 g caps o0 o1 o2 ts us acc off off' off2 i k _ _ _ _ p c true (.inl ⟨j,by simp [q]⟩)) (zIB rfl (zlR (zrY a0 a1 op g caps o0 o1 o2 ts us acc off off' off2 i k _ _ _ _ hdo c) (zsB a0 a1 g caps us i k _ _ _ _ c (by omega) _)))))
       ·rw [ih i (k + 1) _ _ _ _ _ _ _ _ (by omega) (by omega) (by omega) (by split <;> (try rw [yi]) <;> (try simp only [yl,ym]) <;> omega),o,l,zbj,if_neg n,if_pos q,zkl]
      ·refine zkh op g caps o0 o1 o2 e t u v ts us off off' off2 hl i k (i + 1) (k + 1) (.inl j) acc (by omega) a0 a1 a9 a10 a11 a12 a13 ts[i].1 (op ts[i].2 us[k].2) (fun s m f => ⟨vB false,vB false,f,?_⟩) _ ?_
       ·rw [ziV]
        exact zlR (zqW a0 a1 g caps o0 o1 o2 ts us acc off off' off2 i k _ _ _ _ c (fun _ => n)) (zIw rfl (zlR (zoE a0 a1 g caps o0 o1 o2 ts us acc off off' off2 i k _ _ _ _ p c false (.inl ⟨j,by simp [q]⟩)) (zIw rfl (zlR (zzR a0 a1 op g caps o0 o1 o2 ts us acc off off' off2 i k _ _ _ _ hdo j c) (zzC a0 a1 g caps ts us i k _ _ _ _ j c (by omega) (by omega) _)))))
       ·rw [ih (i + 1) (k + 1) _ _ _ _ _ _ _ _ (by omega) (by omega) (by omega) (by split <;> (try rw [yi]) <;> (try simp only [yl,ym]) <;> omega),o,l,zbj,if_neg n,if_neg q,zkl]
    ·have w : k = us.length:=by omega
     have l : us.drop k = []:=(by simp [w]);refine zkh op g caps o0 o1 o2 e t u v ts us off off' off2 hl i k (i + 1) k (.inl j) acc (by omega) a0 a1 a9 a10 a11 a12 a13 ts[i].1 (op ts[i].2 0) (fun s m f => ⟨vB true,m,f,?_⟩) _ ?_
     ·rw [ziV]
      exact zlR (zvn a0 a1 g caps o0 o1 o2 ts us acc off off' off2 i k _ _ _ _ (.inl w) r) (zIB rfl (zlR (zr7 a0 a1 op g caps o0 o1 o2 ts us acc off off' off2 i k _ _ _ _ hdo j) (zrZ a0 a1 g caps ts i k _ _ _ _ j (by omega) _)))
     ·rw [ih (i + 1) k _ _ _ _ _ _ _ _ (by omega) (by omega) (by omega) (by split <;> (try rw [yi]) <;> (try simp only [yl,ym]) <;> omega),o,l,zbj,zkl]
   ·have y : i = ts.length:=by omega
    have o : ts.drop i = []:=by simp [y]
    by_cases c : k < us.length
    ·have l : us.drop k = us[k] :: us.drop (k + 1):=yj c
     refine zkh op g caps o0 o1 o2 e t u v ts us off off' off2 hl i k i (k + 1) (.inr c) acc (by omega) a0 a1 a9 a10 a11 a12 a13 us[k].1 (op 0 us[k].2) (fun s m f => ⟨vB false,vB true,f,?_⟩) _ ?_
     ·rw [ziV]
      exact zlR (zqW a0 a1 g caps o0 o1 o2 ts us acc off off' off2 i k _ _ _ _ c (fun h => absurd h j)) (zIw rfl (zlR (zoE a0 a1 g caps o0 o1 o2 ts us acc off off' off2 i k _ _ _ _ p c true (.inr ⟨y,rfl⟩)) (zIB rfl (zlR (zrY a0 a1 op g caps o0 o1 o2 ts us acc off off' off2 i k _ _ _ _ hdo c) (zsB a0 a1 g caps us i k _ _ _ _ c (by omega) _)))))
     ·rw [ih i (k + 1) _ _ _ _ _ _ _ _ (by omega) (by omega) (by omega) (by split <;> (try rw [yi]) <;> (try simp only [yl,ym]) <;> omega),o,l,zbj,zkl]
    ·exact ih i k acc a0 a1 a9 a10 a11 a12 a13 (by omega) p r x
theorem zqw (op : Int → Int → Int) (g : Nat) (caps : List C) (o0 o1 o2 : Ob) (f : C.lts 8 caps = true) (i : ∀ n,3 ≤ n → o0.lt n = true) (j : ∀ n,3 ≤ n → o1.lt n = true) (k : ∀ n,3 ≤ n → o2.lt n = true)
  (hdo : ∀ a b τ,call T g (ziM a :: ziM b :: caps.map V.one) (o0 :: o1 :: o2 :: τ) = some (ziM (op a b),o0 :: o1 :: o2 :: τ))
  (ts us : List (Int × Int)) (off off' : Int) (hl : ts.length + us.length ≤ 4294967296) :
  call T 135 [fF ts off,fF us off',.one (.fn g [] caps)] [o0,o1,o2] = some (fF (zbj op ts us) (op off off'),[o0,o1,o2]):=by
 rw [ze (fn:=zjO) rfl];have e:=i 3 (yv 3);have d:=j 3 (yv 3);have c:=k 3 (yv 3);unfold Ob.lt at e d c;have h:=zCJ op g caps o0 o1 o2 f (i 8 (by omega)) (j 8 (by omega)) (k 8 (by omega)) hdo ts us off off' (op off off') hl (ts.length + us.length) 0 0 [];have h:=fun a0 a1 a9 a10 a11 a12 a13 => h a0 a1 a9 a10 a11 a12 a13 (by omega) (by omega) (by omega) (by simp);simp -implicitDefEqProofs only [go_sem,zjO,zhk,bst,bx,bo6,zz,fF,hdo,Int.natCast_zero,zj,e,d,c] at h ⊢;simp -implicitDefEqProofs only [go_sem,h,bx,e,d,c]
end
abbrev zvL (x : Int) : Int:=Go.IntKind.u64.wrap x
def pl (a b : Int) : Int:=zvL (a + b)
def mi (a b : Int) : Int:=zvL (a - b)
def ti (n : Int) (a _b : Int) : Int:=zvL (a * n)
theorem zyq (a b : Int) (τ : zd) : call T 137 [ziM a,ziM b] τ = some (ziM (pl a b),τ):=by
 rw [ze (fn:=zhD) rfl];simp -implicitDefEqProofs only [go_sem,zhD,pl,zvL]
theorem zwK (a b : Int) (τ : zd) : call T 136 [ziM a,ziM b] τ = some (ziM (mi a b),τ):=by
 rw [ze (fn:=zg4) rfl];simp -implicitDefEqProofs only [go_sem,zg4,mi,zvL]
theorem zwb (n : Int) (o0 c : Ob) (a b : Int) (τ : zd) : call T 138 [ziM a,ziM b,.one (.ptr 1 0 0 0)] (o0 :: .cells 0 1 [[.f (.lit (.int .u64 n))]] :: c :: τ) = some (ziM (ti n a b),o0 :: .cells 0 1 [[.f (.lit (.int .u64 n))]] :: c :: τ):=by
 rw [ze (fn:=zg7) rfl];simp -implicitDefEqProofs only [go_sem,zg7,ti,zvL]
theorem zuI (a : List (Int × Int)) (off : Int) (b : a.length ≤ 9223372036854775807) : call T 175 [fF a off] [] = some (zi4 (!zg 0 a),[]):=by
 rw [ze (fn:=ziB) rfl];have h:=zts a off b;simp -implicitDefEqProofs only [go_sem,ziB,fF] at h ⊢;simp -implicitDefEqProofs only [go_sem,h]
theorem zrp (b us : List (Int × Int)) (off a : Int) (k : b.length ≤ 9223372036854775807) (e : us.length ≤ 9223372036854775807) :
  call T 225 [.one (.f (.sl [[.sl (rows b),.lit (.int .u64 off)],[.sl (rows us),.lit (.int .u64 a)]])),.one (.fn 175 [] [])] [] =
   some (vI (if zg 0 b then (if zg 0 us then -1 else 1) else 0),[]):=by
 rw [ze (fn:=zaR) rfl];have h:=zuI b off k;have c:=zuI us a e;have g : IntKind.i64.wrap 1 = 1:=by decide
 have d : IntKind.i64.wrap 2 = 2:=by decide
 have n2 : ((2 : Nat) : Int) = 2:=rfl;have l : ∀ n : Nat,((n + 1 + 1 : Nat) : Int) = (n : Int) + 2:=fun n => by omega
 have e1 : (1 : Int) < 2:=by decide
 simp -implicitDefEqProofs only [go_sem,fF] at h c
 cases i : zg 0 b with
 | false =>
   simp -implicitDefEqProofs only [i,go_sem] at h;simp -implicitDefEqProofs only [go_sem,zaR,xl zbo rfl,zbk,h,g,d,n2,yr]
 | true =>
   simp -implicitDefEqProofs only [i,go_sem] at h
   cases j : zg 0 us with
   | false =>
     simp -implicitDefEqProofs only [j,go_sem] at c;simp -implicitDefEqProofs only [go_sem,zaR,xl zbo rfl,zbk,h,c,g,d,n2,yr]
   | true =>
     simp -implicitDefEqProofs only [j,go_sem] at c;simp -implicitDefEqProofs only [go_sem,zaR,xl zbo rfl,zbk,h,c,g,d,n2,yr]
theorem zoF (b us : List (Int × Int)) (off a : Int) (g : b.length ≤ 9223372036854775807) (c : us.length ≤ 9223372036854775807) :
  call T 174 [.one (.f (.sl [[.sl (rows b),.lit (.int .u64 off)],[.sl (rows us),.lit (.int .u64 a)]])),.one (.fn 175 [] [])] [] =
   some (vB (!(zg 0 b && zg 0 us)),[]):=by
 rw [ze (fn:=zar) rfl];have h:=zrp b us off a g c;have e1 : decide ((0 : Int) ≤ -1) = false:=by decide
 have e2 : decide ((0 : Int) ≤ 1) = true:=by decide
 have e3 : decide ((0 : Int) ≤ 0) = true:=by decide
 cases d : zg 0 b with
 | false =>
   simp -implicitDefEqProofs only [d,go_sem] at h;simp -implicitDefEqProofs only [go_sem,zar,h,e3]
 | true =>
   cases e : zg 0 us with
   | false =>
     simp -implicitDefEqProofs only [d,e,go_sem] at h;simp -implicitDefEqProofs only [go_sem,zar,h,e2]
   | true =>
     simp -implicitDefEqProofs only [d,e,go_sem] at h;simp -implicitDefEqProofs only [go_sem,zar,h,e1]
theorem zxB (b us : List (Int × Int)) (off a : Int) (d : b.length ≤ 9223372036854775807) (c : us.length ≤ 9223372036854775807) :
  call T 134 [.one (.f (.sl [[.sl (rows b),.lit (.int .u64 off)],[.sl (rows us),.lit (.int .u64 a)]]))] [] =
   some (vB (zg 0 b && zg 0 us),[]):=by
 rw [ze (fn:=zk5) rfl];have h:=zoF b us off a d c;simp -implicitDefEqProofs only [go_sem,zk5,h,Bool.not_not]
abbrev nF : V:=fF [] 0
theorem zCu (d us : List (Int × Int)) (off c : Int) (i : d.length + us.length ≤ 4294967296) :
  call T 82 [fF d off,fF us c] [] = some (if zg 0 d = true ∧ zg 0 us = true then fF (zbj pl d us) (pl off c) else nF,[]):=by
 rw [ze (fn:=zgd) rfl];have h:=zxB d us off c (by omega) (by omega);have f:=zqw pl 137 [] (bx d off) (bx us c) zz rfl (fun _ _ => rfl) (fun _ _ => rfl) (fun _ _ => rfl) (fun a b τ => zyq a b _) d us off c i;simp -implicitDefEqProofs only [go_sem,bx,zz,fF] at f
 cases e : zg 0 d with
 | false =>
   simp -implicitDefEqProofs only [e,go_sem] at h;simp -implicitDefEqProofs only [go_sem,zgd,fF,h,false_and,zj]
 | true =>
   cases g : zg 0 us with
   | false =>
     simp -implicitDefEqProofs only [e,g,go_sem] at h;simp -implicitDefEqProofs only [go_sem,zgd,fF,h,and_false,zj]
   | true =>
     simp -implicitDefEqProofs only [e,g,go_sem] at h;simp -implicitDefEqProofs only [go_sem,zgd,fF,h,f]
theorem zyt (d us : List (Int × Int)) (off c : Int) (i : d.length + us.length ≤ 4294967296) :
  call T 81 [fF d off,fF us c] [] = some (if zg 0 d = true ∧ zg 0 us = true then fF (zbj mi d us) (mi off c) else nF,[]):=by
 rw [ze (fn:=zfr) rfl];have h:=zxB d us off c (by omega) (by omega);have f:=zqw mi 136 [] (bx d off) (bx us c) zz rfl (fun _ _ => rfl) (fun _ _ => rfl) (fun _ _ => rfl) (fun a b τ => zwK a b _) d us off c i;simp -implicitDefEqProofs only [go_sem,bx,zz,fF] at f
 cases e : zg 0 d with
 | false =>
   simp -implicitDefEqProofs only [e,go_sem] at h;simp -implicitDefEqProofs only [go_sem,zfr,fF,h,false_and,zj]
 | true =>
   cases g : zg 0 us with
   | false =>
     simp -implicitDefEqProofs only [e,g,go_sem] at h;simp -implicitDefEqProofs only [go_sem,zfr,fF,h,and_false,zj]
   | true =>
     simp -implicitDefEqProofs only [e,g,go_sem] at h;simp -implicitDefEqProofs only [go_sem,zfr,fF,h,f]
theorem zy0 (c : List (Int × Int)) (off n : Int) (g : c.length ≤ 4294967296) :
  call T 83 [fF c off,ziM n] [] = some (if zg 0 c = true then fF (zbj (ti n) c []) (ti n off 0) else nF,[]):=by
 rw [ze (fn:=zgD) rfl];have h:=zts c off (by omega);have d:=zqw (ti n) 138 [.ptr 1 0 0 0] (bx c off) (.cells 0 1 [[.f (.lit (.int .u64 n))]]) zz rfl (fun _ _ => rfl) (fun _ _ => rfl) (fun _ _ => rfl) (fun a b τ => zwb n _ _ a b _) c [] off 0 (by simpa using g);simp -implicitDefEqProofs only [go_sem,fF] at h;simp -implicitDefEqProofs only [go_sem,bx,zz,fF,zj] at d
 cases e : zg 0 c with
 | false =>
   simp -implicitDefEqProofs only [e,go_sem] at h;simp -implicitDefEqProofs only [go_sem,zgD,fF,h,zj]
 | true =>
   simp -implicitDefEqProofs only [e,go_sem] at h;simp -implicitDefEqProofs only [go_sem,zgD,fF,h,d]
abbrev zao:=List (Int × Int) × Int
def vFm (x : zao) : V:=fF x.1 x.2
abbrev zu6:=List (Int × zao)
abbrev ziS:=List (Int × POp)
abbrev zj0 : zao:=([],0)
def znR (a b : zao) : zao:=if zg 0 a.1 = true ∧ zg 0 b.1 = true then (zbj pl a.1 b.1,pl a.2 b.2) else zj0
def zi3 (a b : zao) : zao:=if zg 0 a.1 = true ∧ zg 0 b.1 = true then (zbj mi a.1 b.1,mi a.2 b.2) else zj0
def zf9 (a : zao) (n : Int) : zao:=if zg 0 a.1 = true then (zbj (ti n) a.1 [],ti n a.2 0) else zj0
def tell (k : Int) (a b : zao) : Option zao :=
 if k = 1 then some (znR a b) else if k = 2 then some (zi3 a b) else if k = 3 ∧ b.1.length = 0 then some (zf9 a b.2)
 else if k = 3 ∧ a.1.length = 0 then some (zf9 b a.2) else if k = 8 ∧ b.1.length = 0 ∧ b.2 < 64 then some (zf9 a (IntKind.u64.wrap (1 * 2 ^ min b.2.toNat 64))) else none
def zBX (form : zu6 → Int → Option (zao × zu6)) (ops : ziS) (M : zu6) (v : Int) : Option (Option zao × zu6) :=
 match getM v ops with
 | none => some (none,M)
 | some o => if o.bits ≠ 64 ∨ o.lanes ≠ 1 then some (none,M) else if o.kind = 0 then some (some ([],o.imm),M) else if o.kind < 1 ∨ 8 < o.kind then some (none,M)
   else match o.args with
    | a :: b :: _ => (form M a).bind fun x => (form x.2 b).bind fun y => if x.1.1.length + y.1.1.length ≤ 4294967296 ∧ 0 ≤ y.1.2 then some (tell o.kind x.1 y.1,y.2) else none
    | _ => none
def zhK (v : Int) : Option zao → zao
 | some f => if 16 < f.1.length then ([(v,1)],0) else f
 | none => ([(v,1)],0)
def zro (ops : ziS) : Nat → zu6 → Int → Option (zao × zu6)
 | 0,_,_ => none
 | n + 1,M,v => match getM v M with
   | some f => some (f,M)
   | none => (zBX (zro ops n) ops M v).map fun r => (zhK v r.1,zkc v (zhK v r.1) r.2)
structure Finder (σ : zd) (x m1 m2 : Nat) (ops : ziS) (M : zu6) : Prop where
 hx : σ[x]? = some (.cells 0 2 [[.map m1,.map m2]])
 ho : σ[m1]? = some (.mp (zf5 vOp ops))
 hf : σ[m2]? = some (.mp (zf5 vFm M))
 ok : Ok σ
 n1 : m1 ≠ m2
 n2 : x ≠ m2
theorem zHm (n : Nat) (M : zu6) : C.ltm n (zf5 vFm M) = true:=zrf vFm n (fun a => by simp [vFm,fF,V.lt,C.lts,C.lt]) M
theorem zlj (n m : Nat) (o : Ob) (b : o.lt n = true) : ∀ σ : zd,Obs.lt n σ = true → Obs.lt n (σ.set m o) = true:=by
 intro σ h
 induction σ generalizing m with
 | nil => exact h
 | cons a r ih =>
   simp only [Obs.lt,Bool.and_eq_true] at h
   cases m with
   | zero => simp only [yA,Obs.lt,b,h.2,yy]
   | succ m => simp only [yA,Obs.lt,h.1,ih m h.2,yy]
theorem Finder.put {σ : zd} {x m1 m2 : Nat} {ops : ziS} {M : zu6} (h : Finder σ x m1 m2 ops M) (b : zu6) : Finder (σ.set m2 (.mp (zf5 vFm b))) x m1 m2 ops b:=by
 have a : m2 < σ.length:=(yk.1 h.hf).1;refine ⟨?_,?_,?_,?_,h.n1,h.n2⟩
 ·rw [yq (fun e => h.n2 e.symm)]; exact h.hx
 ·rw [yq (fun e => h.n1 e.symm)]; exact h.ho
 ·simp [a]
 ·unfold Ok
  rw [yn];exact zlj _ _ _ (by simp only [Ob.lt]; exact zHm _ _) _ h.ok
theorem Finder.app {σ : zd} {x m1 m2 : Nat} {ops : ziS} {M : zu6} (h : Finder σ x m1 m2 ops M) (r : zd) (a : Obs.lt (σ.length + r.length) r = true) : Finder (σ ++ r) x m1 m2 ops M :=
 ⟨zc6 h.hx r,zc6 h.ho r,zc6 h.hf r,h.ok.app a,h.n1,h.n2⟩
theorem zkY {σ : zd} {m : Nat} {o0 : Ob} (h : σ[m]? = some o0) (o : Ob) (r : zd) : (σ ++ r).set m o = σ.set m o ++ r:=by
 rw [List.set_append_left _ _ (yk.1 h).1]
theorem zpn {σ : zd} {m : Nat} {o : Ob} (h : σ[m]? = some o) : σ.set m o = σ:=by
 obtain ⟨a,rfl⟩:=yk.1 h;exact List.set_getElem_self a
theorem zAu (k : Int) (D : ziS) : zhb k (zf5 vOp D) = (getM k D).map vOp:=zna vOp k D
theorem zFY (k : Int) (D : zu6) : zhb k (zf5 vFm D) = (getM k D).map vFm:=zna vFm k D
def zH6 (ops : ziS) (n : Nat) : Prop:=∀ (σ : zd) (x m1 m2 : Nat) (M M' : zu6) (v : Int) (f : zao),Finder σ x m1 m2 ops M → zro ops n M v = some (f,M') →
 call T 85 [.one (.ptr x 0 0 0),vI v] σ = some (vFm f,σ.set m2 (.mp (zf5 vFm M')))
theorem zgX {α : Type} {σ : List α} {n : Nat} (h : σ.length = n) (o : α) (r : List α) : (σ ++ o :: r)[n]? = some o:=by subst h; simp
theorem zh2 {α : Type} {σ : List α} {n : Nat} (h : σ.length = n) (o p : α) (r : List α) : (σ ++ o :: p :: r)[n + 1]? = some p:=by subst h; simp
theorem zhJ {α : Type} {σ : List α} {n : Nat} (h : σ.length = n) (o p a : α) (r : List α) : (σ ++ o :: p :: a :: r)[n + 2]? = some a:=by subst h; simp
theorem zhU {α : Type} {σ : List α} {n : Nat} (h : σ.length = n) (o p a s : α) (r : List α) : (σ ++ o :: p :: a :: s :: r)[n + 3]? = some s:=by subst h; simp
theorem zAf {α : Type} {σ : List α} {n : Nat} (h : σ.length = n) (o p a s t : α) (r : List α) : (σ ++ o :: p :: a :: s :: t :: r)[n + 4]? = some t:=by subst h; simp
theorem zkM {α : Type} {σ : List α} {n : Nat} (h : σ.length = n) (x o : α) (r : List α) : (σ ++ o :: r).set n x = σ ++ x :: r:=by subst h; simp [ye]
theorem znQ {α : Type} {σ : List α} {n : Nat} (h : σ.length = n) (x o p : α) (r : List α) : (σ ++ o :: p :: r).set (n + 1) x = σ ++ o :: x :: r:=by subst h; simp [ye]
theorem zkP {α : Type} {σ : List α} {n : Nat} (h : σ.length = n) (x o p a : α) (r : List α) : (σ ++ o :: p :: a :: r).set (n + 2) x = σ ++ o :: p :: x :: r:=by subst h; simp [ye]
theorem ziX {α : Type} {σ : List α} {n : Nat} (h : σ.length = n) (x o p a s : α) (r : List α) : (σ ++ o :: p :: a :: s :: r).set (n + 3) x = σ ++ o :: p :: a :: x :: r:=by subst h; simp [ye]
theorem zz0 {α : Type} {σ : List α} {n : Nat} (h : σ.length = n) (x o p a s t : α) (r : List α) : (σ ++ o :: p :: a :: s :: t :: r).set (n + 4) x = σ ++ o :: p :: a :: s :: x :: r:=by subst h; simp [ye]
theorem zi8 {α : Type} {σ : List α} {n : Nat} (h : σ.length = n) (r : List α) : (σ ++ r).take n = σ:=by subst h; simp
theorem zBK : ∀ l : List Int,Fz.beqs (l.map ri) (l.map ri) = true
 | [] => rfl
 | x :: r => by
   rw [yx,Fz.beqs,zBK r];simp [ri,ei,Fz.beqR,Fz.beq,Value.beq]
theorem zap (a b : Int) (l : List Int) : Fz.beqs ([.lit (.int .i64 a)] :: [.lit (.int .i64 b)] :: l.map ri) ([.lit (.int .i64 a)] :: [.lit (.int .i64 b)] :: l.map ri) = true:=zBK (a :: b :: l)
theorem n21 (n : Nat) : n + 2 + 1 = n + 3:=rfl
theorem zzJ (a b : zao) (c : a.1.length + b.1.length ≤ 4294967296) : call T 82 [fF a.1 a.2,fF b.1 b.2] [] = some (fF (znR a b).1 (znR a b).2,[]):=by
 rw [zCu a.1 b.1 a.2 b.2 c,znR];split <;> rfl
theorem zv6 (a b : zao) (c : a.1.length + b.1.length ≤ 4294967296) : call T 81 [fF a.1 a.2,fF b.1 b.2] [] = some (fF (zi3 a b).1 (zi3 a b).2,[]):=by
 rw [zyt a.1 b.1 a.2 b.2 c,zi3];split <;> rfl
theorem zmz (a : zao) (n : Int) (b : a.1.length ≤ 4294967296) : call T 83 [fF a.1 a.2,ziM n] [] = some (fF (zf9 a n).1 (zf9 a n).2,[]):=by
 rw [zy0 a.1 a.2 n b,zf9];split <;> rfl
set_option maxHeartbeats 2000000 in
theorem zCq (ops : ziS) (n : Nat) (hC : zH6 ops n) (σ : zd) (x m1 m2 : Nat) (M M' : zu6) (v : Int) (f : Option zao) (h : Finder σ x m1 m2 ops M) (hm : zBX (zro ops n) ops M v = some (f,M')) :
  call T 139 [.one (.ptr x 0 0 0),vI v] σ = some (.tup [vFm (f.getD zj0),vB f.isSome],σ.set m2 (.mp (zf5 vFm M'))):=by
 rw [ze (fn:=zi) rfl];have L:=fun r => zc6 h.hx r;have go:=fun r => zc6 h.ho r;have N:=fun j => zgj h.hx j;have A:=h.hx;have u:=h.ho;have t:=zf6 h.hx;have ok:=fun k => Ok.up h.ok k;have z:=Ok.at h.ok;have O:=zpn h.hf;unfold zBX at hm
 cases e : getM v ops with
 | none =>
   rw [e] at hm;simp only [Option.some.injEq,Prod.mk.injEq] at hm;obtain ⟨rfl,rfl⟩:=hm;have w:=zAu v ops;rw [e] at w;simp -implicitDefEqProofs only [go_sem] at w;simp -implicitDefEqProofs only [go_sem,zi,L,go,N,A,u,t,ok,z,O,w,vFm,fF,zj,ya,yh]
 | some o =>
   rw [e] at hm;have w:=zAu v ops;rw [e] at w;simp -implicitDefEqProofs only [go_sem] at w
   by_cases c1 : o.bits = 64
   ·by_cases c2 : o.lanes = 1
    ·by_cases c3 : o.kind = 0
     ·simp only [c1,c2,c3,ne_eq,not_true_eq_false,or_self,if_false,if_true,Option.some.injEq,Prod.mk.injEq] at hm
      obtain ⟨rfl,rfl⟩:=hm;simp -implicitDefEqProofs only [go_sem,zi,L,go,N,A,u,t,ok,z,O,w,c1,c2,c3,vFm,fF,zj,yc,yo]
     ·by_cases c4 : o.kind < 1
      ·simp only [c1,c2,c3,c4,true_or,ne_eq,not_true_eq_false,or_self,if_false,if_true,Option.some.injEq,Prod.mk.injEq] at hm
       obtain ⟨rfl,rfl⟩:=hm;simp -implicitDefEqProofs only [go_sem,zi,L,go,N,A,u,t,ok,z,O,w,c1,c2,c3,c4,vFm,fF,zj,ya,yh]
      ·by_cases c5 : 8 < o.kind
       ·simp only [c1,c2,c3,c4,c5,or_true,ne_eq,not_true_eq_false,or_self,if_false,if_true,Option.some.injEq,Prod.mk.injEq] at hm
        obtain ⟨rfl,rfl⟩:=hm;simp -implicitDefEqProofs only [go_sem,zi,L,go,N,A,u,t,ok,z,O,w,c1,c2,c3,c4,c5,vFm,fF,zj,ya,yh]
       ·simp only [c1,c2,c3,c4,c5,ne_eq,not_true_eq_false,or_self,if_false] at hm
        obtain ⟨d,X,U,J,args,D⟩:=o;simp only at c1 c2 c3 c4 c5 hm w;subst c1;subst c2
        match args,hm,w with
        | [],hm,_ => simp at hm
        | [_],hm,_ => simp at hm
        | a :: b :: rest,hm,w =>
        simp only [Option.bind_eq_some_iff] at hm;obtain ⟨⟨fa,M1⟩,f1,⟨fb,M2⟩,f2,hm⟩:=hm;simp only at f2 hm;split at hm
        case isFalse => simp at hm
        rename_i i;simp only [Option.some.injEq,Prod.mk.injEq] at hm;obtain ⟨rfl,rfl⟩:=hm;have r1:=h.app [Ob.cells 0 2 [[.f (.sl []),.f (.lit (.int .u64 0))]],.cells 0 6 [cOp ⟨d,64,1,J,a :: b :: rest,D⟩]] (by simp -implicitDefEqProofs only [go_sem]);have W:=hC _ x m1 m2 _ _ a fa r1 f1;rw [zkY h.hf] at W;have R:=h.put M1;have r2:=R.app [Ob.cells 0 2 [[.f (.sl []),.f (.lit (.int .u64 0))]],.cells 0 6 [cOp ⟨d,64,1,J,a :: b :: rest,D⟩]] (by simp -implicitDefEqProofs only [go_sem]);have S:=hC _ x m1 m2 _ _ b fb r2 f2;rw [zkY R.hf] at S;have h2:=R.put M2;rw [yz] at S h2;have C : (σ.set m2 (.mp (zf5 vFm M1))).length = σ.length:=yn;have g : (σ.set m2 (.mp (zf5 vFm M2))).length = σ.length:=yn;generalize σ.set m2 (.mp (zf5 vFm M1)) = σ1 at *;generalize σ.set m2 (.mp (zf5 vFm M2)) = σ2 at *;have Z:=fun (o : Ob) r => zgX C o r;have aG:=fun (o p : Ob) r => zh2 C o p r;have Y:=fun (o : Ob) r => zgX g o r;have aB:=fun (o p : Ob) r => zh2 g o p r;have aD:=fun (o p q : Ob) r => zhJ g o p q r;have V:=fun (o p q s : Ob) r => zhU g o p q s r;have aF:=fun (x o : Ob) r => zkM g x o r;have aA:=fun (x o p : Ob) r => znQ g x o p r;have aE:=fun (x o p q : Ob) r => zkP g x o p q r;have aC:=fun (x o p q s : Ob) r => ziX g x o p q s r;have tb:=fun (r : zd) => zi8 g r;have Q:=fun k => Ok.up h2.ok k;have I:=Ok.at h2.ok;have P:=fun k => Ok.up R.ok k;have E:=Ok.at R.ok;simp only [C,g] at Q I P E;simp -implicitDefEqProofs only [go_sem,vFm,fF,ri] at W S
        have ep : ∀ a b : zao,znR a b = if zg 0 a.1 = true ∧ zg 0 b.1 = true then (zbj pl a.1 b.1,pl a.2 b.2) else zj0:=fun _ _ => rfl
        have lA : fa.1.length ≤ 4294967296:=(by omega);have lB : fb.1.length ≤ 4294967296:=by omega
        have vP : ∀ (c : Prop) [Decidable c] (x y : zao),(if c then x else y).1 = if c then x.1 else y.1:=fun c _ x y => by split <;> rfl
        have H:=yb L <| yb go <| yb N <| yb A <| yb u <| yb t <| yb ok <| yb z <| yb w <| yb C <| yb g <| yb W <| yb S <| yb Z <| yb aG <| yb Y <| yb aB <| yb aD <| yb V <| yb aF <| yb aA <| yb aE <| yb aC <| yb tb <| yb P <| yb Q <| yb E I
        by_cases d1 : d = 1
        ·subst d1
         have m : tell 1 fa fb = some (znR fa fb):=(by simp [tell]);have p1:=zzJ fa fb i.1;simp -implicitDefEqProofs only [go_sem,fF] at p1;simp -implicitDefEqProofs only [go_sem,zi,H,vFm,fF,ri,zp,zj,m,zap,n21,yc,ya,p1]
        by_cases d2 : d = 2
        ·subst d2
         have m : tell 2 fa fb = some (zi3 fa fb):=(by simp [tell]);have p1:=zv6 fa fb i.1;simp -implicitDefEqProofs only [go_sem,fF] at p1;simp -implicitDefEqProofs only [go_sem,zi,H,vFm,fF,ri,zp,zj,m,zap,n21,yc,ya,p1]
        by_cases d3 : d = 3
        ·subst d3
         by_cases B : (fb.1.length : Int) = 0
         ·have l : fb.1 = []:=yg (by omega)
          have m : tell 3 fa fb = some (zf9 fa fb.2):=(by simp [tell,l]);have p1:=zmz fa fb.2 lA;simp -implicitDefEqProofs only [go_sem,fF] at p1;simp -implicitDefEqProofs only [go_sem,zi,H,vFm,fF,ri,zp,zj,m,zap,n21,yc,ya,p1,B]
         ·have l : ¬ fb.1 = []:=fun h => B (by rw [h]; rfl)
          by_cases G : (fa.1.length : Int) = 0
          ·have K : fa.1 = []:=yg (by omega)
           have m : tell 3 fa fb = some (zf9 fb fa.2):=(by simp [tell,l,K]);have p1:=zmz fb fa.2 lB;simp -implicitDefEqProofs only [go_sem,fF] at p1;simp -implicitDefEqProofs only [go_sem,zi,H,vFm,fF,ri,zp,zj,m,zap,n21,yc,ya,p1,B,G,eq_true i.2]
          ·have K : ¬ fa.1 = []:=fun h => G (by rw [h]; rfl)
           have m : tell 3 fa fb = none:=(by simp [tell,l,K]);simp -implicitDefEqProofs only [go_sem,zi,H,vFm,fF,ri,zp,zj,m,zap,n21,yc,ya,B,G]
        by_cases d4 : d = 8
        ·subst d4
         by_cases B : (fb.1.length : Int) = 0
         ·have l : fb.1 = []:=yg (by omega)
          by_cases G : fb.2 < 64
          ·have m : tell 8 fa fb = some (zf9 fa (IntKind.u64.wrap (1 * 2 ^ min fb.2.toNat 64))):=by simp [tell,l,G]
           have p1:=zmz fa (IntKind.u64.wrap (1 * 2 ^ min fb.2.toNat 64)) lA;simp -implicitDefEqProofs only [go_sem,fF] at p1;simp -implicitDefEqProofs only [go_sem,zi,H,vFm,fF,ri,zp,zj,m,zap,n21,yc,ya,p1,B,G,eq_true i.2]
          ·have m : tell 8 fa fb = none:=by simp [tell,l,G]
           simp -implicitDefEqProofs only [go_sem,zi,H,vFm,fF,ri,zp,zj,m,zap,n21,yc,ya,B,G]
         ·have l : ¬ fb.1 = []:=fun h => B (by rw [h]; rfl)
          have m : tell 8 fa fb = none:=(by simp [tell,l]);simp -implicitDefEqProofs only [go_sem,zi,H,vFm,fF,ri,zp,zj,m,zap,n21,yc,ya,B]
        have m : tell d fa fb = none:=(by simp [tell,d1,d2,d3,d4]);simp -implicitDefEqProofs only [go_sem,zi,H,vFm,fF,ri,zp,zj,m,zap,n21,yc,ya,c3,c4,c5,d1,d2,d3,d4]
    ·simp only [c1,c2,not_false_eq_true,or_true,if_true,ne_eq,Option.some.injEq,Prod.mk.injEq] at hm
     obtain ⟨rfl,rfl⟩:=hm;simp -implicitDefEqProofs only [go_sem,zi,L,go,N,A,u,t,ok,z,O,w,c1,c2,vFm,fF,zj,ya,yh]
   ·simp only [c1,not_false_eq_true,true_or,if_true,ne_eq,Option.some.injEq,Prod.mk.injEq] at hm
    obtain ⟨rfl,rfl⟩:=hm;simp -implicitDefEqProofs only [go_sem,zi,L,go,N,A,u,t,ok,z,O,w,c1,vFm,fF,zj,ya,yh]
theorem zCO (ops : ziS) : ∀ n : Nat,zH6 ops n:=by
 intro n
 induction n with
 | zero => intro σ x m1 m2 M M' v f _ h; simp [zro] at h
 | succ n ih =>
   intro σ x m1 m2 M M' v f h hf;rw [ze (fn:=zaT) rfl];have gx:=fun r => zc6 h.hx r;have gf:=fun r => zc6 h.hf r;have Z:=fun j => zgj h.hx j;have lf:=fun j => zgj h.hf j;have u:=h.hx;have B:=h.hf;have w:=zf6 h.hx;have l:=zf6 h.hf;have ok:=fun k => Ok.up h.ok k;have z:=Ok.at h.ok;have i:=zFY v M;simp only [zro] at hf
   cases e : getM v M with
   | some f0 =>
     rw [e] at hf i;simp only [Option.some.injEq,Prod.mk.injEq] at hf;obtain ⟨rfl,rfl⟩:=hf;have hs:=zpn h.hf;simp -implicitDefEqProofs only [go_sem,vFm,fF] at i hs;simp -implicitDefEqProofs only [go_sem,zaT,gx,gf,Z,lf,u,B,w,l,ok,z,hs,i,vFm,fF,zj]
   | none =>
     rw [e] at hf i;simp only [Option.map_eq_some_iff] at hf;obtain ⟨⟨r,C⟩,hm,hf⟩:=hf;simp only [Prod.mk.injEq] at hf;obtain ⟨rfl,rfl⟩:=hf;have r1:=h.app [Ob.cells 0 2 [[.f (.sl []),.f (.lit (.int .u64 0))]],.cells 0 2 [[.f (.sl []),.f (.lit (.int .u64 0))]],.cells 0 2 [[.f (.sl (rows [(v,1)])),.f (.lit (.int .u64 0))]]] (by simp -implicitDefEqProofs only [go_sem]);have H:=zCq ops n ih _ x m1 m2 M C v r r1 hm;rw [zkY h.hf] at H;have S:=h.put C;have a : (σ.set m2 (.mp (zf5 vFm C))).length = σ.length:=yn;have g : ∀ Y,(σ.set m2 (.mp (zf5 vFm C))).set m2 Y = σ.set m2 Y:=fun Y => yz _;have fx:=fun r => zc6 S.hx r;have ff:=fun r => zc6 S.hf r;have P:=S.hx;have K:=S.hf;have A:=fun k => Ok.up S.ok k;have d:=Ok.at S.ok;have m:=fun Y r => zkY S.hf Y r;have h2:=h.put (zkc v (zhK v r) C);have t:=fun k => Ok.up h2.ok k;have b:=Ok.at h2.ok;have hu : (σ.set m2 (.mp (zf5 vFm (zkc v (zhK v r) C)))).length = σ.length:=yn;have y:=znA vFm v (zhK v r) C;simp only [a,hu] at A d t b;generalize hσ1 : σ.set m2 (.mp (zf5 vFm C)) = σ1 at *;simp only [g] at m;generalize hσ2 : σ.set m2 (.mp (zf5 vFm (zkc v (zhK v r) C))) = σ2 at *;have R:=fun (o : Ob) r => zgX a o r;have U:=fun (o p : Ob) r => zh2 a o p r;have Q:=fun (o p q : Ob) r => zhJ a o p q r;have J:=fun (o p q s : Ob) r => zhU a o p q s r;have E:=fun (x o : Ob) r => zkM a x o r;have I:=fun (x o p : Ob) r => znQ a x o p r;have N:=fun (x o p q : Ob) r => zkP a x o p q r;have D:=fun (x o p q s : Ob) r => ziX a x o p q s r;have ta:=fun (r : zd) => zi8 a r;have X:=fun (o : Ob) r => zgX hu o r;have W:=fun (o p : Ob) r => zh2 hu o p r;have L:=fun (o p q : Ob) r => zhJ hu o p q r;have G:=fun (o p q s : Ob) r => zhU hu o p q s r;have O:=fun (x o : Ob) r => zkM hu x o r;have V:=fun (x o p : Ob) r => znQ hu x o p r;have tb:=fun (r : zd) => zi8 hu r;have aA : ∀ j,(x < σ.length + j) = True:=Z;have aB : ∀ j,(m2 < σ.length + j) = True:=lf
     cases r with
     | none =>
       simp only [zhK] at y hσ2 ⊢;simp -implicitDefEqProofs only [go_sem,vFm,fF,rows,row,ya,yh] at H i y hσ2;simp -implicitDefEqProofs only [go_sem,zaT,gx,gf,Z,lf,u,B,w,l,ok,z,i,H,a,hu,g,fx,ff,P,K,A,d,t,b,m,y,hσ2,R,U,Q,J,E,I,N,D,ta,X,W,L,G,O,V,tb,vFm,fF,rows,row]
     | some f =>
       by_cases c : 16 < f.1.length
       ·have c' : (16 : Int) < (f.1.length : Int):=by omega
        simp only [zhK,if_pos c] at y hσ2 ⊢;simp -implicitDefEqProofs only [go_sem,vFm,fF,rows,row,yc,yo] at H i y hσ2;simp -implicitDefEqProofs only [go_sem,zaT,gx,gf,Z,lf,u,B,w,l,ok,z,i,H,a,hu,g,fx,ff,P,K,A,d,t,b,m,y,hσ2,R,U,Q,J,E,I,N,D,ta,X,W,L,G,O,V,tb,vFm,fF,rows,row,yw,c']
       ·have c' : ¬ (16 : Int) < (f.1.length : Int):=by omega
        simp only [zhK,if_neg c] at y hσ2 ⊢;simp -implicitDefEqProofs only [go_sem,vFm,fF,rows,row,yc,yo] at H i y hσ2;simp -implicitDefEqProofs only [go_sem,zaT,gx,gf,Z,lf,u,B,w,l,ok,z,i,H,a,hu,g,fx,ff,P,K,A,d,t,b,m,y,hσ2,R,U,Q,J,E,I,N,D,ta,X,W,L,G,O,V,tb,vFm,fF,rows,row,yw,c']
end AC

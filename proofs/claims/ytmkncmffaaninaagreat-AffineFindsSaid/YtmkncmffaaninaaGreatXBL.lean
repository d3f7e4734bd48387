/- A part of the proof of AffineFinds. Conditions: none. -/
import Derived.Test.YtmkncmffaaninaaGreatXBK
import Derived.Test.YtmkncmffaaninaaGreatXBF
set_option linter.all false
open And renaming intro → ya
open List renaming length_set → yb,replicate → yc,getD_eq_getElem?_getD → yd,append_assoc → ye,drop_eq_getElem_cons → yg,length_replicate → yh,length_append → yi,flatMap_cons → yj,eq_nil_of_length_eq_zero → yl,getElem?_set_ne → ym,getElem?_eq_some_iff → yp,length_map → yq,length_take → ys,getElem_mem → yt,mem_cons_of_mem → yu,flatMap_append → yv,drop_zero → yx,mem_cons_self → yy,drop_length → yC,map_cons → yE,map_nil → yF,set_set → yI
open Int renaming toNat_natCast → yf,natCast_zero → yo,lt_irrefl → yw,add_emod → yA,le_refl → yG,mul_one → yH
open Option renaming getD_some → yk,getD_none → yr,bind_some → yD
open Nat renaming mul_one → yn
open Bool renaming and_self → yz,and_eq_true → yB
namespace AC
open Go Go.A Go.A.Lex
theorem zrn {α : Type} {l : List α} {i : Nat} (v d : α) (h : i < l.length) : (l.set i v).getD i d = v:=by simp [h]
def zpU (ts us : List (Int × Int)) (off off' n m : Int) : List Int:=zhR n m (zgS us off') 1024 0 (zgS ts off)
theorem zh3 (b us : List (Int × Int)) (off a n m : Int) : (zpU b us off a n m).length = 1025:=by rw [zpU,zma,zdA]
theorem zHw (b us : List (Int × Int)) (off a : Int) (W B : List Int) : Ok [bx b off,bx us a,zz2,bx b off,obW W,bx us a,obW B]:=by
 have h : ∀ (n : Nat) (W : List Int),C.lts n (W.map cU) = true:=fun n W => by
  induction W with
  | nil => simp only [yF,C.lts]
  | cons x r ih => simp only [yE,C.lts,cU,C.lt,ih,yz]
 unfold Ok;simp -implicitDefEqProofs only [go_sem,bx,obW,h]
theorem zq8 (n : Nat) : ∀ W : List Int,C.shifts n (W.map cU) = W.map cU
 | [] => by simp only [yF,C.shifts]
 | x :: r => by simp only [yE,C.shifts,cU,C.shift,zq8 n r]
theorem zsH (b us : List (Int × Int)) (off a n m : Int) (s : b.length ≤ 4294967296) (f : us.length ≤ 4294967296) (q : zg 0 b = true) (r : zg 0 us = true) :
  call T 94 [fF b off,ziM n,fF us a,ziM m] [] = some (fF (za1 (zpU b us off a n m) 1024 0) (comb n m off a),[]):=by
 rw [ze (fn:=zfD) rfl];have p:=zxS b off s q;have o:=zxS us a f r;have e:=fun a0 a2 a4 a5 g => zH1 n m (bx b off) (bx us a) (bx b off) (bx us a) (fun k => rfl) (zgS us a) (zdA _ _) 1024 0 (zgS b off) a0 a2 a4 a5 g (zdA _ _) (by omega);simp only [yo] at e;have i:=zyU (W:=zpU b us off a n m) (j:=1024) (by rw [zh3]; omega);have l:=zyU (W:=zgS us a) (j:=1024) (by rw [zdA]; omega)
 have e1 : (zpU b us off a n m).getD 1024 0 = off:=by
  rw [zpU,zjr _ _ _ _ _ _ _ (by rw [zdA]; omega),if_neg (by omega),zx5 b off q]
 rw [e1] at i;rw [zx5 us a r] at l;have h:=zIx (W:=zpU b us off a n m) (j:=1024) (comb n m off a) (by rw [zh3]; omega);have hle:=zrE (show 1024 < (zpU b us off a n m).length by rw [zh3]; omega);have c:=zB4 ((zpU b us off a n m).set 1024 (comb n m off a)) (by rw [yb,zh3]) [bx b off,bx us a,zz2,bx b off,obW ((zpU b us off a n m).set 1024 (comb n m off a)),bx us a,obW (zgS us a)] 4 (by simp only [List.getElem?_cons_succ,List.getElem?_cons_zero]) (zHw _ _ _ _ _ _);have e2 : ((zpU b us off a n m).set 1024 (comb n m off a)).getD 1024 0 = comb n m off a:=zrn _ _ (by rw [zh3]; omega)
 have e3 : ∀ (d k : Nat),d + k ≤ 1024 → za1 ((zpU b us off a n m).set 1024 (comb n m off a)) d k = za1 (zpU b us off a n m) d k:=by
  intro d
  induction d with
  | zero => intro k _; simp only [za1]
  | succ d ih =>
    intro k t
    have : ((zpU b us off a n m).set 1024 (comb n m off a)).getD k 0 = (zpU b us off a n m).getD k 0:=by
     rw [yd,ym (by omega),← yd]
    rw [za1,za1,this,ih (k + 1) (by omega)]
 rw [e2,e3 1024 0 (by omega)] at c;unfold comb at h c ⊢;have em : zhR n m (zgS us a) 1024 0 (zgS b off) = zpU b us off a n m:=rfl;rw [em] at e;simp -implicitDefEqProofs only [go_sem,obW,bx,fF,zvL,zq8] at p o e h c;simp -implicitDefEqProofs only [go_sem,zfD,obW,bx,fF,zvL,zq8,p,o,e,i,l,h,hle,c]
theorem zrc (op : Int → Int → Int) (n m : Int) (f us : List (Int × Int)) (off d : Int) (j : zg 0 f = true) (o : zg 0 us = true) (i : ∀ v,op (cf f v) (cf us v) = comb n m (cf f v) (cf us v)) (s : op 0 0 = 0) :
  za1 (zpU f us off d n m) 1024 0 = zbj op f us:=by
 refine zFg _ _ (a:=0) (b:=0) ?_ (zcT op f us 0 j o) fun v => ?_
 ·have:=zix (zpU f us off d n m) 1024 0 (-1) (by omega) (by omega)
  have u : ∀ (l : List (Int × Int)),zg (-1) l = true → cf l 0 = 0 → zg 0 l = true:=by
   intro l q g
   cases l with
   | nil => rfl
   | cons t r =>
     rw [zaK] at q ⊢;refine ⟨?_,q.2⟩
     by_cases e : t.1 = 0
     ·simp only [cf] at g
      rw [if_pos e] at g;exact absurd g q.2.2.1
     ·omega
  refine u _ this ?_;have g:=ztS (zpU f us off d n m) 1024 0 0;rw [if_pos (by omega)] at g
  have w : (zpU f us off d n m).getD 0 0 = comb n m (cf f 0) (cf us 0):=by
   rw [zpU,zjr _ _ _ _ _ _ _ (by rw [zdA]; omega),if_pos (by omega),zpw f off j 0 (by omega),zpw us d o 0 (by omega)];rfl
  rw [w] at g;have c1 : cf f 0 = 0:=zlN f j (yG 0);have c2 : cf us 0 = 0:=zlN us o (yG 0);have h:=i 0;rw [c1,c2,s] at h;rw [c1,c2,← h] at g;exact g
 ·rw [zlx op s v f us 0 j o,i v]
  by_cases x : 0 ≤ v ∧ v < 1024
  ·obtain ⟨k,rfl⟩ : ∃ k : Nat,v = k:=⟨v.toNat,by omega⟩
   rw [ztS,if_pos (by omega),zpU,zjr _ _ _ _ _ _ _ (by rw [zdA]; omega),if_pos (by omega),zpw f off j k (by omega),zpw us d o k (by omega)]
  ·have p : cf f v = 0 ∧ cf us v = 0:=by
    by_cases c : v ≤ 0
    ·exact ⟨zlN f j c,zlN us o c⟩
    ·exact ⟨zti j (by omega),zti o (by omega)⟩
   have h:=i v;rw [p.1,p.2,s] at h;rw [p.1,p.2,← h];have hm:=zix (zpU f us off d n m) 1024 0 (-1) (by omega) (by omega)
   by_cases c : v ≤ -1
   ·exact zlN _ hm c
   ·exact zti hm (by omega)
theorem zzN (a us : List (Int × Int)) (off b : Int) (o : us.length = a.length) (l : a.length ≤ 9223372036854775807) : ∀ (d k : Nat) a0 a1 a4 a6 a7 a8,a.length - k = d → k ≤ a.length →
  exec T zcX ⟨[a0,a1,(.one (.ptr 0 0 0 0)),(.one (.ptr 1 0 0 0)),a4,(vI k),a6,a7,a8],[bx a off,bx us b],0,0⟩ =
   (if a.drop k = us.drop k then some (.exit 0,⟨[vU,vU,vU,vU,vU,vU,vU,vU,vU],[bx a off,bx us b],0,0⟩) else some (.ret,⟨[vU,vU,vU,vU,(vB false),vU,vU,vU,vU],[bx a off,bx us b],0,0⟩)):=by
 intro d
 induction d with
 | zero =>
   intro k a0 a1 a4 a6 a7 a8 p q;have c : k = a.length:=(by omega);subst c;have e : us.drop a.length = []:=(by simp [o]);have m : a.drop a.length = []:=(by simp);rw [xl zcX rfl,zeT,e,m,if_pos rfl];simp -implicitDefEqProofs only [go_sem,bx,zp,yw]
 | succ d i =>
   intro k a0 a1 a4 a6 a7 a8 p q;have c : k < a.length:=(by omega);have f : k < us.length:=(by omega);have hd : a.drop k = a[k] :: a.drop (k + 1):=yg c;have j : us.drop k = us[k] :: us.drop (k + 1):=yg f;have g : (k : Int) < (a.length : Int):=(by omega);rw [xl zcX rfl,zeT,hd,j];have i:=fun a0 a1 a4 a6 a7 a8 => i (k + 1) a0 a1 a4 a6 a7 a8 (by omega) (by omega);have n : (a[k] = us[k]) ↔ (a[k].1 = us[k].1 ∧ a[k].2 = us[k].2):=Prod.ext_iff;simp -implicitDefEqProofs only [bx] at i
   by_cases c1 : a[k].1 = us[k].1
   ·by_cases c2 : a[k].2 = us[k].2
    ·simp -implicitDefEqProofs only [List.cons.injEq,n,and_self,true_and,go_sem,bx,zp,g,zuA c,zuA f,row,zii c l,c1,c2]
     exact i _ _ _ _ _ _
    ·rw [if_neg (fun h => c2 (by rw [(List.cons.inj h).1]))]
     simp -implicitDefEqProofs only [go_sem,bx,zp,g,zuA c,zuA f,row,zii c l,c1,c2]
   ·rw [if_neg (fun h => c1 (by rw [(List.cons.inj h).1]))]
    simp -implicitDefEqProofs only [go_sem,bx,zp,g,zuA c,zuA f,row,zii c l,c1]
theorem zoj (b us : List (Int × Int)) (off a : Int) (f : b.length ≤ 9223372036854775807) : call T 35 [fF b off,fF us a] [] = some (vB (decide (off = a ∧ b = us)),[]):=by
 rw [ze (fn:=zaU) rfl]
 by_cases d : off = a
 ·by_cases e : us.length = b.length
  ·have h:=fun a0 a1 a4 a6 a7 a8 => zzN b us off a e f b.length 0 a0 a1 a4 a6 a7 a8 (by omega) (by omega)
   simp only [yx,yo] at h;have c : (us.length : Int) = b.length:=by rw [e]
   by_cases he : b = us
   ·simp -implicitDefEqProofs only [if_pos he] at h
    have hd : decide (off = a ∧ b = us) = true:=decide_eq_true ⟨d,he⟩;rw [hd];simp -implicitDefEqProofs only [go_sem,bx] at h;simp -implicitDefEqProofs only [go_sem,zaU,fF,d,zp,c,h] at h ⊢;simp -implicitDefEqProofs only [go_sem,h]
   ·simp -implicitDefEqProofs only [if_neg he] at h
    have hd : decide (off = a ∧ b = us) = false:=decide_eq_false fun h => he h.2;rw [hd];simp -implicitDefEqProofs only [go_sem,bx] at h;simp -implicitDefEqProofs only [go_sem,zaU,fF,d,zp,c,h] at h ⊢;simp -implicitDefEqProofs only [go_sem,h]
  ·have c : ¬ (b.length : Int) = us.length:=by omega
   have hd : decide (off = a ∧ b = us) = false:=decide_eq_false fun h => e (by rw [h.2]);rw [hd];simp -implicitDefEqProofs only [go_sem,zaU,fF,d,zp,c]
 ·have hd : decide (off = a ∧ b = us) = false:=decide_eq_false fun h => d h.1
  rw [hd];simp -implicitDefEqProofs only [go_sem,zaU,fF,d]
theorem zFr (a b : Int) : pl a b = comb 1 1 a b:=by
 simp only [pl,comb,ztA,yH];rw [← yA]
theorem zFl (a b : Int) : mi a b = comb 1 18446744073709551615 a b:=by
 simp only [mi,comb,ztA,yH];rw [← yA];have : a + b * 18446744073709551615 = (a - b) + b * 18446744073709551616:=by omega
 rw [this,Int.add_mul_emod_self_right]
theorem zFj (n a : Int) : ti n a 0 = comb n 0 a 0:=by
 simp only [ti,comb,ztA,Int.zero_mul];rw [← yA,Int.add_zero]
theorem zHC {b us : List (Int × Int)} (off a : Int) (d : zg 0 b = true) (e : zg 0 us = true) (f : b.length ≤ 4294967296) (c : us.length ≤ 4294967296) :
  call T 94 [fF b off,ziM 1,fF us a,ziM 1] [] = some (fF (zbj pl b us) (pl off a),[]):=by
 rw [zsH b us off a 1 1 f c d e,zrc pl 1 1 b us off a d e (fun v => zFr _ _) rfl,← zFr]
theorem zHO {b us : List (Int × Int)} (off a : Int) (d : zg 0 b = true) (e : zg 0 us = true) (f : b.length ≤ 4294967296) (c : us.length ≤ 4294967296) :
  call T 94 [fF b off,ziM 1,fF us a,ziM 18446744073709551615] [] = some (fF (zbj mi b us) (mi off a),[]):=by
 rw [zsH b us off a 1 18446744073709551615 f c d e,zrc mi 1 18446744073709551615 b us off a d e (fun v => zFl _ _) rfl,← zFl]
theorem zHv {a : List (Int × Int)} (off n : Int) (b : zg 0 a = true) (c : a.length ≤ 4294967296) :
  call T 94 [fF a off,ziM n,fF [] 0,ziM 0] [] = some (fF (zbj (ti n) a []) (ti n off 0),[]):=by
 rw [zsH a [] off 0 n 0 c (by simp) b rfl,zrc (ti n) n 0 a [] off 0 b rfl (fun v => by rw [show cf [] v = 0 from rfl]; exact zFj n _) (zGw n),← zFj]
def zyM (o : POp) : List C:=cOp o
def cfB (b : Bool) : List C:=[.f (.lit (.bool b))]
def cfF (x : zao) : List C:=[.f (.sl (rows x.1)),.f (.lit (.int .u64 x.2))]
def FC (O : List POp) (B : List Bool) (M : List zao) : List C:=O.flatMap zyM ++ (B.flatMap cfB ++ M.flatMap cfF)
theorem zgK {α : Type} (f : α → List C) (n : Nat) (h : ∀ a,(f a).length = n) : ∀ l : List α,(l.flatMap f).length = l.length * n
 | [] => by simp
 | a :: l => by rw [yj,yi,h,zgK f n h l,List.length_cons,Nat.succ_mul]; omega
theorem zwT {α : Type} (f : α → List C) (l : List α) (k : Nat) (h : k < l.length) : l.flatMap f = (l.take k).flatMap f ++ (f l[k] ++ (l.drop (k + 1)).flatMap f):=by
 conv => lhs; rw [← List.take_append_drop k l,yg h,yv,yj]
theorem ztC {α : Type} (f : α → List C) (l : List α) (k : Nat) (h : k < l.length) (a : α) : (l.set k a).flatMap f = (l.take k).flatMap f ++ (f a ++ (l.drop (k + 1)).flatMap f):=by
 rw [List.set_eq_take_append_cons_drop,if_pos h,yv,yj]
theorem zAw {L P X S : List C} {n m : Nat} (e : L = P ++ (X ++ S)) (a : P.length = n) (b : X.length = m) : (n + m ≤ L.length) = True ∧ (L.drop n).take m = X ∧ (∀ Y,L.take n ++ (Y ++ L.drop (n + m)) = P ++ (Y ++ S)) ∧ L[n]? = (X ++ S)[0]?:=by
 subst e a b;refine ⟨by simp,by simp,fun Y => ?_,?_⟩
 ·rw [List.take_left',List.drop_append,List.drop_of_length_le (by omega),Nat.add_sub_cancel_left,List.drop_left',List.nil_append] <;> rfl
 ·rw [List.getElem?_append_right (by omega),Nat.sub_self]
abbrev zop : POp:=⟨0,0,0,0,[],0⟩
section
variable {O : List POp} {B : List Bool} {M : List zao} (lo : O.length = 1024) (lb : B.length = 1024) (lm : M.length = 1024)
include lo lb lm
theorem zHt : (FC O B M).length = 9216:=by
 unfold FC;rw [yi,yi,zgK zyM 6 (fun _ => rfl),zgK cfB 1 (fun _ => rfl),zgK cfF 2 (fun _ => rfl),lo,lb,lm]
theorem zGP {k : Nat} (a : k < 1024) : (k * 6 + 6 ≤ (FC O B M).length) = True ∧ ((FC O B M).drop (k * 6)).take 6 = cOp (O.getD k zop) ∧ ∀ o,(FC O B M).take (k * 6) ++ (cOp o ++ (FC O B M).drop (k * 6 + 6)) = FC (O.set k o) B M:=by
 have h:=zAw (n:=k * 6) (m:=6) (L:=FC O B M) (P:=(O.take k).flatMap zyM) (X:=zyM (O[k]'(by omega))) (S:=(O.drop (k + 1)).flatMap zyM ++ (B.flatMap cfB ++ M.flatMap cfF)) (by
  unfold FC;rw [zwT zyM O k (by omega)]
  simp only [ye]) (by rw [zgK zyM 6 (fun _ => rfl),ys]; omega) rfl
 refine ⟨h.1,?_,fun o => ?_⟩
 ·rw [h.2.1,show O.getD k zop = O[k]'(by omega) by simp [show k < O.length by omega]]
  rfl
 ·rw [h.2.2.1]
  unfold FC;rw [ztC zyM O k (by omega)];simp only [ye];rfl
theorem zIN {k : Nat} (a : k < 1024) : (6144 + k + 1 ≤ (FC O B M).length) = True ∧ (FC O B M)[6144 + k]? = some (.f (.lit (.bool (B.getD k false)))) ∧ ∀ b,(FC O B M).take (6144 + k) ++ (.f (.lit (.bool b)) :: (FC O B M).drop (6144 + k + 1)) = FC O (B.set k b) M:=by
 have h:=zAw (n:=6144 + k) (m:=1) (L:=FC O B M) (P:=O.flatMap zyM ++ (B.take k).flatMap cfB) (X:=cfB (B[k]'(by omega))) (S:=(B.drop (k + 1)).flatMap cfB ++ M.flatMap cfF) (by
  unfold FC;rw [zwT cfB B k (by omega)]
  simp only [ye]) (by rw [yi,zgK zyM 6 (fun _ => rfl),zgK cfB 1 (fun _ => rfl),ys]; omega) rfl
 refine ⟨h.1,?_,fun b => ?_⟩
 ·rw [h.2.2.2,show B.getD k false = B[k]'(by omega) by simp [show k < B.length by omega]]
  rfl
 ·have:=h.2.2.1 (cfB b)
  rw [show ∀ r : List C,C.f (.lit (.bool b)) :: r = cfB b ++ r from fun _ => rfl,this];unfold FC;rw [ztC cfB B k (by omega)];simp only [ye]
theorem zIH {k : Nat} (a : k < 1024) : (7168 + k * 2 + 2 ≤ (FC O B M).length) = True ∧ ((FC O B M).drop (7168 + k * 2)).take 2 = cfF (M.getD k zj0) ∧ ∀ x,(FC O B M).take (7168 + k * 2) ++ (cfF x ++ (FC O B M).drop (7168 + k * 2 + 2)) = FC O B (M.set k x):=by
 have h:=zAw (n:=7168 + k * 2) (m:=2) (L:=FC O B M) (P:=O.flatMap zyM ++ (B.flatMap cfB ++ (M.take k).flatMap cfF)) (X:=cfF (M[k]'(by omega))) (S:=(M.drop (k + 1)).flatMap cfF) (by
  unfold FC;rw [zwT cfF M k (by omega)]
  simp only [ye]) (by rw [yi,yi,zgK zyM 6 (fun _ => rfl),zgK cfB 1 (fun _ => rfl),zgK cfF 2 (fun _ => rfl),ys]; omega) rfl
 refine ⟨h.1,?_,fun x => ?_⟩
 ·rw [h.2.1,show M.getD k zj0 = M[k]'(by omega) by simp [show k < M.length by omega]]
 ·rw [h.2.2.1]
  unfold FC;rw [ztC cfF M k (by omega)];simp only [ye]
end
theorem zBY {P : List C → Prop} (g : P []) (d : ∀ x r,P r → P (.f x :: r)) (O : List POp) (B : List Bool) (M : List zao) : P (FC O B M):=by
 have a : ∀ r,P r → P (M.flatMap cfF ++ r):=fun r e => by
  induction M with
  | nil => exact e
  | cons x l ih => rw [yj,ye]; exact d _ _ (d _ _ ih)
 have b : ∀ r,P r → P (B.flatMap cfB ++ r):=fun r e => by
  induction B with
  | nil => exact e
  | cons x l ih => rw [yj,ye]; exact d _ _ ih
 have c : ∀ r,P r → P (O.flatMap zyM ++ r):=fun r e => by
  induction O with
  | nil => exact e
  | cons x l ih => rw [yj,ye]; exact d _ _ (d _ _ (d _ _ (d _ _ (d _ _ (d _ _ ih)))))
 have:=c _ (b _ (a _ g));rw [List.append_nil] at this;exact this
theorem znd (n : Nat) (O : List POp) (B : List Bool) (M : List zao) : C.lts n (FC O B M) = true:=zBY (P:=fun l => C.lts n l = true) (by simp only [C.lts]) (fun x r h => by simp only [C.lts,C.lt,h,yz]) O B M
theorem zHL (O : List POp) (B : List Bool) (M : List zao) : C.kns (FC O B M) = true:=zBY (P:=fun l => C.kns l = true) (by simp only [C.kns]) (fun x r h => by simp only [C.kns,h]) O B M
theorem zAl (n : Nat) (O : List POp) (B : List Bool) (M : List zao) : C.shifts n (FC O B M) = FC O B M:=zBY (P:=fun l => C.shifts n l = l) (by simp only [C.shifts]) (fun x r h => by simp only [C.shifts,C.shift,h]) O B M
abbrev fob (O : List POp) (B : List Bool) (M : List zao) : Ob:=.cells 0 9216 [FC O B M]
structure Fnd (σ : zd) (x : Nat) (O : List POp) (B : List Bool) (M : List zao) : Prop where
 hx : σ[x]? = some (fob O B M)
 ok : Ok σ
 lo : O.length = 1024
 lb : B.length = 1024
 lm : M.length = 1024
theorem zAA (n : Nat) (O : List POp) (B : List Bool) (M : List zao) : (fob O B M).lt n = true:=by simp only [Ob.lt,C.ltss,znd,yz]
theorem Fnd.put {σ : zd} {x : Nat} {O : List POp} {B : List Bool} {M : List zao} (h : Fnd σ x O B M) {c : List Bool} {b : List zao} (lb : c.length = 1024) (lm : b.length = 1024) : Fnd (σ.set x (fob O c b)) x O c b:=by
 have a : x < σ.length:=(yp.1 h.hx).1;refine ⟨by simp [a],?_,h.lo,lb,lm⟩;unfold Ok;rw [yb];exact zlj _ _ _ (zAA _ _ _ _) _ h.ok
theorem Fnd.app {σ : zd} {x : Nat} {O : List POp} {B : List Bool} {M : List zao} (h : Fnd σ x O B M) (r : zd) (a : Obs.lt (σ.length + r.length) r = true) : Fnd (σ ++ r) x O B M:=⟨zc6 h.hx r,h.ok.app a,h.lo,h.lb,h.lm⟩
def zuy (g : Int → zao) (B : List Bool) (M : List zao) : Prop:=∀ k : Nat,k < 1024 → B.getD k false = true → M.getD k zj0 = g k
theorem zuy.set {g : Int → zao} {B : List Bool} {M : List zao} (h : zuy g B M) (lb : B.length = 1024) (lm : M.length = 1024) {k : Nat} (b : k < 1024) : zuy g (B.set k true) (M.set k (g k)):=fun j a e => by
 by_cases c : j = k
 ·subst c; simp [lm,b]
 ·have n : k ≠ j:=fun e => c e.symm
  simp only [yd,ym n] at e ⊢;have:=h j a;simp only [yd] at this;exact this e
def zIb (O : List POp) (D : ziS) : Prop:=∀ k : Nat,0 < k → k < 1024 → O.getD k zop = (getM (k : Int) D).getD zop
def zJy (O : List POp) (g : Int → zao) (rk : Int → Nat) (n : Nat) : Prop:=∀ (σ : zd) (x : Nat) (B : List Bool) (M : List zao) (v : Int),Fnd σ x O B M → zuy g B M → 0 < v → v < 1024 → rk v < n →
 ∃ B' M',B'.length = 1024 ∧ M'.length = 1024 ∧ zuy g B' M' ∧ call T 87 [.one (.ptr x 0 0 0),vI v] σ = some (vFm (g v),σ.set x (fob O B' M'))
theorem zGR (a b : zao) (d : zg 0 a.1 = true) (e : zg 0 b.1 = true) (f : a.1.length ≤ 4294967296) (c : b.1.length ≤ 4294967296) :
  call T 94 [fF a.1 a.2,ziM 1,fF b.1 b.2,ziM 1] [] = some (fF (znR a b).1 (znR a b).2,[]):=by
 rw [zHC a.2 b.2 d e f c,znR,if_pos ⟨d,e⟩]
theorem zFW (a b : zao) (d : zg 0 a.1 = true) (e : zg 0 b.1 = true) (f : a.1.length ≤ 4294967296) (c : b.1.length ≤ 4294967296) :
  call T 94 [fF a.1 a.2,ziM 1,fF b.1 b.2,ziM 18446744073709551615] [] = some (fF (zi3 a b).1 (zi3 a b).2,[]):=by
 rw [zHO a.2 b.2 d e f c,zi3,if_pos ⟨d,e⟩]
theorem zwL (a : zao) (n : Int) (b : zg 0 a.1 = true) (c : a.1.length ≤ 4294967296) :
  call T 94 [fF a.1 a.2,ziM n,fF [] 0,ziM 0] [] = some (fF (zf9 a n).1 (zf9 a n).2,[]):=by
 rw [zHv a.2 n b c,zf9,if_pos b]
set_option maxHeartbeats 2000000 in
theorem zEP {O : List POp} {D : ziS} {j : Int → Nat} (N : Ranked D j) (n : Nat) (hC : zJy O (val D j) j n) (σ : zd) (x : Nat) (B : List Bool) (M : List zao) (h : Fnd σ x O B M) (hM : zuy (val D j) B M)
  (kd bits g dst a b : Int) (rest : List Int) (y : Int) (own : zao) (k0 : kd = 1 ∨ kd = 2 ∨ kd = 3 ∨ kd = 8) (a0 : 0 < a) (a1 : a < 1024) (ra : j a < n) (b0 : 0 < b) (b1 : b < 1024) (aI : j b < n) :
  ∃ B' M',B'.length = 1024 ∧ M'.length = 1024 ∧ zuy (val D j) B' M' ∧ call T 140 [.one (.ptr x 0 0 0),vOp ⟨kd,bits,g,dst,a :: b :: rest,y⟩,vFm own] σ =
    some (vFm ((tell kd (val D j a) (val D j b)).getD own),σ.set x (fob O B' M')):=by
 rw [ze (fn:=zm) rfl];have r1:=h.app [Ob.cells 0 6 [cOp ⟨kd,bits,g,dst,a :: b :: rest,y⟩],.cells 0 2 [[.f (.sl (rows own.1)),.f (.lit (.int .u64 own.2))]],.cells 0 2 [[.f (.sl []),.f (.lit (.int .u64 0))]]] (by simp -implicitDefEqProofs only [go_sem]);obtain ⟨B1,M1,A,X,aG,Q⟩:=hC _ x _ _ a r1 hM a0 a1 ra;rw [zkY h.hx] at Q;have G:=h.put A X;have r2:=G.app [Ob.cells 0 6 [cOp ⟨kd,bits,g,dst,a :: b :: rest,y⟩],.cells 0 2 [[.f (.sl (rows own.1)),.f (.lit (.int .u64 own.2))]],.cells 0 2 [[.f (.sl []),.f (.lit (.int .u64 0))]],.cells 0 2 [[.f (.sl (rows (val D j a).1)),.f (.lit (.int .u64 (val D j a).2))]]] (by simp -implicitDefEqProofs only [go_sem]);obtain ⟨W,M2,m,I,S,L⟩:=hC _ x _ _ b r2 aG b0 b1 aI;rw [zkY G.hx] at L;have h2:=G.put m I;rw [yI] at L h2;refine ⟨W,M2,m,I,S,?_⟩;have oa:=zr0 N a;have ob:=zr0 N b;have K:=zwm N a0 a1;have P:=zwm N b0 b1;generalize val D j a = fa at *;generalize val D j b = fb at *;have i : (σ.set x (fob O B1 M1)).length = σ.length:=yb;have c : (σ.set x (fob O W M2)).length = σ.length:=yb;generalize σ.set x (fob O B1 M1) = σ1 at *;generalize σ.set x (fob O W M2) = σ2 at *;have ok:=fun k => Ok.up h.ok k;have aD:=Ok.at h.ok;have Y:=fun (o : Ob) r => zgX i o r;have aH:=fun (o p : Ob) r => zh2 i o p r;have aA:=fun (o p q : Ob) r => zhJ i o p q r;have aC:=fun (o p q s : Ob) r => zhU i o p q s r;have V:=fun (x o p q s : Ob) r => ziX i x o p q s r;have U:=fun (o : Ob) r => zgX c o r;have A:=fun (o p : Ob) r => zh2 c o p r;have m:=fun (o p q : Ob) r => zhJ c o p q r;have R:=fun (o p q s : Ob) r => zhU c o p q s r;have aF:=fun (o p q s t : Ob) r => zAf c o p q s t r;have aB:=fun (x o p q : Ob) r => zkP c x o p q r;have Z:=fun (x o p q s : Ob) r => ziX c x o p q s r;have aE:=fun (x o p q s t : Ob) r => zz0 c x o p q s t r;have tb:=fun (r : zd) => zi8 c r;have E:=fun k => Ok.up h2.ok k;have w:=Ok.at h2.ok;have C:=fun k => Ok.up G.ok k;have u:=Ok.at G.ok;simp only [i,c] at E w C u;simp -implicitDefEqProofs only [go_sem,vFm,fF,ri] at Q L;have J : fa.1.length ≤ 4294967296:=by have:=oa.1; omega
 have lB : fb.1.length ≤ 4294967296:=by have:=ob.1; omega
 have H:=ya ok <| ya aD <| ya i <| ya c <| ya Q <| ya L <| ya Y <| ya aH <| ya aA <| ya aC <| ya V <| ya U <| ya A <| ya m <| ya R <| ya aF <| ya aB <| ya Z <| ya aE <| ya tb <| ya C <| ya E <| ya u w;rcases k0 with rfl | rfl | rfl | rfl
 ·have e : tell 1 fa fb = some (znR fa fb):=by simp [tell]
  have p1:=zGR fa fb K P J lB;simp -implicitDefEqProofs only [go_sem,fF] at p1;simp -implicitDefEqProofs only [go_sem,zm,H,vFm,fF,ri,zp,zj,e,zap,n21,yk,p1]
 ·have e : tell 2 fa fb = some (zi3 fa fb):=by simp [tell]
  have p1:=zFW fa fb K P J lB;simp -implicitDefEqProofs only [go_sem,fF] at p1;simp -implicitDefEqProofs only [go_sem,zm,H,vFm,fF,ri,zp,zj,e,zap,n21,yk,p1]
 ·by_cases l : (fb.1.length : Int) = 0
  ·have d : fb.1 = []:=yl (by omega)
   have e : tell 3 fa fb = some (zf9 fa fb.2):=(by simp [tell,d]);have p1:=zwL fa fb.2 K J;simp -implicitDefEqProofs only [go_sem,fF,zj] at p1;simp -implicitDefEqProofs only [go_sem,zm,H,vFm,fF,ri,zp,zj,e,zap,n21,yk,p1,l]
  ·have d : ¬ fb.1 = []:=fun h => l (by rw [h]; rfl)
   by_cases v : (fa.1.length : Int) = 0
   ·have z : fa.1 = []:=yl (by omega)
    have e : tell 3 fa fb = some (zf9 fb fa.2):=(by simp [tell,d,z]);have p1:=zwL fb fa.2 P lB;simp -implicitDefEqProofs only [go_sem,fF,zj] at p1;simp -implicitDefEqProofs only [go_sem,zm,H,vFm,fF,ri,zp,zj,e,zap,n21,yk,p1,l,v]
   ·have z : ¬ fa.1 = []:=fun h => v (by rw [h]; rfl)
    have e : tell 3 fa fb = none:=(by simp [tell,d,z]);simp -implicitDefEqProofs only [go_sem,zm,H,vFm,fF,ri,zp,zj,e,zap,n21,yr,l,v]
 ·by_cases l : (fb.1.length : Int) = 0
  ·have d : fb.1 = []:=yl (by omega)
   by_cases v : fb.2 < 64
   ·have e : tell 8 fa fb = some (zf9 fa (IntKind.u64.wrap (1 * 2 ^ min fb.2.toNat 64))):=by simp [tell,d,v]
    have p1:=zwL fa (IntKind.u64.wrap (1 * 2 ^ min fb.2.toNat 64)) K J;simp -implicitDefEqProofs only [go_sem,fF,zj] at p1;simp -implicitDefEqProofs only [go_sem,zm,H,vFm,fF,ri,zp,zj,e,zap,n21,yk,p1,l,v,eq_true ob.2]
   ·have e : tell 8 fa fb = none:=by simp [tell,d,v]
    simp -implicitDefEqProofs only [go_sem,zm,H,vFm,fF,ri,zp,zj,e,zap,n21,yr,l,v]
  ·have d : ¬ fb.1 = []:=fun h => l (by rw [h]; rfl)
   have e : tell 8 fa fb = none:=(by simp [tell,d]);simp -implicitDefEqProofs only [go_sem,zm,H,vFm,fF,ri,zp,zj,e,zap,n21,yr,l]
theorem zI0 : (((1 : Nat) : Int) ≤ 16) = True:=by simp
theorem zmL (a b : Int) : Fz.beqs [[.lit (.int .i64 a),.lit (.int .u64 b)]] [[.lit (.int .i64 a),.lit (.int .u64 b)]] = true:=by simp [Fz.beqs,Fz.beqR,Fz.beq,Value.beq]
set_option maxHeartbeats 2000000 in
theorem zxO {O : List POp} {D : ziS} {A : Int → Nat} (R : Ranked D A) (hO : zIb O D) : ∀ n : Nat,zJy O (val D A) A n
 | 0,_,_,_,_,_,_,_,_,_,h => absurd h (by omega)
 | n + 1,σ,x,B,M,v,h,hM,v0,v1,hv => by
   obtain ⟨k,rfl⟩:=Int.eq_ofNat_of_zero_le (show 0 ≤ v by omega);have k0 : 0 < k:=(by omega);have z : k < 1024:=(by omega);have p0 : (0 ≤ (k : Int)) = True:=(by simp);have p1 : ((k : Int) < 1024) = True:=(by simp; omega);have hx:=h.hx;have gx:=fun r => zc6 hx r;have lx:=fun j => zgj hx j;have V:=zf6 hx;have ok:=fun k => Ok.up h.ok k;have N:=Ok.at h.ok;have X : x < σ.length:=(yp.1 hx).1;have S : ∀ (g : Ob) r,(σ ++ r).set x g = σ.set x g ++ r:=fun g r => zkY hx g r;have aK : ∀ (g J : Ob) r,(σ.set x g ++ r).set x J = σ.set x J ++ r:=fun g J r => by rw [zkY (o0:=g) (by simp [X]),yI]
   have aF : ∀ (g : Ob) r,(σ.set x g ++ r)[x]? = some g:=fun g r => zc6 (by simp [X]) r;have u : ∀ g : Ob,(σ.set x g).length = σ.length:=fun _ => yb;have aG:=fun (g o : Ob) r => zgX (u g) o r;have aH:=fun (g o p : Ob) r => zh2 (u g) o p r;have aN:=fun (g o p q : Ob) r => zhJ (u g) o p q r;have aI:=fun (g o p q s : Ob) r => zhU (u g) o p q s r;have aE:=fun (g y o : Ob) r => zkM (u g) y o r;have aM:=fun (g y o p : Ob) r => znQ (u g) y o p r;have aB:=fun (g y o p q : Ob) r => zkP (u g) y o p q r;have aC:=fun (g y o p q s : Ob) r => ziX (u g) y o p q s r;have aJ:=fun (o p q s : Ob) r => zhU (rfl : σ.length = σ.length) o p q s r;have Z:=fun (y o p q s : Ob) r => ziX (rfl : σ.length = σ.length) y o p q s r;have aL:=fun (o p q : Ob) r => zhJ (rfl : σ.length = σ.length) o p q r;have aA:=fun (y o p q : Ob) r => zkP (rfl : σ.length = σ.length) y o p q r;have ta:=fun (g : Ob) (r : zd) => zi8 (u g) r;have Y : ∀ (i : List Bool) (l : List zao) (k : Nat),Obs.lt (σ.length + k) (σ.set x (.cells 0 9216 [FC O i l])) = true:=fun i l k => zlj _ _ _ (zAA _ _ _ _) _ (ok k);have W : ∀ (i : List Bool) (l : List zao),Obs.lt σ.length (σ.set x (.cells 0 9216 [FC O i l])) = true:=fun i l => zlj _ _ _ (zAA _ _ _ _) _ N;have H:=ya gx <| ya lx <| ya hx <| ya V <| ya ok <| ya N <| ya S <| ya aK <| ya aF <| ya aG <| ya aH <| ya aN <| ya aI <| ya aE <| ya aM <| ya aB <| ya aC <| ya ta <| ya Y <| ya W <| ya p0 <| ya p1 <| ya aL <| ya aA <| ya aJ Z;have f1:=zGP h.lo h.lb h.lm z;have f2:=zIN h.lo h.lb h.lm z;have f3:=zIH h.lo h.lb h.lm z;have m:=f2.2.1;have w2 : ∀ i l,i.length = 1024 → l.length = 1024 → ((6144 + k + 1 ≤ (FC O i l).length) = True ∧ (FC O i l).take (6144 + k) ++ (C.f (.lit (.bool true)) :: (FC O i l).drop (6144 + k + 1)) = FC O (i.set k true) l):=fun i l lb lm => ⟨(zIN h.lo lb lm z).1,(zIN h.lo lb lm z).2.2 true⟩;have P : ∀ i l y,i.length = 1024 → l.length = 1024 → ((7168 + k * 2 + 2 ≤ (FC O i l).length) = True ∧ (FC O i l).take (7168 + k * 2) ++ (C.f (.sl (rows y.1)) :: C.f (.lit (.int .u64 y.2)) :: (FC O i l).drop (7168 + k * 2 + 2)) = FC O i (l.set k y)):=fun i l y lb lm => ⟨(zIH h.lo lb lm z).1,(zIH h.lo lb lm z).2.2 y⟩;have d : ∀ i : List Bool,i.length = 1024 → (i.set k true).length = 1024:=fun i e => by rw [yb,e]
   cases cB : B.getD k false with
   | true =>
     refine ⟨B,M,h.lb,h.lm,hM,?_⟩;have hv:=hM k z cB;have hs:=zpn hx;rw [ze (fn:=zf) rfl];rw [cB] at m;rw [hv] at f3;have f31:=f3.1;have f32:=f3.2.1;simp -implicitDefEqProofs only [go_sem,cfF] at f32 hs;simp -implicitDefEqProofs only [go_sem,zf,gx,lx,hx,V,ok,N,p0,p1,yf,yn,m,f31,f32,hs,vFm,fF,zj]
   | false =>
     rw [cB] at m;have c:=zx7 R (k : Int);have Q:=hO k k0 z;have f11:=f1.1;have f12:=f1.2.1;have w:=w2 B M h.lb h.lm;unfold zpJ at c
     cases e : getM (k : Int) D with
     | none =>
       rw [e] at Q c;simp only [yr,zIp] at Q c;have hz : ((0 : Int) = (k : Int)) = False:=(by simp; omega);rw [Q] at f12;have t:=P (B.set k true) M ([((k : Int),1)],0) (d _ h.lb) h.lm;refine ⟨B.set k true,M.set k (val D A k),d _ h.lb,by rw [yb,h.lm],hM.set h.lb h.lm z,?_⟩;rw [c,ze (fn:=zf) rfl];simp -implicitDefEqProofs only [go_sem,rows,row] at f12 w t;simp -implicitDefEqProofs only [go_sem,zf,H,yb,yf,yn,m,f11,f12,w,vFm,fF,rows,row,zj,zp,n21,zmL,hz,t]
     | some o =>
       rw [e] at Q c;have hd:=R.dst _ _ e;have hi:=R.imm _ _ e;have I:=R.arg _ _ e;obtain ⟨kd,bits,L,dst,args,imm⟩:=o;dsimp only at hd hi I;subst hd;simp only [yk] at Q c;rw [Q] at f12
       by_cases c1 : bits = 64
       rotate_left
       ·simp only [c1,ne_eq,not_false_eq_true,true_or,if_true,zhK] at c
        have t:=P (B.set k true) M ([((k : Int),1)],0) (d _ h.lb) h.lm;refine ⟨B.set k true,M.set k (val D A k),d _ h.lb,by rw [yb,h.lm],hM.set h.lb h.lm z,?_⟩;rw [c,ze (fn:=zf) rfl];simp -implicitDefEqProofs only [go_sem,rows,row] at f12 w t;simp -implicitDefEqProofs only [go_sem,zf,H,yb,yf,yn,m,f11,f12,w,vFm,fF,rows,row,zj,zp,n21,zmL,c1,t]
       subst c1
       by_cases c2 : L = 1
       rotate_left
       ·simp only [c2,ne_eq,not_false_eq_true,or_true,if_true,zhK] at c
        have t:=P (B.set k true) M ([((k : Int),1)],0) (d _ h.lb) h.lm;refine ⟨B.set k true,M.set k (val D A k),d _ h.lb,by rw [yb,h.lm],hM.set h.lb h.lm z,?_⟩;rw [c,ze (fn:=zf) rfl];simp -implicitDefEqProofs only [go_sem,rows,row] at f12 w t;simp -implicitDefEqProofs only [go_sem,zf,H,yb,yf,yn,m,f11,f12,w,vFm,fF,rows,row,zj,zp,n21,zmL,c2,t]
       subst c2
       by_cases c3 : kd = 0
       ·subst c3
        simp only [ne_eq,not_true_eq_false,or_self,if_false,if_true,zhK,List.length_nil,Nat.not_lt_zero] at c;have t:=P (B.set k true) M ([],imm) (d _ h.lb) h.lm;refine ⟨B.set k true,M.set k (val D A k),d _ h.lb,by rw [yb,h.lm],hM.set h.lb h.lm z,?_⟩;rw [c,ze (fn:=zf) rfl];simp -implicitDefEqProofs only [go_sem,zj] at f12 w t;simp -implicitDefEqProofs only [go_sem,zf,H,yb,yf,yn,m,f11,f12,w,vFm,fF,rows,row,zj,zp,n21,zmL,t]
       by_cases c4 : kd = 1 ∨ kd = 2 ∨ kd = 3 ∨ kd = 8
       ·obtain ⟨a,b,rest,rfl,ra,aO,⟨a0,a1⟩,b0,b1⟩:=I (by omega) (by omega)
        have r1:=h.app [Ob.cells 0 2 [[.f (.sl []),.f (.lit (.int .u64 0))]],.cells 0 2 [[.f (.sl (rows [((k : Int),1)])),.f (.lit (.int .u64 0))]],.cells 0 6 [cOp ⟨kd,64,1,k,a :: b :: rest,imm⟩],.cells 0 2 [[.f (.sl (rows [((k : Int),1)])),.f (.lit (.int .u64 0))]]] (by simp -implicitDefEqProofs only [go_sem]);obtain ⟨i,l,E,G,aD,U⟩:=zEP R n (zxO R hO n) _ x B M r1 hM kd 64 1 k a b rest imm ([((k : Int),1)],0) c4 a0 a1 (by omega) b0 b1 (by omega);rw [S] at U;have n1 : ¬ ((64 : Int) ≠ 64 ∨ (1 : Int) ≠ 1):=by simp
        have n2 : ¬ (kd < 1 ∨ 8 < kd):=(by rcases c4 with h | h | h | h <;> rw [h] <;> decide);rw [if_neg n1,if_neg c3,if_neg n2] at c;dsimp only at c;refine ⟨i.set k true,l.set k (val D A k),d _ E,by rw [yb,G],aD.set E G z,?_⟩;have w:=w2 i l E G;rw [ze (fn:=zf) rfl,c];generalize tell kd (val D A a) (val D A b) = q at *
        by_cases c5 : 16 < (q.getD ([((k : Int),1)],0)).1.length
        ·have K : ¬ (((q.getD ([((k : Int),1)],0)).1.length : Int) ≤ 16):=by omega
         have ek : zhK k q = ([((k : Int),1)],0):=by
          unfold zhK
          cases q with
          | none => rfl
          | some f => simp only [yk] at c5 ⊢; rw [if_pos c5]
         have t:=P (i.set k true) l ([((k : Int),1)],0) (d _ E) G;rw [ek];generalize q.getD ([((k : Int),1)],0) = y at *;simp -implicitDefEqProofs only [go_sem,rows,row,vFm,fF] at f12 w t U;rcases c4 with rfl | rfl | rfl | rfl
         all_goals simp -implicitDefEqProofs only [go_sem,zf,H,yb,yf,yn,m,f11,f12,w,vFm,fF,rows,row,zj,zp,n21,zmL,U,K,t]
        ·have K : ((q.getD ([((k : Int),1)],0)).1.length : Int) ≤ 16:=by omega
         have ek : zhK k q = q.getD ([((k : Int),1)],0):=by
          unfold zhK
          cases q with
          | none => rfl
          | some f => simp only [yk] at c5 ⊢; rw [if_neg c5]
         have t:=P (i.set k true) l (q.getD ([((k : Int),1)],0)) (d _ E) G;rw [ek];generalize q.getD ([((k : Int),1)],0) = y at *;simp -implicitDefEqProofs only [go_sem,rows,row,vFm,fF] at f12 w t U;rcases c4 with rfl | rfl | rfl | rfl
         all_goals simp -implicitDefEqProofs only [go_sem,zf,H,yb,yf,yn,m,f11,f12,w,vFm,fF,rows,row,zj,zp,n21,zmL,U,K,t]
       ·have d1 : ¬ kd = 1:=fun e => c4 (.inl e)
        have d2 : ¬ kd = 2:=fun e => c4 (.inr (.inl e));have d3 : ¬ kd = 3:=fun e => c4 (.inr (.inr (.inl e)));have d8 : ¬ kd = 8:=fun e => c4 (.inr (.inr (.inr e)))
        have hq : val D A (k : Int) = ([((k : Int),1)],0):=by
         rw [c];have n1 : ¬ ((64 : Int) ≠ 64 ∨ (1 : Int) ≠ 1):=(by simp);rw [if_neg n1,if_neg c3];split
         ·rfl
         ·split
          ·have ht : ∀ fa fb,tell kd fa fb = none:=fun fa fb => by simp [tell,d1,d2,d3,d8]
           rw [ht];rfl
          ·rfl
        have t:=P (B.set k true) M ([((k : Int),1)],0) (d _ h.lb) h.lm;refine ⟨B.set k true,M.set k (val D A k),d _ h.lb,by rw [yb,h.lm],hM.set h.lb h.lm z,?_⟩;rw [hq,ze (fn:=zf) rfl];simp -implicitDefEqProofs only [go_sem,rows,row] at f12 w t;simp -implicitDefEqProofs only [go_sem,zf,H,yb,yf,yn,m,f11,f12,w,vFm,fF,rows,row,zj,zp,n21,zmL,c3,d1,d2,d3,d8,zI0,t]
def znk : List POp → List POp → List POp
 | O,[] => O
 | O,o :: l => znk (O.set o.dst.toNat o) l
def zfq : List POp → List PBlock → List POp
 | O,[] => O
 | O,b :: l => zfq (znk O b.ops) l
theorem zlp : ∀ (l O : List POp),(znk O l).length = O.length
 | [],_ => rfl
 | o :: l,O => by rw [znk,zlp l]; simp
theorem zjK : ∀ (l : List PBlock) (O : List POp),(zfq O l).length = O.length
 | [],_ => rfl
 | b :: l,O => by rw [zfq,zjK l,zlp]
def zEW (f : PFunc) : Prop:=∀ b ∈ f.blocks,∀ o ∈ b.ops,0 ≤ o.dst ∧ o.dst < 1024
theorem zBF {f : PFunc} {level : Int} (h : RightP f level) : zEW f:=fun b c o d => by
 have a : zgh o = true:=zhz h.typed c d;unfold zgh at a;simp only [yB] at a;have:=a.2.2.1;split at this
 ·rw [decide_eq_true_eq] at this
  omega
 ·unfold value at this
  simp only [yB,decide_eq_true_eq] at this;omega
def Arr (O : List POp) (D : ziS) : Prop:=∀ k : Nat,k < 1024 → O.getD k zop = (getM (k : Int) D).getD zop
theorem Arr.put {O : List POp} {D : ziS} (h : Arr O D) (lo : O.length = 1024) {o : POp} (b : 0 ≤ o.dst) (d : o.dst < 1024) : Arr (O.set o.dst.toNat o) (zkc o.dst o D):=fun k a => by
 rw [znt]
 by_cases c : o.dst = k
 ·rw [if_pos c,c,yf]
  simp [lo,a]
 ·rw [if_neg c,← h k a]
  simp only [yd];rw [ym (by omega)]
theorem Arr.ops : ∀ (l O : List POp) (D : ziS),Arr O D → O.length = 1024 → (∀ o ∈ l,0 ≤ o.dst ∧ o.dst < 1024) → Arr (znk O l) (zjp D l)
 | [],_,_,h,_,_ => h
 | o :: l,O,D,h,lo,hd => by
   obtain ⟨b,c⟩:=hd o yy;exact Arr.ops l _ _ (h.put lo b c) (by rw [yb,lo]) fun x a => hd x (yu _ a)
theorem Arr.blocks : ∀ (l : List PBlock) (O : List POp) (D : ziS),Arr O D → O.length = 1024 → (∀ b ∈ l,∀ o ∈ b.ops,0 ≤ o.dst ∧ o.dst < 1024) → Arr (zfq O l) (opsOf D l)
 | [],_,_,h,_,_ => h
 | b :: l,O,D,h,lo,hd => Arr.blocks l _ _ (h.ops _ _ _ lo (hd b yy)) (by rw [zlp,lo]) fun x a => hd x (yu _ a)
def zFQ (f : PFunc) : List POp:=(zfq (yc 1024 zop) f.blocks).set 0 zop
theorem zDQ (f : PFunc) : (zFQ f).length = 1024:=by rw [zFQ,yb,zjK,yh]
theorem zGF {f : PFunc} (h : zEW f) : zIb (zFQ f) (zHZ f):=fun k c a => by
 have:=Arr.blocks f.blocks (yc 1024 zop) [] (fun k b => by rw [yd,List.getElem?_replicate,if_pos b]; rfl) (by rw [yh]) h k a;rw [← this,zFQ];simp only [yd];rw [ym (by omega)]
section
variable (f : PFunc) (hf : okF f) (hd : zEW f) (Bf : List Bool) (Mf : List zao) (lb : Bf.length = 1024) (lm : Mf.length = 1024)
include hf hd lb lm
theorem zHn (i : Nat) (b : i < f.blocks.length) : ∀ (d k : Nat) (O : List POp) (a0 a2 a6 a7 : V),O.length = 1024 → f.blocks[i].ops.length - k = d → k ≤ f.blocks[i].ops.length →
  exec T zdb ⟨[a0,.one (.ptr 0 0 0 0),a2,.one (.ptr 1 0 0 0),vI i,vI k,a6,a7],[.cells 0 3 [zcz f],.cells 0 9216 [FC O Bf Mf]],0,2⟩ =
   some (.exit 2,⟨[vU,.one (.ptr 0 0 0 0),vU,.one (.ptr 1 0 0 0),vI i,vU,vU,vU],[.cells 0 3 [zcz f],.cells 0 9216 [FC (znk O (f.blocks[i].ops.drop k)) Bf Mf]],0,2⟩):=by
 intro d
 induction d with
 | zero =>
   intro k O a0 a2 a6 a7 lo l m;have a : k = f.blocks[i].ops.length:=(by omega);rw [xl zdb rfl,zfb,a];simp -implicitDefEqProofs only [go_sem,ilt b,zy b,rb,yq,yw,yC,znk,znd]
 | succ d ih =>
   intro k O a0 a2 a6 a7 lo l m;have a : k < f.blocks[i].ops.length:=(by omega);have e : f.blocks[i].ops.drop k = f.blocks[i].ops[k] :: f.blocks[i].ops.drop (k + 1):=yg a;obtain ⟨h,p1⟩:=hd _ (yt b) _ (yt a);have g : (0 ≤ f.blocks[i].ops[k].dst) = True:=eq_true h;have c : (f.blocks[i].ops[k].dst < 1024) = True:=eq_true p1;obtain ⟨f1,_,f3⟩:=zGP (O:=O) lo lb lm (k:=f.blocks[i].ops[k].dst.toNat) (by omega);have f3:=f3 f.blocks[i].ops[k];have j:=(hf.block _ (yt b)).ops;have:=ih (k + 1) (O.set f.blocks[i].ops[k].dst.toNat f.blocks[i].ops[k]) vU vU vU vU (by rw [yb,lo]) (by omega) (by omega);rw [xl zdb rfl,zfb,e,znk];simp -implicitDefEqProofs only [go_sem] at this f3;simp -implicitDefEqProofs only [go_sem,ilt b,zy b,rb,ilt a,zy a,ro,yq,g,c,f1,f3,znd,za a j,this]
theorem zHi : ∀ (d i : Nat) (O : List POp) (a0 a2 a5 a6 a7 : V),O.length = 1024 → f.blocks.length - i = d → i ≤ f.blocks.length →
  exec T zbu ⟨[a0,.one (.ptr 0 0 0 0),a2,.one (.ptr 1 0 0 0),vI i,a5,a6,a7],[.cells 0 3 [zcz f],.cells 0 9216 [FC O Bf Mf]],0,2⟩ =
   some (.exit 0,⟨[vU,vU,vU,.one (.ptr 1 0 0 0),vU,vU,vU,vU],[.cells 0 3 [zcz f],.cells 0 9216 [FC (zfq O (f.blocks.drop i)) Bf Mf]],0,2⟩):=by
 intro d
 induction d with
 | zero =>
   intro i O a0 a2 a5 a6 a7 lo c g;have e : i = f.blocks.length:=(by omega);rw [xl zbu rfl,zfl,e];simp -implicitDefEqProofs only [go_sem,yq,yw,yC,zfq,znd]
 | succ d ih =>
   intro i O a0 a2 a5 a6 a7 lo c g;have a : i < f.blocks.length:=(by omega);have b : f.blocks.drop i = f.blocks[i] :: f.blocks.drop (i + 1):=yg a;have q:=fun a0 a2 a6 a7 => zHn f hf hd Bf Mf lb lm i a f.blocks[i].ops.length 0 O a0 a2 a6 a7 lo (by omega) (by omega);simp only [yx,yo] at q;have:=ih (i + 1) (znk O f.blocks[i].ops) vU vU vU vU vU (by rw [zlp,lo]) (by omega) (by omega);rw [xl zbu rfl,zfl,b,zfq];simp -implicitDefEqProofs only [go_sem] at this q;simp -implicitDefEqProofs only [go_sem,ilt a,zy a,rb,yq,q,znd,za a hf.blocks,this]
end
def zwN : Go.A.Code:=zB.body.p1
def zFx : Go.A.Code:=zB.body.p2.p1
def zw4 : Go.A.Code:=zB.body.p2.p2
theorem zE7 : zB.body = .seq zwN (.seq zFx zw4):=rfl
def zIs : List C:=(yc 1024 [C.f (.lit (.int .i64 0)),.f (.lit (.int .i64 0)),.f (.lit (.int .i64 0)),.f (.lit (.int .i64 0)),.f (.sl []),.f (.lit (.int .u64 0))]).flatten ++ (yc 1024 [C.f (.lit (.bool false))]).flatten ++ (yc 1024 [C.f (.sl []),.f (.lit (.int .u64 0))]).flatten
theorem zz7 : zFx = .reg [q (.bld zIs [] []),q (.box 9216 (.l 0)),w 3 (.mv (.l 0))]:=rfl
theorem zyX : zwN = .reg [w 1 (.box 3 (.s 0)),w 2 (.mv (.c (.one (.f (.lit (.pointer none))))))]:=rfl
theorem zzy : zw4 = .seq (.seq (.reg [w 4 (.mv (i 0))]) (.block 0 zbu)) (.seq (.reg [q (.mv (.s 3)),q (.bld [.f (.lit (.int .i64 0)),.f (.lit (.int .i64 0)),.f (.lit (.int .i64 0)),.f (.lit (.int .i64 0)),.f (.sl []),.f (.lit (.int .u64 0))] [] []),q (.nil (.l 1)),q (.fa 0 (.l 0)),q (.iaa 1024 6 (.l 0) (i 0)),e (.st 6 (.l 0) (.l 3))]) (.seq (.reg [q (.mv (.s 3)),w 2 (.mv (.l 0))]) (.ret [false,false,true,false,false,false,false,false]))):=rfl
theorem zGK : zIs = FC (yc 1024 zop) (yc 1024 false) (yc 1024 zj0):=by
 unfold zIs FC;rw [ye];simp only [List.flatMap_def,List.map_replicate];rfl
theorem zFN (Z : List C) (O : List POp) (B : List Bool) (M : List zao) (b : Z = FC O B M) (lo : O.length = 1024) (lb : B.length = 1024) (lm : M.length = 1024) (X : Ob) (a0 a2 a3 a4 a5 a6 a7 : V) :
  exec T (.reg [q (.bld Z [] []),q (.box 9216 (.l 0)),w 3 (.mv (.l 0))]) ⟨[a0,.one (.ptr 0 0 0 0),a2,a3,a4,a5,a6,a7],[X],0,2⟩ =
   some (.normal,⟨[a0,.one (.ptr 0 0 0 0),a2,.one (.ptr 1 0 0 0),a4,a5,a6,a7],[X,.cells 0 9216 [FC O B M]],0,2⟩):=by
 subst b;have a:=zHt lo lb lm;have c:=zHL O B M;simp -implicitDefEqProofs only [go_sem,a,c]
theorem zET (f : PFunc) (hf : okF f) (hd : zEW f) : call T 86 [zfg f] [] = some (.one (.ptr 1 0 0 0),[.cells 0 3 [zcz f],.cells 0 9216 [FC (zFQ f) (yc 1024 false) (yc 1024 zj0)]]):=by
 rw [ze (fn:=zB) rfl,if_pos (show [zfg f].length = zB.np from rfl),zE7];have c : (yc 1024 zop).length = 1024:=yh;have d : (yc 1024 false).length = 1024:=yh;have e : (yc 1024 zj0).length = 1024:=yh;have e1:=zFN zIs _ _ _ zGK c d e (.cells 0 3 [zcz f]) (zfg f) (.one (.f (.lit (.pointer none)))) vU vU vU vU vU;have h:=fun a0 a2 a5 a6 a7 => zHi f hf hd _ _ d e f.blocks.length 0 _ a0 a2 a5 a6 a7 c (by omega) (by omega);have g:=(zGP (O:=zfq (yc 1024 zop) f.blocks) (by rw [zjK,c]) d e (k:=0) (by omega));have b:=g.1;have a:=g.2.2 zop;have en : (zfq (yc 1024 zop) f.blocks).set 0 zop = zFQ f:=rfl;rw [en] at a;generalize yc 1024 zop = Oz at *;generalize yc 1024 false = Bz at *;generalize yc 1024 zj0 = Mz at *;simp only [yx,yo] at h;rw [← zz7] at e1
 have e0 : exec T zwN (enter zB [zfg f] []) = some (.normal,⟨[zfg f,.one (.ptr 0 0 0 0),.one (.f (.lit (.pointer none))),vU,vU,vU,vU,vU],[.cells 0 3 [zcz f]],0,2⟩):=by
  rw [zyX,show enter zB [zfg f] [] = ⟨[zfg f,vU,vU,vU,vU,vU,vU,vU],[],0,2⟩ from rfl];simp -implicitDefEqProofs only [go_sem]
 rw [zdI,e0];simp only [yD,zri];rw [zdI,e1];simp only [yD,zri]
 have e2 : exec T zw4 ⟨[zfg f,.one (.ptr 0 0 0 0),.one (.f (.lit (.pointer none))),.one (.ptr 1 0 0 0),vU,vU,vU,vU],[.cells 0 3 [zcz f],.cells 0 9216 [FC Oz Bz Mz]],0,2⟩ = some (.ret,⟨[vU,vU,.one (.ptr 1 0 0 0),vU,vU,vU,vU,vU],[.cells 0 3 [zcz f],.cells 0 9216 [FC (zFQ f) Bz Mz]],0,2⟩):=by
  simp -implicitDefEqProofs only [go_sem] at h b a;rw [zzy];simp -implicitDefEqProofs only [go_sem,h,b,a,znd]
 rw [e2];simp -implicitDefEqProofs only [go_sem,znd,show zB.raw = false from rfl,show zB.results = [(2,none)] from rfl]
end AC

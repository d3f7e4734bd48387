/- A part of the proof of SchedFlat. Conditions: none. -/
import Derived.Test.YtmkncmffaaninaaGreatFAZ
import Derived.Test.YtmkncmffaaninaaGreatFAX
import Derived.Test.YtmkncmffaaninaaGreatFBA
import Derived.Test.YtmkncmffaaninaaGreatFAY
set_option linter.all false
open List renaming length_map → ya,getD_eq_getElem?_getD → yd,getElem?_eq_getElem → ye,getElem?_eq_none → yf,drop_eq_getElem_cons → yg,mem_cons_self → yh,pairwise_cons → yi,mem_cons_of_mem → yl,mem_cons → ym,drop_length → yo,ext_getElem? → yp,drop_zero → yq,getElem?_set_self → yr,getElem_mem → ys,length_append → yt,replicate → yu,append_assoc → yv,getElem?_replicate → yw,take_of_length_le → yx,length_cons → yy,singleton_append → yz,getElem?_set_ne → yA,length_nil → yB,mem_singleton → yD,all_cons → yE,any_eq_false → yG,append_nil → yI,nil_append → yJ,length → yM,all_nil → yQ,map_set → yR,map → yS,range → yT
open Int renaming natCast_nonneg → yb,toNat_natCast → yc,natCast_zero → yk,lt_irrefl → yn
open Bool renaming false_eq_true → yj,not_not → yH,or_eq_true → yK,false_or → yP
open Nat renaming add_sub_cancel → yC,zero_add → yF,add_assoc → yL,add_comm → yN,add_zero → yO
namespace AC
open Go Go.A Go.A.Lex
def apT (t : Nat) : Nat → List (List Int) → List (List C)
 | _,[] => []
 | q,l :: r => [.ap t q (l.map ri)] :: apT t (q + 1) r
theorem zkA (t : Nat) : ∀ (out : List (List Int)) (q : Nat),(apT t q out).length = out.length
 | [],_ => rfl
 | l :: r,q => by simp [apT,zkA t r (q + 1)]
theorem zvj (t : Nat) : ∀ (out : List (List Int)) (q k : Nat) (h : k < out.length),(apT t q out)[k]? = some [.ap t (q + k) (out[k].map ri)]
 | [],_,_,h => by simp at h
 | l :: r,q,0,_ => by simp [apT]
 | l :: r,q,k + 1,h => by
   simp only [apT,List.getElem?_cons_succ,List.getElem_cons_succ];rw [zvj t r (q + 1) k (by simpa using h),yL,yN 1 k]
theorem zyD (t : Nat) : ∀ (out : List (List Int)) (q k : Nat) (l : List Int),(apT t q out).set k [.ap t (q + k) (l.map ri)] = apT t q (out.set k l)
 | [],_,_,_ => rfl
 | x :: r,q,0,l => by simp [apT]
 | x :: r,q,k + 1,l => by
   simp only [apT,List.set_cons_succ];rw [← zyD t r (q + 1) k l,yL,yN 1 k]
theorem zyS (t : Nat) : ∀ (out : List (List Int)) (q : Nat),zaf (apT t q out) = some (out.map rl)
 | [],_ => rfl
 | x :: r,q => by simp [apT,zaf,zdR,ztr,zfF,zyS t r (q + 1),rl]
theorem zDA (t n : Nat) : (yT n).map (nest t [.f (.sl [])] 0) = apT t 0 (yu n []):=by
 apply yp;intro k
 by_cases a : k < n
 ·rw [zvj _ _ _ _ (by simpa using a)]
  simp [a,nest]
 ·rw [yf (by simp; omega),yf (by rw [zkA]; simp; omega)]
def zhH (i : Int) : Nat → List (List Int) → List Int
 | _,[] => []
 | k,l :: r => if i ∈ l then (k : Int) :: zhH i (k + 1) r else zhH i (k + 1) r
def zhw (l : List Int) (k : Nat) : Int:=if k = 0 then -1 else l.getD (k - 1) (-1)
section
variable (succ : List (List Int)) (hn1 : 1 ≤ succ.length) (hn : succ.length ≤ 64) (hl : ∀ l ∈ succ,l.length ≤ 4294967296)
abbrev sM1 : zd:=[.cells 0 2 [[.f (.sl []),.f (.sl [])]]]
include hn hl
theorem zBv (i : Nat) (m : i < succ.length) : ∀ (d k : Nat) (a2 a6 a7 a8 a9 l o p h g n : V),succ[i].length - k = d → k ≤ succ[i].length → -1 ≤ zhw succ[i] k →
  exec T zcm ⟨[vLs succ,.one (.ptr 0 0 0 0),a2,vI succ.length,vI i,vI k,a6,a7,a8,a9,l,o,p,h,g,n],sM1,0,0⟩ =
   some (if zP succ.length (zhw succ[i] k) (succ[i].drop k) = true then (.exit 2,⟨[vLs succ,.one (.ptr 0 0 0 0),vU,vI succ.length,vI i,vU,vU,vU,vU,vU,vU,vU,vU,vU,vU,vU],sM1,0,0⟩)
    else (.ret,⟨[vU,.one (.ptr 0 0 0 0),vI 5,vU,vU,vU,vU,vU,vU,vU,vU,vU,vU,vU,vU,vU],sM1,0,0⟩)):=by
 intro d
 induction d with
 | zero =>
   intro k a2 a6 a7 a8 a9 l o p h g n B z hm;have f : k = succ[i].length:=(by omega);subst f;rw [xl zcm rfl,zet];simp -implicitDefEqProofs only [go_sem,zm m,rl,yn,ya,yo,zP,yb,yc]
 | succ d ih =>
   intro k a2 a6 a7 a8 a9 l o p h g n B z hm;have f : k < succ[i].length:=(by omega);have s:=hl _ (ys m);have hd : succ[i].drop k = succ[i][k] :: succ[i].drop (k + 1):=yg f
   have a : zhw succ[i] (k + 1) = succ[i][k]:=by
    unfold zhw;rw [if_neg (by omega),yC,yd,ye f];rfl
   have q:=zm (r:=ri) f;obtain ⟨x,u⟩ : ∃ x,x = succ[i][k]:=⟨_,rfl⟩;rw [← u] at q a;rw [xl zcm rfl,zet,hd,zP,← u]
   by_cases c1 : x < 0
   ·have e : x ≤ zhw succ[i] k ∨ (succ.length : Int) ≤ x:=.inl (by omega)
    rw [if_pos e];simp -implicitDefEqProofs only [go_sem,zm m,rl,ilt f,q,ri,ya,eq_true c1,yb,yc]
   by_cases c2 : (succ.length : Int) ≤ x
   ·have e : x ≤ zhw succ[i] k ∨ (succ.length : Int) ≤ x:=.inr c2
    have c : x ≥ (succ.length : Int):=c2;rw [if_pos e];simp -implicitDefEqProofs only [go_sem,zm m,rl,ilt f,q,ri,ya,c1,eq_true c,yb,yc]
   have c : ¬ x ≥ (succ.length : Int):=c2
   by_cases A : k = 0
   ·subst A
    have e : ¬ (x ≤ zhw succ[i] 0 ∨ (succ.length : Int) ≤ x):=by
     have : zhw succ[i] 0 = -1:=rfl;omega
    have:=ih 1 vU vU vU vU vU vU vU vU vU vU vU (by omega) (by omega) (by rw [show (1 : Nat) = 0 + 1 from rfl,a]; omega);rw [show (1 : Nat) = 0 + 1 from rfl,a] at this;have w0:=za f s;have z0 : ¬ ((0 : Int) > 0):=(by omega);have t : (0 : Int) < (succ[i].length : Int):=(by omega);simp -implicitDefEqProofs only [go_sem] at this;rw [if_neg e];simp -implicitDefEqProofs only [go_sem,yk,zm m,rl,eq_true t,q,ri,ya,c1,c,z0,yb,yc,w0];exact this
   ·obtain ⟨j,rfl⟩ : ∃ j,k = j + 1:=⟨k - 1,by omega⟩
    have v : j < succ[i].length:=(by omega);have w:=zm (r:=ri) v
    have b : zhw succ[i] (j + 1) = succ[i][j]:=by
     unfold zhw;rw [if_neg (by omega),yC,yd,ye v];rfl
    have y : Go.IntKind.i64.wrap (((j + 1 : Nat) : Int) - 1) = (j : Int):=by
     rw [show ((j + 1 : Nat) : Int) - 1 = (j : Int) by omega,wrap_i64] <;> omega
    have z0 : ((j + 1 : Nat) : Int) > 0:=by omega
    by_cases c3 : x ≤ succ[i][j]
    ·have e : x ≤ zhw succ[i] (j + 1) ∨ (succ.length : Int) ≤ x:=.inl (by rw [b]; exact c3)
     rw [if_pos e];simp -implicitDefEqProofs only [go_sem,zm m,rl,ilt f,q,w,ri,ya,c1,c,eq_true z0,y,eq_true c3,yb,yc]
    ·have e : ¬ (x ≤ zhw succ[i] (j + 1) ∨ (succ.length : Int) ≤ x):=by rw [b]; omega
     have:=ih (j + 1 + 1) vU vU vU vU vU vU vU vU vU vU vU (by omega) (by omega) (by rw [a]; omega);rw [a] at this;simp -implicitDefEqProofs only [go_sem] at this;rw [if_neg e];simp -implicitDefEqProofs only [go_sem,zm m,rl,ilt f,q,w,ri,ya,c1,c,eq_true z0,y,c3,yb,yc,za f s,this]
theorem zCg : ∀ (d k : Nat) (a2 a5 a6 a7 a8 a9 e g h b a f : V),succ.length - k = d → k ≤ succ.length →
  exec T zcw ⟨[vLs succ,.one (.ptr 0 0 0 0),a2,vI succ.length,vI k,a5,a6,a7,a8,a9,e,g,h,b,a,f],sM1,0,0⟩ =
   some (if (succ.drop k).all (fun l => rising l succ.length) = true then (.exit 0,⟨[vLs succ,.one (.ptr 0 0 0 0),vU,vI succ.length,vU,vU,vU,vU,vU,vU,vU,vU,vU,vU,vU,vU],sM1,0,0⟩)
    else (.ret,⟨[vU,.one (.ptr 0 0 0 0),vI 5,vU,vU,vU,vU,vU,vU,vU,vU,vU,vU,vU,vU,vU],sM1,0,0⟩)):=by
 intro d
 induction d with
 | zero =>
   intro k a2 a5 a6 a7 a8 a9 e g h b a f o m;have i : k = succ.length:=(by omega);subst i;rw [xl zcw rfl,zea];simp -implicitDefEqProofs only [go_sem,yn,yo,yQ]
 | succ d ih =>
   intro k a2 a5 a6 a7 a8 a9 e g h b a f o m;have i : k < succ.length:=(by omega);have hd : succ.drop k = succ[k] :: succ.drop (k + 1):=yg i;have j:=fun a2 a6 a7 a8 a9 e g h b a f => zBv succ hn hl k i succ[k].length 0 a2 a6 a7 a8 a9 e g h b a f (by omega) (by omega) (by simp [zhw]);have n : zhw succ[k] 0 = -1:=rfl;simp only [yk,yq,n] at j;have:=ih (k + 1) vU vU vU vU vU vU vU vU vU vU vU vU (by omega) (by omega);rw [xl zcw rfl,zea,hd,yE,rising];simp -implicitDefEqProofs only [go_sem] at this;cases c : zP succ.length (-1) succ[k]
   ·simp -implicitDefEqProofs only [go_sem,c] at j
    simp -implicitDefEqProofs only [go_sem,ilt i,j]
   ·simp -implicitDefEqProofs only [go_sem,c] at j
    simp -implicitDefEqProofs only [go_sem,ilt i,j,za i (show succ.length ≤ 4294967296 by omega),this]
abbrev sM4 (out : List (List Int)) : zd:=[.cells 0 2 [[.f (.sl []),.f (.sl [])]],.tok 1 (out.map yM),.cells 0 1 (apT 1 0 out),.cells 0 2 [[.f (.sl (succ.map rl)),.own 2 0 0 succ.length]]]
theorem zBI (i : Nat) (B : i < succ.length) : ∀ (d k : Nat) (out : List (List Int)) (r : List Int) (a2 a4 a5 a9 f l n e b h : V),succ.length - k = d → k ≤ succ.length → out.length = succ.length → out[i]? = some r → r.length ≤ k →
  exec T zci ⟨[vLs succ,.one (.ptr 0 0 0 0),a2,vI succ.length,a4,a5,.one (.ptr 3 0 0 0),vI i,vI k,a9,f,l,n,e,b,h],sM4 succ out,0,0⟩ =
   some (.exit 6,⟨[vLs succ,.one (.ptr 0 0 0 0),vU,vI succ.length,vU,vU,.one (.ptr 3 0 0 0),vI i,vU,vU,vU,vU,vU,vU,vU,vU],sM4 succ (out.set i (r ++ zhH i k (succ.drop k))),0,0⟩):=by
 intro d
 induction d with
 | zero =>
   intro k out r a2 a4 a5 a9 f l n e b h A z v o w;have a : k = succ.length:=(by omega);subst a
   have q : out.set i r = out:=by
    apply yp;intro j
    by_cases c : i = j
    ·subst c; rw [yr (by omega),o]
    ·rw [yA c]
   rw [xl zci rfl,zes];simp -implicitDefEqProofs only [go_sem,sM4,yn,yo,zhH,yI,q]
 | succ d ih =>
   intro k out r a2 a4 a5 a9 f l n e b h A z v o w;have a : k < succ.length:=(by omega);have hd : succ.drop k = succ[k] :: succ.drop (k + 1):=yg a;have s:=zlR succ[k] (i : Int) (hl _ (ys a));rw [xl zci rfl,zes,hd,zhH]
   by_cases c : (i : Int) ∈ succ[k]
   ·have g : i < out.length:=by omega
    have u : out[i] = r:=by
     rw [ye g] at o;injection o
    have t:=zvj 1 out 0 i g;have q:=fun m => zyD 1 out 0 i m;simp only [yF] at t q;rw [u] at t;have y : (out.map yM)[i]? = some r.length:=(by simp [o]);have p : r.length + 1 ≤ LIM:=(by unfold LIM; omega);have x : ((i : Int) < (succ.length : Int)) = True:=(by simp; omega);have:=ih (k + 1) (out.set i (r ++ [(k : Int)])) (r ++ [(k : Int)]) vU vU vU vU vU vU vU vU vU vU (by omega) (by omega) (by simpa using v) (by rw [yr g]) (by simp; omega);have e1 : yS ri r ++ [[Fz.lit (Value.int .i64 (k : Int))]] = yS ri (r ++ [(k : Int)]):=(by simp [ri]);rw [List.set_set,yv,yz] at this;simp -implicitDefEqProofs only [go_sem,decide_eq_true c] at s;simp -implicitDefEqProofs only [go_sem,sM4,yR,yt,yy,yB,yF] at this;simp -implicitDefEqProofs only [go_sem,sM4,ilt a,zm a,rl,s,c,t,y,p,x,e1,q,yb,yc,ya,za a (show succ.length ≤ 4294967296 by omega),yR,zkA,this]
   ·have:=ih (k + 1) out r vU vU vU vU vU vU vU vU vU vU (by omega) (by omega) v o (by omega)
    simp -implicitDefEqProofs only [go_sem,decide_eq_false c] at s;simp -implicitDefEqProofs only [go_sem,sM4] at this;simp -implicitDefEqProofs only [go_sem,sM4,ilt a,zm a,rl,s,c,ya,za a (show succ.length ≤ 4294967296 by omega),this]
def zxG (k : Nat) : List (List Int):=(yT succ.length).map fun i => if i < k then zhH (i : Int) 0 succ else []
omit hn hl in
theorem zfR (k : Nat) : (zxG succ k).length = succ.length:=by simp [zxG]
omit hn hl in
theorem zmw (k i : Nat) (h : i < succ.length) : (zxG succ k)[i]? = some (if i < k then zhH (i : Int) 0 succ else []):=by simp [zxG,h]
omit hn hl in
theorem ztS : zxG succ 0 = yu succ.length []:=by
 apply yp;intro j
 by_cases c : j < succ.length
 ·rw [zmw succ 0 j c]; simp [c]
 ·rw [yf (by rw [zfR]; omega),yf (by simp; omega)]
omit hn hl in
theorem zA9 (k : Nat) (h : k < succ.length) : (zxG succ k).set k (zhH (k : Int) 0 succ) = zxG succ (k + 1):=by
 apply yp;intro j
 by_cases c : j < succ.length
 ·rw [zmw succ (k + 1) j c]
  by_cases e : k = j
  ·subst e
   rw [yr (by rw [zfR]; exact h),if_pos (by omega)]
  ·rw [yA e,zmw succ k j c]
   by_cases f : j < k
   ·rw [if_pos f,if_pos (by omega)]
   ·rw [if_neg f,if_neg (by omega)]
 ·rw [yf (by rw [List.length_set,zfR]; omega),yf (by rw [zfR]; omega)]
theorem zCc : ∀ (d k : Nat) (a2 a4 a5 a8 a9 g e f c b a : V),succ.length - k = d → k ≤ succ.length →
  exec T zb8 ⟨[vLs succ,.one (.ptr 0 0 0 0),a2,vI succ.length,a4,a5,.one (.ptr 3 0 0 0),vI k,a8,a9,g,e,f,c,b,a],sM4 succ (zxG succ k),0,0⟩ =
   some (.exit 4,⟨[vU,.one (.ptr 0 0 0 0),vU,vU,vU,vU,.one (.ptr 3 0 0 0),vU,vU,vU,vU,vU,vU,vU,vU,vU],sM4 succ (zxG succ succ.length),0,0⟩):=by
 intro d
 induction d with
 | zero =>
   intro k a2 a4 a5 a8 a9 g e f c b a j l;have h : k = succ.length:=(by omega);subst h;rw [xl zb8 rfl,zen];simp -implicitDefEqProofs only [go_sem,sM4,yn]
 | succ d ih =>
   intro k a2 a4 a5 a8 a9 g e f c b a j l;have h : k < succ.length:=(by omega);have i:=fun a2 a4 a5 a9 g e f c b a => zBI succ hn hl k h succ.length 0 (zxG succ k) [] a2 a4 a5 a9 g e f c b a (by omega) (by omega) (zfR succ k) (by rw [zmw succ k k h,if_neg (by omega)]) (by simp);simp only [yk,yq,yJ,zA9 succ k h] at i;have:=ih (k + 1) vU vU vU vU vU vU vU vU vU vU vU (by omega) (by omega);rw [xl zb8 rfl,zen];simp -implicitDefEqProofs only [go_sem,sM4] at i this;simp -implicitDefEqProofs only [go_sem,sM4,ilt h,i,za h (show succ.length ≤ 4294967296 by omega),this]
end
theorem zpt : ∀ {a b : List Int},a.Pairwise (· < ·) → b.Pairwise (· < ·) → (∀ x,x ∈ a ↔ x ∈ b) → a = b
 | [],[],_,_,_ => rfl
 | [],y :: b,_,_,h => by have:=(h y).2 yh; simp at this
 | x :: a,[],_,_,h => by have:=(h x).1 yh; simp at this
 | x :: a,y :: b,ha,hb,h => by
   rw [yi] at ha hb
   have d : x = y:=by
    have f:=(h x).1 yh;have g:=(h y).2 yh;rcases ym.1 f with e | e
    ·exact e
    ·rcases ym.1 g with e2 | e2
     ·exact e2.symm
     ·have:=hb.1 x e
      have:=ha.1 y e2;omega
   subst d;rw [zpt ha.2 hb.2 fun z => ?_];constructor
   ·intro c
    rcases ym.1 ((h z).1 (yl _ c)) with e | e
    ·subst e
     have:=ha.1 z c;omega
    ·exact e
   ·intro c
    rcases ym.1 ((h z).2 (yl _ c)) with e | e
    ·subst e
     have:=hb.1 z c;omega
    ·exact e
theorem zne (i y : Int) : ∀ (r : List (List Int)) (k : Nat),y ∈ zhH i k r ↔ ∃ j l,r[j]? = some l ∧ y = ((k + j : Nat) : Int) ∧ i ∈ l
 | [],k => by simp [zhH]
 | l :: r,k => by
   rw [zhH];have f:=zne i y r (k + 1);constructor
   ·intro h
    split at h
    ·rename_i c
     rcases ym.1 h with e | h
     ·exact ⟨0,l,rfl,by rw [e,yO],c⟩
     ·obtain ⟨j,q,a,d,b⟩:=f.1 h
      exact ⟨j + 1,q,by simpa using a,by rw [d]; congr 1; omega,b⟩
    ·obtain ⟨j,q,a,d,b⟩:=f.1 h
     exact ⟨j + 1,q,by simpa using a,by rw [d]; congr 1; omega,b⟩
   ·rintro ⟨j,q,a,d,b⟩
    cases j with
    | zero =>
      simp only [List.getElem?_cons_zero,Option.some.injEq] at a;subst a;rw [if_pos b];exact ym.2 (.inl (by rw [d,yO]))
    | succ j =>
      have:=f.2 ⟨j,q,by simpa using a,by rw [d]; congr 1; omega,b⟩;split
      ·exact yl _ this
      ·exact this
theorem zl8 (i : Int) : ∀ (r : List (List Int)) (k : Nat),(zhH i k r).Pairwise (· < ·)
 | [],_ => by simp [zhH]
 | l :: r,k => by
   have a:=zl8 i r (k + 1);rw [zhH];split
   ·rw [yi]
    refine ⟨fun y b => ?_,a⟩;obtain ⟨j,q,c,e,d⟩:=(zne i y r (k + 1)).1 b;omega
   ·exact a
theorem zmy {n : Int} : ∀ {l : List Int} {last : Int},zP n last l = true → l.Pairwise (· < ·)
 | [],_,_ => by simp
 | y :: r,last,h => by
   simp only [zP] at h;split at h
   ·cases h
   ·rw [yi]
    exact ⟨fun x a => (zpU h x a).1,zmy h⟩
theorem znX (i : Int) : ∀ (l : List Int) (out : List (List Int)),(∀ x ∈ l,0 ≤ x ∧ x < (out.length : Int)) → l.Pairwise (· < ·) →
  (∀ (X : Nat),X < out.length → ∀ y ∈ out.getD X [],y < i ∨ (y = i ∧ (X : Int) ∉ l)) → (∀ (X : Nat),X < out.length → (out.getD X []).Pairwise (· < ·)) →
  ∀ (X : Nat),X < out.length → ((l.foldl (zs4 i) out).getD X []).Pairwise (· < ·)
 | [],out,_,_,_,h => h
 | x :: l,out,hx,hl,h1,h2 => by
   rw [List.foldl_cons];have f:=hx x yh;rw [yi] at hl;have g : x ∉ l:=fun h => by have:=hl.1 x h; omega
   have:=znX i l (zs4 i out x) (fun y e => by rw [zfT]; exact hx y (yl _ e)) hl.2 (fun X d y e => ?_) (fun X d => ?_)
   ·rw [zfT] at this
    exact this
   ·rw [zfT] at d
    rw [zsH i out x X f.1 d] at e;split at e
    ·rename_i c
     rcases List.mem_append.1 e with e | e
     ·rcases h1 X d y e with h | ⟨_,h⟩
      ·exact .inl h
      ·exact absurd (by rw [← c]; exact yh) h
     ·exact .inr ⟨yD.1 e,by rw [← c]; exact g⟩
    ·rcases h1 X d y e with h | ⟨h,k⟩
     ·exact .inl h
     ·exact .inr ⟨h,fun hm => k (yl _ hm)⟩
   ·rw [zfT] at d
    rw [zsH i out x X f.1 d];split
    ·rename_i c
     rw [List.pairwise_append];refine ⟨h2 X d,by simp,fun a j b m => ?_⟩;rw [yD.1 m];rcases h1 X d a j with h | ⟨_,h⟩
     ·exact h
     ·exact absurd (by rw [← c]; exact yh) h
    ·exact h2 X d
theorem zjg (N : Nat) : ∀ (l : List (List Int)) (i : Nat) (out : List (List Int)),out.length = N → (∀ r ∈ l,(∀ x ∈ r,0 ≤ x ∧ x < (N : Int)) ∧ r.Pairwise (· < ·)) →
  (∀ (X : Nat),X < N → ∀ y ∈ out.getD X [],y < (i : Int)) → (∀ (X : Nat),X < N → (out.getD X []).Pairwise (· < ·)) →
  ∀ (X : Nat),X < N → ((za7 i l out).getD X []).Pairwise (· < ·)
 | [],_,_,_,_,_,h => h
 | r :: l,i,out,ho,hl,h1,h2 => by
   rw [za7];subst ho;have b:=hl r yh;refine zjg _ l (i + 1) _ (zge _ _ _) (fun q e => hl q (yl _ e)) (fun X a y c => ?_) (znX i r out b.1 b.2 (fun X a y c => .inl (h1 X a y c)) h2);rcases (zo2 (i : Int) X y r out (fun x d => (b.1 x d).1) a).1 c with h | h
   ·have:=h1 X a y h
    omega
   ·omega
theorem zxc {succ : List (List Int)} (h : zbk succ = true) : zxG succ succ.length = zN succ:=by
 obtain ⟨t,n64,m⟩:=zez h
 have d : ∀ l ∈ succ,zP succ.length (-1) l = true:=fun l hl => by
  unfold zbk at h;simp only [Bool.not_eq_true',Bool.or_eq_false_iff,decide_eq_false_iff_not,yG] at h;have b : rising l succ.length = true:=by simpa using h.2.2 l hl
  exact b
 apply yp;intro j
 by_cases c : j < succ.length
 ·rw [zmw succ _ j c,if_pos c]
  have a : j < (zN succ).length:=by rw [zcq]; exact c
  rw [ye a]
  congr 1
  have e : (zN succ)[j] = (zN succ).getD j []:=by rw [yd,ye a]; rfl
  rw [e]
  have p : ((zN succ).getD j []).Pairwise (· < ·):=zjg succ.length succ 0 _ (by simp) (fun r f => ⟨m r f,zmy (d r f)⟩) (fun X i y o => by
   rw [yd,yw,if_pos i] at o
   simp at o) (fun X i => by
   rw [yd,yw,if_pos i]
   simp) j c
  refine zpt (zl8 _ _ _) p fun y => ?_;have n:=zmK m (x:=(j : Int)) ⟨by omega,by omega⟩ y;rw [yc] at n;rw [n,zne];constructor
  ·rintro ⟨k,l,g,q,b⟩
   have s:=(List.getElem?_eq_some_iff.1 g).1;refine ⟨by omega,by omega,?_⟩;rw [show y.toNat = k by omega,yd,g];exact b
  ·rintro ⟨g,q,b⟩
   have a : y.toNat < succ.length:=(by omega);rw [yd,ye a] at b;exact ⟨y.toNat,succ[y.toNat],ye a,by omega,b⟩
 ·rw [yf (by rw [zfR]; omega),yf (by rw [zcq]; omega)]
theorem zBt {succ : List (List Int)} (a : 1 ≤ succ.length) (b : succ.length ≤ 64) : zbk succ = succ.all fun l => rising l succ.length:=by
 unfold zbk;rw [decide_eq_false (by omega),decide_eq_false (by omega),yP,yP]
 induction succ.length generalizing succ <;> rw [List.not_any_eq_all_not] <;> simp
theorem znF (succ : List (List Int)) (p : zjV succ) : call T 129 [vLs succ] [] = some (zkf succ,[]):=by
 rw [ze (fn:=zaA) rfl]
 by_cases c1 : succ.length < 1
 ·have a : (succ.length : Int) = 0:=by omega
  simp -implicitDefEqProofs only [go_sem,zaA,zkf,zbk,c1,eq_true a,ya]
 have a : ¬ (succ.length : Int) = 0:=by omega
 by_cases c2 : 64 < succ.length
 ·have b : (succ.length : Int) > 64:=by omega
  simp -implicitDefEqProofs only [go_sem,zaA,zkf,zbk,c1,a,c2,eq_true b,ya]
 have b : ¬ (succ.length : Int) > 64:=by omega
 have m:=zBt (succ:=succ) (by omega) (by omega);have j:=fun a2 a5 a6 a7 a8 a9 e g h d c f => zCg succ (by omega) p.2 succ.length 0 a2 a5 a6 a7 a8 a9 e g h d c f (by omega) (by omega);simp only [yk,yq,← m] at j;cases c3 : zbk succ
 ·simp -implicitDefEqProofs only [go_sem,c3] at j
  simp -implicitDefEqProofs only [go_sem,zaA,zkf,c3,a,b,ya,j]
 ·have n:=fun a2 a4 a5 a8 a9 e g h d c f => zCc succ (by omega) p.2 succ.length 0 a2 a4 a5 a8 a9 e g h d c f (by omega) (by omega)
  have k:=zDA 1 succ.length;have q : (zxG succ 0).map yM = yu succ.length 0:=by rw [ztS,List.map_replicate]; rfl
  have l : apT 1 0 (zxG succ 0) = apT 1 0 (yu succ.length []):=by rw [ztS]
  have i : (succ.length : Int) ≤ (LIM : Int):=by unfold LIM; omega
  have o : zaf ((apT 1 0 (zN succ)).take succ.length) = some ((zN succ).map rl):=by
   rw [yx (by rw [zkA,zcq]; omega),zyS]
  simp only [yk,zxc c3] at n;simp -implicitDefEqProofs only [go_sem,c3] at j;simp -implicitDefEqProofs only [go_sem,sM4,q,l] at n;simp -implicitDefEqProofs only [go_sem,zaA,zkf,c3,a,b,ya,j,i,yb,yc,k,n,o]
def znp (to : List Int) : Nat → Nat → List Int
 | _,0 => []
 | k,d + 1 => if (k : Int) ∈ to then (k : Int) :: znp to (k + 1) d else znp to (k + 1) d
theorem zoK (to : List Int) (y : Int) : ∀ (d k : Nat),y ∈ znp to k d ↔ y ∈ to ∧ (k : Int) ≤ y ∧ y < ((k + d : Nat) : Int)
 | 0,k => by simp [znp]
 | d + 1,k => by
   have g:=zoK to y d (k + 1);rw [znp];split
   ·rename_i c
    rw [ym,g];constructor
    ·rintro (h | ⟨a,f,b⟩)
     ·exact ⟨h ▸ c,by omega,by omega⟩
     ·exact ⟨a,by omega,by omega⟩
    ·rintro ⟨a,f,b⟩
     by_cases e : y = k
     ·exact .inl e
     ·exact .inr ⟨a,by omega,by omega⟩
   ·rename_i c
    rw [g];constructor
    ·rintro ⟨a,f,b⟩
     exact ⟨a,by omega,by omega⟩
    ·rintro ⟨a,f,b⟩
     have e : y ≠ k:=fun e => c (e ▸ a);exact ⟨a,by omega,by omega⟩
theorem znI (to : List Int) : ∀ (d k : Nat),(znp to k d).Pairwise (· < ·)
 | 0,_ => by simp [znp]
 | d + 1,k => by
   have a:=znI to d (k + 1);rw [znp];split
   ·rw [yi]
    refine ⟨fun y b => ?_,a⟩;have:=(zoK to y d (k + 1)).1 b;omega
   ·exact a
theorem zmG : ∀ (l : List Int),l.Pairwise (· ≤ ·) → (zn l).Pairwise (· < ·) ∧ ∀ x,x ∈ zn l ↔ x ∈ l
 | [],_ => by simp [zn]
 | [x],_ => by simp [zn]
 | x :: y :: r,h => by
   rw [yi] at h;obtain ⟨g,f⟩:=zmG (y :: r) h.2;rw [zn];split
   ·rename_i c
    subst c;refine ⟨g,fun z => ?_⟩;rw [f z];simp
   ·rename_i c
    rw [yi];refine ⟨⟨fun z j => ?_,g⟩,fun z => ?_⟩
    ·have d:=(f z).1 j
     have k:=h.1 y yh;have i:=h.1 z d;rcases ym.1 d with e | e
     ·omega
     ·have:=(yi.1 h.2).1 z e
      omega
    ·rw [ym,f z,ym (a:=z) (b:=x)]
theorem zuy (l : List Int) : (zcc l).Pairwise (· ≤ ·) ∧ ∀ x,x ∈ zcc l ↔ x ∈ l:=by
 have d : (zcc l).Pairwise (fun a b => decide (a ≤ b) = true):=List.pairwise_mergeSort (fun a b c d e => by simp only [decide_eq_true_eq] at *; omega) (fun a b => by simp only [yK,decide_eq_true_eq]; omega) l;exact ⟨d.imp fun h => by simpa using h,fun x => (List.mergeSort_perm l _).mem_iff⟩
theorem zuB (l : List Int) : (zul l).Pairwise (· < ·) ∧ ∀ x,x ∈ zul l ↔ x ∈ l:=by
 obtain ⟨a,d⟩:=zuy l;obtain ⟨c,b⟩:=zmG _ a;exact ⟨c,fun x => (b x).trans (d x)⟩
theorem zwv {to : List Int} {n : Nat} (hn : 1 ≤ n) (h : to.any (zkT n) = false) : znp to 1 (n - 1) = zul to:=by
 obtain ⟨b,c⟩:=zuB to;refine zpt (znI _ _ _) b fun x => ?_;rw [zoK,c x];constructor
 ·exact fun h => h.1
 ·intro a
  have:=yG.1 h x a;simp only [zkT,yK,decide_eq_true_eq] at this;exact ⟨a,by omega,by omega⟩
section
variable (f : PFunc) (hf : okF f) (hn1 : 1 ≤ f.blocks.length) (hn : f.blocks.length ≤ 64)
abbrev s6 (k : Nat) (r : zd) : zd:=.cells 0 3 [zc4 f] :: .cells 0 2 [[.f (.sl []),.f (.sl [])]] :: .tok 1 [k] :: r
abbrev oE (b : PBlock) : Ob:=.cells 0 3 [[.f (ei b.kind),.f (ei b.arg),.f (eI b.to)]]
include hf hn1 hn
theorem zEK (b : PBlock) (t : okB b) (q i : Nat) (rows : List (List Fz)) : ∀ (d k : Nat) (a0 a3 j m n g c l h o : V),b.to.length - k = d → k ≤ b.to.length →
  exec T zdn ⟨[a0,.one (.ptr 0 0 0 0),.one (.ptr 1 0 0 0),a3,vI f.blocks.length,.one (.ap 2 0 rows),vI i,.one (.ptr 3 0 0 0),.one (.ap 4 0 []),vI k,j,m,n,g,c,l,h,o],s6 f q [oE b,.tok 1 [0]],0,0⟩ =
   some (if (b.to.drop k).any (zkT f.blocks.length) = true then (.ret,⟨[vU,vU,.one (.ptr 1 0 0 0),vI 5,vU,vU,vU,vU,vU,vU,vU,vU,vU,vU,vU,vU,vU,vU],s6 f q [oE b,.tok 1 [0]],0,0⟩)
    else (.exit 2,⟨[vU,.one (.ptr 0 0 0 0),.one (.ptr 1 0 0 0),vU,vI f.blocks.length,.one (.ap 2 0 rows),vI i,.one (.ptr 3 0 0 0),.one (.ap 4 0 []),vU,vU,vU,vU,vU,vU,vU,vU,vU],s6 f q [oE b,.tok 1 [0]],0,0⟩)):=by
 intro d
 induction d with
 | zero =>
   intro k a0 a3 j m n g c l h o v u;have a : k = b.to.length:=(by omega);subst a;rw [xl zdn rfl,zfg];simp -implicitDefEqProofs only [go_sem,s6,oE,yn,ya,yo,List.any_nil,yj]
 | succ d ih =>
   intro k a0 a3 j m n g c l h o v u;have a : k < b.to.length:=(by omega);have hd : b.to.drop k = b.to[k] :: b.to.drop (k + 1):=yg a;have p:=zm (r:=ri) a;obtain ⟨x,s⟩ : ∃ x,x = b.to[k]:=⟨_,rfl⟩;rw [← s] at p;have:=ih (k + 1) vU vU vU vU vU vU vU vU vU vU (by omega) (by omega);rw [xl zdn rfl,zfg,hd,List.any_cons,← s]
   by_cases c1 : x ≤ 0
   ·have e : zkT f.blocks.length x = true:=by simp [zkT]; omega
    simp -implicitDefEqProofs only [go_sem,s6,oE,ilt a,p,ri,ya,eq_true c1,e,yb,yc]
   ·by_cases c2 : x ≥ (f.blocks.length : Int)
    ·have e : zkT f.blocks.length x = true:=by simp [zkT]; omega
     simp -implicitDefEqProofs only [go_sem,s6,oE,ilt a,p,ri,ya,c1,eq_true c2,e,yb,yc]
    ·have e : zkT f.blocks.length x = false:=by simp [zkT]; omega
     simp -implicitDefEqProofs only [go_sem,s6,oE] at this;simp -implicitDefEqProofs only [go_sem,s6,oE,ilt a,p,ri,ya,c1,c2,e,yb,yc,za a t.to,this]
theorem zEs (b : PBlock) (r : okB b) (q i : Nat) (rows : List (List Fz)) : ∀ (d k : Nat) (acc : List Int) (a0 a3 a9 j l e a h g m : V),f.blocks.length - k = d → k ≤ f.blocks.length → acc.length ≤ k →
  exec T zdd ⟨[a0,.one (.ptr 0 0 0 0),.one (.ptr 1 0 0 0),a3,vI f.blocks.length,.one (.ap 2 0 rows),vI i,.one (.ptr 3 0 0 0),.one (.ap 4 0 (acc.map ri)),a9,vI k,j,l,e,a,h,g,m],s6 f q [oE b,.tok 1 [acc.length]],0,0⟩ =
   some (.exit 4,⟨[vU,.one (.ptr 0 0 0 0),.one (.ptr 1 0 0 0),vU,vI f.blocks.length,.one (.ap 2 0 rows),vI i,vU,.one (.ap 4 0 ((acc ++ znp b.to k d).map ri)),vU,vU,vU,vU,vU,vU,vU,vU,vU],s6 f q [oE b,.tok 1 [(acc ++ znp b.to k d).length]],0,0⟩):=by
 intro d
 induction d with
 | zero =>
   intro k acc a0 a3 a9 j l e a h g m u s t;have n : k = f.blocks.length:=(by omega);subst n;rw [xl zdd rfl,zfj];simp -implicitDefEqProofs only [go_sem,s6,oE,yn,znp,yI]
 | succ d ih =>
   intro k acc a0 a3 a9 j l e a h g m u s t;have n : k < f.blocks.length:=(by omega);have p:=zlR b.to (k : Int) r.to;rw [xl zdd rfl,zfj,znp]
   by_cases c : (k : Int) ∈ b.to
   ·have:=ih (k + 1) (acc ++ [(k : Int)]) vU vU vU vU vU vU vU vU vU vU (by omega) (by omega) (by simp; omega)
    have o : acc.length + 1 ≤ LIM:=(by unfold LIM; omega);have e1 : yS ri acc ++ [[Fz.lit (Value.int .i64 (k : Int))]] = yS ri (acc ++ [(k : Int)]):=(by simp [ri]);rw [yv,yz] at this;simp -implicitDefEqProofs only [go_sem,decide_eq_true c] at p;simp -implicitDefEqProofs only [go_sem,s6,oE,yt,yy,yB,yF] at this;simp -implicitDefEqProofs only [go_sem,s6,oE,ilt n,p,c,o,e1,ya,za n (show f.blocks.length ≤ 4294967296 by omega),yt,yy,this]
   ·have:=ih (k + 1) acc vU vU vU vU vU vU vU vU vU vU (by omega) (by omega) (by omega)
    simp -implicitDefEqProofs only [go_sem,decide_eq_false c] at p;simp -implicitDefEqProofs only [go_sem,s6,oE] at this;simp -implicitDefEqProofs only [go_sem,s6,oE,ilt n,p,c,za n (show f.blocks.length ≤ 4294967296 by omega),this]
theorem zE7 : ∀ (d k : Nat),f.blocks.length - k = d → k ≤ f.blocks.length → ∃ r,∀ (a0 a3 a7 a8 a9 n j l c a i g m : V),
  exec T z7 ⟨[a0,.one (.ptr 0 0 0 0),.one (.ptr 1 0 0 0),a3,vI f.blocks.length,.one (.ap 2 0 (((zp f).take k).map rl)),vI k,a7,a8,a9,n,j,l,c,a,i,g,m],s6 f k [],0,0⟩ =
   some (if (f.blocks.drop k).all (ziO f.blocks.length) = true then (.exit 0,⟨[vU,vU,.one (.ptr 1 0 0 0),vU,vU,.one (.ap 2 0 ((zp f).map rl)),vU,vU,vU,vU,vU,vU,vU,vU,vU,vU,vU,vU],s6 f f.blocks.length [],0,0⟩)
    else (.ret,⟨[vU,vU,.one (.ptr 1 0 0 0),vI 5,vU,vU,vU,vU,vU,vU,vU,vU,vU,vU,vU,vU,vU,vU],.cells 0 3 [zc4 f] :: .cells 0 2 [[.f (.sl []),.f (.sl [])]] :: r,0,0⟩)):=by
 intro d
 induction d with
 | zero =>
   intro k H G;have p : k = f.blocks.length:=(by omega);subst p;refine ⟨[],fun a0 a3 a7 a8 a9 n j l c a i g m => ?_⟩;have e : (zp f).take f.blocks.length = zp f:=yx (by simp [zp]);rw [xl z7 rfl,zao];simp -implicitDefEqProofs only [go_sem,s6,yn,yo,yQ,e]
 | succ d ih =>
   intro k H G;have p : k < f.blocks.length:=(by omega);have hd : f.blocks.drop k = f.blocks[k] :: f.blocks.drop (k + 1):=yg p;obtain ⟨b,s⟩ : ∃ b,b = f.blocks[k]:=⟨_,rfl⟩;have z:=hf.block _ (ys p);have t:=zm (r:=rb) p;rw [← s] at z t;obtain ⟨r,E⟩:=ih (k + 1) (by omega) (by omega);have B : k < (zp f).length:=by simp [zp]; omega
   have D : (zp f).take (k + 1) = (zp f).take k ++ [zul b.to]:=by
    rw [List.take_succ_eq_append_getElem B];simp [zp,s]
   have A : (((zp f).take k).map rl).length = k:=(by simp [zp]; omega);have v : k + 1 ≤ LIM:=(by unfold LIM; omega);rw [hd,yE,← s]
   by_cases g0 : b.kind < 0
   ·have e : ziO f.blocks.length b = false:=by
     have : zl4 b.kind = -1:=(by unfold zl4; rw [if_neg (by omega),if_neg (by omega),if_neg (by omega)]);unfold ziO;rw [this,decide_eq_false (by omega)];rfl
    refine ⟨[.tok 1 [k],oE b],fun a0 a3 a7 a8 a9 n j l c a i g m => ?_⟩;rw [xl z7 rfl,zao];simp -implicitDefEqProofs only [go_sem,s6,ilt p,t,rb,ya,yb,yc,eq_true g0,e]
   by_cases y : b.kind > 3
   ·have e : ziO f.blocks.length b = false:=by
     have : zl4 b.kind = -1:=(by unfold zl4; rw [if_neg (by omega),if_neg (by omega),if_neg (by omega)]);unfold ziO;rw [this,decide_eq_false (by omega)];rfl
    refine ⟨[.tok 1 [k],oE b],fun a0 a3 a7 a8 a9 n j l c a i g m => ?_⟩;rw [xl z7 rfl,zao];simp -implicitDefEqProofs only [go_sem,s6,ilt p,t,rb,ya,yb,yc,g0,eq_true y,e]
   have o : [ri 0,ri 1,ri 2,ri 0][b.kind.toNat]? = some (ri (zl4 b.kind)):=by
    have : b.kind = 0 ∨ b.kind = 1 ∨ b.kind = 2 ∨ b.kind = 3:=(by omega);rcases this with h | h | h | h <;> rw [h] <;> rfl
   have q : 0 ≤ b.kind:=by omega
   by_cases w : (b.to.length : Int) = zl4 b.kind
   ·have u:=fun a0 a3 n j l c a i g m => zEK f hf hn1 hn b z k k (((zp f).take k).map rl) b.to.length 0 a0 a3 n j l c a i g m (by omega) (by omega)
    simp only [yk,yq] at u;cases x : b.to.any (zkT f.blocks.length)
    ·have e : ziO f.blocks.length b = true:=by
      unfold ziO;rw [x,decide_eq_true w.symm];rfl
     have C:=fun a0 a3 a9 j l c a i g m => zEs f hf hn1 hn b z k k (((zp f).take k).map rl) (f.blocks.length - 1) 1 [] a0 a3 a9 j l c a i g m rfl (by omega) (by simp);simp only [yJ,zwv hn1 x,Int.natCast_one] at C;have e2 : ((zp f).take k).map rl ++ [[Fz.sl ((zul b.to).map ri)]] = ((zp f).take (k + 1)).map rl:=(by rw [D,List.map_append]; rfl);refine ⟨r,fun a0 a3 a7 a8 a9 n j l c a i g m => ?_⟩;rw [xl z7 rfl,zao];simp -implicitDefEqProofs only [go_sem,s6,oE,x,yj] at u;simp -implicitDefEqProofs only [go_sem,s6,oE,yB] at C;simp -implicitDefEqProofs only [go_sem,s6] at E;simp -implicitDefEqProofs only [ri] at o;simp -implicitDefEqProofs only [go_sem,s6,ilt p,t,rb,ya,yb,yc,g0,y,q,o,w,e,u,C,A,v,e2,za p (show f.blocks.length ≤ 4294967296 by omega),E]
    ·have e : ziO f.blocks.length b = false:=by
      unfold ziO;rw [x];simp
     refine ⟨[.tok 1 [k],oE b,.tok 1 [0]],fun a0 a3 a7 a8 a9 n j l c a i g m => ?_⟩;rw [xl z7 rfl,zao];simp -implicitDefEqProofs only [go_sem,s6,oE,x] at u;simp -implicitDefEqProofs only [ri] at o;simp -implicitDefEqProofs only [go_sem,s6,ilt p,t,rb,ya,yb,yc,g0,y,q,o,w,e,u]
   ·have e : ziO f.blocks.length b = false:=by
     unfold ziO;rw [decide_eq_false (fun h => w h.symm)];rfl
    refine ⟨[.tok 1 [k],oE b],fun a0 a3 a7 a8 a9 n j l c a i g m => ?_⟩;rw [xl z7 rfl,zao];simp -implicitDefEqProofs only [ri] at o;simp -implicitDefEqProofs only [go_sem,s6,ilt p,t,rb,ya,yb,yc,g0,y,q,o,w,e]
end
theorem zro (f : PFunc) (hf : okF f) : call T 77 [zfZ f] [] = some (zgy f,[]):=by
 rw [ze (fn:=zax) rfl]
 by_cases c1 : f.blocks.length < 1
 ·have a : (f.blocks.length : Int) = 0:=by omega
  have e : zay f = false:=by
   have : (zp f).length = 0:=(by rw [zp,ya]; omega);unfold zay zbk;rw [this];simp
  simp -implicitDefEqProofs only [go_sem,zax,zgy,e,eq_true a,ya,yj]
 have a : ¬ (f.blocks.length : Int) = 0:=by omega
 by_cases c2 : 64 < f.blocks.length
 ·have b : (f.blocks.length : Int) > 64:=by omega
  have e : zay f = false:=by unfold zay; rw [decide_eq_true c2]; rfl
  simp -implicitDefEqProofs only [go_sem,zax,zgy,e,a,eq_true b,ya,yj]
 have b : ¬ (f.blocks.length : Int) > 64:=by omega
 obtain ⟨r,h⟩:=zE7 f hf (by omega) (by omega) f.blocks.length 0 (by omega) (by omega);simp only [yk,yq,List.take_zero,List.map_nil] at h;cases c3 : f.blocks.all (ziO f.blocks.length)
 ·have e : zay f = false:=by unfold zay; rw [c3]; simp
  simp -implicitDefEqProofs only [go_sem,s6,c3,yj] at h;simp -implicitDefEqProofs only [go_sem,zax,zgy,e,a,b,ya,yj,h]
 ·have c:=znF (zp f) (zin hf)
  have e : zay f = zbk (zp f):=by unfold zay; rw [c3,decide_eq_false c2]; simp
  simp -implicitDefEqProofs only [go_sem,s6,c3] at h;cases c4 : zbk (zp f)
  ·simp -implicitDefEqProofs only [go_sem,zkf,c4,yj] at c
   simp -implicitDefEqProofs only [go_sem,zax,zgy,e,c4,a,b,ya,yj,h,c]
  ·simp -implicitDefEqProofs only [go_sem,zkf,c4] at c
   simp -implicitDefEqProofs only [go_sem,zax,zgy,e,c4,a,b,ya,h,c]
def ofS (level : Int) (o : POp) : Bool :=
 !(decide (level < 2) && (decide (1 < o.lanes) || decide (20 < o.kind))) && (!(decide (level < 1) && decide (17 < o.kind)) && zgx o)
section
variable (f : PFunc) (hf : okF f) (level : Int) (x y z dd : C) (σ : zd) (hck : σ[1]? = some (zxT f level x y z dd)) (hσ : Ok σ)
include hck hσ
theorem zCY (o : POp) (b : zur o) : call T 203 [.one (.ptr 1 0 0 0),vOp o] σ = some (vB (ofS level o),σ):=by
 rw [ze (fn:=zai) rfl];have hm:=zi5 o b.1 b.2;have a:=zfL hck;simp -implicitDefEqProofs only [go_sem] at hm
 by_cases c1 : level < 2
 ·by_cases c2 : 1 < o.lanes
  ·simp -implicitDefEqProofs only [go_sem,zai,a,c1,c2,ofS,Ok.at hσ]
  ·by_cases c3 : 20 < o.kind
   ·simp -implicitDefEqProofs only [go_sem,zai,a,c1,c2,c3,ofS,Ok.at hσ]
   ·by_cases c4 : level < 1
    ·by_cases c5 : 17 < o.kind
     ·simp -implicitDefEqProofs only [go_sem,zai,a,c1,c2,c3,c4,c5,ofS,Ok.at hσ]
     ·simp -implicitDefEqProofs only [go_sem,zai,a,c1,c2,c3,c4,c5,ofS,Ok.at hσ,hm]
    ·simp -implicitDefEqProofs only [go_sem,zai,a,c1,c2,c3,c4,ofS,Ok.at hσ,hm]
 ·have c4 : ¬ level < 1:=by omega
  simp -implicitDefEqProofs only [go_sem,zai,a,c1,c4,ofS,Ok.at hσ,hm]
end
def zjG (level : Int) (b : PBlock) : Bool:=b.phis.all (fun p => zhP p.bits) && b.ops.all (ofS level)
def zd0 (level : Int) : List PBlock → Option PBlock
 | [] => none
 | b :: r => if zjG level b = true then zd0 level r else some b
def zfu (f : PFunc) (level : Int) : Bool:=zhP f.ret && (f.params.all zhP && f.blocks.all (zjG level))
theorem zjh (level : Int) : ∀ l : List PBlock,(zd0 level l).isNone = l.all (zjG level)
 | [] => rfl
 | b :: r => by
   simp only [zd0,yE];cases h : zjG level b
   ·simp
   ·simpa using zjh level r
theorem zui (b : Int) (σ : zd) : call T 198 [vI b] σ = some (vB (!zhP b),σ):=by
 rw [ze (fn:=zdi) rfl];simp -implicitDefEqProofs only [go_sem,zdi]
theorem ztm (p : PPhi) (σ : zd) (hσ : Ok σ) : call T 200 [zFl p] σ = some (vB (!zhP p.bits),σ):=by
 rw [ze (fn:=zde) rfl];simp -implicitDefEqProofs only [go_sem,zde,Ok.at hσ]
section
variable (f : PFunc) (hf : okF f) (level : Int) (x y z dd : C) (σ : zd) (hck : σ[1]? = some (zxT f level x y z dd)) (hσ : Ok σ)
include hck hσ
theorem ztE (o : POp) (i : zur o) (r : zd) (h : Obs.lt (σ.length + 1 + r.length) r = true) : call T 202 [vOp o,.one (.ptr σ.length 0 0 0)] (σ ++ .cells 0 1 [[.ptr 1 0 0 0]] :: r) = some (vB (!ofS level o),σ ++ .cells 0 1 [[.ptr 1 0 0 0]] :: r):=by
 rw [ze (fn:=zc9) rfl]
 have a : Ok (σ ++ .cells 0 1 [[.ptr 1 0 0 0]] :: r):=Ok.app hσ (by
  have e:=zoU (show σ.length + 1 + r.length ≤ σ.length + (r.length + 1) by omega) r h;have j:=zhl hck (r.length + 1)
  simp -implicitDefEqProofs only [go_sem,e,j])
 have c : Ok (σ ++ .cells 0 1 [[.ptr 1 0 0 0]] :: r ++ [.cells 0 6 [cOp o]]):=Ok.app a (by simp -implicitDefEqProofs only [go_sem]);have d:=zCY f level x y z dd (σ ++ .cells 0 1 [[.ptr 1 0 0 0]] :: r ++ [.cells 0 6 [cOp o]]) (by rw [yv]; exact zfL hck _) c o i;generalize hτ : σ ++ .cells 0 1 [[.ptr 1 0 0 0]] :: r = τ at *;have g : τ[σ.length]? = some (.cells 0 1 [[.ptr 1 0 0 0]]):=by rw [← hτ]; simp
 have b:=zfL g;simp -implicitDefEqProofs only [go_sem] at d;simp -implicitDefEqProofs only [go_sem,zc9,b,d,Ok.at a]
theorem zCo (hf : okF f) : ∀ (d k : Nat) (a0 a2 a3 a4 a5 a9 c : V),f.blocks.length - k = d → k ≤ f.blocks.length →
  exec T zbB ⟨[a0,.one (.ptr σ.length 0 0 0),a2,a3,a4,a5,vL (f.blocks.map rb),vI f.blocks.length,vI k,a9,c],σ ++ [.cells 0 1 [[.ptr 1 0 0 0]]],σ.length,σ.length⟩ =
   some (match zd0 level (f.blocks.drop k) with
    | none => (.exit 0,⟨[vU,vU,vU,vU,vU,vU,vU,vU,vU,vU,vU],σ ++ [.cells 0 1 [[.ptr 1 0 0 0]]],σ.length,σ.length⟩)
    | some b => (.ret,⟨[vU,vU,vI 6,vU,vU,vU,vU,vU,vU,vU,vU],σ ++ [.cells 0 1 [[.ptr 1 0 0 0]],.cells 0 5 [zh b]],σ.length,σ.length⟩)):=by
 intro d
 induction d with
 | zero =>
   intro k a0 a2 a3 a4 a5 a9 c q j;have a : k = f.blocks.length:=(by omega);subst a;rw [xl zbB rfl,zdK];simp -implicitDefEqProofs only [go_sem,yn,yo,zd0]
 | succ d ih =>
   intro k a0 a2 a3 a4 a5 a9 c q j;have a : k < f.blocks.length:=(by omega);have hd : f.blocks.drop k = f.blocks[k] :: f.blocks.drop (k + 1):=yg a;have h:=hf.block _ (ys a);have n:=zfL hck
   have m : Ok (σ ++ [.cells 0 1 [[.ptr 1 0 0 0]],.cells 0 5 [zh f.blocks[k]]]):=Ok.app hσ (by
    have j:=zhl hck 2
    simp -implicitDefEqProofs only [go_sem,j])
   have g:=zju f.blocks[k].phis (fun p => !zhP p.bits) 200 [] [] (σ ++ [.cells 0 1 [[.ptr 1 0 0 0]],.cells 0 5 [zh f.blocks[k]]]) h.phis (fun p _ => ztm p _ m)
   have e:=zkS f.blocks[k].ops (fun o => !ofS level o) 202 [] [.ptr σ.length 0 0 0] (σ ++ [.cells 0 1 [[.ptr 1 0 0 0]],.cells 0 5 [zh f.blocks[k]]]) h.ops (fun o e => by
    have:=ztE f level x y z dd σ hck hσ o (h.op o e) [.cells 0 5 [zh f.blocks[k]]] (by simp -implicitDefEqProofs only [go_sem])
    exact this)
   have i : (f.blocks[k].phis.any fun p => !zhP p.bits) = !f.blocks[k].phis.all (fun p => zhP p.bits):=(by rw [← zm0,yH]);have l : (f.blocks[k].ops.any fun p => !ofS level p) = !f.blocks[k].ops.all (ofS level):=(by rw [← zm0,yH]);rw [i] at g;rw [l] at e;rw [xl zbB rfl,zdK,hd,zd0];cases e1 : f.blocks[k].phis.all (fun p => zhP p.bits)
   ·simp -implicitDefEqProofs only [go_sem,e1] at g
    simp -implicitDefEqProofs only [go_sem,ilt a,zm a,rb,g,zjG,e1]
   ·cases e2 : f.blocks[k].ops.all (ofS level)
    ·simp -implicitDefEqProofs only [go_sem,e1,e2] at g e
     simp -implicitDefEqProofs only [go_sem,ilt a,zm a,rb,g,e,zjG,e1,e2]
    ·have:=ih (k + 1) vU vU vU vU vU vU vU (by omega) (by omega)
     simp -implicitDefEqProofs only [go_sem,e1,e2] at g e this;simp -implicitDefEqProofs only [go_sem,ilt a,zm a,rb,g,e,zjG,e1,e2,za a hf.blocks,Ok.up hσ,zhl hck,this]
theorem zxh (hf : okF f) : call T 160 [.one (.ptr 1 0 0 0)] σ = some (vI (if zfu f level = true then 0 else 6),σ):=by
 rw [ze (fn:=zaq) rfl];have a:=zfL hck;have e : (f.params.any fun p => !zhP p) = !f.params.all zhP:=by rw [← zm0,yH]
 have c:=zap f.params (fun p => !zhP p) 198 [] [] (σ ++ [.cells 0 1 [[.ptr 1 0 0 0]]]) hf.params (fun p _ => zui p _);rw [e] at c;have h:=fun a0 a2 a3 a4 a5 a9 g => zCo f level x y z dd σ hck hσ hf f.blocks.length 0 a0 a2 a3 a4 a5 a9 g (by omega) (by omega);simp only [yq,yk] at h;have d:=zjh level f.blocks;cases e1 : zhP f.ret
 ·simp -implicitDefEqProofs only [go_sem,zaq,a,e1,zfu,Ok.at hσ]
 cases e2 : f.params.all zhP
 ·simp -implicitDefEqProofs only [go_sem,e2] at c
  simp -implicitDefEqProofs only [go_sem,zaq,a,e1,e2,c,zfu,Ok.at hσ]
 cases e3 : zd0 level f.blocks with
 | none =>
   rw [e3] at d;simp only [Option.isNone_none] at d;simp -implicitDefEqProofs only [go_sem,e2,e3] at c h;simp -implicitDefEqProofs only [go_sem,zaq,a,e1,e2,c,h,zfu,← d,Ok.at hσ]
 | some b =>
   rw [e3] at d;simp only [Option.isNone_some] at d;simp -implicitDefEqProofs only [go_sem,e2,e3] at c h;simp -implicitDefEqProofs only [go_sem,zaq,a,e1,e2,c,h,zfu,← d,Ok.at hσ]
end
end AC

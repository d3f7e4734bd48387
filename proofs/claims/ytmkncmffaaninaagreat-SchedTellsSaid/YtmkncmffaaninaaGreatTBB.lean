/- A part of the proof of SchedTells. Conditions: none. -/
import Derived.Test.YtmkncmffaaninaaGreatTAZ
import Derived.Test.YtmkncmffaaninaaGreatTAX
import Derived.Test.YtmkncmffaaninaaGreatTBA
import Derived.Test.YtmkncmffaaninaaGreatTAY
set_option linter.all false
open List renaming length_map → ya,getD_eq_getElem?_getD → yd,getElem?_eq_getElem → ye,getElem?_eq_none → yf,drop_eq_getElem_cons → yg,mem_cons_self → yh,pairwise_cons → yi,mem_cons_of_mem → yl,mem_cons → ym,drop_length → yo,ext_getElem? → yp,drop_zero → yq,getElem?_set_self → yr,getElem_mem → ys,length_append → yt,replicate → yu,append_assoc → yv,getElem?_replicate → yw,take_of_length_le → yx,length_cons → yy,singleton_append → yz,getElem?_set_ne → yA,length_nil → yB,mem_singleton → yD,all_cons → yE,any_eq_false → yG,append_nil → yI,nil_append → yJ,length → yM,all_nil → yQ,map_set → yR,map → yS,range → yT
open Int renaming natCast_nonneg → yb,toNat_natCast → yc,natCast_zero → yk,lt_irrefl → yn
open Bool renaming false_eq_true → yj,not_not → yH,or_eq_true → yK,false_or → yP
open Nat renaming add_sub_cancel → yC,zero_add → yF,add_assoc → yL,add_comm → yN,add_zero → yO
namespace AC
open Go Go.A Go.A.Lex
def apT (t : Nat) : Nat → List (List Int) → List (List C)
 | _,[] => []
 | q,l :: r => [.ap t q (l.map ri)] :: apT t (q + 1) r
theorem zlE (t : Nat) : ∀ (out : List (List Int)) (q : Nat),(apT t q out).length = out.length
 | [],_ => rfl
 | l :: r,q => by simp [apT,zlE t r (q + 1)]
theorem zvU (t : Nat) : ∀ (out : List (List Int)) (q k : Nat) (h : k < out.length),(apT t q out)[k]? = some [.ap t (q + k) (out[k].map ri)]
 | [],_,_,h => by simp at h
 | l :: r,q,0,_ => by simp [apT]
 | l :: r,q,k + 1,h => by
   simp only [apT,List.getElem?_cons_succ,List.getElem_cons_succ];rw [zvU t r (q + 1) k (by simpa using h),yL,yN 1 k]
theorem zAD (t : Nat) : ∀ (out : List (List Int)) (q k : Nat) (l : List Int),(apT t q out).set k [.ap t (q + k) (l.map ri)] = apT t q (out.set k l)
 | [],_,_,_ => rfl
 | x :: r,q,0,l => by simp [apT]
 | x :: r,q,k + 1,l => by
   simp only [apT,List.set_cons_succ];rw [← zAD t r (q + 1) k l,yL,yN 1 k]
theorem zA5 (t : Nat) : ∀ (out : List (List Int)) (q : Nat),zaj (apT t q out) = some (out.map rl)
 | [],_ => rfl
 | x :: r,q => by simp [apT,zaj,zeq,zun,zgl,zA5 t r (q + 1),rl]
theorem zEA (t n : Nat) : (yT n).map (nest t [.f (.sl [])] 0) = apT t 0 (yu n []):=by
 apply yp;intro k
 by_cases a : k < n
 ·rw [zvU _ _ _ _ (by simpa using a)]
  simp [a,nest]
 ·rw [yf (by simp; omega),yf (by rw [zlE]; simp; omega)]
def zif (i : Int) : Nat → List (List Int) → List Int
 | _,[] => []
 | k,l :: r => if i ∈ l then (k : Int) :: zif i (k + 1) r else zif i (k + 1) r
def zil (l : List Int) (k : Nat) : Int:=if k = 0 then -1 else l.getD (k - 1) (-1)
section
variable (succ : List (List Int)) (hn1 : 1 ≤ succ.length) (hn : succ.length ≤ 64) (hl : ∀ l ∈ succ,l.length ≤ 4294967296)
abbrev sM1 : zd:=[.cells 0 2 [[.f (.sl []),.f (.sl [])]]]
include hn hl
theorem zDy (i : Nat) (o : i < succ.length) : ∀ (d k : Nat) (a2 a6 a7 a8 a9 p h n l g m : V),succ[i].length - k = d → k ≤ succ[i].length → -1 ≤ zil succ[i] k →
  exec T zcH ⟨[vLs succ,.one (.ptr 0 0 0 0),a2,vI succ.length,vI i,vI k,a6,a7,a8,a9,p,h,n,l,g,m],sM1,0,0⟩ =
   some (if zV succ.length (zil succ[i] k) (succ[i].drop k) = true then (.exit 2,⟨[vLs succ,.one (.ptr 0 0 0 0),vU,vI succ.length,vI i,vU,vU,vU,vU,vU,vU,vU,vU,vU,vU,vU],sM1,0,0⟩)
    else (.ret,⟨[vU,.one (.ptr 0 0 0 0),vI 5,vU,vU,vU,vU,vU,vU,vU,vU,vU,vU,vU,vU,vU],sM1,0,0⟩)):=by
 intro d
 induction d with
 | zero =>
   intro k a2 a6 a7 a8 a9 p h n l g m z A hm;have b : k = succ[i].length:=(by omega);subst b;rw [xl zcH rfl,zeI];simp -implicitDefEqProofs only [go_sem,zj o,rl,yn,ya,yo,zV,yb,yc]
 | succ d ih =>
   intro k a2 a6 a7 a8 a9 p h n l g m z A hm;have b : k < succ[i].length:=(by omega);have s:=hl _ (ys o);have hd : succ[i].drop k = succ[i][k] :: succ[i].drop (k + 1):=yg b
   have a : zil succ[i] (k + 1) = succ[i][k]:=by
    unfold zil;rw [if_neg (by omega),yC,yd,ye b];rfl
   have q:=zj (r:=ri) b;obtain ⟨x,y⟩ : ∃ x,x = succ[i][k]:=⟨_,rfl⟩;rw [← y] at q a;rw [xl zcH rfl,zeI,hd,zV,← y]
   by_cases c1 : x < 0
   ·have e : x ≤ zil succ[i] k ∨ (succ.length : Int) ≤ x:=.inl (by omega)
    rw [if_pos e];simp -implicitDefEqProofs only [go_sem,zj o,rl,ilt b,q,ri,ya,eq_true c1,yb,yc]
   by_cases c2 : (succ.length : Int) ≤ x
   ·have e : x ≤ zil succ[i] k ∨ (succ.length : Int) ≤ x:=.inr c2
    have c : x ≥ (succ.length : Int):=c2;rw [if_pos e];simp -implicitDefEqProofs only [go_sem,zj o,rl,ilt b,q,ri,ya,c1,eq_true c,yb,yc]
   have c : ¬ x ≥ (succ.length : Int):=c2
   by_cases B : k = 0
   ·subst B
    have e : ¬ (x ≤ zil succ[i] 0 ∨ (succ.length : Int) ≤ x):=by
     have : zil succ[i] 0 = -1:=rfl;omega
    have:=ih 1 vU vU vU vU vU vU vU vU vU vU vU (by omega) (by omega) (by rw [show (1 : Nat) = 0 + 1 from rfl,a]; omega);rw [show (1 : Nat) = 0 + 1 from rfl,a] at this;have w0:=za b s;have z0 : ¬ ((0 : Int) > 0):=(by omega);have t : (0 : Int) < (succ[i].length : Int):=(by omega);simp -implicitDefEqProofs only [go_sem] at this;rw [if_neg e];simp -implicitDefEqProofs only [go_sem,yk,zj o,rl,eq_true t,q,ri,ya,c1,c,z0,yb,yc,w0];exact this
   ·obtain ⟨j,rfl⟩ : ∃ j,k = j + 1:=⟨k - 1,by omega⟩
    have v : j < succ[i].length:=(by omega);have w:=zj (r:=ri) v
    have f : zil succ[i] (j + 1) = succ[i][j]:=by
     unfold zil;rw [if_neg (by omega),yC,yd,ye v];rfl
    have u : Go.IntKind.i64.wrap (((j + 1 : Nat) : Int) - 1) = (j : Int):=by
     rw [show ((j + 1 : Nat) : Int) - 1 = (j : Int) by omega,wrap_i64] <;> omega
    have z0 : ((j + 1 : Nat) : Int) > 0:=by omega
    by_cases c3 : x ≤ succ[i][j]
    ·have e : x ≤ zil succ[i] (j + 1) ∨ (succ.length : Int) ≤ x:=.inl (by rw [f]; exact c3)
     rw [if_pos e];simp -implicitDefEqProofs only [go_sem,zj o,rl,ilt b,q,w,ri,ya,c1,c,eq_true z0,u,eq_true c3,yb,yc]
    ·have e : ¬ (x ≤ zil succ[i] (j + 1) ∨ (succ.length : Int) ≤ x):=by rw [f]; omega
     have:=ih (j + 1 + 1) vU vU vU vU vU vU vU vU vU vU vU (by omega) (by omega) (by rw [a]; omega);rw [a] at this;simp -implicitDefEqProofs only [go_sem] at this;rw [if_neg e];simp -implicitDefEqProofs only [go_sem,zj o,rl,ilt b,q,w,ri,ya,c1,c,eq_true z0,u,c3,yb,yc,za b s,this]
theorem zDC : ∀ (d k : Nat) (a2 a5 a6 a7 a8 a9 h b g e a f : V),succ.length - k = d → k ≤ succ.length →
  exec T zcz ⟨[vLs succ,.one (.ptr 0 0 0 0),a2,vI succ.length,vI k,a5,a6,a7,a8,a9,h,b,g,e,a,f],sM1,0,0⟩ =
   some (if (succ.drop k).all (fun l => rising l succ.length) = true then (.exit 0,⟨[vLs succ,.one (.ptr 0 0 0 0),vU,vI succ.length,vU,vU,vU,vU,vU,vU,vU,vU,vU,vU,vU,vU],sM1,0,0⟩)
    else (.ret,⟨[vU,.one (.ptr 0 0 0 0),vI 5,vU,vU,vU,vU,vU,vU,vU,vU,vU,vU,vU,vU,vU],sM1,0,0⟩)):=by
 intro d
 induction d with
 | zero =>
   intro k a2 a5 a6 a7 a8 a9 h b g e a f m o;have i : k = succ.length:=(by omega);subst i;rw [xl zcz rfl,ze1];simp -implicitDefEqProofs only [go_sem,yn,yo,yQ]
 | succ d ih =>
   intro k a2 a5 a6 a7 a8 a9 h b g e a f m o;have i : k < succ.length:=(by omega);have hd : succ.drop k = succ[k] :: succ.drop (k + 1):=yg i;have j:=fun a2 a6 a7 a8 a9 h b g e a f => zDy succ hn hl k i succ[k].length 0 a2 a6 a7 a8 a9 h b g e a f (by omega) (by omega) (by simp [zil]);have n : zil succ[k] 0 = -1:=rfl;simp only [yk,yq,n] at j;have:=ih (k + 1) vU vU vU vU vU vU vU vU vU vU vU vU (by omega) (by omega);rw [xl zcz rfl,ze1,hd,yE,rising];simp -implicitDefEqProofs only [go_sem] at this;cases c : zV succ.length (-1) succ[k]
   ·simp -implicitDefEqProofs only [go_sem,c] at j
    simp -implicitDefEqProofs only [go_sem,ilt i,j]
   ·simp -implicitDefEqProofs only [go_sem,c] at j
    simp -implicitDefEqProofs only [go_sem,ilt i,j,za i (show succ.length ≤ 4294967296 by omega),this]
abbrev sM4 (out : List (List Int)) : zd:=[.cells 0 2 [[.f (.sl []),.f (.sl [])]],.tok 1 (out.map yM),.cells 0 1 (apT 1 0 out),.cells 0 2 [[.f (.sl (succ.map rl)),.own 2 0 0 succ.length]]]
theorem zDU (i : Nat) (B : i < succ.length) : ∀ (d k : Nat) (out : List (List Int)) (r : List Int) (a2 a4 a5 a9 n f l g b h : V),succ.length - k = d → k ≤ succ.length → out.length = succ.length → out[i]? = some r → r.length ≤ k →
  exec T zcg ⟨[vLs succ,.one (.ptr 0 0 0 0),a2,vI succ.length,a4,a5,.one (.ptr 3 0 0 0),vI i,vI k,a9,n,f,l,g,b,h],sM4 succ out,0,0⟩ =
   some (.exit 6,⟨[vLs succ,.one (.ptr 0 0 0 0),vU,vI succ.length,vU,vU,.one (.ptr 3 0 0 0),vI i,vU,vU,vU,vU,vU,vU,vU,vU],sM4 succ (out.set i (r ++ zif i k (succ.drop k))),0,0⟩):=by
 intro d
 induction d with
 | zero =>
   intro k out r a2 a4 a5 a9 n f l g b h y A t o v;have a : k = succ.length:=(by omega);subst a
   have s : out.set i r = out:=by
    apply yp;intro j
    by_cases c : i = j
    ·subst c; rw [yr (by omega),o]
    ·rw [yA c]
   rw [xl zcg rfl,ze5];simp -implicitDefEqProofs only [go_sem,sM4,yn,yo,zif,yI,s]
 | succ d ih =>
   intro k out r a2 a4 a5 a9 n f l g b h y A t o v;have a : k < succ.length:=(by omega);have hd : succ.drop k = succ[k] :: succ.drop (k + 1):=yg a;have q:=zfS succ[k] (i : Int) (hl _ (ys a));rw [xl zcg rfl,ze5,hd,zif]
   by_cases c : (i : Int) ∈ succ[k]
   ·have e : i < out.length:=by omega
    have x : out[i] = r:=by
     rw [ye e] at o;injection o
    have u:=zvU 1 out 0 i e;have s:=fun m => zAD 1 out 0 i m;simp only [yF] at u s;rw [x] at u;have z : (out.map yM)[i]? = some r.length:=(by simp [o]);have p : r.length + 1 ≤ LIM:=(by unfold LIM; omega);have w : ((i : Int) < (succ.length : Int)) = True:=(by simp; omega);have:=ih (k + 1) (out.set i (r ++ [(k : Int)])) (r ++ [(k : Int)]) vU vU vU vU vU vU vU vU vU vU (by omega) (by omega) (by simpa using t) (by rw [yr e]) (by simp; omega);have e1 : yS ri r ++ [[Fz.lit (Value.int .i64 (k : Int))]] = yS ri (r ++ [(k : Int)]):=(by simp [ri]);rw [List.set_set,yv,yz] at this;simp -implicitDefEqProofs only [go_sem,decide_eq_true c] at q;simp -implicitDefEqProofs only [go_sem,sM4,yR,yt,yy,yB,yF] at this;simp -implicitDefEqProofs only [go_sem,sM4,ilt a,zj a,rl,q,c,u,z,p,w,e1,s,yb,yc,ya,za a (show succ.length ≤ 4294967296 by omega),yR,zlE,this]
   ·have:=ih (k + 1) out r vU vU vU vU vU vU vU vU vU vU (by omega) (by omega) t o (by omega)
    simp -implicitDefEqProofs only [go_sem,decide_eq_false c] at q;simp -implicitDefEqProofs only [go_sem,sM4] at this;simp -implicitDefEqProofs only [go_sem,sM4,ilt a,zj a,rl,q,c,ya,za a (show succ.length ≤ 4294967296 by omega),this]
def zyT (k : Nat) : List (List Int):=(yT succ.length).map fun i => if i < k then zif (i : Int) 0 succ else []
omit hn hl in
theorem zgt (k : Nat) : (zyT succ k).length = succ.length:=by simp [zyT]
omit hn hl in
theorem zni (k i : Nat) (h : i < succ.length) : (zyT succ k)[i]? = some (if i < k then zif (i : Int) 0 succ else []):=by simp [zyT,h]
omit hn hl in
theorem zuX : zyT succ 0 = yu succ.length []:=by
 apply yp;intro j
 by_cases c : j < succ.length
 ·rw [zni succ 0 j c]; simp [c]
 ·rw [yf (by rw [zgt]; omega),yf (by simp; omega)]
omit hn hl in
theorem zDR (k : Nat) (h : k < succ.length) : (zyT succ k).set k (zif (k : Int) 0 succ) = zyT succ (k + 1):=by
 apply yp;intro j
 by_cases c : j < succ.length
 ·rw [zni succ (k + 1) j c]
  by_cases e : k = j
  ·subst e
   rw [yr (by rw [zgt]; exact h),if_pos (by omega)]
  ·rw [yA e,zni succ k j c]
   by_cases f : j < k
   ·rw [if_pos f,if_pos (by omega)]
   ·rw [if_neg f,if_neg (by omega)]
 ·rw [yf (by rw [List.length_set,zgt]; omega),yf (by rw [zgt]; omega)]
theorem zCA : ∀ (d k : Nat) (a2 a4 a5 a8 a9 e g c a f b : V),succ.length - k = d → k ≤ succ.length →
  exec T zcr ⟨[vLs succ,.one (.ptr 0 0 0 0),a2,vI succ.length,a4,a5,.one (.ptr 3 0 0 0),vI k,a8,a9,e,g,c,a,f,b],sM4 succ (zyT succ k),0,0⟩ =
   some (.exit 4,⟨[vU,.one (.ptr 0 0 0 0),vU,vU,vU,vU,.one (.ptr 3 0 0 0),vU,vU,vU,vU,vU,vU,vU,vU,vU],sM4 succ (zyT succ succ.length),0,0⟩):=by
 intro d
 induction d with
 | zero =>
   intro k a2 a4 a5 a8 a9 e g c a f b l j;have h : k = succ.length:=(by omega);subst h;rw [xl zcr rfl,zeu];simp -implicitDefEqProofs only [go_sem,sM4,yn]
 | succ d ih =>
   intro k a2 a4 a5 a8 a9 e g c a f b l j;have h : k < succ.length:=(by omega);have i:=fun a2 a4 a5 a9 e g c a f b => zDU succ hn hl k h succ.length 0 (zyT succ k) [] a2 a4 a5 a9 e g c a f b (by omega) (by omega) (zgt succ k) (by rw [zni succ k k h,if_neg (by omega)]) (by simp);simp only [yk,yq,yJ,zDR succ k h] at i;have:=ih (k + 1) vU vU vU vU vU vU vU vU vU vU vU (by omega) (by omega);rw [xl zcr rfl,zeu];simp -implicitDefEqProofs only [go_sem,sM4] at i this;simp -implicitDefEqProofs only [go_sem,sM4,ilt h,i,za h (show succ.length ≤ 4294967296 by omega),this]
end
theorem zqj : ∀ {a b : List Int},a.Pairwise (· < ·) → b.Pairwise (· < ·) → (∀ x,x ∈ a ↔ x ∈ b) → a = b
 | [],[],_,_,_ => rfl
 | [],y :: b,_,_,h => by have:=(h y).2 yh; simp at this
 | x :: a,[],_,_,h => by have:=(h x).1 yh; simp at this
 | x :: a,y :: b,ha,hb,h => by
   rw [yi] at ha hb
   have d : x = y:=by
    have g:=(h x).1 yh;have f:=(h y).2 yh;rcases ym.1 g with e | e
    ·exact e
    ·rcases ym.1 f with e2 | e2
     ·exact e2.symm
     ·have:=hb.1 x e
      have:=ha.1 y e2;omega
   subst d;rw [zqj ha.2 hb.2 fun z => ?_];constructor
   ·intro c
    rcases ym.1 ((h z).1 (yl _ c)) with e | e
    ·subst e
     have:=ha.1 z c;omega
    ·exact e
   ·intro c
    rcases ym.1 ((h z).2 (yl _ c)) with e | e
    ·subst e
     have:=hb.1 z c;omega
    ·exact e
theorem zn9 (i y : Int) : ∀ (r : List (List Int)) (k : Nat),y ∈ zif i k r ↔ ∃ j l,r[j]? = some l ∧ y = ((k + j : Nat) : Int) ∧ i ∈ l
 | [],k => by simp [zif]
 | l :: r,k => by
   rw [zif];have f:=zn9 i y r (k + 1);constructor
   ·intro h
    split at h
    ·rename_i c
     rcases ym.1 h with e | h
     ·exact ⟨0,l,rfl,by rw [e,yO],c⟩
     ·obtain ⟨j,q,a,b,d⟩:=f.1 h
      exact ⟨j + 1,q,by simpa using a,by rw [b]; congr 1; omega,d⟩
    ·obtain ⟨j,q,a,b,d⟩:=f.1 h
     exact ⟨j + 1,q,by simpa using a,by rw [b]; congr 1; omega,d⟩
   ·rintro ⟨j,q,a,b,d⟩
    cases j with
    | zero =>
      simp only [List.getElem?_cons_zero,Option.some.injEq] at a;subst a;rw [if_pos d];exact ym.2 (.inl (by rw [b,yO]))
    | succ j =>
      have:=f.2 ⟨j,q,by simpa using a,by rw [b]; congr 1; omega,d⟩;split
      ·exact yl _ this
      ·exact this
theorem znd (i : Int) : ∀ (r : List (List Int)) (k : Nat),(zif i k r).Pairwise (· < ·)
 | [],_ => by simp [zif]
 | l :: r,k => by
   have a:=znd i r (k + 1);rw [zif];split
   ·rw [yi]
    refine ⟨fun y b => ?_,a⟩;obtain ⟨j,q,e,c,d⟩:=(zn9 i y r (k + 1)).1 b;omega
   ·exact a
theorem zny {n : Int} : ∀ {l : List Int} {last : Int},zV n last l = true → l.Pairwise (· < ·)
 | [],_,_ => by simp
 | y :: r,last,h => by
   simp only [zV] at h;split at h
   ·cases h
   ·rw [yi]
    exact ⟨fun x a => (zqx h x a).1,zny h⟩
theorem zo3 (i : Int) : ∀ (l : List Int) (out : List (List Int)),(∀ x ∈ l,0 ≤ x ∧ x < (out.length : Int)) → l.Pairwise (· < ·) →
  (∀ (X : Nat),X < out.length → ∀ y ∈ out.getD X [],y < i ∨ (y = i ∧ (X : Int) ∉ l)) → (∀ (X : Nat),X < out.length → (out.getD X []).Pairwise (· < ·)) →
  ∀ (X : Nat),X < out.length → ((l.foldl (zt8 i) out).getD X []).Pairwise (· < ·)
 | [],out,_,_,_,h => h
 | x :: l,out,hx,hl,h1,h2 => by
   rw [List.foldl_cons];have f:=hx x yh;rw [yi] at hl;have g : x ∉ l:=fun h => by have:=hl.1 x h; omega
   have:=zo3 i l (zt8 i out x) (fun y e => by rw [zgu]; exact hx y (yl _ e)) hl.2 (fun X d y e => ?_) (fun X d => ?_)
   ·rw [zgu] at this
    exact this
   ·rw [zgu] at d
    rw [ztm i out x X f.1 d] at e;split at e
    ·rename_i c
     rcases List.mem_append.1 e with e | e
     ·rcases h1 X d y e with h | ⟨_,h⟩
      ·exact .inl h
      ·exact absurd (by rw [← c]; exact yh) h
     ·exact .inr ⟨yD.1 e,by rw [← c]; exact g⟩
    ·rcases h1 X d y e with h | ⟨h,k⟩
     ·exact .inl h
     ·exact .inr ⟨h,fun hm => k (yl _ hm)⟩
   ·rw [zgu] at d
    rw [ztm i out x X f.1 d];split
    ·rename_i c
     rw [List.pairwise_append];refine ⟨h2 X d,by simp,fun a j b m => ?_⟩;rw [yD.1 m];rcases h1 X d a j with h | ⟨_,h⟩
     ·exact h
     ·exact absurd (by rw [← c]; exact yh) h
    ·exact h2 X d
theorem zj7 (N : Nat) : ∀ (l : List (List Int)) (i : Nat) (out : List (List Int)),out.length = N → (∀ r ∈ l,(∀ x ∈ r,0 ≤ x ∧ x < (N : Int)) ∧ r.Pairwise (· < ·)) →
  (∀ (X : Nat),X < N → ∀ y ∈ out.getD X [],y < (i : Int)) → (∀ (X : Nat),X < N → (out.getD X []).Pairwise (· < ·)) →
  ∀ (X : Nat),X < N → ((zbj i l out).getD X []).Pairwise (· < ·)
 | [],_,_,_,_,_,h => h
 | r :: l,i,out,ho,hl,h1,h2 => by
   rw [zbj];subst ho;have b:=hl r yh;refine zj7 _ l (i + 1) _ (zgV _ _ _) (fun q e => hl q (yl _ e)) (fun X a y c => ?_) (zo3 i r out b.1 b.2 (fun X a y c => .inl (h1 X a y c)) h2);rcases (zpX (i : Int) X y r out (fun x d => (b.1 x d).1) a).1 c with h | h
   ·have:=h1 X a y h
    omega
   ·omega
theorem zyV {succ : List (List Int)} (h : zbA succ = true) : zyT succ succ.length = zR succ:=by
 obtain ⟨t,n64,o⟩:=zfa h
 have f : ∀ l ∈ succ,zV succ.length (-1) l = true:=fun l hl => by
  unfold zbA at h;simp only [Bool.not_eq_true',Bool.or_eq_false_iff,decide_eq_false_iff_not,yG] at h;have b : rising l succ.length = true:=by simpa using h.2.2 l hl
  exact b
 apply yp;intro j
 by_cases c : j < succ.length
 ·rw [zni succ _ j c,if_pos c]
  have a : j < (zR succ).length:=by rw [zcf]; exact c
  rw [ye a]
  congr 1
  have e : (zR succ)[j] = (zR succ).getD j []:=by rw [yd,ye a]; rfl
  rw [e]
  have q : ((zR succ).getD j []).Pairwise (· < ·):=zj7 succ.length succ 0 _ (by simp) (fun r d => ⟨o r d,zny (f r d)⟩) (fun X i y n => by
   rw [yd,yw,if_pos i] at n
   simp at n) (fun X i => by
   rw [yd,yw,if_pos i]
   simp) j c
  refine zqj (znd _ _ _) q fun y => ?_;have m:=znK o (x:=(j : Int)) ⟨by omega,by omega⟩ y;rw [yc] at m;rw [m,zn9];constructor
  ·rintro ⟨k,l,g,p,b⟩
   have s:=(List.getElem?_eq_some_iff.1 g).1;refine ⟨by omega,by omega,?_⟩;rw [show y.toNat = k by omega,yd,g];exact b
  ·rintro ⟨g,p,b⟩
   have a : y.toNat < succ.length:=(by omega);rw [yd,ye a] at b;exact ⟨y.toNat,succ[y.toNat],ye a,by omega,b⟩
 ·rw [yf (by rw [zgt]; omega),yf (by rw [zcf]; omega)]
theorem zCT {succ : List (List Int)} (a : 1 ≤ succ.length) (b : succ.length ≤ 64) : zbA succ = succ.all fun l => rising l succ.length:=by
 unfold zbA;rw [decide_eq_false (by omega),decide_eq_false (by omega),yP,yP]
 induction succ.length generalizing succ <;> rw [List.not_any_eq_all_not] <;> simp
theorem zoJ (succ : List (List Int)) (p : zkN succ) : call T 129 [vLs succ] [] = some (zkJ succ,[]):=by
 rw [ze (fn:=zaM) rfl]
 by_cases c1 : succ.length < 1
 ·have a : (succ.length : Int) = 0:=by omega
  simp -implicitDefEqProofs only [go_sem,zaM,zkJ,zbA,c1,eq_true a,ya]
 have a : ¬ (succ.length : Int) = 0:=by omega
 by_cases c2 : 64 < succ.length
 ·have b : (succ.length : Int) > 64:=by omega
  simp -implicitDefEqProofs only [go_sem,zaM,zkJ,zbA,c1,a,c2,eq_true b,ya]
 have b : ¬ (succ.length : Int) > 64:=by omega
 have l:=zCT (succ:=succ) (by omega) (by omega);have i:=fun a2 a5 a6 a7 a8 a9 h d g e c f => zDC succ (by omega) p.2 succ.length 0 a2 a5 a6 a7 a8 a9 h d g e c f (by omega) (by omega);simp only [yk,yq,← l] at i;cases c3 : zbA succ
 ·simp -implicitDefEqProofs only [go_sem,c3] at i
  simp -implicitDefEqProofs only [go_sem,zaM,zkJ,c3,a,b,ya,i]
 ·have n:=fun a2 a4 a5 a8 a9 h d g e c f => zCA succ (by omega) p.2 succ.length 0 a2 a4 a5 a8 a9 h d g e c f (by omega) (by omega)
  have j:=zEA 1 succ.length;have q : (zyT succ 0).map yM = yu succ.length 0:=by rw [zuX,List.map_replicate]; rfl
  have m : apT 1 0 (zyT succ 0) = apT 1 0 (yu succ.length []):=by rw [zuX]
  have k : (succ.length : Int) ≤ (LIM : Int):=by unfold LIM; omega
  have o : zaj ((apT 1 0 (zR succ)).take succ.length) = some ((zR succ).map rl):=by
   rw [yx (by rw [zlE,zcf]; omega),zA5]
  simp only [yk,zyV c3] at n;simp -implicitDefEqProofs only [go_sem,c3] at i;simp -implicitDefEqProofs only [go_sem,sM4,q,m] at n;simp -implicitDefEqProofs only [go_sem,zaM,zkJ,c3,a,b,ya,i,k,yb,yc,j,n,o]
def znS (to : List Int) : Nat → Nat → List Int
 | _,0 => []
 | k,d + 1 => if (k : Int) ∈ to then (k : Int) :: znS to (k + 1) d else znS to (k + 1) d
theorem zqL (to : List Int) (y : Int) : ∀ (d k : Nat),y ∈ znS to k d ↔ y ∈ to ∧ (k : Int) ≤ y ∧ y < ((k + d : Nat) : Int)
 | 0,k => by simp [znS]
 | d + 1,k => by
   have g:=zqL to y d (k + 1);rw [znS];split
   ·rename_i c
    rw [ym,g];constructor
    ·rintro (h | ⟨a,b,f⟩)
     ·exact ⟨h ▸ c,by omega,by omega⟩
     ·exact ⟨a,by omega,by omega⟩
    ·rintro ⟨a,b,f⟩
     by_cases e : y = k
     ·exact .inl e
     ·exact .inr ⟨a,by omega,by omega⟩
   ·rename_i c
    rw [g];constructor
    ·rintro ⟨a,b,f⟩
     exact ⟨a,by omega,by omega⟩
    ·rintro ⟨a,b,f⟩
     have e : y ≠ k:=fun e => c (e ▸ a);exact ⟨a,by omega,by omega⟩
theorem zoZ (to : List Int) : ∀ (d k : Nat),(znS to k d).Pairwise (· < ·)
 | 0,_ => by simp [znS]
 | d + 1,k => by
   have a:=zoZ to d (k + 1);rw [znS];split
   ·rw [yi]
    refine ⟨fun y b => ?_,a⟩;have:=(zqL to y d (k + 1)).1 b;omega
   ·exact a
theorem zm4 : ∀ (l : List Int),l.Pairwise (· ≤ ·) → (zp l).Pairwise (· < ·) ∧ ∀ x,x ∈ zp l ↔ x ∈ l
 | [],_ => by simp [zp]
 | [x],_ => by simp [zp]
 | x :: y :: r,h => by
   rw [yi] at h;obtain ⟨g,f⟩:=zm4 (y :: r) h.2;rw [zp];split
   ·rename_i c
    subst c;refine ⟨g,fun z => ?_⟩;rw [f z];simp
   ·rename_i c
    rw [yi];refine ⟨⟨fun z j => ?_,g⟩,fun z => ?_⟩
    ·have d:=(f z).1 j
     have i:=h.1 y yh;have k:=h.1 z d;rcases ym.1 d with e | e
     ·omega
     ·have:=(yi.1 h.2).1 z e
      omega
    ·rw [ym,f z,ym (a:=z) (b:=x)]
theorem zvI (l : List Int) : (zcx l).Pairwise (· ≤ ·) ∧ ∀ x,x ∈ zcx l ↔ x ∈ l:=by
 have d : (zcx l).Pairwise (fun a b => decide (a ≤ b) = true):=List.pairwise_mergeSort (fun a b c d e => by simp only [decide_eq_true_eq] at *; omega) (fun a b => by simp only [yK,decide_eq_true_eq]; omega) l;exact ⟨d.imp fun h => by simpa using h,fun x => (List.mergeSort_perm l _).mem_iff⟩
theorem zvZ (l : List Int) : (zvr l).Pairwise (· < ·) ∧ ∀ x,x ∈ zvr l ↔ x ∈ l:=by
 obtain ⟨c,a⟩:=zvI l;obtain ⟨b,d⟩:=zm4 _ c;exact ⟨b,fun x => (d x).trans (a x)⟩
theorem zxW {to : List Int} {n : Nat} (hn : 1 ≤ n) (h : to.any (zlN n) = false) : znS to 1 (n - 1) = zvr to:=by
 obtain ⟨c,b⟩:=zvZ to;refine zqj (zoZ _ _ _) c fun x => ?_;rw [zqL,b x];constructor
 ·exact fun h => h.1
 ·intro a
  have:=yG.1 h x a;simp only [zlN,yK,decide_eq_true_eq] at this;exact ⟨a,by omega,by omega⟩
section
variable (f : PFunc) (hf : okF f) (hn1 : 1 ≤ f.blocks.length) (hn : f.blocks.length ≤ 64)
abbrev s6 (k : Nat) (r : zd) : zd:=.cells 0 3 [z6 f] :: .cells 0 2 [[.f (.sl []),.f (.sl [])]] :: .tok 1 [k] :: r
abbrev oE (b : PBlock) : Ob:=.cells 0 3 [[.f (ei b.kind),.f (ei b.arg),.f (eI b.to)]]
include hf hn1 hn
theorem zF7 (b : PBlock) (u : okB b) (q i : Nat) (rows : List (List Fz)) : ∀ (d k : Nat) (a0 a3 o j n l g m c h : V),b.to.length - k = d → k ≤ b.to.length →
  exec T zdL ⟨[a0,.one (.ptr 0 0 0 0),.one (.ptr 1 0 0 0),a3,vI f.blocks.length,.one (.ap 2 0 rows),vI i,.one (.ptr 3 0 0 0),.one (.ap 4 0 []),vI k,o,j,n,l,g,m,c,h],s6 f q [oE b,.tok 1 [0]],0,0⟩ =
   some (if (b.to.drop k).any (zlN f.blocks.length) = true then (.ret,⟨[vU,vU,.one (.ptr 1 0 0 0),vI 5,vU,vU,vU,vU,vU,vU,vU,vU,vU,vU,vU,vU,vU,vU],s6 f q [oE b,.tok 1 [0]],0,0⟩)
    else (.exit 2,⟨[vU,.one (.ptr 0 0 0 0),.one (.ptr 1 0 0 0),vU,vI f.blocks.length,.one (.ap 2 0 rows),vI i,.one (.ptr 3 0 0 0),.one (.ap 4 0 []),vU,vU,vU,vU,vU,vU,vU,vU,vU],s6 f q [oE b,.tok 1 [0]],0,0⟩)):=by
 intro d
 induction d with
 | zero =>
   intro k a0 a3 o j n l g m c h t v;have a : k = b.to.length:=(by omega);subst a;rw [xl zdL rfl,zfZ];simp -implicitDefEqProofs only [go_sem,s6,oE,yn,ya,yo,List.any_nil,yj]
 | succ d ih =>
   intro k a0 a3 o j n l g m c h t v;have a : k < b.to.length:=(by omega);have hd : b.to.drop k = b.to[k] :: b.to.drop (k + 1):=yg a;have p:=zj (r:=ri) a;obtain ⟨x,s⟩ : ∃ x,x = b.to[k]:=⟨_,rfl⟩;rw [← s] at p;have:=ih (k + 1) vU vU vU vU vU vU vU vU vU vU (by omega) (by omega);rw [xl zdL rfl,zfZ,hd,List.any_cons,← s]
   by_cases c1 : x ≤ 0
   ·have e : zlN f.blocks.length x = true:=by simp [zlN]; omega
    simp -implicitDefEqProofs only [go_sem,s6,oE,ilt a,p,ri,ya,eq_true c1,e,yb,yc]
   ·by_cases c2 : x ≥ (f.blocks.length : Int)
    ·have e : zlN f.blocks.length x = true:=by simp [zlN]; omega
     simp -implicitDefEqProofs only [go_sem,s6,oE,ilt a,p,ri,ya,c1,eq_true c2,e,yb,yc]
    ·have e : zlN f.blocks.length x = false:=by simp [zlN]; omega
     simp -implicitDefEqProofs only [go_sem,s6,oE] at this;simp -implicitDefEqProofs only [go_sem,s6,oE,ilt a,p,ri,ya,c1,c2,e,yb,yc,za a u.to,this]
theorem zG7 (b : PBlock) (t : okB b) (q i : Nat) (rows : List (List Fz)) : ∀ (d k : Nat) (acc : List Int) (a0 a3 a9 g m j e l a h : V),f.blocks.length - k = d → k ≤ f.blocks.length → acc.length ≤ k →
  exec T zdO ⟨[a0,.one (.ptr 0 0 0 0),.one (.ptr 1 0 0 0),a3,vI f.blocks.length,.one (.ap 2 0 rows),vI i,.one (.ptr 3 0 0 0),.one (.ap 4 0 (acc.map ri)),a9,vI k,g,m,j,e,l,a,h],s6 f q [oE b,.tok 1 [acc.length]],0,0⟩ =
   some (.exit 4,⟨[vU,.one (.ptr 0 0 0 0),.one (.ptr 1 0 0 0),vU,vI f.blocks.length,.one (.ap 2 0 rows),vI i,vU,.one (.ap 4 0 ((acc ++ znS b.to k d).map ri)),vU,vU,vU,vU,vU,vU,vU,vU,vU],s6 f q [oE b,.tok 1 [(acc ++ znS b.to k d).length]],0,0⟩):=by
 intro d
 induction d with
 | zero =>
   intro k acc a0 a3 a9 g m j e l a h r u s;have n : k = f.blocks.length:=(by omega);subst n;rw [xl zdO rfl,zfW];simp -implicitDefEqProofs only [go_sem,s6,oE,yn,znS,yI]
 | succ d ih =>
   intro k acc a0 a3 a9 g m j e l a h r u s;have n : k < f.blocks.length:=(by omega);have p:=zfS b.to (k : Int) t.to;rw [xl zdO rfl,zfW,znS]
   by_cases c : (k : Int) ∈ b.to
   ·have:=ih (k + 1) (acc ++ [(k : Int)]) vU vU vU vU vU vU vU vU vU vU (by omega) (by omega) (by simp; omega)
    have o : acc.length + 1 ≤ LIM:=(by unfold LIM; omega);have e1 : yS ri acc ++ [[Fz.lit (Value.int .i64 (k : Int))]] = yS ri (acc ++ [(k : Int)]):=(by simp [ri]);rw [yv,yz] at this;simp -implicitDefEqProofs only [go_sem,decide_eq_true c] at p;simp -implicitDefEqProofs only [go_sem,s6,oE,yt,yy,yB,yF] at this;simp -implicitDefEqProofs only [go_sem,s6,oE,ilt n,p,c,o,e1,ya,za n (show f.blocks.length ≤ 4294967296 by omega),yt,yy,this]
   ·have:=ih (k + 1) acc vU vU vU vU vU vU vU vU vU vU (by omega) (by omega) (by omega)
    simp -implicitDefEqProofs only [go_sem,decide_eq_false c] at p;simp -implicitDefEqProofs only [go_sem,s6,oE] at this;simp -implicitDefEqProofs only [go_sem,s6,oE,ilt n,p,c,za n (show f.blocks.length ≤ 4294967296 by omega),this]
theorem zG1 : ∀ (d k : Nat),f.blocks.length - k = d → k ≤ f.blocks.length → ∃ r,∀ (a0 a3 a7 a8 a9 n g m j c l a i : V),
  exec T zah ⟨[a0,.one (.ptr 0 0 0 0),.one (.ptr 1 0 0 0),a3,vI f.blocks.length,.one (.ap 2 0 (((zq f).take k).map rl)),vI k,a7,a8,a9,n,g,m,j,c,l,a,i],s6 f k [],0,0⟩ =
   some (if (f.blocks.drop k).all (zjr f.blocks.length) = true then (.exit 0,⟨[vU,vU,.one (.ptr 1 0 0 0),vU,vU,.one (.ap 2 0 ((zq f).map rl)),vU,vU,vU,vU,vU,vU,vU,vU,vU,vU,vU,vU],s6 f f.blocks.length [],0,0⟩)
    else (.ret,⟨[vU,vU,.one (.ptr 1 0 0 0),vI 5,vU,vU,vU,vU,vU,vU,vU,vU,vU,vU,vU,vU,vU,vU],.cells 0 3 [z6 f] :: .cells 0 2 [[.f (.sl []),.f (.sl [])]] :: r,0,0⟩)):=by
 intro d
 induction d with
 | zero =>
   intro k G H;have p : k = f.blocks.length:=(by omega);subst p;refine ⟨[],fun a0 a3 a7 a8 a9 n g m j c l a i => ?_⟩;have e : (zq f).take f.blocks.length = zq f:=yx (by simp [zq]);rw [xl zah rfl,zav];simp -implicitDefEqProofs only [go_sem,s6,yn,yo,yQ,e]
 | succ d ih =>
   intro k G H;have p : k < f.blocks.length:=(by omega);have hd : f.blocks.drop k = f.blocks[k] :: f.blocks.drop (k + 1):=yg p;obtain ⟨b,s⟩ : ∃ b,b = f.blocks[k]:=⟨_,rfl⟩;have C:=hf.block _ (ys p);have t:=zj (r:=rb) p;rw [← s] at C t;obtain ⟨r,E⟩:=ih (k + 1) (by omega) (by omega);have B : k < (zq f).length:=by simp [zq]; omega
   have D : (zq f).take (k + 1) = (zq f).take k ++ [zvr b.to]:=by
    rw [List.take_succ_eq_append_getElem B];simp [zq,s]
   have A : (((zq f).take k).map rl).length = k:=(by simp [zq]; omega);have x : k + 1 ≤ LIM:=(by unfold LIM; omega);rw [hd,yE,← s]
   by_cases g0 : b.kind < 0
   ·have e : zjr f.blocks.length b = false:=by
     have : zna b.kind = -1:=(by unfold zna; rw [if_neg (by omega),if_neg (by omega),if_neg (by omega)]);unfold zjr;rw [this,decide_eq_false (by omega)];rfl
    refine ⟨[.tok 1 [k],oE b],fun a0 a3 a7 a8 a9 n g m j c l a i => ?_⟩;rw [xl zah rfl,zav];simp -implicitDefEqProofs only [go_sem,s6,ilt p,t,rb,ya,yb,yc,eq_true g0,e]
   by_cases y : b.kind > 3
   ·have e : zjr f.blocks.length b = false:=by
     have : zna b.kind = -1:=(by unfold zna; rw [if_neg (by omega),if_neg (by omega),if_neg (by omega)]);unfold zjr;rw [this,decide_eq_false (by omega)];rfl
    refine ⟨[.tok 1 [k],oE b],fun a0 a3 a7 a8 a9 n g m j c l a i => ?_⟩;rw [xl zah rfl,zav];simp -implicitDefEqProofs only [go_sem,s6,ilt p,t,rb,ya,yb,yc,g0,eq_true y,e]
   have o : [ri 0,ri 1,ri 2,ri 0][b.kind.toNat]? = some (ri (zna b.kind)):=by
    have : b.kind = 0 ∨ b.kind = 1 ∨ b.kind = 2 ∨ b.kind = 3:=(by omega);rcases this with h | h | h | h <;> rw [h] <;> rfl
   have q : 0 ≤ b.kind:=by omega
   by_cases v : (b.to.length : Int) = zna b.kind
   ·have w:=fun a0 a3 n g m j c l a i => zF7 f hf hn1 hn b C k k (((zq f).take k).map rl) b.to.length 0 a0 a3 n g m j c l a i (by omega) (by omega)
    simp only [yk,yq] at w;cases u : b.to.any (zlN f.blocks.length)
    ·have e : zjr f.blocks.length b = true:=by
      unfold zjr;rw [u,decide_eq_true v.symm];rfl
     have z:=fun a0 a3 a9 g m j c l a i => zG7 f hf hn1 hn b C k k (((zq f).take k).map rl) (f.blocks.length - 1) 1 [] a0 a3 a9 g m j c l a i rfl (by omega) (by simp);simp only [yJ,zxW hn1 u,Int.natCast_one] at z;have e2 : ((zq f).take k).map rl ++ [[Fz.sl ((zvr b.to).map ri)]] = ((zq f).take (k + 1)).map rl:=(by rw [D,List.map_append]; rfl);refine ⟨r,fun a0 a3 a7 a8 a9 n g m j c l a i => ?_⟩;rw [xl zah rfl,zav];simp -implicitDefEqProofs only [go_sem,s6,oE,u,yj] at w;simp -implicitDefEqProofs only [go_sem,s6,oE,yB] at z;simp -implicitDefEqProofs only [go_sem,s6] at E;simp -implicitDefEqProofs only [ri] at o;simp -implicitDefEqProofs only [go_sem,s6,ilt p,t,rb,ya,yb,yc,g0,y,q,o,v,e,w,z,A,x,e2,za p (show f.blocks.length ≤ 4294967296 by omega),E]
    ·have e : zjr f.blocks.length b = false:=by
      unfold zjr;rw [u];simp
     refine ⟨[.tok 1 [k],oE b,.tok 1 [0]],fun a0 a3 a7 a8 a9 n g m j c l a i => ?_⟩;rw [xl zah rfl,zav];simp -implicitDefEqProofs only [go_sem,s6,oE,u] at w;simp -implicitDefEqProofs only [ri] at o;simp -implicitDefEqProofs only [go_sem,s6,ilt p,t,rb,ya,yb,yc,g0,y,q,o,v,e,w]
   ·have e : zjr f.blocks.length b = false:=by
     unfold zjr;rw [decide_eq_false (fun h => v h.symm)];rfl
    refine ⟨[.tok 1 [k],oE b],fun a0 a3 a7 a8 a9 n g m j c l a i => ?_⟩;rw [xl zah rfl,zav];simp -implicitDefEqProofs only [ri] at o;simp -implicitDefEqProofs only [go_sem,s6,ilt p,t,rb,ya,yb,yc,g0,y,q,o,v,e]
end
theorem zr9 (f : PFunc) (hf : okF f) : call T 77 [zd4 f] [] = some (zhk f,[]):=by
 rw [ze (fn:=zaJ) rfl]
 by_cases c1 : f.blocks.length < 1
 ·have a : (f.blocks.length : Int) = 0:=by omega
  have e : zaI f = false:=by
   have : (zq f).length = 0:=(by rw [zq,ya]; omega);unfold zaI zbA;rw [this];simp
  simp -implicitDefEqProofs only [go_sem,zaJ,zhk,e,eq_true a,ya,yj]
 have a : ¬ (f.blocks.length : Int) = 0:=by omega
 by_cases c2 : 64 < f.blocks.length
 ·have b : (f.blocks.length : Int) > 64:=by omega
  have e : zaI f = false:=by unfold zaI; rw [decide_eq_true c2]; rfl
  simp -implicitDefEqProofs only [go_sem,zaJ,zhk,e,a,eq_true b,ya,yj]
 have b : ¬ (f.blocks.length : Int) > 64:=by omega
 obtain ⟨r,h⟩:=zG1 f hf (by omega) (by omega) f.blocks.length 0 (by omega) (by omega);simp only [yk,yq,List.take_zero,List.map_nil] at h;cases c3 : f.blocks.all (zjr f.blocks.length)
 ·have e : zaI f = false:=by unfold zaI; rw [c3]; simp
  simp -implicitDefEqProofs only [go_sem,s6,c3,yj] at h;simp -implicitDefEqProofs only [go_sem,zaJ,zhk,e,a,b,ya,yj,h]
 ·have c:=zoJ (zq f) (zi6 hf)
  have e : zaI f = zbA (zq f):=by unfold zaI; rw [c3,decide_eq_false c2]; simp
  simp -implicitDefEqProofs only [go_sem,s6,c3] at h;cases c4 : zbA (zq f)
  ·simp -implicitDefEqProofs only [go_sem,zkJ,c4,yj] at c
   simp -implicitDefEqProofs only [go_sem,zaJ,zhk,e,c4,a,b,ya,yj,h,c]
  ·simp -implicitDefEqProofs only [go_sem,zkJ,c4] at c
   simp -implicitDefEqProofs only [go_sem,zaJ,zhk,e,c4,a,b,ya,h,c]
def ofS (level : Int) (o : POp) : Bool :=
 !(decide (level < 2) && (decide (1 < o.lanes) || decide (20 < o.kind))) && (!(decide (level < 1) && decide (17 < o.kind)) && zgN o)
section
variable (f : PFunc) (hf : okF f) (level : Int) (x y z dd : C) (σ : zd) (hck : σ[1]? = some (zze f level x y z dd)) (hσ : Ok σ)
include hck hσ
theorem zFF (o : POp) (b : zvE o) : call T 203 [.one (.ptr 1 0 0 0),vOp o] σ = some (vB (ofS level o),σ):=by
 rw [ze (fn:=zan) rfl];have hm:=zjS o b.1 b.2;have a:=zgB hck;simp -implicitDefEqProofs only [go_sem] at hm
 by_cases c1 : level < 2
 ·by_cases c2 : 1 < o.lanes
  ·simp -implicitDefEqProofs only [go_sem,zan,a,c1,c2,ofS,Ok.at hσ]
  ·by_cases c3 : 20 < o.kind
   ·simp -implicitDefEqProofs only [go_sem,zan,a,c1,c2,c3,ofS,Ok.at hσ]
   ·by_cases c4 : level < 1
    ·by_cases c5 : 17 < o.kind
     ·simp -implicitDefEqProofs only [go_sem,zan,a,c1,c2,c3,c4,c5,ofS,Ok.at hσ]
     ·simp -implicitDefEqProofs only [go_sem,zan,a,c1,c2,c3,c4,c5,ofS,Ok.at hσ,hm]
    ·simp -implicitDefEqProofs only [go_sem,zan,a,c1,c2,c3,c4,ofS,Ok.at hσ,hm]
 ·have c4 : ¬ level < 1:=by omega
  simp -implicitDefEqProofs only [go_sem,zan,a,c1,c4,ofS,Ok.at hσ,hm]
end
def zk2 (level : Int) (b : PBlock) : Bool:=b.phis.all (fun p => ziO p.bits) && b.ops.all (ofS level)
def zeR (level : Int) : List PBlock → Option PBlock
 | [] => none
 | b :: r => if zk2 level b = true then zeR level r else some b
def zgc (f : PFunc) (level : Int) : Bool:=ziO f.ret && (f.params.all ziO && f.blocks.all (zk2 level))
theorem zj5 (level : Int) : ∀ l : List PBlock,(zeR level l).isNone = l.all (zk2 level)
 | [] => rfl
 | b :: r => by
   simp only [zeR,yE];cases h : zk2 level b
   ·simp
   ·simpa using zj5 level r
theorem zuf (b : Int) (σ : zd) : call T 198 [vI b] σ = some (vB (!ziO b),σ):=by
 rw [ze (fn:=zdE) rfl];simp -implicitDefEqProofs only [go_sem,zdE]
theorem zuC (p : PPhi) (σ : zd) (hσ : Ok σ) : call T 200 [zG9 p] σ = some (vB (!ziO p.bits),σ):=by
 rw [ze (fn:=zdz) rfl];simp -implicitDefEqProofs only [go_sem,zdz,Ok.at hσ]
section
variable (f : PFunc) (hf : okF f) (level : Int) (x y z dd : C) (σ : zd) (hck : σ[1]? = some (zze f level x y z dd)) (hσ : Ok σ)
include hck hσ
theorem zue (o : POp) (h : zvE o) (r : zd) (g : Obs.lt (σ.length + 1 + r.length) r = true) : call T 202 [vOp o,.one (.ptr σ.length 0 0 0)] (σ ++ .cells 0 1 [[.ptr 1 0 0 0]] :: r) = some (vB (!ofS level o),σ ++ .cells 0 1 [[.ptr 1 0 0 0]] :: r):=by
 rw [ze (fn:=zdI) rfl]
 have a : Ok (σ ++ .cells 0 1 [[.ptr 1 0 0 0]] :: r):=Ok.app hσ (by
  have j:=zqR (show σ.length + 1 + r.length ≤ σ.length + (r.length + 1) by omega) r g;have e:=zib hck (r.length + 1)
  simp -implicitDefEqProofs only [go_sem,j,e])
 have b : Ok (σ ++ .cells 0 1 [[.ptr 1 0 0 0]] :: r ++ [.cells 0 6 [cOp o]]):=Ok.app a (by simp -implicitDefEqProofs only [go_sem]);have d:=zFF f level x y z dd (σ ++ .cells 0 1 [[.ptr 1 0 0 0]] :: r ++ [.cells 0 6 [cOp o]]) (by rw [yv]; exact zgB hck _) b o h;generalize hτ : σ ++ .cells 0 1 [[.ptr 1 0 0 0]] :: r = τ at *;have i : τ[σ.length]? = some (.cells 0 1 [[.ptr 1 0 0 0]]):=by rw [← hτ]; simp
 have c:=zgB i;simp -implicitDefEqProofs only [go_sem] at d;simp -implicitDefEqProofs only [go_sem,zdI,c,d,Ok.at a]
theorem zC5 (hf : okF f) : ∀ (d k : Nat) (a0 a2 a3 a4 a5 a9 g : V),f.blocks.length - k = d → k ≤ f.blocks.length →
  exec T zbJ ⟨[a0,.one (.ptr σ.length 0 0 0),a2,a3,a4,a5,vL (f.blocks.map rb),vI f.blocks.length,vI k,a9,g],σ ++ [.cells 0 1 [[.ptr 1 0 0 0]]],σ.length,σ.length⟩ =
   some (match zeR level (f.blocks.drop k) with
    | none => (.exit 0,⟨[vU,vU,vU,vU,vU,vU,vU,vU,vU,vU,vU],σ ++ [.cells 0 1 [[.ptr 1 0 0 0]]],σ.length,σ.length⟩)
    | some b => (.ret,⟨[vU,vU,vI 6,vU,vU,vU,vU,vU,vU,vU,vU],σ ++ [.cells 0 1 [[.ptr 1 0 0 0]],.cells 0 5 [zg b]],σ.length,σ.length⟩)):=by
 intro d
 induction d with
 | zero =>
   intro k a0 a2 a3 a4 a5 a9 g q m;have a : k = f.blocks.length:=(by omega);subst a;rw [xl zbJ rfl,zd5];simp -implicitDefEqProofs only [go_sem,yn,yo,zeR]
 | succ d ih =>
   intro k a0 a2 a3 a4 a5 a9 g q m;have a : k < f.blocks.length:=(by omega);have hd : f.blocks.drop k = f.blocks[k] :: f.blocks.drop (k + 1):=yg a;have l:=hf.block _ (ys a);have n:=zgB hck
   have i : Ok (σ ++ [.cells 0 1 [[.ptr 1 0 0 0]],.cells 0 5 [zg f.blocks[k]]]):=Ok.app hσ (by
    have m:=zib hck 2
    simp -implicitDefEqProofs only [go_sem,m])
   have e:=zkO f.blocks[k].phis (fun p => !ziO p.bits) 200 [] [] (σ ++ [.cells 0 1 [[.ptr 1 0 0 0]],.cells 0 5 [zg f.blocks[k]]]) l.phis (fun p _ => zuC p _ i)
   have c:=zlI f.blocks[k].ops (fun o => !ofS level o) 202 [] [.ptr σ.length 0 0 0] (σ ++ [.cells 0 1 [[.ptr 1 0 0 0]],.cells 0 5 [zg f.blocks[k]]]) l.ops (fun o c => by
    have:=zue f level x y z dd σ hck hσ o (l.op o c) [.cells 0 5 [zg f.blocks[k]]] (by simp -implicitDefEqProofs only [go_sem])
    exact this)
   have h : (f.blocks[k].phis.any fun p => !ziO p.bits) = !f.blocks[k].phis.all (fun p => ziO p.bits):=(by rw [← zoE,yH]);have j : (f.blocks[k].ops.any fun p => !ofS level p) = !f.blocks[k].ops.all (ofS level):=(by rw [← zoE,yH]);rw [h] at e;rw [j] at c;rw [xl zbJ rfl,zd5,hd,zeR];cases e1 : f.blocks[k].phis.all (fun p => ziO p.bits)
   ·simp -implicitDefEqProofs only [go_sem,e1] at e
    simp -implicitDefEqProofs only [go_sem,ilt a,zj a,rb,e,zk2,e1]
   ·cases e2 : f.blocks[k].ops.all (ofS level)
    ·simp -implicitDefEqProofs only [go_sem,e1,e2] at e c
     simp -implicitDefEqProofs only [go_sem,ilt a,zj a,rb,e,c,zk2,e1,e2]
    ·have:=ih (k + 1) vU vU vU vU vU vU vU (by omega) (by omega)
     simp -implicitDefEqProofs only [go_sem,e1,e2] at e c this;simp -implicitDefEqProofs only [go_sem,ilt a,zj a,rb,e,c,zk2,e1,e2,za a hf.blocks,Ok.up hσ,zib hck,this]
theorem zxL (hf : okF f) : call T 160 [.one (.ptr 1 0 0 0)] σ = some (vI (if zgc f level = true then 0 else 6),σ):=by
 rw [ze (fn:=zaw) rfl];have a:=zgB hck;have e : (f.params.any fun p => !ziO p) = !f.params.all ziO:=by rw [← zoE,yH]
 have c:=zaz f.params (fun p => !ziO p) 198 [] [] (σ ++ [.cells 0 1 [[.ptr 1 0 0 0]]]) hf.params (fun p _ => zuf p _);rw [e] at c;have h:=fun a0 a2 a3 a4 a5 a9 g => zC5 f level x y z dd σ hck hσ hf f.blocks.length 0 a0 a2 a3 a4 a5 a9 g (by omega) (by omega);simp only [yq,yk] at h;have d:=zj5 level f.blocks;cases e1 : ziO f.ret
 ·simp -implicitDefEqProofs only [go_sem,zaw,a,e1,zgc,Ok.at hσ]
 cases e2 : f.params.all ziO
 ·simp -implicitDefEqProofs only [go_sem,e2] at c
  simp -implicitDefEqProofs only [go_sem,zaw,a,e1,e2,c,zgc,Ok.at hσ]
 cases e3 : zeR level f.blocks with
 | none =>
   rw [e3] at d;simp only [Option.isNone_none] at d;simp -implicitDefEqProofs only [go_sem,e2,e3] at c h;simp -implicitDefEqProofs only [go_sem,zaw,a,e1,e2,c,h,zgc,← d,Ok.at hσ]
 | some b =>
   rw [e3] at d;simp only [Option.isNone_some] at d;simp -implicitDefEqProofs only [go_sem,e2,e3] at c h;simp -implicitDefEqProofs only [go_sem,zaw,a,e1,e2,c,h,zgc,← d,Ok.at hσ]
end
end AC

/- A part of the proof of AffineFinds. Conditions: none. -/
import Derived.Test.YtmkncmffaaninaaGreatXAZ
import Derived.Test.YtmkncmffaaninaaGreatXAX
import Derived.Test.YtmkncmffaaninaaGreatXBA
import Derived.Test.YtmkncmffaaninaaGreatXAY
set_option linter.all false
open List renaming length_map → ya,getD_eq_getElem?_getD → yd,getElem?_eq_getElem → ye,getElem?_eq_none → yf,drop_eq_getElem_cons → yg,mem_cons_self → yh,pairwise_cons → yi,mem_cons_of_mem → yl,mem_cons → ym,drop_length → yo,ext_getElem? → yp,drop_zero → yq,getElem?_set_self → yr,getElem_mem → ys,length_append → yt,replicate → yu,append_assoc → yv,getElem?_replicate → yw,take_of_length_le → yx,length_cons → yy,singleton_append → yz,getElem?_set_ne → yA,length_nil → yB,mem_singleton → yD,all_cons → yE,any_eq_false → yG,append_nil → yI,nil_append → yJ,length → yM,all_nil → yQ,map_set → yR,map → yS,range → yT
open Int renaming natCast_nonneg → yb,toNat_natCast → yc,natCast_zero → yk,lt_irrefl → yn
open Bool renaming false_eq_true → yj,not_not → yH,or_eq_true → yK,false_or → yP
open Nat renaming add_sub_cancel → yC,zero_add → yF,add_assoc → yL,add_comm → yN,add_zero → yO
namespace AC
open Go Go.A Go.A.Lex
def apT (t : Nat) : Nat → List (List Int) → List (List C)
 | _,[] => []
 | q,l :: r => [.ap t q (l.map ri)] :: apT t (q + 1) r
theorem zls (t : Nat) : ∀ (out : List (List Int)) (q : Nat),(apT t q out).length = out.length
 | [],_ => rfl
 | l :: r,q => by simp [apT,zls t r (q + 1)]
theorem zwr (t : Nat) : ∀ (out : List (List Int)) (q k : Nat) (h : k < out.length),(apT t q out)[k]? = some [.ap t (q + k) (out[k].map ri)]
 | [],_,_,h => by simp at h
 | l :: r,q,0,_ => by simp [apT]
 | l :: r,q,k + 1,h => by
   simp only [apT,List.getElem?_cons_succ,List.getElem_cons_succ];rw [zwr t r (q + 1) k (by simpa using h),yL,yN 1 k]
theorem zB9 (t : Nat) : ∀ (out : List (List Int)) (q k : Nat) (l : List Int),(apT t q out).set k [.ap t (q + k) (l.map ri)] = apT t q (out.set k l)
 | [],_,_,_ => rfl
 | x :: r,q,0,l => by simp [apT]
 | x :: r,q,k + 1,l => by
   simp only [apT,List.set_cons_succ];rw [← zB9 t r (q + 1) k l,yL,yN 1 k]
theorem zzZ (t : Nat) : ∀ (out : List (List Int)) (q : Nat),za6 (apT t q out) = some (out.map rl)
 | [],_ => rfl
 | x :: r,q => by simp [apT,za6,zfR,zyz,zg6,zzZ t r (q + 1),rl]
theorem zF6 (t n : Nat) : (yT n).map (nest t [.f (.sl [])] 0) = apT t 0 (yu n []):=by
 apply yp;intro k
 by_cases a : k < n
 ·rw [zwr _ _ _ _ (by simpa using a)]
  simp [a,nest]
 ·rw [yf (by simp; omega),yf (by rw [zls]; simp; omega)]
def zid (i : Int) : Nat → List (List Int) → List Int
 | _,[] => []
 | k,l :: r => if i ∈ l then (k : Int) :: zid i (k + 1) r else zid i (k + 1) r
def zif (l : List Int) (k : Nat) : Int:=if k = 0 then -1 else l.getD (k - 1) (-1)
section
variable (succ : List (List Int)) (hn1 : 1 ≤ succ.length) (hn : succ.length ≤ 64) (hl : ∀ l ∈ succ,l.length ≤ 4294967296)
abbrev sM1 : zd:=[.cells 0 2 [[.f (.sl []),.f (.sl [])]]]
include hn hl
theorem zDp (i : Nat) (n : i < succ.length) : ∀ (d k : Nat) (a2 a6 a7 a8 a9 o l g h p m : V),succ[i].length - k = d → k ≤ succ[i].length → -1 ≤ zif succ[i] k →
  exec T zcK ⟨[vLs succ,.one (.ptr 0 0 0 0),a2,vI succ.length,vI i,vI k,a6,a7,a8,a9,o,l,g,h,p,m],sM1,0,0⟩ =
   some (if z8 succ.length (zif succ[i] k) (succ[i].drop k) = true then (.exit 2,⟨[vLs succ,.one (.ptr 0 0 0 0),vU,vI succ.length,vI i,vU,vU,vU,vU,vU,vU,vU,vU,vU,vU,vU],sM1,0,0⟩)
    else (.ret,⟨[vU,.one (.ptr 0 0 0 0),vI 5,vU,vU,vU,vU,vU,vU,vU,vU,vU,vU,vU,vU,vU],sM1,0,0⟩)):=by
 intro d
 induction d with
 | zero =>
   intro k a2 a6 a7 a8 a9 o l g h p m A B hm;have f : k = succ[i].length:=(by omega);subst f;rw [xl zcK rfl,zex];simp -implicitDefEqProofs only [go_sem,zy n,rl,yn,ya,yo,z8,yb,yc]
 | succ d ih =>
   intro k a2 a6 a7 a8 a9 o l g h p m A B hm;have f : k < succ[i].length:=(by omega);have s:=hl _ (ys n);have hd : succ[i].drop k = succ[i][k] :: succ[i].drop (k + 1):=yg f
   have a : zif succ[i] (k + 1) = succ[i][k]:=by
    unfold zif;rw [if_neg (by omega),yC,yd,ye f];rfl
   have q:=zy (r:=ri) f;obtain ⟨x,y⟩ : ∃ x,x = succ[i][k]:=⟨_,rfl⟩;rw [← y] at q a;rw [xl zcK rfl,zex,hd,z8,← y]
   by_cases c1 : x < 0
   ·have e : x ≤ zif succ[i] k ∨ (succ.length : Int) ≤ x:=.inl (by omega)
    rw [if_pos e];simp -implicitDefEqProofs only [go_sem,zy n,rl,ilt f,q,ri,ya,eq_true c1,yb,yc]
   by_cases c2 : (succ.length : Int) ≤ x
   ·have e : x ≤ zif succ[i] k ∨ (succ.length : Int) ≤ x:=.inr c2
    have c : x ≥ (succ.length : Int):=c2;rw [if_pos e];simp -implicitDefEqProofs only [go_sem,zy n,rl,ilt f,q,ri,ya,c1,eq_true c,yb,yc]
   have c : ¬ x ≥ (succ.length : Int):=c2
   by_cases z : k = 0
   ·subst z
    have e : ¬ (x ≤ zif succ[i] 0 ∨ (succ.length : Int) ≤ x):=by
     have : zif succ[i] 0 = -1:=rfl;omega
    have:=ih 1 vU vU vU vU vU vU vU vU vU vU vU (by omega) (by omega) (by rw [show (1 : Nat) = 0 + 1 from rfl,a]; omega);rw [show (1 : Nat) = 0 + 1 from rfl,a] at this;have w0:=za f s;have z0 : ¬ ((0 : Int) > 0):=(by omega);have t : (0 : Int) < (succ[i].length : Int):=(by omega);simp -implicitDefEqProofs only [go_sem] at this;rw [if_neg e];simp -implicitDefEqProofs only [go_sem,yk,zy n,rl,eq_true t,q,ri,ya,c1,c,z0,yb,yc,w0];exact this
   ·obtain ⟨j,rfl⟩ : ∃ j,k = j + 1:=⟨k - 1,by omega⟩
    have w : j < succ[i].length:=(by omega);have v:=zy (r:=ri) w
    have b : zif succ[i] (j + 1) = succ[i][j]:=by
     unfold zif;rw [if_neg (by omega),yC,yd,ye w];rfl
    have u : Go.IntKind.i64.wrap (((j + 1 : Nat) : Int) - 1) = (j : Int):=by
     rw [show ((j + 1 : Nat) : Int) - 1 = (j : Int) by omega,wrap_i64] <;> omega
    have z0 : ((j + 1 : Nat) : Int) > 0:=by omega
    by_cases c3 : x ≤ succ[i][j]
    ·have e : x ≤ zif succ[i] (j + 1) ∨ (succ.length : Int) ≤ x:=.inl (by rw [b]; exact c3)
     rw [if_pos e];simp -implicitDefEqProofs only [go_sem,zy n,rl,ilt f,q,v,ri,ya,c1,c,eq_true z0,u,eq_true c3,yb,yc]
    ·have e : ¬ (x ≤ zif succ[i] (j + 1) ∨ (succ.length : Int) ≤ x):=by rw [b]; omega
     have:=ih (j + 1 + 1) vU vU vU vU vU vU vU vU vU vU vU (by omega) (by omega) (by rw [a]; omega);rw [a] at this;simp -implicitDefEqProofs only [go_sem] at this;rw [if_neg e];simp -implicitDefEqProofs only [go_sem,zy n,rl,ilt f,q,v,ri,ya,c1,c,eq_true z0,u,c3,yb,yc,za f s,this]
theorem zDN : ∀ (d k : Nat) (a2 a5 a6 a7 a8 a9 g e a b h f : V),succ.length - k = d → k ≤ succ.length →
  exec T zcf ⟨[vLs succ,.one (.ptr 0 0 0 0),a2,vI succ.length,vI k,a5,a6,a7,a8,a9,g,e,a,b,h,f],sM1,0,0⟩ =
   some (if (succ.drop k).all (fun l => rising l succ.length) = true then (.exit 0,⟨[vLs succ,.one (.ptr 0 0 0 0),vU,vI succ.length,vU,vU,vU,vU,vU,vU,vU,vU,vU,vU,vU,vU],sM1,0,0⟩)
    else (.ret,⟨[vU,.one (.ptr 0 0 0 0),vI 5,vU,vU,vU,vU,vU,vU,vU,vU,vU,vU,vU,vU,vU],sM1,0,0⟩)):=by
 intro d
 induction d with
 | zero =>
   intro k a2 a5 a6 a7 a8 a9 g e a b h f n o;have i : k = succ.length:=(by omega);subst i;rw [xl zcf rfl,zeI];simp -implicitDefEqProofs only [go_sem,yn,yo,yQ]
 | succ d ih =>
   intro k a2 a5 a6 a7 a8 a9 g e a b h f n o;have i : k < succ.length:=(by omega);have hd : succ.drop k = succ[k] :: succ.drop (k + 1):=yg i;have j:=fun a2 a6 a7 a8 a9 g e a b h f => zDp succ hn hl k i succ[k].length 0 a2 a6 a7 a8 a9 g e a b h f (by omega) (by omega) (by simp [zif]);have m : zif succ[k] 0 = -1:=rfl;simp only [yk,yq,m] at j;have:=ih (k + 1) vU vU vU vU vU vU vU vU vU vU vU vU (by omega) (by omega);rw [xl zcf rfl,zeI,hd,yE,rising];simp -implicitDefEqProofs only [go_sem] at this;cases c : z8 succ.length (-1) succ[k]
   ·simp -implicitDefEqProofs only [go_sem,c] at j
    simp -implicitDefEqProofs only [go_sem,ilt i,j]
   ·simp -implicitDefEqProofs only [go_sem,c] at j
    simp -implicitDefEqProofs only [go_sem,ilt i,j,za i (show succ.length ≤ 4294967296 by omega),this]
abbrev sM4 (out : List (List Int)) : zd:=[.cells 0 2 [[.f (.sl []),.f (.sl [])]],.tok 1 (out.map yM),.cells 0 1 (apT 1 0 out),.cells 0 2 [[.f (.sl (succ.map rl)),.own 2 0 0 succ.length]]]
theorem zEy (i : Nat) (B : i < succ.length) : ∀ (d k : Nat) (out : List (List Int)) (r : List Int) (a2 a4 a5 a9 h f b e l g : V),succ.length - k = d → k ≤ succ.length → out.length = succ.length → out[i]? = some r → r.length ≤ k →
  exec T zck ⟨[vLs succ,.one (.ptr 0 0 0 0),a2,vI succ.length,a4,a5,.one (.ptr 3 0 0 0),vI i,vI k,a9,h,f,b,e,l,g],sM4 succ out,0,0⟩ =
   some (.exit 6,⟨[vLs succ,.one (.ptr 0 0 0 0),vU,vI succ.length,vU,vU,.one (.ptr 3 0 0 0),vI i,vU,vU,vU,vU,vU,vU,vU,vU],sM4 succ (out.set i (r ++ zid i k (succ.drop k))),0,0⟩):=by
 intro d
 induction d with
 | zero =>
   intro k out r a2 a4 a5 a9 h f b e l g A y w o t;have a : k = succ.length:=(by omega);subst a
   have s : out.set i r = out:=by
    apply yp;intro j
    by_cases c : i = j
    ·subst c; rw [yr (by omega),o]
    ·rw [yA c]
   rw [xl zck rfl,ze1];simp -implicitDefEqProofs only [go_sem,sM4,yn,yo,zid,yI,s]
 | succ d ih =>
   intro k out r a2 a4 a5 a9 h f b e l g A y w o t;have a : k < succ.length:=(by omega);have hd : succ.drop k = succ[k] :: succ.drop (k + 1):=yg a;have q:=zmk succ[k] (i : Int) (hl _ (ys a));rw [xl zck rfl,ze1,hd,zid]
   by_cases c : (i : Int) ∈ succ[k]
   ·have n : i < out.length:=by omega
    have x : out[i] = r:=by
     rw [ye n] at o;injection o
    have u:=zwr 1 out 0 i n;have s:=fun m => zB9 1 out 0 i m;simp only [yF] at u s;rw [x] at u;have z : (out.map yM)[i]? = some r.length:=(by simp [o]);have p : r.length + 1 ≤ LIM:=(by unfold LIM; omega);have v : ((i : Int) < (succ.length : Int)) = True:=(by simp; omega);have:=ih (k + 1) (out.set i (r ++ [(k : Int)])) (r ++ [(k : Int)]) vU vU vU vU vU vU vU vU vU vU (by omega) (by omega) (by simpa using w) (by rw [yr n]) (by simp; omega);have e1 : yS ri r ++ [[Fz.lit (Value.int .i64 (k : Int))]] = yS ri (r ++ [(k : Int)]):=(by simp [ri]);rw [List.set_set,yv,yz] at this;simp -implicitDefEqProofs only [go_sem,decide_eq_true c] at q;simp -implicitDefEqProofs only [go_sem,sM4,yR,yt,yy,yB,yF] at this;simp -implicitDefEqProofs only [go_sem,sM4,ilt a,zy a,rl,q,c,u,z,p,v,e1,s,yb,yc,ya,za a (show succ.length ≤ 4294967296 by omega),yR,zls,this]
   ·have:=ih (k + 1) out r vU vU vU vU vU vU vU vU vU vU (by omega) (by omega) w o (by omega)
    simp -implicitDefEqProofs only [go_sem,decide_eq_false c] at q;simp -implicitDefEqProofs only [go_sem,sM4] at this;simp -implicitDefEqProofs only [go_sem,sM4,ilt a,zy a,rl,q,c,ya,za a (show succ.length ≤ 4294967296 by omega),this]
def zzj (k : Nat) : List (List Int):=(yT succ.length).map fun i => if i < k then zid (i : Int) 0 succ else []
omit hn hl in
theorem zgz (k : Nat) : (zzj succ k).length = succ.length:=by simp [zzj]
omit hn hl in
theorem zmW (k i : Nat) (h : i < succ.length) : (zzj succ k)[i]? = some (if i < k then zid (i : Int) 0 succ else []):=by simp [zzj,h]
omit hn hl in
theorem zu1 : zzj succ 0 = yu succ.length []:=by
 apply yp;intro j
 by_cases c : j < succ.length
 ·rw [zmW succ 0 j c]; simp [c]
 ·rw [yf (by rw [zgz]; omega),yf (by simp; omega)]
omit hn hl in
theorem zEU (k : Nat) (h : k < succ.length) : (zzj succ k).set k (zid (k : Int) 0 succ) = zzj succ (k + 1):=by
 apply yp;intro j
 by_cases c : j < succ.length
 ·rw [zmW succ (k + 1) j c]
  by_cases e : k = j
  ·subst e
   rw [yr (by rw [zgz]; exact h),if_pos (by omega)]
  ·rw [yA e,zmW succ k j c]
   by_cases f : j < k
   ·rw [if_pos f,if_pos (by omega)]
   ·rw [if_neg f,if_neg (by omega)]
 ·rw [yf (by rw [List.length_set,zgz]; omega),yf (by rw [zgz]; omega)]
theorem zDg : ∀ (d k : Nat) (a2 a4 a5 a8 a9 a g b f e c : V),succ.length - k = d → k ≤ succ.length →
  exec T zcn ⟨[vLs succ,.one (.ptr 0 0 0 0),a2,vI succ.length,a4,a5,.one (.ptr 3 0 0 0),vI k,a8,a9,a,g,b,f,e,c],sM4 succ (zzj succ k),0,0⟩ =
   some (.exit 4,⟨[vU,.one (.ptr 0 0 0 0),vU,vU,vU,vU,.one (.ptr 3 0 0 0),vU,vU,vU,vU,vU,vU,vU,vU,vU],sM4 succ (zzj succ succ.length),0,0⟩):=by
 intro d
 induction d with
 | zero =>
   intro k a2 a4 a5 a8 a9 a g b f e c j l;have h : k = succ.length:=(by omega);subst h;rw [xl zcn rfl,zeB];simp -implicitDefEqProofs only [go_sem,sM4,yn]
 | succ d ih =>
   intro k a2 a4 a5 a8 a9 a g b f e c j l;have h : k < succ.length:=(by omega);have i:=fun a2 a4 a5 a9 a g b f e c => zEy succ hn hl k h succ.length 0 (zzj succ k) [] a2 a4 a5 a9 a g b f e c (by omega) (by omega) (zgz succ k) (by rw [zmW succ k k h,if_neg (by omega)]) (by simp);simp only [yk,yq,yJ,zEU succ k h] at i;have:=ih (k + 1) vU vU vU vU vU vU vU vU vU vU vU (by omega) (by omega);rw [xl zcn rfl,zeB];simp -implicitDefEqProofs only [go_sem,sM4] at i this;simp -implicitDefEqProofs only [go_sem,sM4,ilt h,i,za h (show succ.length ≤ 4294967296 by omega),this]
end
theorem zpY : ∀ {a b : List Int},a.Pairwise (· < ·) → b.Pairwise (· < ·) → (∀ x,x ∈ a ↔ x ∈ b) → a = b
 | [],[],_,_,_ => rfl
 | [],y :: b,_,_,h => by have:=(h y).2 yh; simp at this
 | x :: a,[],_,_,h => by have:=(h x).1 yh; simp at this
 | x :: a,y :: b,ha,hb,h => by
   rw [yi] at ha hb
   have d : x = y:=by
    have f:=(h x).1 yh;have g:=(h y).2 yh;rcases ym.1 f with e | e
    ·exact e
    ·rcases ym.1 g with e2 | e2
     ·exact e2.symm
     ·have:=hb.1 x e
      have:=ha.1 y e2;omega
   subst d;rw [zpY ha.2 hb.2 fun z => ?_];constructor
   ·intro c
    rcases ym.1 ((h z).1 (yl _ c)) with e | e
    ·subst e
     have:=ha.1 z c;omega
    ·exact e
   ·intro c
    rcases ym.1 ((h z).2 (yl _ c)) with e | e
    ·subst e
     have:=hb.1 z c;omega
    ·exact e
theorem zoo (i y : Int) : ∀ (r : List (List Int)) (k : Nat),y ∈ zid i k r ↔ ∃ j l,r[j]? = some l ∧ y = ((k + j : Nat) : Int) ∧ i ∈ l
 | [],k => by simp [zid]
 | l :: r,k => by
   rw [zid];have f:=zoo i y r (k + 1);constructor
   ·intro h
    split at h
    ·rename_i c
     rcases ym.1 h with e | h
     ·exact ⟨0,l,rfl,by rw [e,yO],c⟩
     ·obtain ⟨j,q,a,d,b⟩:=f.1 h
      exact ⟨j + 1,q,by simpa using a,by rw [d]; congr 1; omega,b⟩
    ·obtain ⟨j,q,a,d,b⟩:=f.1 h
     exact ⟨j + 1,q,by simpa using a,by rw [d]; congr 1; omega,b⟩
   ·rintro ⟨j,q,a,d,b⟩
    cases j with
    | zero =>
      simp only [List.getElem?_cons_zero,Option.some.injEq] at a;subst a;rw [if_pos b];exact ym.2 (.inl (by rw [d,yO]))
    | succ j =>
      have:=f.2 ⟨j,q,by simpa using a,by rw [d]; congr 1; omega,b⟩;split
      ·exact yl _ this
      ·exact this
theorem znm (i : Int) : ∀ (r : List (List Int)) (k : Nat),(zid i k r).Pairwise (· < ·)
 | [],_ => by simp [zid]
 | l :: r,k => by
   have a:=znm i r (k + 1);rw [zid];split
   ·rw [yi]
    refine ⟨fun y b => ?_,a⟩;obtain ⟨j,q,d,e,c⟩:=(zoo i y r (k + 1)).1 b;omega
   ·exact a
theorem znb {n : Int} : ∀ {l : List Int} {last : Int},z8 n last l = true → l.Pairwise (· < ·)
 | [],_,_ => by simp
 | y :: r,last,h => by
   simp only [z8] at h;split at h
   ·cases h
   ·rw [yi]
    exact ⟨fun x a => (zqE h x a).1,znb h⟩
theorem zo4 (i : Int) : ∀ (l : List Int) (out : List (List Int)),(∀ x ∈ l,0 ≤ x ∧ x < (out.length : Int)) → l.Pairwise (· < ·) →
  (∀ (X : Nat),X < out.length → ∀ y ∈ out.getD X [],y < i ∨ (y = i ∧ (X : Int) ∉ l)) → (∀ (X : Nat),X < out.length → (out.getD X []).Pairwise (· < ·)) →
  ∀ (X : Nat),X < out.length → ((l.foldl (zvr i) out).getD X []).Pairwise (· < ·)
 | [],out,_,_,_,h => h
 | x :: l,out,hx,hl,h1,h2 => by
   rw [List.foldl_cons];have f:=hx x yh;rw [yi] at hl;have g : x ∉ l:=fun h => by have:=hl.1 x h; omega
   have:=zo4 i l (zvr i out x) (fun y e => by rw [zgB]; exact hx y (yl _ e)) hl.2 (fun X d y e => ?_) (fun X d => ?_)
   ·rw [zgB] at this
    exact this
   ·rw [zgB] at d
    rw [ztn i out x X f.1 d] at e;split at e
    ·rename_i c
     rcases List.mem_append.1 e with e | e
     ·rcases h1 X d y e with h | ⟨_,h⟩
      ·exact .inl h
      ·exact absurd (by rw [← c]; exact yh) h
     ·exact .inr ⟨yD.1 e,by rw [← c]; exact g⟩
    ·rcases h1 X d y e with h | ⟨h,k⟩
     ·exact .inl h
     ·exact .inr ⟨h,fun hm => k (yl _ hm)⟩
   ·rw [zgB] at d
    rw [ztn i out x X f.1 d];split
    ·rename_i c
     rw [List.pairwise_append];refine ⟨h2 X d,by simp,fun a j b m => ?_⟩;rw [yD.1 m];rcases h1 X d a j with h | ⟨_,h⟩
     ·exact h
     ·exact absurd (by rw [← c]; exact yh) h
    ·exact h2 X d
theorem zj6 (N : Nat) : ∀ (l : List (List Int)) (i : Nat) (out : List (List Int)),out.length = N → (∀ r ∈ l,(∀ x ∈ r,0 ≤ x ∧ x < (N : Int)) ∧ r.Pairwise (· < ·)) →
  (∀ (X : Nat),X < N → ∀ y ∈ out.getD X [],y < (i : Int)) → (∀ (X : Nat),X < N → (out.getD X []).Pairwise (· < ·)) →
  ∀ (X : Nat),X < N → ((zbr i l out).getD X []).Pairwise (· < ·)
 | [],_,_,_,_,_,h => h
 | r :: l,i,out,ho,hl,h1,h2 => by
   rw [zbr];subst ho;have b:=hl r yh;refine zj6 _ l (i + 1) _ (zgV _ _ _) (fun q d => hl q (yl _ d)) (fun X a y c => ?_) (zo4 i r out b.1 b.2 (fun X a y c => .inl (h1 X a y c)) h2);rcases (zpQ (i : Int) X y r out (fun x e => (b.1 x e).1) a).1 c with h | h
   ·have:=h1 X a y h
    omega
   ·omega
theorem zyO {succ : List (List Int)} (h : zbH succ = true) : zzj succ succ.length = zZ succ:=by
 obtain ⟨t,n64,m⟩:=ze3 h
 have f : ∀ l ∈ succ,z8 succ.length (-1) l = true:=fun l hl => by
  unfold zbH at h;simp only [Bool.not_eq_true',Bool.or_eq_false_iff,decide_eq_false_iff_not,yG] at h;have b : rising l succ.length = true:=by simpa using h.2.2 l hl
  exact b
 apply yp;intro j
 by_cases c : j < succ.length
 ·rw [zmW succ _ j c,if_pos c]
  have a : j < (zZ succ).length:=by rw [zcu]; exact c
  rw [ye a]
  congr 1
  have e : (zZ succ)[j] = (zZ succ).getD j []:=by rw [yd,ye a]; rfl
  rw [e]
  have p : ((zZ succ).getD j []).Pairwise (· < ·):=zj6 succ.length succ 0 _ (by simp) (fun r d => ⟨m r d,znb (f r d)⟩) (fun X g y n => by
   rw [yd,yw,if_pos g] at n
   simp at n) (fun X g => by
   rw [yd,yw,if_pos g]
   simp) j c
  refine zpY (znm _ _ _) p fun y => ?_;have o:=zm9 m (x:=(j : Int)) ⟨by omega,by omega⟩ y;rw [yc] at o;rw [o,zoo];constructor
  ·rintro ⟨k,l,i,q,b⟩
   have s:=(List.getElem?_eq_some_iff.1 i).1;refine ⟨by omega,by omega,?_⟩;rw [show y.toNat = k by omega,yd,i];exact b
  ·rintro ⟨i,q,b⟩
   have a : y.toNat < succ.length:=(by omega);rw [yd,ye a] at b;exact ⟨y.toNat,succ[y.toNat],ye a,by omega,b⟩
 ·rw [yf (by rw [zgz]; omega),yf (by rw [zcu]; omega)]
theorem zEw {succ : List (List Int)} (a : 1 ≤ succ.length) (b : succ.length ≤ 64) : zbH succ = succ.all fun l => rising l succ.length:=by
 unfold zbH;rw [decide_eq_false (by omega),decide_eq_false (by omega),yP,yP]
 induction succ.length generalizing succ <;> rw [List.not_any_eq_all_not] <;> simp
theorem zo0 (succ : List (List Int)) (p : zlg succ) : call T 129 [vLs succ] [] = some (zkE succ,[]):=by
 rw [ze (fn:=zaV) rfl]
 by_cases c1 : succ.length < 1
 ·have a : (succ.length : Int) = 0:=by omega
  simp -implicitDefEqProofs only [go_sem,zaV,zkE,zbH,c1,eq_true a,ya]
 have a : ¬ (succ.length : Int) = 0:=by omega
 by_cases c2 : 64 < succ.length
 ·have b : (succ.length : Int) > 64:=by omega
  simp -implicitDefEqProofs only [go_sem,zaV,zkE,zbH,c1,a,c2,eq_true b,ya]
 have b : ¬ (succ.length : Int) > 64:=by omega
 have n:=zEw (succ:=succ) (by omega) (by omega);have k:=fun a2 a5 a6 a7 a8 a9 g e c d h f => zDN succ (by omega) p.2 succ.length 0 a2 a5 a6 a7 a8 a9 g e c d h f (by omega) (by omega);simp only [yk,yq,← n] at k;cases c3 : zbH succ
 ·simp -implicitDefEqProofs only [go_sem,c3] at k
  simp -implicitDefEqProofs only [go_sem,zaV,zkE,c3,a,b,ya,k]
 ·have l:=fun a2 a4 a5 a8 a9 g e c d h f => zDg succ (by omega) p.2 succ.length 0 a2 a4 a5 a8 a9 g e c d h f (by omega) (by omega)
  have j:=zF6 1 succ.length;have q : (zzj succ 0).map yM = yu succ.length 0:=by rw [zu1,List.map_replicate]; rfl
  have o : apT 1 0 (zzj succ 0) = apT 1 0 (yu succ.length []):=by rw [zu1]
  have i : (succ.length : Int) ≤ (LIM : Int):=by unfold LIM; omega
  have m : za6 ((apT 1 0 (zZ succ)).take succ.length) = some ((zZ succ).map rl):=by
   rw [yx (by rw [zls,zcu]; omega),zzZ]
  simp only [yk,zyO c3] at l;simp -implicitDefEqProofs only [go_sem,c3] at k;simp -implicitDefEqProofs only [go_sem,sM4,q,o] at l;simp -implicitDefEqProofs only [go_sem,zaV,zkE,c3,a,b,ya,k,i,yb,yc,j,l,m]
def zoz (to : List Int) : Nat → Nat → List Int
 | _,0 => []
 | k,d + 1 => if (k : Int) ∈ to then (k : Int) :: zoz to (k + 1) d else zoz to (k + 1) d
theorem zqn (to : List Int) (y : Int) : ∀ (d k : Nat),y ∈ zoz to k d ↔ y ∈ to ∧ (k : Int) ≤ y ∧ y < ((k + d : Nat) : Int)
 | 0,k => by simp [zoz]
 | d + 1,k => by
   have g:=zqn to y d (k + 1);rw [zoz];split
   ·rename_i c
    rw [ym,g];constructor
    ·rintro (h | ⟨a,f,b⟩)
     ·exact ⟨h ▸ c,by omega,by omega⟩
     ·exact ⟨a,by omega,by omega⟩
    ·rintro ⟨a,f,b⟩
     by_cases e : y = k
     ·exact .inl e
     ·exact .inr ⟨a,by omega,by omega⟩
   ·rename_i c
    rw [g];constructor
    ·rintro ⟨a,f,b⟩
     exact ⟨a,by omega,by omega⟩
    ·rintro ⟨a,f,b⟩
     have e : y ≠ k:=fun e => c (e ▸ a);exact ⟨a,by omega,by omega⟩
theorem zo3 (to : List Int) : ∀ (d k : Nat),(zoz to k d).Pairwise (· < ·)
 | 0,_ => by simp [zoz]
 | d + 1,k => by
   have a:=zo3 to d (k + 1);rw [zoz];split
   ·rw [yi]
    refine ⟨fun y b => ?_,a⟩;have:=(zqn to y d (k + 1)).1 b;omega
   ·exact a
theorem zm5 : ∀ (l : List Int),l.Pairwise (· ≤ ·) → (zai l).Pairwise (· < ·) ∧ ∀ x,x ∈ zai l ↔ x ∈ l
 | [],_ => by simp [zai]
 | [x],_ => by simp [zai]
 | x :: y :: r,h => by
   rw [yi] at h;obtain ⟨g,f⟩:=zm5 (y :: r) h.2;rw [zai];split
   ·rename_i c
    subst c;refine ⟨g,fun z => ?_⟩;rw [f z];simp
   ·rename_i c
    rw [yi];refine ⟨⟨fun z j => ?_,g⟩,fun z => ?_⟩
    ·have d:=(f z).1 j
     have i:=h.1 y yh;have k:=h.1 z d;rcases ym.1 d with e | e
     ·omega
     ·have:=(yi.1 h.2).1 z e
      omega
    ·rw [ym,f z,ym (a:=z) (b:=x)]
theorem zw5 (l : List Int) : (zkA l).Pairwise (· ≤ ·) ∧ ∀ x,x ∈ zkA l ↔ x ∈ l:=by
 have d : (zkA l).Pairwise (fun a b => decide (a ≤ b) = true):=List.pairwise_mergeSort (fun a b c d e => by simp only [decide_eq_true_eq] at *; omega) (fun a b => by simp only [yK,decide_eq_true_eq]; omega) l;exact ⟨d.imp fun h => by simpa using h,fun x => (List.mergeSort_perm l _).mem_iff⟩
theorem zwc (l : List Int) : (zvz l).Pairwise (· < ·) ∧ ∀ x,x ∈ zvz l ↔ x ∈ l:=by
 obtain ⟨b,d⟩:=zw5 l;obtain ⟨a,c⟩:=zm5 _ b;exact ⟨a,fun x => (c x).trans (d x)⟩
theorem zzO {to : List Int} {n : Nat} (hn : 1 ≤ n) (h : to.any (zlT n) = false) : zoz to 1 (n - 1) = zvz to:=by
 obtain ⟨b,c⟩:=zwc to;refine zpY (zo3 _ _ _) b fun x => ?_;rw [zqn,c x];constructor
 ·exact fun h => h.1
 ·intro a
  have:=yG.1 h x a;simp only [zlT,yK,decide_eq_true_eq] at this;exact ⟨a,by omega,by omega⟩
section
variable (f : PFunc) (hf : okF f) (hn1 : 1 ≤ f.blocks.length) (hn : f.blocks.length ≤ 64)
abbrev s6 (k : Nat) (r : zd) : zd:=.cells 0 3 [zcz f] :: .cells 0 2 [[.f (.sl []),.f (.sl [])]] :: .tok 1 [k] :: r
abbrev oE (b : PBlock) : Ob:=.cells 0 3 [[.f (ei b.kind),.f (ei b.arg),.f (eI b.to)]]
include hf hn1 hn
theorem zIi (b : PBlock) (t : okB b) (q i : Nat) (rows : List (List Fz)) : ∀ (d k : Nat) (a0 a3 n j g h o l m c : V),b.to.length - k = d → k ≤ b.to.length →
  exec T zdD ⟨[a0,.one (.ptr 0 0 0 0),.one (.ptr 1 0 0 0),a3,vI f.blocks.length,.one (.ap 2 0 rows),vI i,.one (.ptr 3 0 0 0),.one (.ap 4 0 []),vI k,n,j,g,h,o,l,m,c],s6 f q [oE b,.tok 1 [0]],0,0⟩ =
   some (if (b.to.drop k).any (zlT f.blocks.length) = true then (.ret,⟨[vU,vU,.one (.ptr 1 0 0 0),vI 5,vU,vU,vU,vU,vU,vU,vU,vU,vU,vU,vU,vU,vU,vU],s6 f q [oE b,.tok 1 [0]],0,0⟩)
    else (.exit 2,⟨[vU,.one (.ptr 0 0 0 0),.one (.ptr 1 0 0 0),vU,vI f.blocks.length,.one (.ap 2 0 rows),vI i,.one (.ptr 3 0 0 0),.one (.ap 4 0 []),vU,vU,vU,vU,vU,vU,vU,vU,vU],s6 f q [oE b,.tok 1 [0]],0,0⟩)):=by
 intro d
 induction d with
 | zero =>
   intro k a0 a3 n j g h o l m c u v;have a : k = b.to.length:=(by omega);subst a;rw [xl zdD rfl,zfJ];simp -implicitDefEqProofs only [go_sem,s6,oE,yn,ya,yo,List.any_nil,yj]
 | succ d ih =>
   intro k a0 a3 n j g h o l m c u v;have a : k < b.to.length:=(by omega);have hd : b.to.drop k = b.to[k] :: b.to.drop (k + 1):=yg a;have p:=zy (r:=ri) a;obtain ⟨x,s⟩ : ∃ x,x = b.to[k]:=⟨_,rfl⟩;rw [← s] at p;have:=ih (k + 1) vU vU vU vU vU vU vU vU vU vU (by omega) (by omega);rw [xl zdD rfl,zfJ,hd,List.any_cons,← s]
   by_cases c1 : x ≤ 0
   ·have e : zlT f.blocks.length x = true:=by simp [zlT]; omega
    simp -implicitDefEqProofs only [go_sem,s6,oE,ilt a,p,ri,ya,eq_true c1,e,yb,yc]
   ·by_cases c2 : x ≥ (f.blocks.length : Int)
    ·have e : zlT f.blocks.length x = true:=by simp [zlT]; omega
     simp -implicitDefEqProofs only [go_sem,s6,oE,ilt a,p,ri,ya,c1,eq_true c2,e,yb,yc]
    ·have e : zlT f.blocks.length x = false:=by simp [zlT]; omega
     simp -implicitDefEqProofs only [go_sem,s6,oE] at this;simp -implicitDefEqProofs only [go_sem,s6,oE,ilt a,p,ri,ya,c1,c2,e,yb,yc,za a t.to,this]
theorem zHE (b : PBlock) (s : okB b) (q i : Nat) (rows : List (List Fz)) : ∀ (d k : Nat) (acc : List Int) (a0 a3 a9 h e g m j l a : V),f.blocks.length - k = d → k ≤ f.blocks.length → acc.length ≤ k →
  exec T zdE ⟨[a0,.one (.ptr 0 0 0 0),.one (.ptr 1 0 0 0),a3,vI f.blocks.length,.one (.ap 2 0 rows),vI i,.one (.ptr 3 0 0 0),.one (.ap 4 0 (acc.map ri)),a9,vI k,h,e,g,m,j,l,a],s6 f q [oE b,.tok 1 [acc.length]],0,0⟩ =
   some (.exit 4,⟨[vU,.one (.ptr 0 0 0 0),.one (.ptr 1 0 0 0),vU,vI f.blocks.length,.one (.ap 2 0 rows),vI i,vU,.one (.ap 4 0 ((acc ++ zoz b.to k d).map ri)),vU,vU,vU,vU,vU,vU,vU,vU,vU],s6 f q [oE b,.tok 1 [(acc ++ zoz b.to k d).length]],0,0⟩):=by
 intro d
 induction d with
 | zero =>
   intro k acc a0 a3 a9 h e g m j l a t u r;have n : k = f.blocks.length:=(by omega);subst n;rw [xl zdE rfl,zfM];simp -implicitDefEqProofs only [go_sem,s6,oE,yn,zoz,yI]
 | succ d ih =>
   intro k acc a0 a3 a9 h e g m j l a t u r;have n : k < f.blocks.length:=(by omega);have p:=zmk b.to (k : Int) s.to;rw [xl zdE rfl,zfM,zoz]
   by_cases c : (k : Int) ∈ b.to
   ·have:=ih (k + 1) (acc ++ [(k : Int)]) vU vU vU vU vU vU vU vU vU vU (by omega) (by omega) (by simp; omega)
    have o : acc.length + 1 ≤ LIM:=(by unfold LIM; omega);have e1 : yS ri acc ++ [[Fz.lit (Value.int .i64 (k : Int))]] = yS ri (acc ++ [(k : Int)]):=(by simp [ri]);rw [yv,yz] at this;simp -implicitDefEqProofs only [go_sem,decide_eq_true c] at p;simp -implicitDefEqProofs only [go_sem,s6,oE,yt,yy,yB,yF] at this;simp -implicitDefEqProofs only [go_sem,s6,oE,ilt n,p,c,o,e1,ya,za n (show f.blocks.length ≤ 4294967296 by omega),yt,yy,this]
   ·have:=ih (k + 1) acc vU vU vU vU vU vU vU vU vU vU (by omega) (by omega) (by omega)
    simp -implicitDefEqProofs only [go_sem,decide_eq_false c] at p;simp -implicitDefEqProofs only [go_sem,s6,oE] at this;simp -implicitDefEqProofs only [go_sem,s6,oE,ilt n,p,c,za n (show f.blocks.length ≤ 4294967296 by omega),this]
theorem zHc : ∀ (d k : Nat),f.blocks.length - k = d → k ≤ f.blocks.length → ∃ r,∀ (a0 a3 a7 a8 a9 n i c g m j l a : V),
  exec T zam ⟨[a0,.one (.ptr 0 0 0 0),.one (.ptr 1 0 0 0),a3,vI f.blocks.length,.one (.ap 2 0 (((zo f).take k).map rl)),vI k,a7,a8,a9,n,i,c,g,m,j,l,a],s6 f k [],0,0⟩ =
   some (if (f.blocks.drop k).all (zjZ f.blocks.length) = true then (.exit 0,⟨[vU,vU,.one (.ptr 1 0 0 0),vU,vU,.one (.ap 2 0 ((zo f).map rl)),vU,vU,vU,vU,vU,vU,vU,vU,vU,vU,vU,vU],s6 f f.blocks.length [],0,0⟩)
    else (.ret,⟨[vU,vU,.one (.ptr 1 0 0 0),vI 5,vU,vU,vU,vU,vU,vU,vU,vU,vU,vU,vU,vU,vU,vU],.cells 0 3 [zcz f] :: .cells 0 2 [[.f (.sl []),.f (.sl [])]] :: r,0,0⟩)):=by
 intro d
 induction d with
 | zero =>
   intro k G H;have p : k = f.blocks.length:=(by omega);subst p;refine ⟨[],fun a0 a3 a7 a8 a9 n i c g m j l a => ?_⟩;have e : (zo f).take f.blocks.length = zo f:=yx (by simp [zo]);rw [xl zam rfl,zaE];simp -implicitDefEqProofs only [go_sem,s6,yn,yo,yQ,e]
 | succ d ih =>
   intro k G H;have p : k < f.blocks.length:=(by omega);have hd : f.blocks.drop k = f.blocks[k] :: f.blocks.drop (k + 1):=yg p;obtain ⟨b,q⟩ : ∃ b,b = f.blocks[k]:=⟨_,rfl⟩;have B:=hf.block _ (ys p);have t:=zy (r:=rb) p;rw [← q] at B t;obtain ⟨r,E⟩:=ih (k + 1) (by omega) (by omega);have z : k < (zo f).length:=by simp [zo]; omega
   have C : (zo f).take (k + 1) = (zo f).take k ++ [zvz b.to]:=by
    rw [List.take_succ_eq_append_getElem z];simp [zo,q]
   have A : (((zo f).take k).map rl).length = k:=(by simp [zo]; omega);have v : k + 1 ≤ LIM:=(by unfold LIM; omega);rw [hd,yE,← q]
   by_cases g0 : b.kind < 0
   ·have e : zjZ f.blocks.length b = false:=by
     have : znV b.kind = -1:=(by unfold znV; rw [if_neg (by omega),if_neg (by omega),if_neg (by omega)]);unfold zjZ;rw [this,decide_eq_false (by omega)];rfl
    refine ⟨[.tok 1 [k],oE b],fun a0 a3 a7 a8 a9 n i c g m j l a => ?_⟩;rw [xl zam rfl,zaE];simp -implicitDefEqProofs only [go_sem,s6,ilt p,t,rb,ya,yb,yc,eq_true g0,e]
   by_cases y : b.kind > 3
   ·have e : zjZ f.blocks.length b = false:=by
     have : znV b.kind = -1:=(by unfold znV; rw [if_neg (by omega),if_neg (by omega),if_neg (by omega)]);unfold zjZ;rw [this,decide_eq_false (by omega)];rfl
    refine ⟨[.tok 1 [k],oE b],fun a0 a3 a7 a8 a9 n i c g m j l a => ?_⟩;rw [xl zam rfl,zaE];simp -implicitDefEqProofs only [go_sem,s6,ilt p,t,rb,ya,yb,yc,g0,eq_true y,e]
   have o : [ri 0,ri 1,ri 2,ri 0][b.kind.toNat]? = some (ri (znV b.kind)):=by
    have : b.kind = 0 ∨ b.kind = 1 ∨ b.kind = 2 ∨ b.kind = 3:=(by omega);rcases this with h | h | h | h <;> rw [h] <;> rfl
   have s : 0 ≤ b.kind:=by omega
   by_cases w : (b.to.length : Int) = znV b.kind
   ·have u:=fun a0 a3 n i c g m j l a => zIi f hf hn1 hn b B k k (((zo f).take k).map rl) b.to.length 0 a0 a3 n i c g m j l a (by omega) (by omega)
    simp only [yk,yq] at u;cases x : b.to.any (zlT f.blocks.length)
    ·have e : zjZ f.blocks.length b = true:=by
      unfold zjZ;rw [x,decide_eq_true w.symm];rfl
     have D:=fun a0 a3 a9 i c g m j l a => zHE f hf hn1 hn b B k k (((zo f).take k).map rl) (f.blocks.length - 1) 1 [] a0 a3 a9 i c g m j l a rfl (by omega) (by simp);simp only [yJ,zzO hn1 x,Int.natCast_one] at D;have e2 : ((zo f).take k).map rl ++ [[Fz.sl ((zvz b.to).map ri)]] = ((zo f).take (k + 1)).map rl:=(by rw [C,List.map_append]; rfl);refine ⟨r,fun a0 a3 a7 a8 a9 n i c g m j l a => ?_⟩;rw [xl zam rfl,zaE];simp -implicitDefEqProofs only [go_sem,s6,oE,x,yj] at u;simp -implicitDefEqProofs only [go_sem,s6,oE,yB] at D;simp -implicitDefEqProofs only [go_sem,s6] at E;simp -implicitDefEqProofs only [ri] at o;simp -implicitDefEqProofs only [go_sem,s6,ilt p,t,rb,ya,yb,yc,g0,y,s,o,w,e,u,D,A,v,e2,za p (show f.blocks.length ≤ 4294967296 by omega),E]
    ·have e : zjZ f.blocks.length b = false:=by
      unfold zjZ;rw [x];simp
     refine ⟨[.tok 1 [k],oE b,.tok 1 [0]],fun a0 a3 a7 a8 a9 n i c g m j l a => ?_⟩;rw [xl zam rfl,zaE];simp -implicitDefEqProofs only [go_sem,s6,oE,x] at u;simp -implicitDefEqProofs only [ri] at o;simp -implicitDefEqProofs only [go_sem,s6,ilt p,t,rb,ya,yb,yc,g0,y,s,o,w,e,u]
   ·have e : zjZ f.blocks.length b = false:=by
     unfold zjZ;rw [decide_eq_false (fun h => w h.symm)];rfl
    refine ⟨[.tok 1 [k],oE b],fun a0 a3 a7 a8 a9 n i c g m j l a => ?_⟩;rw [xl zam rfl,zaE];simp -implicitDefEqProofs only [ri] at o;simp -implicitDefEqProofs only [go_sem,s6,ilt p,t,rb,ya,yb,yc,g0,y,s,o,w,e]
end
theorem zr5 (f : PFunc) (hf : okF f) : call T 77 [zfg f] [] = some (zhg f,[]):=by
 rw [ze (fn:=zaQ) rfl]
 by_cases c1 : f.blocks.length < 1
 ·have a : (f.blocks.length : Int) = 0:=by omega
  have e : zaM f = false:=by
   have : (zo f).length = 0:=(by rw [zo,ya]; omega);unfold zaM zbH;rw [this];simp
  simp -implicitDefEqProofs only [go_sem,zaQ,zhg,e,eq_true a,ya,yj]
 have a : ¬ (f.blocks.length : Int) = 0:=by omega
 by_cases c2 : 64 < f.blocks.length
 ·have b : (f.blocks.length : Int) > 64:=by omega
  have e : zaM f = false:=by unfold zaM; rw [decide_eq_true c2]; rfl
  simp -implicitDefEqProofs only [go_sem,zaQ,zhg,e,a,eq_true b,ya,yj]
 have b : ¬ (f.blocks.length : Int) > 64:=by omega
 obtain ⟨r,h⟩:=zHc f hf (by omega) (by omega) f.blocks.length 0 (by omega) (by omega);simp only [yk,yq,List.take_zero,List.map_nil] at h;cases c3 : f.blocks.all (zjZ f.blocks.length)
 ·have e : zaM f = false:=by unfold zaM; rw [c3]; simp
  simp -implicitDefEqProofs only [go_sem,s6,c3,yj] at h;simp -implicitDefEqProofs only [go_sem,zaQ,zhg,e,a,b,ya,yj,h]
 ·have c:=zo0 (zo f) (ziW hf)
  have e : zaM f = zbH (zo f):=by unfold zaM; rw [c3,decide_eq_false c2]; simp
  simp -implicitDefEqProofs only [go_sem,s6,c3] at h;cases c4 : zbH (zo f)
  ·simp -implicitDefEqProofs only [go_sem,zkE,c4,yj] at c
   simp -implicitDefEqProofs only [go_sem,zaQ,zhg,e,c4,a,b,ya,yj,h,c]
  ·simp -implicitDefEqProofs only [go_sem,zkE,c4] at c
   simp -implicitDefEqProofs only [go_sem,zaQ,zhg,e,c4,a,b,ya,h,c]
def ofS (level : Int) (o : POp) : Bool :=
 !(decide (level < 2) && (decide (1 < o.lanes) || decide (20 < o.kind))) && (!(decide (level < 1) && decide (17 < o.kind)) && zgh o)
section
variable (f : PFunc) (hf : okF f) (level : Int) (x y z dd : C) (σ : zd) (hck : σ[1]? = some (zzX f level x y z dd)) (hσ : Ok σ)
include hck hσ
theorem zGY (o : POp) (b : zwG o) : call T 203 [.one (.ptr 1 0 0 0),vOp o] σ = some (vB (ofS level o),σ):=by
 rw [ze (fn:=zau) rfl];have hm:=zjX o b.1 b.2;have a:=zc6 hck;simp -implicitDefEqProofs only [go_sem] at hm
 by_cases c1 : level < 2
 ·by_cases c2 : 1 < o.lanes
  ·simp -implicitDefEqProofs only [go_sem,zau,a,c1,c2,ofS,Ok.at hσ]
  ·by_cases c3 : 20 < o.kind
   ·simp -implicitDefEqProofs only [go_sem,zau,a,c1,c2,c3,ofS,Ok.at hσ]
   ·by_cases c4 : level < 1
    ·by_cases c5 : 17 < o.kind
     ·simp -implicitDefEqProofs only [go_sem,zau,a,c1,c2,c3,c4,c5,ofS,Ok.at hσ]
     ·simp -implicitDefEqProofs only [go_sem,zau,a,c1,c2,c3,c4,c5,ofS,Ok.at hσ,hm]
    ·simp -implicitDefEqProofs only [go_sem,zau,a,c1,c2,c3,c4,ofS,Ok.at hσ,hm]
 ·have c4 : ¬ level < 1:=by omega
  simp -implicitDefEqProofs only [go_sem,zau,a,c1,c4,ofS,Ok.at hσ,hm]
end
def zkV (level : Int) (b : PBlock) : Bool:=b.phis.all (fun p => ziA p.bits) && b.ops.all (ofS level)
def zet (level : Int) : List PBlock → Option PBlock
 | [] => none
 | b :: r => if zkV level b = true then zet level r else some b
def zfY (f : PFunc) (level : Int) : Bool:=ziA f.ret && (f.params.all ziA && f.blocks.all (zkV level))
theorem zj5 (level : Int) : ∀ l : List PBlock,(zet level l).isNone = l.all (zkV level)
 | [] => rfl
 | b :: r => by
   simp only [zet,yE];cases h : zkV level b
   ·simp
   ·simpa using zj5 level r
theorem zva (b : Int) (σ : zd) : call T 198 [vI b] σ = some (vB (!ziA b),σ):=by
 rw [ze (fn:=zdG) rfl];simp -implicitDefEqProofs only [go_sem,zdG]
theorem zvG (p : PPhi) (σ : zd) (hσ : Ok σ) : call T 200 [zIu p] σ = some (vB (!ziA p.bits),σ):=by
 rw [ze (fn:=zdH) rfl];simp -implicitDefEqProofs only [go_sem,zdH,Ok.at hσ]
section
variable (f : PFunc) (hf : okF f) (level : Int) (x y z dd : C) (σ : zd) (hck : σ[1]? = some (zzX f level x y z dd)) (hσ : Ok σ)
include hck hσ
theorem zvK (o : POp) (h : zwG o) (r : zd) (g : Obs.lt (σ.length + 1 + r.length) r = true) : call T 202 [vOp o,.one (.ptr σ.length 0 0 0)] (σ ++ .cells 0 1 [[.ptr 1 0 0 0]] :: r) = some (vB (!ofS level o),σ ++ .cells 0 1 [[.ptr 1 0 0 0]] :: r):=by
 rw [ze (fn:=zdJ) rfl]
 have a : Ok (σ ++ .cells 0 1 [[.ptr 1 0 0 0]] :: r):=Ok.app hσ (by
  have i:=zq1 (show σ.length + 1 + r.length ≤ σ.length + (r.length + 1) by omega) r g;have j:=zgj hck (r.length + 1)
  simp -implicitDefEqProofs only [go_sem,i,j])
 have c : Ok (σ ++ .cells 0 1 [[.ptr 1 0 0 0]] :: r ++ [.cells 0 6 [cOp o]]):=Ok.app a (by simp -implicitDefEqProofs only [go_sem]);have d:=zGY f level x y z dd (σ ++ .cells 0 1 [[.ptr 1 0 0 0]] :: r ++ [.cells 0 6 [cOp o]]) (by rw [yv]; exact zc6 hck _) c o h;generalize hτ : σ ++ .cells 0 1 [[.ptr 1 0 0 0]] :: r = τ at *;have e : τ[σ.length]? = some (.cells 0 1 [[.ptr 1 0 0 0]]):=by rw [← hτ]; simp
 have b:=zc6 e;simp -implicitDefEqProofs only [go_sem] at d;simp -implicitDefEqProofs only [go_sem,zdJ,b,d,Ok.at a]
theorem zEt (hf : okF f) : ∀ (d k : Nat) (a0 a2 a3 a4 a5 a9 g : V),f.blocks.length - k = d → k ≤ f.blocks.length →
  exec T zbV ⟨[a0,.one (.ptr σ.length 0 0 0),a2,a3,a4,a5,vL (f.blocks.map rb),vI f.blocks.length,vI k,a9,g],σ ++ [.cells 0 1 [[.ptr 1 0 0 0]]],σ.length,σ.length⟩ =
   some (match zet level (f.blocks.drop k) with
    | none => (.exit 0,⟨[vU,vU,vU,vU,vU,vU,vU,vU,vU,vU,vU],σ ++ [.cells 0 1 [[.ptr 1 0 0 0]]],σ.length,σ.length⟩)
    | some b => (.ret,⟨[vU,vU,vI 6,vU,vU,vU,vU,vU,vU,vU,vU],σ ++ [.cells 0 1 [[.ptr 1 0 0 0]],.cells 0 5 [zw b]],σ.length,σ.length⟩)):=by
 intro d
 induction d with
 | zero =>
   intro k a0 a2 a3 a4 a5 a9 g q m;have a : k = f.blocks.length:=(by omega);subst a;rw [xl zbV rfl,zd1];simp -implicitDefEqProofs only [go_sem,yn,yo,zet]
 | succ d ih =>
   intro k a0 a2 a3 a4 a5 a9 g q m;have a : k < f.blocks.length:=(by omega);have hd : f.blocks.drop k = f.blocks[k] :: f.blocks.drop (k + 1):=yg a;have j:=hf.block _ (ys a);have n:=zc6 hck
   have h : Ok (σ ++ [.cells 0 1 [[.ptr 1 0 0 0]],.cells 0 5 [zw f.blocks[k]]]):=Ok.app hσ (by
    have m:=zgj hck 2
    simp -implicitDefEqProofs only [go_sem,m])
   have c:=zkJ f.blocks[k].phis (fun p => !ziA p.bits) 200 [] [] (σ ++ [.cells 0 1 [[.ptr 1 0 0 0]],.cells 0 5 [zw f.blocks[k]]]) j.phis (fun p _ => zvG p _ h)
   have e:=zlV f.blocks[k].ops (fun o => !ofS level o) 202 [] [.ptr σ.length 0 0 0] (σ ++ [.cells 0 1 [[.ptr 1 0 0 0]],.cells 0 5 [zw f.blocks[k]]]) j.ops (fun o e => by
    have:=zvK f level x y z dd σ hck hσ o (j.op o e) [.cells 0 5 [zw f.blocks[k]]] (by simp -implicitDefEqProofs only [go_sem])
    exact this)
   have l : (f.blocks[k].phis.any fun p => !ziA p.bits) = !f.blocks[k].phis.all (fun p => ziA p.bits):=(by rw [← zqC,yH]);have i : (f.blocks[k].ops.any fun p => !ofS level p) = !f.blocks[k].ops.all (ofS level):=(by rw [← zqC,yH]);rw [l] at c;rw [i] at e;rw [xl zbV rfl,zd1,hd,zet];cases e1 : f.blocks[k].phis.all (fun p => ziA p.bits)
   ·simp -implicitDefEqProofs only [go_sem,e1] at c
    simp -implicitDefEqProofs only [go_sem,ilt a,zy a,rb,c,zkV,e1]
   ·cases e2 : f.blocks[k].ops.all (ofS level)
    ·simp -implicitDefEqProofs only [go_sem,e1,e2] at c e
     simp -implicitDefEqProofs only [go_sem,ilt a,zy a,rb,c,e,zkV,e1,e2]
    ·have:=ih (k + 1) vU vU vU vU vU vU vU (by omega) (by omega)
     simp -implicitDefEqProofs only [go_sem,e1,e2] at c e this;simp -implicitDefEqProofs only [go_sem,ilt a,zy a,rb,c,e,zkV,e1,e2,za a hf.blocks,Ok.up hσ,zgj hck,this]
theorem zzh (hf : okF f) : call T 160 [.one (.ptr 1 0 0 0)] σ = some (vI (if zfY f level = true then 0 else 6),σ):=by
 rw [ze (fn:=zaH) rfl];have a:=zc6 hck;have g : (f.params.any fun p => !ziA p) = !f.params.all ziA:=by rw [← zqC,yH]
 have c:=zba f.params (fun p => !ziA p) 198 [] [] (σ ++ [.cells 0 1 [[.ptr 1 0 0 0]]]) hf.params (fun p _ => zva p _);rw [g] at c;have h:=fun a0 a2 a3 a4 a5 a9 e => zEt f level x y z dd σ hck hσ hf f.blocks.length 0 a0 a2 a3 a4 a5 a9 e (by omega) (by omega);simp only [yq,yk] at h;have d:=zj5 level f.blocks;cases e1 : ziA f.ret
 ·simp -implicitDefEqProofs only [go_sem,zaH,a,e1,zfY,Ok.at hσ]
 cases e2 : f.params.all ziA
 ·simp -implicitDefEqProofs only [go_sem,e2] at c
  simp -implicitDefEqProofs only [go_sem,zaH,a,e1,e2,c,zfY,Ok.at hσ]
 cases e3 : zet level f.blocks with
 | none =>
   rw [e3] at d;simp only [Option.isNone_none] at d;simp -implicitDefEqProofs only [go_sem,e2,e3] at c h;simp -implicitDefEqProofs only [go_sem,zaH,a,e1,e2,c,h,zfY,← d,Ok.at hσ]
 | some b =>
   rw [e3] at d;simp only [Option.isNone_some] at d;simp -implicitDefEqProofs only [go_sem,e2,e3] at c h;simp -implicitDefEqProofs only [go_sem,zaH,a,e1,e2,c,h,zfY,← d,Ok.at hσ]
end
end AC

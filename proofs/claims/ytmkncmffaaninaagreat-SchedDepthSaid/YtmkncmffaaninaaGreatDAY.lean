/- A part of the proof of SchedDepth. Conditions: none. -/
import Derived.Test.YtmkncmffaaninaaGreatDAW
import Derived.Test.YtmkncmffaaninaaGreatDAU
import Derived.Test.YtmkncmffaaninaaGreatDAX
import Derived.Test.YtmkncmffaaninaaGreatDAV
set_option linter.unusedVariables false
set_option linter.unusedSimpArgs false
set_option linter.unusedSectionVars false
open List renaming length_map → ya,getD_eq_getElem?_getD → yd,getElem?_eq_getElem → ye,getElem?_eq_none → yf,drop_eq_getElem_cons → yg,mem_cons_self → yh,pairwise_cons → yi,mem_cons_of_mem → yl,mem_cons → ym,drop_length → yo,ext_getElem? → yp,drop_zero → yq,getElem?_set_self → yr,getElem_mem → ys,length_append → yt,replicate → yu,append_assoc → yv,getElem?_replicate → yw,take_of_length_le → yx,length_cons → yy,singleton_append → yz,getElem?_set_ne → yA,length_nil → yB,mem_singleton → yD,all_cons → yE,any_eq_false → yG,append_nil → yI,nil_append → yJ,length → yM,all_nil → yQ,map_set → yR,map → yS,range → yT
open Int renaming natCast_nonneg → yb,toNat_natCast → yc,natCast_zero → yk,lt_irrefl → yn
open Bool renaming false_eq_true → yj,not_not → yH,or_eq_true → yK,false_or → yP
open Nat renaming add_sub_cancel → yC,zero_add → yF,add_assoc → yL,add_comm → yN,add_zero → yO
namespace AC
open Go Go.A Go.A.Lex
def apT (t : Nat) : Nat → List (List Int) → List (List C)
 | _,[] => []
 | q,l :: r => [.ap t q (l.map ri)] :: apT t (q + 1) r
theorem zj6 (t : Nat) : ∀ (out : List (List Int)) (q : Nat),(apT t q out).length = out.length
 | [],_ => rfl
 | l :: r,q => by simp [apT,zj6 t r (q + 1)]
theorem zuC (t : Nat) : ∀ (out : List (List Int)) (q k : Nat) (h : k < out.length),(apT t q out)[k]? = some [.ap t (q + k) (out[k].map ri)]
 | [],_,_,h => by simp at h
 | l :: r,q,0,_ => by simp [apT]
 | l :: r,q,k + 1,h => by
   simp only [apT,List.getElem?_cons_succ,List.getElem_cons_succ]
   rw [zuC t r (q + 1) k (by simpa using h),yL,yN 1 k]
theorem zzd (t : Nat) : ∀ (out : List (List Int)) (q k : Nat) (l : List Int),(apT t q out).set k [.ap t (q + k) (l.map ri)] = apT t q (out.set k l)
 | [],_,_,_ => rfl
 | x :: r,q,0,l => by simp [apT]
 | x :: r,q,k + 1,l => by
   simp only [apT,List.set_cons_succ]
   rw [← zzd t r (q + 1) k l,yL,yN 1 k]
theorem zxL (t : Nat) : ∀ (out : List (List Int)) (q : Nat),zaq (apT t q out) = some (out.map rl)
 | [],_ => rfl
 | x :: r,q => by simp [apT,zaq,zdl,zux,zfE,zxL t r (q + 1),rl]
theorem zDr (t n : Nat) : (yT n).map (nest t [.f (.sl [])] 0) = apT t 0 (yu n []):=by
 apply yp
 intro k
 by_cases hk : k < n
 ·rw [zuC _ _ _ _ (by simpa using hk)]
  simp [hk,nest]
 ·rw [yf (by simp; omega),yf (by rw [zj6]; simp; omega)]
def zhn (i : Int) : Nat → List (List Int) → List Int
 | _,[] => []
 | k,l :: r => if i ∈ l then (k : Int) :: zhn i (k + 1) r else zhn i (k + 1) r
def zhq (l : List Int) (k : Nat) : Int:=if k = 0 then -1 else l.getD (k - 1) (-1)
section
variable (succ : List (List Int)) (hn1 : 1 ≤ succ.length) (hn : succ.length ≤ 64) (hl : ∀ l ∈ succ,l.length ≤ 4294967296)
abbrev sM1 : zd:=[.cells 0 2 [[.f (.sl []),.f (.sl [])]]]
include hn hl
theorem zBB (i : Nat) (hi : i < succ.length) : ∀ (d k : Nat) (a2 a6 a7 a8 a9 a10 a11 a12 a13 a14 a15 : V),succ[i].length - k = d → k ≤ succ[i].length → -1 ≤ zhq succ[i] k →
  exec T zct ⟨[vLs succ,.one (.ptr 0 0 0 0),a2,vI succ.length,vI i,vI k,a6,a7,a8,a9,a10,a11,a12,a13,a14,a15],sM1,0,0⟩ =
   some (if zP succ.length (zhq succ[i] k) (succ[i].drop k) = true then (.exit 2,⟨[vLs succ,.one (.ptr 0 0 0 0),vU,vI succ.length,vI i,vU,vU,vU,vU,vU,vU,vU,vU,vU,vU,vU],sM1,0,0⟩)
    else (.ret,⟨[vU,.one (.ptr 0 0 0 0),vI 5,vU,vU,vU,vU,vU,vU,vU,vU,vU,vU,vU,vU,vU],sM1,0,0⟩)):=by
 intro d
 induction d with
 | zero =>
   intro k a2 a6 a7 a8 a9 a10 a11 a12 a13 a14 a15 h1 h2 hm
   have hk : k = succ[i].length:=by omega
   subst hk
   rw [xl zct rfl,zdS]
   simp -implicitDefEqProofs only [go_sem,zp hi,rl,yn,ya,yo,zP,yb,yc]
 | succ d ih =>
   intro k a2 a6 a7 a8 a9 a10 a11 a12 a13 a14 a15 h1 h2 hm
   have hk : k < succ[i].length:=by omega
   have hll:=hl _ (ys hi)
   have hd : succ[i].drop k = succ[i][k] :: succ[i].drop (k + 1):=yg hk
   have hnext : zhq succ[i] (k + 1) = succ[i][k]:=by
    unfold zhq
    rw [if_neg (by omega),yC,yd,ye hk]
    rfl
   have gk:=zp (r:=ri) hk
   obtain ⟨x,hx⟩ : ∃ x,x = succ[i][k]:=⟨_,rfl⟩
   rw [← hx] at gk hnext
   rw [xl zct rfl,zdS,hd,zP,← hx]
   by_cases c1 : x < 0
   ·have e : x ≤ zhq succ[i] k ∨ (succ.length : Int) ≤ x:=.inl (by omega)
    rw [if_pos e]
    simp -implicitDefEqProofs only [go_sem,zp hi,rl,ilt hk,gk,ri,ya,eq_true c1,yb,yc]
   by_cases c2 : (succ.length : Int) ≤ x
   ·have e : x ≤ zhq succ[i] k ∨ (succ.length : Int) ≤ x:=.inr c2
    have c2' : x ≥ (succ.length : Int):=c2
    rw [if_pos e]
    simp -implicitDefEqProofs only [go_sem,zp hi,rl,ilt hk,gk,ri,ya,c1,eq_true c2',yb,yc]
   have c2' : ¬ x ≥ (succ.length : Int):=c2
   by_cases k0 : k = 0
   ·subst k0
    have e : ¬ (x ≤ zhq succ[i] 0 ∨ (succ.length : Int) ≤ x):=by
     have : zhq succ[i] 0 = -1:=rfl
     omega
    have:=ih 1 vU vU vU vU vU vU vU vU vU vU vU (by omega) (by omega) (by rw [show (1 : Nat) = 0 + 1 from rfl,hnext]; omega)
    rw [show (1 : Nat) = 0 + 1 from rfl,hnext] at this
    have w0:=za hk hll
    have z0 : ¬ ((0 : Int) > 0):=by omega
    have hk' : (0 : Int) < (succ[i].length : Int):=by omega
    simp -implicitDefEqProofs only [go_sem] at this
    rw [if_neg e]
    simp -implicitDefEqProofs only [go_sem,yk,zp hi,rl,eq_true hk',gk,ri,ya,c1,c2',z0,yb,yc,w0]
    exact this
   ·obtain ⟨j,rfl⟩ : ∃ j,k = j + 1:=⟨k - 1,by omega⟩
    have hj : j < succ[i].length:=by omega
    have gj:=zp (r:=ri) hj
    have hlast : zhq succ[i] (j + 1) = succ[i][j]:=by
     unfold zhq
     rw [if_neg (by omega),yC,yd,ye hj]
     rfl
    have w1 : Go.IntKind.i64.wrap (((j + 1 : Nat) : Int) - 1) = (j : Int):=by
     rw [show ((j + 1 : Nat) : Int) - 1 = (j : Int) by omega,wrap_i64] <;> omega
    have z0 : ((j + 1 : Nat) : Int) > 0:=by omega
    by_cases c3 : x ≤ succ[i][j]
    ·have e : x ≤ zhq succ[i] (j + 1) ∨ (succ.length : Int) ≤ x:=.inl (by rw [hlast]; exact c3)
     rw [if_pos e]
     simp -implicitDefEqProofs only [go_sem,zp hi,rl,ilt hk,gk,gj,ri,ya,c1,c2',eq_true z0,w1,eq_true c3,yb,yc]
    ·have e : ¬ (x ≤ zhq succ[i] (j + 1) ∨ (succ.length : Int) ≤ x):=by rw [hlast]; omega
     have:=ih (j + 1 + 1) vU vU vU vU vU vU vU vU vU vU vU (by omega) (by omega) (by rw [hnext]; omega)
     rw [hnext] at this
     simp -implicitDefEqProofs only [go_sem] at this
     rw [if_neg e]
     simp -implicitDefEqProofs only [go_sem,zp hi,rl,ilt hk,gk,gj,ri,ya,c1,c2',eq_true z0,w1,c3,yb,yc,za hk hll,this]
theorem zA9 : ∀ (d k : Nat) (a2 a5 a6 a7 a8 a9 a10 a11 a12 a13 a14 a15 : V),succ.length - k = d → k ≤ succ.length →
  exec T zb9 ⟨[vLs succ,.one (.ptr 0 0 0 0),a2,vI succ.length,vI k,a5,a6,a7,a8,a9,a10,a11,a12,a13,a14,a15],sM1,0,0⟩ =
   some (if (succ.drop k).all (fun l => rising l succ.length) = true then (.exit 0,⟨[vLs succ,.one (.ptr 0 0 0 0),vU,vI succ.length,vU,vU,vU,vU,vU,vU,vU,vU,vU,vU,vU,vU],sM1,0,0⟩)
    else (.ret,⟨[vU,.one (.ptr 0 0 0 0),vI 5,vU,vU,vU,vU,vU,vU,vU,vU,vU,vU,vU,vU,vU],sM1,0,0⟩)):=by
 intro d
 induction d with
 | zero =>
   intro k a2 a5 a6 a7 a8 a9 a10 a11 a12 a13 a14 a15 h1 h2
   have hk : k = succ.length:=by omega
   subst hk
   rw [xl zb9 rfl,zej]
   simp -implicitDefEqProofs only [go_sem,yn,yo,yQ]
 | succ d ih =>
   intro k a2 a5 a6 a7 a8 a9 a10 a11 a12 a13 a14 a15 h1 h2
   have hk : k < succ.length:=by omega
   have hd : succ.drop k = succ[k] :: succ.drop (k + 1):=yg hk
   have h0:=fun a2 a6 a7 a8 a9 a10 a11 a12 a13 a14 a15 => zBB succ hn hl k hk succ[k].length 0 a2 a6 a7 a8 a9 a10 a11 a12 a13 a14 a15 (by omega) (by omega) (by simp [zhq])
   have hz : zhq succ[k] 0 = -1:=rfl
   simp only [yk,yq,hz] at h0
   have:=ih (k + 1) vU vU vU vU vU vU vU vU vU vU vU vU (by omega) (by omega)
   rw [xl zb9 rfl,zej,hd,yE,rising]
   simp -implicitDefEqProofs only [go_sem] at this
   cases c : zP succ.length (-1) succ[k]
   ·simp -implicitDefEqProofs only [go_sem,c] at h0
    simp -implicitDefEqProofs only [go_sem,ilt hk,h0]
   ·simp -implicitDefEqProofs only [go_sem,c] at h0
    simp -implicitDefEqProofs only [go_sem,ilt hk,h0,za hk (show succ.length ≤ 4294967296 by omega),this]
abbrev sM4 (out : List (List Int)) : zd:=[.cells 0 2 [[.f (.sl []),.f (.sl [])]],.tok 1 (out.map yM),.cells 0 1 (apT 1 0 out),.cells 0 2 [[.f (.sl (succ.map rl)),.own 2 0 0 succ.length]]]
theorem zBC (i : Nat) (hi : i < succ.length) : ∀ (d k : Nat) (out : List (List Int)) (r : List Int) (a2 a4 a5 a9 a10 a11 a12 a13 a14 a15 : V),succ.length - k = d → k ≤ succ.length → out.length = succ.length → out[i]? = some r → r.length ≤ k →
  exec T zb3 ⟨[vLs succ,.one (.ptr 0 0 0 0),a2,vI succ.length,a4,a5,.one (.ptr 3 0 0 0),vI i,vI k,a9,a10,a11,a12,a13,a14,a15],sM4 succ out,0,0⟩ =
   some (.exit 6,⟨[vLs succ,.one (.ptr 0 0 0 0),vU,vI succ.length,vU,vU,.one (.ptr 3 0 0 0),vI i,vU,vU,vU,vU,vU,vU,vU,vU],sM4 succ (out.set i (r ++ zhn i k (succ.drop k))),0,0⟩):=by
 intro d
 induction d with
 | zero =>
   intro k out r a2 a4 a5 a9 a10 a11 a12 a13 a14 a15 h1 h2 ho hr hrl
   have hk : k = succ.length:=by omega
   subst hk
   have hs : out.set i r = out:=by
    apply yp
    intro j
    by_cases c : i = j
    ·subst c; rw [yr (by omega),hr]
    ·rw [yA c]
   rw [xl zb3 rfl,zek]
   simp -implicitDefEqProofs only [go_sem,sM4,yn,yo,zhn,yI,hs]
 | succ d ih =>
   intro k out r a2 a4 a5 a9 a10 a11 a12 a13 a14 a15 h1 h2 ho hr hrl
   have hk : k < succ.length:=by omega
   have hd : succ.drop k = succ[k] :: succ.drop (k + 1):=yg hk
   have hH:=zlm succ[k] (i : Int) (hl _ (ys hk))
   rw [xl zb3 rfl,zek,hd,zhn]
   by_cases c : (i : Int) ∈ succ[k]
   ·have hio : i < out.length:=by omega
    have hri : out[i] = r:=by
     rw [ye hio] at hr
     injection hr
    have hg:=zuC 1 out 0 i hio
    have hs:=fun m => zzd 1 out 0 i m
    simp only [yF] at hg hs
    rw [hri] at hg
    have hf : (out.map yM)[i]? = some r.length:=by simp [hr]
    have hlim : r.length + 1 ≤ LIM:=by unfold LIM; omega
    have hin : ((i : Int) < (succ.length : Int)) = True:=by simp; omega
    have:=ih (k + 1) (out.set i (r ++ [(k : Int)])) (r ++ [(k : Int)]) vU vU vU vU vU vU vU vU vU vU (by omega) (by omega) (by simpa using ho) (by rw [yr hio]) (by simp; omega)
    have e1 : yS ri r ++ [[Fz.lit (Value.int .i64 (k : Int))]] = yS ri (r ++ [(k : Int)]):=by simp [ri]
    rw [List.set_set,yv,yz] at this
    simp -implicitDefEqProofs only [go_sem,decide_eq_true c] at hH
    simp -implicitDefEqProofs only [go_sem,sM4,yR,yt,yy,yB,yF] at this
    simp -implicitDefEqProofs only [go_sem,sM4,ilt hk,zp hk,rl,hH,c,hg,hf,hlim,hin,e1,hs,yb,yc,ya,za hk (show succ.length ≤ 4294967296 by omega),yR,zj6,this]
   ·have:=ih (k + 1) out r vU vU vU vU vU vU vU vU vU vU (by omega) (by omega) ho hr (by omega)
    simp -implicitDefEqProofs only [go_sem,decide_eq_false c] at hH
    simp -implicitDefEqProofs only [go_sem,sM4] at this
    simp -implicitDefEqProofs only [go_sem,sM4,ilt hk,zp hk,rl,hH,c,ya,za hk (show succ.length ≤ 4294967296 by omega),this]
def zwS (k : Nat) : List (List Int):=(yT succ.length).map fun i => if i < k then zhn (i : Int) 0 succ else []
omit hn hl in
theorem zfH (k : Nat) : (zwS succ k).length = succ.length:=by simp [zwS]
omit hn hl in
theorem zl4 (k i : Nat) (h : i < succ.length) : (zwS succ k)[i]? = some (if i < k then zhn (i : Int) 0 succ else []):=by simp [zwS,h]
omit hn hl in
theorem zs7 : zwS succ 0 = yu succ.length []:=by
 apply yp
 intro j
 by_cases c : j < succ.length
 ·rw [zl4 succ 0 j c]; simp [c]
 ·rw [yf (by rw [zfH]; omega),yf (by simp; omega)]
omit hn hl in
theorem zB3 (k : Nat) (h : k < succ.length) : (zwS succ k).set k (zhn (k : Int) 0 succ) = zwS succ (k + 1):=by
 apply yp
 intro j
 by_cases c : j < succ.length
 ·rw [zl4 succ (k + 1) j c]
  by_cases e : k = j
  ·subst e
   rw [yr (by rw [zfH]; exact h),if_pos (by omega)]
  ·rw [yA e,zl4 succ k j c]
   by_cases f : j < k
   ·rw [if_pos f,if_pos (by omega)]
   ·rw [if_neg f,if_neg (by omega)]
 ·rw [yf (by rw [List.length_set,zfH]; omega),yf (by rw [zfH]; omega)]
theorem zBs : ∀ (d k : Nat) (a2 a4 a5 a8 a9 a10 a11 a12 a13 a14 a15 : V),succ.length - k = d → k ≤ succ.length →
  exec T zcv ⟨[vLs succ,.one (.ptr 0 0 0 0),a2,vI succ.length,a4,a5,.one (.ptr 3 0 0 0),vI k,a8,a9,a10,a11,a12,a13,a14,a15],sM4 succ (zwS succ k),0,0⟩ =
   some (.exit 4,⟨[vU,.one (.ptr 0 0 0 0),vU,vU,vU,vU,.one (.ptr 3 0 0 0),vU,vU,vU,vU,vU,vU,vU,vU,vU],sM4 succ (zwS succ succ.length),0,0⟩):=by
 intro d
 induction d with
 | zero =>
   intro k a2 a4 a5 a8 a9 a10 a11 a12 a13 a14 a15 h1 h2
   have hk : k = succ.length:=by omega
   subst hk
   rw [xl zcv rfl,zd8]
   simp -implicitDefEqProofs only [go_sem,sM4,yn]
 | succ d ih =>
   intro k a2 a4 a5 a8 a9 a10 a11 a12 a13 a14 a15 h1 h2
   have hk : k < succ.length:=by omega
   have h0:=fun a2 a4 a5 a9 a10 a11 a12 a13 a14 a15 => zBC succ hn hl k hk succ.length 0 (zwS succ k) [] a2 a4 a5 a9 a10 a11 a12 a13 a14 a15 (by omega) (by omega) (zfH succ k) (by rw [zl4 succ k k hk,if_neg (by omega)]) (by simp)
   simp only [yk,yq,yJ,zB3 succ k hk] at h0
   have:=ih (k + 1) vU vU vU vU vU vU vU vU vU vU vU (by omega) (by omega)
   rw [xl zcv rfl,zd8]
   simp -implicitDefEqProofs only [go_sem,sM4] at h0 this
   simp -implicitDefEqProofs only [go_sem,sM4,ilt hk,h0,za hk (show succ.length ≤ 4294967296 by omega),this]
end
theorem zo6 : ∀ {a b : List Int},a.Pairwise (· < ·) → b.Pairwise (· < ·) → (∀ x,x ∈ a ↔ x ∈ b) → a = b
 | [],[],_,_,_ => rfl
 | [],y :: b,_,_,h => by have:=(h y).2 yh; simp at this
 | x :: a,[],_,_,h => by have:=(h x).1 yh; simp at this
 | x :: a,y :: b,ha,hb,h => by
   rw [yi] at ha hb
   have exy : x = y:=by
    have h1:=(h x).1 yh
    have h2:=(h y).2 yh
    rcases ym.1 h1 with e | e
    ·exact e
    ·rcases ym.1 h2 with e2 | e2
     ·exact e2.symm
     ·have:=hb.1 x e
      have:=ha.1 y e2
      omega
   subst exy
   rw [zo6 ha.2 hb.2 fun z => ?_]
   constructor
   ·intro hz
    rcases ym.1 ((h z).1 (yl _ hz)) with e | e
    ·subst e
     have:=ha.1 z hz
     omega
    ·exact e
   ·intro hz
    rcases ym.1 ((h z).2 (yl _ hz)) with e | e
    ·subst e
     have:=hb.1 z hz
     omega
    ·exact e
theorem zmY (i y : Int) : ∀ (r : List (List Int)) (k : Nat),y ∈ zhn i k r ↔ ∃ j l,r[j]? = some l ∧ y = ((k + j : Nat) : Int) ∧ i ∈ l
 | [],k => by simp [zhn]
 | l :: r,k => by
   rw [zhn]
   have ih:=zmY i y r (k + 1)
   constructor
   ·intro h
    split at h
    ·rename_i c
     rcases ym.1 h with e | h
     ·exact ⟨0,l,rfl,by rw [e,yO],c⟩
     ·obtain ⟨j,q,h1,h2,h3⟩:=ih.1 h
      exact ⟨j + 1,q,by simpa using h1,by rw [h2]; congr 1; omega,h3⟩
    ·obtain ⟨j,q,h1,h2,h3⟩:=ih.1 h
     exact ⟨j + 1,q,by simpa using h1,by rw [h2]; congr 1; omega,h3⟩
   ·rintro ⟨j,q,h1,h2,h3⟩
    cases j with
    | zero =>
      simp only [List.getElem?_cons_zero,Option.some.injEq] at h1
      subst h1
      rw [if_pos h3]
      exact ym.2 (.inl (by rw [h2,yO]))
    | succ j =>
      have:=ih.2 ⟨j,q,by simpa using h1,by rw [h2]; congr 1; omega,h3⟩
      split
      ·exact yl _ this
      ·exact this
theorem zlY (i : Int) : ∀ (r : List (List Int)) (k : Nat),(zhn i k r).Pairwise (· < ·)
 | [],_ => by simp [zhn]
 | l :: r,k => by
   have ih:=zlY i r (k + 1)
   rw [zhn]
   split
   ·rw [yi]
    refine ⟨fun y hy => ?_,ih⟩
    obtain ⟨j,q,h1,h2,h3⟩:=(zmY i y r (k + 1)).1 hy
    omega
   ·exact ih
theorem zl7 {n : Int} : ∀ {l : List Int} {last : Int},zP n last l = true → l.Pairwise (· < ·)
 | [],_,_ => by simp
 | y :: r,last,h => by
   simp only [zP] at h
   split at h
   ·cases h
   ·rw [yi]
    exact ⟨fun x hx => (zpp h x hx).1,zl7 h⟩
theorem znu (i : Int) : ∀ (l : List Int) (out : List (List Int)),(∀ x ∈ l,0 ≤ x ∧ x < (out.length : Int)) → l.Pairwise (· < ·) →
  (∀ (X : Nat),X < out.length → ∀ y ∈ out.getD X [],y < i ∨ (y = i ∧ (X : Int) ∉ l)) → (∀ (X : Nat),X < out.length → (out.getD X []).Pairwise (· < ·)) →
  ∀ (X : Nat),X < out.length → ((l.foldl (ztG i) out).getD X []).Pairwise (· < ·)
 | [],out,_,_,_,h => h
 | x :: l,out,hx,hl,h1,h2 => by
   rw [List.foldl_cons]
   have hx0:=hx x yh
   rw [yi] at hl
   have hnx : x ∉ l:=fun h => by have:=hl.1 x h; omega
   have:=znu i l (ztG i out x) (fun y hy => by rw [zfL]; exact hx y (yl _ hy)) hl.2 (fun X hX y hy => ?_) (fun X hX => ?_)
   ·rw [zfL] at this
    exact this
   ·rw [zfL] at hX
    rw [zrF i out x X hx0.1 hX] at hy
    split at hy
    ·rename_i c
     rcases List.mem_append.1 hy with hy | hy
     ·rcases h1 X hX y hy with h | ⟨_,h⟩
      ·exact .inl h
      ·exact absurd (by rw [← c]; exact yh) h
     ·exact .inr ⟨yD.1 hy,by rw [← c]; exact hnx⟩
    ·rcases h1 X hX y hy with h | ⟨h,k⟩
     ·exact .inl h
     ·exact .inr ⟨h,fun hm => k (yl _ hm)⟩
   ·rw [zfL] at hX
    rw [zrF i out x X hx0.1 hX]
    split
    ·rename_i c
     rw [List.pairwise_append]
     refine ⟨h2 X hX,by simp,fun a ha b hb => ?_⟩
     rw [yD.1 hb]
     rcases h1 X hX a ha with h | ⟨_,h⟩
     ·exact h
     ·exact absurd (by rw [← c]; exact yh) h
    ·exact h2 X hX
theorem zi1 (N : Nat) : ∀ (l : List (List Int)) (i : Nat) (out : List (List Int)),out.length = N → (∀ r ∈ l,(∀ x ∈ r,0 ≤ x ∧ x < (N : Int)) ∧ r.Pairwise (· < ·)) →
  (∀ (X : Nat),X < N → ∀ y ∈ out.getD X [],y < (i : Int)) → (∀ (X : Nat),X < N → (out.getD X []).Pairwise (· < ·)) →
  ∀ (X : Nat),X < N → ((za9 i l out).getD X []).Pairwise (· < ·)
 | [],_,_,_,_,_,h => h
 | r :: l,i,out,ho,hl,h1,h2 => by
   rw [za9]
   subst ho
   have hr:=hl r yh
   refine zi1 _ l (i + 1) _ (zf7 _ _ _) (fun q hq => hl q (yl _ hq)) (fun X hX y hy => ?_) (znu i r out hr.1 hr.2 (fun X hX y hy => .inl (h1 X hX y hy)) h2)
   rcases (zpj (i : Int) X y r out (fun x hx => (hr.1 x hx).1) hX).1 hy with h | h
   ·have:=h1 X hX y h
    omega
   ·omega
theorem zxr {succ : List (List Int)} (h : zbk succ = true) : zwS succ succ.length = zM succ:=by
 obtain ⟨n1,n64,hr⟩:=zeA h
 have hris : ∀ l ∈ succ,zP succ.length (-1) l = true:=fun l hl => by
  unfold zbk at h
  simp only [Bool.not_eq_true',Bool.or_eq_false_iff,decide_eq_false_iff_not,yG] at h
  have h3 : rising l succ.length = true:=by simpa using h.2.2 l hl
  exact h3
 apply yp
 intro j
 by_cases c : j < succ.length
 ·rw [zl4 succ _ j c,if_pos c]
  have hlt : j < (zM succ).length:=by rw [zb0]; exact c
  rw [ye hlt]
  congr 1
  have e : (zM succ)[j] = (zM succ).getD j []:=by rw [yd,ye hlt]; rfl
  rw [e]
  have hs : ((zM succ).getD j []).Pairwise (· < ·):=zi1 succ.length succ 0 _ (by simp) (fun r hr' => ⟨hr r hr',zl7 (hris r hr')⟩) (fun X hX y hy => by
   rw [yd,yw,if_pos hX] at hy
   simp at hy) (fun X hX => by
   rw [yd,yw,if_pos hX]
   simp) j c
  refine zo6 (zlY _ _ _) hs fun y => ?_
  have hp:=zl0 hr (x:=(j : Int)) ⟨by omega,by omega⟩ y
  rw [yc] at hp
  rw [hp,zmY]
  constructor
  ·rintro ⟨k,l,h1,h2,h3⟩
   have hk:=(List.getElem?_eq_some_iff.1 h1).1
   refine ⟨by omega,by omega,?_⟩
   rw [show y.toNat = k by omega,yd,h1]
   exact h3
  ·rintro ⟨h1,h2,h3⟩
   have hlt : y.toNat < succ.length:=by omega
   rw [yd,ye hlt] at h3
   exact ⟨y.toNat,succ[y.toNat],ye hlt,by omega,h3⟩
 ·rw [yf (by rw [zfH]; omega),yf (by rw [zb0]; omega)]
theorem zAH {succ : List (List Int)} (h1 : 1 ≤ succ.length) (h2 : succ.length ≤ 64) : zbk succ = succ.all fun l => rising l succ.length:=by
 unfold zbk
 rw [decide_eq_false (by omega),decide_eq_false (by omega),yP,yP]
 induction succ.length generalizing succ <;> rw [List.not_any_eq_all_not] <;> simp
theorem znH (succ : List (List Int)) (hs : zjo succ) : call T 129 [vLs succ] [] = some (zjJ succ,[]):=by
 rw [ze (fn:=zay) rfl]
 by_cases c1 : succ.length < 1
 ·have c1' : (succ.length : Int) = 0:=by omega
  simp -implicitDefEqProofs only [go_sem,zay,zjJ,zbk,c1,eq_true c1',ya]
 have c1' : ¬ (succ.length : Int) = 0:=by omega
 by_cases c2 : 64 < succ.length
 ·have c2' : (succ.length : Int) > 64:=by omega
  simp -implicitDefEqProofs only [go_sem,zay,zjJ,zbk,c1,c1',c2,eq_true c2',ya]
 have c2' : ¬ (succ.length : Int) > 64:=by omega
 have hmk:=zAH (succ:=succ) (by omega) (by omega)
 have h1:=fun a2 a5 a6 a7 a8 a9 a10 a11 a12 a13 a14 a15 => zA9 succ (by omega) hs.2 succ.length 0 a2 a5 a6 a7 a8 a9 a10 a11 a12 a13 a14 a15 (by omega) (by omega)
 simp only [yk,yq,← hmk] at h1
 cases c3 : zbk succ
 ·simp -implicitDefEqProofs only [go_sem,c3] at h1
  simp -implicitDefEqProofs only [go_sem,zay,zjJ,c3,c1',c2',ya,h1]
 ·have h3:=fun a2 a4 a5 a8 a9 a10 a11 a12 a13 a14 a15 => zBs succ (by omega) hs.2 succ.length 0 a2 a4 a5 a8 a9 a10 a11 a12 a13 a14 a15 (by omega) (by omega)
  have hnil:=zDr 1 succ.length
  have hz : (zwS succ 0).map yM = yu succ.length 0:=by rw [zs7,List.map_replicate]; rfl
  have hz2 : apT 1 0 (zwS succ 0) = apT 1 0 (yu succ.length []):=by rw [zs7]
  have hlim : (succ.length : Int) ≤ (LIM : Int):=by unfold LIM; omega
  have hfz : zaq ((apT 1 0 (zM succ)).take succ.length) = some ((zM succ).map rl):=by
   rw [yx (by rw [zj6,zb0]; omega),zxL]
  simp only [yk,zxr c3] at h3
  simp -implicitDefEqProofs only [go_sem,c3] at h1
  simp -implicitDefEqProofs only [go_sem,sM4,hz,hz2] at h3
  simp -implicitDefEqProofs only [go_sem,zay,zjJ,c3,c1',c2',ya,h1,hlim,yb,yc,hnil,h3,hfz]
end AC
namespace AC
open Go Go.A Go.A.Lex
def znf (to : List Int) : Nat → Nat → List Int
 | _,0 => []
 | k,d + 1 => if (k : Int) ∈ to then (k : Int) :: znf to (k + 1) d else znf to (k + 1) d
theorem zoR (to : List Int) (y : Int) : ∀ (d k : Nat),y ∈ znf to k d ↔ y ∈ to ∧ (k : Int) ≤ y ∧ y < ((k + d : Nat) : Int)
 | 0,k => by simp [znf]
 | d + 1,k => by
   have ih:=zoR to y d (k + 1)
   rw [znf]
   split
   ·rename_i c
    rw [ym,ih]
    constructor
    ·rintro (h | ⟨h1,h2,h3⟩)
     ·exact ⟨h ▸ c,by omega,by omega⟩
     ·exact ⟨h1,by omega,by omega⟩
    ·rintro ⟨h1,h2,h3⟩
     by_cases e : y = k
     ·exact .inl e
     ·exact .inr ⟨h1,by omega,by omega⟩
   ·rename_i c
    rw [ih]
    constructor
    ·rintro ⟨h1,h2,h3⟩
     exact ⟨h1,by omega,by omega⟩
    ·rintro ⟨h1,h2,h3⟩
     have e : y ≠ k:=fun e => c (e ▸ h1)
     exact ⟨h1,by omega,by omega⟩
theorem znm (to : List Int) : ∀ (d k : Nat),(znf to k d).Pairwise (· < ·)
 | 0,_ => by simp [znf]
 | d + 1,k => by
   have ih:=znm to d (k + 1)
   rw [znf]
   split
   ·rw [yi]
    refine ⟨fun y hy => ?_,ih⟩
    have:=(zoR to y d (k + 1)).1 hy
    omega
   ·exact ih
theorem zmv : ∀ (l : List Int),l.Pairwise (· ≤ ·) → (zm l).Pairwise (· < ·) ∧ ∀ x,x ∈ zm l ↔ x ∈ l
 | [],_ => by simp [zm]
 | [x],_ => by simp [zm]
 | x :: y :: r,h => by
   rw [yi] at h
   obtain ⟨h1,h2⟩:=zmv (y :: r) h.2
   rw [zm]
   split
   ·rename_i c
    subst c
    refine ⟨h1,fun z => ?_⟩
    rw [h2 z]
    simp
   ·rename_i c
    rw [yi]
    refine ⟨⟨fun z hz => ?_,h1⟩,fun z => ?_⟩
    ·have hz':=(h2 z).1 hz
     have hxy:=h.1 y yh
     have hxz:=h.1 z hz'
     rcases ym.1 hz' with e | e
     ·omega
     ·have:=(yi.1 h.2).1 z e
      omega
    ·rw [ym,h2 z,ym (a:=z) (b:=x)]
theorem zuq (l : List Int) : (zbX l).Pairwise (· ≤ ·) ∧ ∀ x,x ∈ zbX l ↔ x ∈ l:=by
 have h1 : (zbX l).Pairwise (fun a b => decide (a ≤ b) = true):=List.pairwise_mergeSort (fun a b c h1 h2 => by simp only [decide_eq_true_eq] at *; omega) (fun a b => by simp only [yK,decide_eq_true_eq]; omega) l
 exact ⟨h1.imp fun h => by simpa using h,fun x => (List.mergeSort_perm l _).mem_iff⟩
theorem zuQ (l : List Int) : (zsY l).Pairwise (· < ·) ∧ ∀ x,x ∈ zsY l ↔ x ∈ l:=by
 obtain ⟨h1,h2⟩:=zuq l
 obtain ⟨h3,h4⟩:=zmv _ h1
 exact ⟨h3,fun x => (h4 x).trans (h2 x)⟩
theorem zxq {to : List Int} {n : Nat} (hn : 1 ≤ n) (h : to.any (zks n) = false) : znf to 1 (n - 1) = zsY to:=by
 obtain ⟨h1,h2⟩:=zuQ to
 refine zo6 (znm _ _ _) h1 fun x => ?_
 rw [zoR,h2 x]
 constructor
 ·exact fun h => h.1
 ·intro hx
  have:=yG.1 h x hx
  simp only [zks,yK,decide_eq_true_eq] at this
  exact ⟨hx,by omega,by omega⟩
section
variable (f : PFunc) (hf : okF f) (hn1 : 1 ≤ f.blocks.length) (hn : f.blocks.length ≤ 64)
abbrev s6 (k : Nat) (r : zd) : zd:=.cells 0 3 [zcJ f] :: .cells 0 2 [[.f (.sl []),.f (.sl [])]] :: .tok 1 [k] :: r
abbrev oE (b : PBlock) : Ob:=.cells 0 3 [[.f (ei b.kind),.f (ei b.arg),.f (eI b.to)]]
include hf hn1 hn
theorem zEF (b : PBlock) (hb : okB b) (q i : Nat) (rows : List (List Fz)) : ∀ (d k : Nat) (a0 a3 a10 a11 a12 a13 a14 a15 a16 a17 : V),b.to.length - k = d → k ≤ b.to.length →
  exec T zdh ⟨[a0,.one (.ptr 0 0 0 0),.one (.ptr 1 0 0 0),a3,vI f.blocks.length,.one (.ap 2 0 rows),vI i,.one (.ptr 3 0 0 0),.one (.ap 4 0 []),vI k,a10,a11,a12,a13,a14,a15,a16,a17],s6 f q [oE b,.tok 1 [0]],0,0⟩ =
   some (if (b.to.drop k).any (zks f.blocks.length) = true then (.ret,⟨[vU,vU,.one (.ptr 1 0 0 0),vI 5,vU,vU,vU,vU,vU,vU,vU,vU,vU,vU,vU,vU,vU,vU],s6 f q [oE b,.tok 1 [0]],0,0⟩)
    else (.exit 2,⟨[vU,.one (.ptr 0 0 0 0),.one (.ptr 1 0 0 0),vU,vI f.blocks.length,.one (.ap 2 0 rows),vI i,.one (.ptr 3 0 0 0),.one (.ap 4 0 []),vU,vU,vU,vU,vU,vU,vU,vU,vU],s6 f q [oE b,.tok 1 [0]],0,0⟩)):=by
 intro d
 induction d with
 | zero =>
   intro k a0 a3 a10 a11 a12 a13 a14 a15 a16 a17 h1 h2
   have hk : k = b.to.length:=by omega
   subst hk
   rw [xl zdh rfl,ze6]
   simp -implicitDefEqProofs only [go_sem,s6,oE,yn,ya,yo,List.any_nil,yj]
 | succ d ih =>
   intro k a0 a3 a10 a11 a12 a13 a14 a15 a16 a17 h1 h2
   have hk : k < b.to.length:=by omega
   have hd : b.to.drop k = b.to[k] :: b.to.drop (k + 1):=yg hk
   have gk:=zp (r:=ri) hk
   obtain ⟨x,hx⟩ : ∃ x,x = b.to[k]:=⟨_,rfl⟩
   rw [← hx] at gk
   have:=ih (k + 1) vU vU vU vU vU vU vU vU vU vU (by omega) (by omega)
   rw [xl zdh rfl,ze6,hd,List.any_cons,← hx]
   by_cases c1 : x ≤ 0
   ·have e : zks f.blocks.length x = true:=by simp [zks]; omega
    simp -implicitDefEqProofs only [go_sem,s6,oE,ilt hk,gk,ri,ya,eq_true c1,e,yb,yc]
   ·by_cases c2 : x ≥ (f.blocks.length : Int)
    ·have e : zks f.blocks.length x = true:=by simp [zks]; omega
     simp -implicitDefEqProofs only [go_sem,s6,oE,ilt hk,gk,ri,ya,c1,eq_true c2,e,yb,yc]
    ·have e : zks f.blocks.length x = false:=by simp [zks]; omega
     simp -implicitDefEqProofs only [go_sem,s6,oE] at this
     simp -implicitDefEqProofs only [go_sem,s6,oE,ilt hk,gk,ri,ya,c1,c2,e,yb,yc,za hk hb.to,this]
theorem zD2 (b : PBlock) (hb : okB b) (q i : Nat) (rows : List (List Fz)) : ∀ (d k : Nat) (acc : List Int) (a0 a3 a9 a11 a12 a13 a14 a15 a16 a17 : V),f.blocks.length - k = d → k ≤ f.blocks.length → acc.length ≤ k →
  exec T zde ⟨[a0,.one (.ptr 0 0 0 0),.one (.ptr 1 0 0 0),a3,vI f.blocks.length,.one (.ap 2 0 rows),vI i,.one (.ptr 3 0 0 0),.one (.ap 4 0 (acc.map ri)),a9,vI k,a11,a12,a13,a14,a15,a16,a17],s6 f q [oE b,.tok 1 [acc.length]],0,0⟩ =
   some (.exit 4,⟨[vU,.one (.ptr 0 0 0 0),.one (.ptr 1 0 0 0),vU,vI f.blocks.length,.one (.ap 2 0 rows),vI i,vU,.one (.ap 4 0 ((acc ++ znf b.to k d).map ri)),vU,vU,vU,vU,vU,vU,vU,vU,vU],s6 f q [oE b,.tok 1 [(acc ++ znf b.to k d).length]],0,0⟩):=by
 intro d
 induction d with
 | zero =>
   intro k acc a0 a3 a9 a11 a12 a13 a14 a15 a16 a17 h1 h2 ha
   have hk : k = f.blocks.length:=by omega
   subst hk
   rw [xl zde rfl,zfa]
   simp -implicitDefEqProofs only [go_sem,s6,oE,yn,znf,yI]
 | succ d ih =>
   intro k acc a0 a3 a9 a11 a12 a13 a14 a15 a16 a17 h1 h2 ha
   have hk : k < f.blocks.length:=by omega
   have hH:=zlm b.to (k : Int) hb.to
   rw [xl zde rfl,zfa,znf]
   by_cases c : (k : Int) ∈ b.to
   ·have:=ih (k + 1) (acc ++ [(k : Int)]) vU vU vU vU vU vU vU vU vU vU (by omega) (by omega) (by simp; omega)
    have hlim : acc.length + 1 ≤ LIM:=by unfold LIM; omega
    have e1 : yS ri acc ++ [[Fz.lit (Value.int .i64 (k : Int))]] = yS ri (acc ++ [(k : Int)]):=by simp [ri]
    rw [yv,yz] at this
    simp -implicitDefEqProofs only [go_sem,decide_eq_true c] at hH
    simp -implicitDefEqProofs only [go_sem,s6,oE,yt,yy,yB,yF] at this
    simp -implicitDefEqProofs only [go_sem,s6,oE,ilt hk,hH,c,hlim,e1,ya,za hk (show f.blocks.length ≤ 4294967296 by omega),yt,yy,this]
   ·have:=ih (k + 1) acc vU vU vU vU vU vU vU vU vU vU (by omega) (by omega) (by omega)
    simp -implicitDefEqProofs only [go_sem,decide_eq_false c] at hH
    simp -implicitDefEqProofs only [go_sem,s6,oE] at this
    simp -implicitDefEqProofs only [go_sem,s6,oE,ilt hk,hH,c,za hk (show f.blocks.length ≤ 4294967296 by omega),this]
theorem zEk : ∀ (d k : Nat),f.blocks.length - k = d → k ≤ f.blocks.length → ∃ r,∀ (a0 a3 a7 a8 a9 a10 a11 a12 a13 a14 a15 a16 a17 : V),
  exec T zZ ⟨[a0,.one (.ptr 0 0 0 0),.one (.ptr 1 0 0 0),a3,vI f.blocks.length,.one (.ap 2 0 (((zl f).take k).map rl)),vI k,a7,a8,a9,a10,a11,a12,a13,a14,a15,a16,a17],s6 f k [],0,0⟩ =
   some (if (f.blocks.drop k).all (ziS f.blocks.length) = true then (.exit 0,⟨[vU,vU,.one (.ptr 1 0 0 0),vU,vU,.one (.ap 2 0 ((zl f).map rl)),vU,vU,vU,vU,vU,vU,vU,vU,vU,vU,vU,vU],s6 f f.blocks.length [],0,0⟩)
    else (.ret,⟨[vU,vU,.one (.ptr 1 0 0 0),vI 5,vU,vU,vU,vU,vU,vU,vU,vU,vU,vU,vU,vU,vU,vU],.cells 0 3 [zcJ f] :: .cells 0 2 [[.f (.sl []),.f (.sl [])]] :: r,0,0⟩)):=by
 intro d
 induction d with
 | zero =>
   intro k h1 h2
   have hk : k = f.blocks.length:=by omega
   subst hk
   refine ⟨[],fun a0 a3 a7 a8 a9 a10 a11 a12 a13 a14 a15 a16 a17 => ?_⟩
   have e : (zl f).take f.blocks.length = zl f:=yx (by simp [zl])
   rw [xl zZ rfl,zak]
   simp -implicitDefEqProofs only [go_sem,s6,yn,yo,yQ,e]
 | succ d ih =>
   intro k h1 h2
   have hk : k < f.blocks.length:=by omega
   have hd : f.blocks.drop k = f.blocks[k] :: f.blocks.drop (k + 1):=yg hk
   obtain ⟨b,hb'⟩ : ∃ b,b = f.blocks[k]:=⟨_,rfl⟩
   have hb:=hf.block _ (ys hk)
   have gk:=zp (r:=rb) hk
   rw [← hb'] at hb gk
   obtain ⟨r,hr⟩:=ih (k + 1) (by omega) (by omega)
   have hsk : k < (zl f).length:=by simp [zl]; omega
   have hsl : (zl f).take (k + 1) = (zl f).take k ++ [zsY b.to]:=by
    rw [List.take_succ_eq_append_getElem hsk]
    simp [zl,hb']
   have htl : (((zl f).take k).map rl).length = k:=by simp [zl]; omega
   have hlim : k + 1 ≤ LIM:=by unfold LIM; omega
   rw [hd,yE,← hb']
   by_cases g0 : b.kind < 0
   ·have e : ziS f.blocks.length b = false:=by
     have : zlZ b.kind = -1:=by unfold zlZ; rw [if_neg (by omega),if_neg (by omega),if_neg (by omega)]
     unfold ziS
     rw [this,decide_eq_false (by omega)]
     rfl
    refine ⟨[.tok 1 [k],oE b],fun a0 a3 a7 a8 a9 a10 a11 a12 a13 a14 a15 a16 a17 => ?_⟩
    rw [xl zZ rfl,zak]
    simp -implicitDefEqProofs only [go_sem,s6,ilt hk,gk,rb,ya,yb,yc,eq_true g0,e]
   by_cases g3 : b.kind > 3
   ·have e : ziS f.blocks.length b = false:=by
     have : zlZ b.kind = -1:=by unfold zlZ; rw [if_neg (by omega),if_neg (by omega),if_neg (by omega)]
     unfold ziS
     rw [this,decide_eq_false (by omega)]
     rfl
    refine ⟨[.tok 1 [k],oE b],fun a0 a3 a7 a8 a9 a10 a11 a12 a13 a14 a15 a16 a17 => ?_⟩
    rw [xl zZ rfl,zak]
    simp -implicitDefEqProofs only [go_sem,s6,ilt hk,gk,rb,ya,yb,yc,g0,eq_true g3,e]
   have hgo : [ri 0,ri 1,ri 2,ri 0][b.kind.toNat]? = some (ri (zlZ b.kind)):=by
    have : b.kind = 0 ∨ b.kind = 1 ∨ b.kind = 2 ∨ b.kind = 3:=by omega
    rcases this with h | h | h | h <;> rw [h] <;> rfl
   have g0' : 0 ≤ b.kind:=by omega
   by_cases gl : (b.to.length : Int) = zlZ b.kind
   ·have hz:=fun a0 a3 a10 a11 a12 a13 a14 a15 a16 a17 => zEF f hf hn1 hn b hb k k (((zl f).take k).map rl) b.to.length 0 a0 a3 a10 a11 a12 a13 a14 a15 a16 a17 (by omega) (by omega)
    simp only [yk,yq] at hz
    cases ga : b.to.any (zks f.blocks.length)
    ·have e : ziS f.blocks.length b = true:=by
      unfold ziS
      rw [ga,decide_eq_true gl.symm]
      rfl
     have ho:=fun a0 a3 a9 a11 a12 a13 a14 a15 a16 a17 => zD2 f hf hn1 hn b hb k k (((zl f).take k).map rl) (f.blocks.length - 1) 1 [] a0 a3 a9 a11 a12 a13 a14 a15 a16 a17 rfl (by omega) (by simp)
     simp only [yJ,zxq hn1 ga,Int.natCast_one] at ho
     have e2 : ((zl f).take k).map rl ++ [[Fz.sl ((zsY b.to).map ri)]] = ((zl f).take (k + 1)).map rl:=by rw [hsl,List.map_append]; rfl
     refine ⟨r,fun a0 a3 a7 a8 a9 a10 a11 a12 a13 a14 a15 a16 a17 => ?_⟩
     rw [xl zZ rfl,zak]
     simp -implicitDefEqProofs only [go_sem,s6,oE,ga,yj] at hz
     simp -implicitDefEqProofs only [go_sem,s6,oE,yB] at ho
     simp -implicitDefEqProofs only [go_sem,s6] at hr
     simp -implicitDefEqProofs only [ri] at hgo
     simp -implicitDefEqProofs only [go_sem,s6,ilt hk,gk,rb,ya,yb,yc,g0,g3,g0',hgo,gl,e,hz,ho,htl,hlim,e2,za hk (show f.blocks.length ≤ 4294967296 by omega),hr]
    ·have e : ziS f.blocks.length b = false:=by
      unfold ziS
      rw [ga]
      simp
     refine ⟨[.tok 1 [k],oE b,.tok 1 [0]],fun a0 a3 a7 a8 a9 a10 a11 a12 a13 a14 a15 a16 a17 => ?_⟩
     rw [xl zZ rfl,zak]
     simp -implicitDefEqProofs only [go_sem,s6,oE,ga] at hz
     simp -implicitDefEqProofs only [ri] at hgo
     simp -implicitDefEqProofs only [go_sem,s6,ilt hk,gk,rb,ya,yb,yc,g0,g3,g0',hgo,gl,e,hz]
   ·have e : ziS f.blocks.length b = false:=by
     unfold ziS
     rw [decide_eq_false (fun h => gl h.symm)]
     rfl
    refine ⟨[.tok 1 [k],oE b],fun a0 a3 a7 a8 a9 a10 a11 a12 a13 a14 a15 a16 a17 => ?_⟩
    rw [xl zZ rfl,zak]
    simp -implicitDefEqProofs only [ri] at hgo
    simp -implicitDefEqProofs only [go_sem,s6,ilt hk,gk,rb,ya,yb,yc,g0,g3,g0',hgo,gl,e]
end
theorem zp6 (f : PFunc) (hf : okF f) : call T 77 [zgS f] [] = some (zgo f,[]):=by
 rw [ze (fn:=zar) rfl]
 by_cases c1 : f.blocks.length < 1
 ·have c1' : (f.blocks.length : Int) = 0:=by omega
  have e : zat f = false:=by
   have : (zl f).length = 0:=by rw [zl,ya]; omega
   unfold zat zbk
   rw [this]
   simp
  simp -implicitDefEqProofs only [go_sem,zar,zgo,e,eq_true c1',ya,yj]
 have c1' : ¬ (f.blocks.length : Int) = 0:=by omega
 by_cases c2 : 64 < f.blocks.length
 ·have c2' : (f.blocks.length : Int) > 64:=by omega
  have e : zat f = false:=by unfold zat; rw [decide_eq_true c2]; rfl
  simp -implicitDefEqProofs only [go_sem,zar,zgo,e,c1',eq_true c2',ya,yj]
 have c2' : ¬ (f.blocks.length : Int) > 64:=by omega
 obtain ⟨r,h⟩:=zEk f hf (by omega) (by omega) f.blocks.length 0 (by omega) (by omega)
 simp only [yk,yq,List.take_zero,List.map_nil] at h
 cases c3 : f.blocks.all (ziS f.blocks.length)
 ·have e : zat f = false:=by unfold zat; rw [c3]; simp
  simp -implicitDefEqProofs only [go_sem,s6,c3,yj] at h
  simp -implicitDefEqProofs only [go_sem,zar,zgo,e,c1',c2',ya,yj,h]
 ·have hM:=znH (zl f) (zh4 hf)
  have e : zat f = zbk (zl f):=by unfold zat; rw [c3,decide_eq_false c2]; simp
  simp -implicitDefEqProofs only [go_sem,s6,c3] at h
  cases c4 : zbk (zl f)
  ·simp -implicitDefEqProofs only [go_sem,zjJ,c4,yj] at hM
   simp -implicitDefEqProofs only [go_sem,zar,zgo,e,c4,c1',c2',ya,yj,h,hM]
  ·simp -implicitDefEqProofs only [go_sem,zjJ,c4] at hM
   simp -implicitDefEqProofs only [go_sem,zar,zgo,e,c4,c1',c2',ya,h,hM]
end AC
namespace AC
open Go Go.A Go.A.Lex
def ofS (level : Int) (o : POp) : Bool :=
 !(decide (level < 2) && (decide (1 < o.lanes) || decide (20 < o.kind))) && (!(decide (level < 1) && decide (17 < o.kind)) && zgq o)
section
variable (f : PFunc) (hf : okF f) (level : Int) (x y z dd : C) (σ : zd) (hck : σ[1]? = some (zxE f level x y z dd)) (hσ : Ok σ)
include hck hσ
theorem zDI (o : POp) (ho : zuV o) : call T 203 [.one (.ptr 1 0 0 0),vOp o] σ = some (vB (ofS level o),σ):=by
 rw [ze (fn:=zaf) rfl]
 have hm:=zil o ho.1 ho.2
 have hlow:=zgg hck
 simp -implicitDefEqProofs only [go_sem] at hm
 by_cases c1 : level < 2
 ·by_cases c2 : 1 < o.lanes
  ·simp -implicitDefEqProofs only [go_sem,zaf,hlow,c1,c2,ofS,Ok.at hσ]
  ·by_cases c3 : 20 < o.kind
   ·simp -implicitDefEqProofs only [go_sem,zaf,hlow,c1,c2,c3,ofS,Ok.at hσ]
   ·by_cases c4 : level < 1
    ·by_cases c5 : 17 < o.kind
     ·simp -implicitDefEqProofs only [go_sem,zaf,hlow,c1,c2,c3,c4,c5,ofS,Ok.at hσ]
     ·simp -implicitDefEqProofs only [go_sem,zaf,hlow,c1,c2,c3,c4,c5,ofS,Ok.at hσ,hm]
    ·simp -implicitDefEqProofs only [go_sem,zaf,hlow,c1,c2,c3,c4,ofS,Ok.at hσ,hm]
 ·have c4 : ¬ level < 1:=by omega
  simp -implicitDefEqProofs only [go_sem,zaf,hlow,c1,c4,ofS,Ok.at hσ,hm]
end
def zjw (level : Int) (b : PBlock) : Bool:=b.phis.all (fun p => zhH p.bits) && b.ops.all (ofS level)
def zd5 (level : Int) : List PBlock → Option PBlock
 | [] => none
 | b :: r => if zjw level b = true then zd5 level r else some b
def zfk (f : PFunc) (level : Int) : Bool:=zhH f.ret && (f.params.all zhH && f.blocks.all (zjw level))
theorem zi6 (level : Int) : ∀ l : List PBlock,(zd5 level l).isNone = l.all (zjw level)
 | [] => rfl
 | b :: r => by
   simp only [zd5,yE]
   cases h : zjw level b
   ·simp
   ·simpa using zi6 level r
theorem zsG (b : Int) (σ : zd) : call T 198 [vI b] σ = some (vB (!zhH b),σ):=by
 rw [ze (fn:=zc4) rfl]
 simp -implicitDefEqProofs only [go_sem,zc4]
theorem ztT (p : PPhi) (σ : zd) (hσ : Ok σ) : call T 200 [zE0 p] σ = some (vB (!zhH p.bits),σ):=by
 rw [ze (fn:=zc9) rfl]
 simp -implicitDefEqProofs only [go_sem,zc9,Ok.at hσ]
section
variable (f : PFunc) (hf : okF f) (level : Int) (x y z dd : C) (σ : zd) (hck : σ[1]? = some (zxE f level x y z dd)) (hσ : Ok σ)
include hck hσ
theorem zto (o : POp) (ho : zuV o) (r : zd) (hr : Obs.lt (σ.length + 1 + r.length) r = true) : call T 202 [vOp o,.one (.ptr σ.length 0 0 0)] (σ ++ .cells 0 1 [[.ptr 1 0 0 0]] :: r) = some (vB (!ofS level o),σ ++ .cells 0 1 [[.ptr 1 0 0 0]] :: r):=by
 rw [ze (fn:=zc3) rfl]
 have hσ1 : Ok (σ ++ .cells 0 1 [[.ptr 1 0 0 0]] :: r):=Ok.app hσ (by
  have h1:=zoO (show σ.length + 1 + r.length ≤ σ.length + (r.length + 1) by omega) r hr
  have h2:=zh3 hck (r.length + 1)
  simp -implicitDefEqProofs only [go_sem,h1,h2])
 have hσ2 : Ok (σ ++ .cells 0 1 [[.ptr 1 0 0 0]] :: r ++ [.cells 0 6 [cOp o]]):=Ok.app hσ1 (by simp -implicitDefEqProofs only [go_sem])
 have hc:=zDI f level x y z dd (σ ++ .cells 0 1 [[.ptr 1 0 0 0]] :: r ++ [.cells 0 6 [cOp o]]) (by rw [yv]; exact zgg hck _) hσ2 o ho
 generalize hτ : σ ++ .cells 0 1 [[.ptr 1 0 0 0]] :: r = τ at *
 have hg : τ[σ.length]? = some (.cells 0 1 [[.ptr 1 0 0 0]]):=by rw [← hτ]; simp
 have hg2:=zgg hg
 simp -implicitDefEqProofs only [go_sem] at hc
 simp -implicitDefEqProofs only [go_sem,zc3,hg2,hc,Ok.at hσ1]
theorem zBy (hf : okF f) : ∀ (d k : Nat) (a0 a2 a3 a4 a5 a9 a10 : V),f.blocks.length - k = d → k ≤ f.blocks.length →
  exec T zbF ⟨[a0,.one (.ptr σ.length 0 0 0),a2,a3,a4,a5,vL (f.blocks.map rb),vI f.blocks.length,vI k,a9,a10],σ ++ [.cells 0 1 [[.ptr 1 0 0 0]]],σ.length,σ.length⟩ =
   some (match zd5 level (f.blocks.drop k) with
    | none => (.exit 0,⟨[vU,vU,vU,vU,vU,vU,vU,vU,vU,vU,vU],σ ++ [.cells 0 1 [[.ptr 1 0 0 0]]],σ.length,σ.length⟩)
    | some b => (.ret,⟨[vU,vU,vI 6,vU,vU,vU,vU,vU,vU,vU,vU],σ ++ [.cells 0 1 [[.ptr 1 0 0 0]],.cells 0 5 [zq b]],σ.length,σ.length⟩)):=by
 intro d
 induction d with
 | zero =>
   intro k a0 a2 a3 a4 a5 a9 a10 h1 h2
   have hk : k = f.blocks.length:=by omega
   subst hk
   rw [xl zbF rfl,zdK]
   simp -implicitDefEqProofs only [go_sem,yn,yo,zd5]
 | succ d ih =>
   intro k a0 a2 a3 a4 a5 a9 a10 h1 h2
   have hk : k < f.blocks.length:=by omega
   have hd : f.blocks.drop k = f.blocks[k] :: f.blocks.drop (k + 1):=yg hk
   have hb:=hf.block _ (ys hk)
   have hlow:=zgg hck
   have hσ1 : Ok (σ ++ [.cells 0 1 [[.ptr 1 0 0 0]],.cells 0 5 [zq f.blocks[k]]]):=Ok.app hσ (by
    have h2:=zh3 hck 2
    simp -implicitDefEqProofs only [go_sem,h2])
   have hp:=zjd f.blocks[k].phis (fun p => !zhH p.bits) 200 [] [] (σ ++ [.cells 0 1 [[.ptr 1 0 0 0]],.cells 0 5 [zq f.blocks[k]]]) hb.phis (fun p _ => ztT p _ hσ1)
   have ho:=zkt f.blocks[k].ops (fun o => !ofS level o) 202 [] [.ptr σ.length 0 0 0] (σ ++ [.cells 0 1 [[.ptr 1 0 0 0]],.cells 0 5 [zq f.blocks[k]]]) hb.ops (fun o ho => by
    have:=zto f level x y z dd σ hck hσ o (hb.op o ho) [.cells 0 5 [zq f.blocks[k]]] (by simp -implicitDefEqProofs only [go_sem])
    exact this)
   have hap : (f.blocks[k].phis.any fun p => !zhH p.bits) = !f.blocks[k].phis.all (fun p => zhH p.bits):=by rw [← zpi,yH]
   have hao : (f.blocks[k].ops.any fun p => !ofS level p) = !f.blocks[k].ops.all (ofS level):=by rw [← zpi,yH]
   rw [hap] at hp
   rw [hao] at ho
   rw [xl zbF rfl,zdK,hd,zd5]
   cases e1 : f.blocks[k].phis.all (fun p => zhH p.bits)
   ·simp -implicitDefEqProofs only [go_sem,e1] at hp
    simp -implicitDefEqProofs only [go_sem,ilt hk,zp hk,rb,hp,zjw,e1]
   ·cases e2 : f.blocks[k].ops.all (ofS level)
    ·simp -implicitDefEqProofs only [go_sem,e1,e2] at hp ho
     simp -implicitDefEqProofs only [go_sem,ilt hk,zp hk,rb,hp,ho,zjw,e1,e2]
    ·have:=ih (k + 1) vU vU vU vU vU vU vU (by omega) (by omega)
     simp -implicitDefEqProofs only [go_sem,e1,e2] at hp ho this
     simp -implicitDefEqProofs only [go_sem,ilt hk,zp hk,rb,hp,ho,zjw,e1,e2,za hk hf.blocks,Ok.up hσ,zh3 hck,this]
theorem zwP (hf : okF f) : call T 160 [.one (.ptr 1 0 0 0)] σ = some (vI (if zfk f level = true then 0 else 6),σ):=by
 rw [ze (fn:=zam) rfl]
 have hlow:=zgg hck
 have hap : (f.params.any fun p => !zhH p) = !f.params.all zhH:=by rw [← zpi,yH]
 have hp:=zaQ f.params (fun p => !zhH p) 198 [] [] (σ ++ [.cells 0 1 [[.ptr 1 0 0 0]]]) hf.params (fun p _ => zsG p _)
 rw [hap] at hp
 have h:=fun a0 a2 a3 a4 a5 a9 a10 => zBy f level x y z dd σ hck hσ hf f.blocks.length 0 a0 a2 a3 a4 a5 a9 a10 (by omega) (by omega)
 simp only [yq,yk] at h
 have ha:=zi6 level f.blocks
 cases e1 : zhH f.ret
 ·simp -implicitDefEqProofs only [go_sem,zam,hlow,e1,zfk,Ok.at hσ]
 cases e2 : f.params.all zhH
 ·simp -implicitDefEqProofs only [go_sem,e2] at hp
  simp -implicitDefEqProofs only [go_sem,zam,hlow,e1,e2,hp,zfk,Ok.at hσ]
 cases e3 : zd5 level f.blocks with
 | none =>
   rw [e3] at ha
   simp only [Option.isNone_none] at ha
   simp -implicitDefEqProofs only [go_sem,e2,e3] at hp h
   simp -implicitDefEqProofs only [go_sem,zam,hlow,e1,e2,hp,h,zfk,← ha,Ok.at hσ]
 | some b =>
   rw [e3] at ha
   simp only [Option.isNone_some] at ha
   simp -implicitDefEqProofs only [go_sem,e2,e3] at hp h
   simp -implicitDefEqProofs only [go_sem,zam,hlow,e1,e2,hp,h,zfk,← ha,Ok.at hσ]
end
end AC

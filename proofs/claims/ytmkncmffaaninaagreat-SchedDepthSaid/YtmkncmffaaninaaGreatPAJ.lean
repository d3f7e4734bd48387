/- A part of the proof of SchedDepth. Conditions: none. -/
import Derived.Test.YtmkncmffaaninaaGreatPAI
import Derived.Test.YtmkncmffaaninaaGreatPAH
import Derived.Test.YtmkncmffaaninaaGreatPAG
set_option linter.unusedVariables false
set_option linter.unusedSimpArgs false
set_option linter.unusedSectionVars false
open List renaming length_map → ya,drop_eq_getElem_cons → ye,getElem?_cons_succ → yg,getElem?_cons_zero → yh,drop_length → yi,find?_cons → yk,getElem_mem → yl,all_cons → ym,drop_zero → yn,set_cons_succ → yp,length_cons → yq,getElem?_map → ys,all_nil → yt,append_nil → yv,eq_nil_of_length_eq_zero → yw,getElem?_append_right → yx,getD_eq_getElem?_getD → yy,map_cons → yz,length_append → yA,getElem?_eq_getElem → yB,replicate → yC,find?_nil → yD,getElem?_set_self → yE,take_of_length_le → yF,length_nil → yH,map_set → yI,map_nil → yJ,map_replicate → yK,cons_append → yN,length_set → yR,set_set → yU,map → yW
open Int renaming natCast_nonneg → yb,toNat_natCast → yc,lt_irrefl → yf,natCast_zero → yj
open Nat renaming add_le_add_iff_right → yd,add_comm → yG,sub_self → yS,zero_add → yT
open Bool renaming false_eq_true → yo,and_eq_true → yr,and_false → yu,not_eq_false' → yL,and_true → yM,or_eq_true → yQ,or_true → yV
open Option renaming isNone_none → yO,isNone_some → yP
namespace AC
open Go Go.A Go.A.Lex
section
variable (succ pred : List (List Int)) (root : Int) (hn1 : 1 ≤ succ.length) (hn : succ.length ≤ 64) (hl : ∀ l ∈ succ,l.length ≤ 4294967296) (hr : ∀ l ∈ succ,∀ y ∈ l,0 ≤ y ∧ y < (succ.length : Int)) (h0 : 0 ≤ root ∧ root < (succ.length : Int))
abbrev sT7 (k a : Nat) (r : zd) : zd:=zqX succ pred :: .cells 0 1 (zm0 succ.length k) :: (zeW succ root a ++ r)
theorem zDj {l : List Bool} {k : Nat} (h : k < l.length) : (l.map rbo)[k]? = some [.lit (.bool (l.getD k false))]:=by simp [h,rbo]
theorem ovl (k m : Nat) (h : k ≤ m) : (List.length (zeW succ root k) ≤ m) = True:=by rw [zaG]; simp [h]
include hn hl hr h0
theorem zBi (a : Nat) (ha : a < succ.length) : ∀ (d k : Nat) (a0 a3 a10 a11 a12 a13 a14 a15 a16 a17 a18 a19 a20 a21 a22 a23 : V),succ.length - k = d → k ≤ succ.length →
  exec T zct ⟨[a0,vI root,.one (.ptr 0 0 0 0),a3,vI succ.length,vBs (zdn succ root (-1)),.one (.own 1 0 0 succ.length),vI a,vBs (zdn succ root a),vI k,a10,a11,a12,a13,a14,a15,a16,a17,a18,a19,a20,a21,a22,a23],sT7 succ pred root (a + 1) a [.cells 0 1 ((zf8 succ root a k).map zfD)],0,0⟩ =
   some (.exit 2,⟨[vU,vI root,.one (.ptr 0 0 0 0),vU,vI succ.length,vBs (zdn succ root (-1)),.one (.own 1 0 0 succ.length),vI a,vU,vU,vU,vU,vU,vU,vU,vU,vU,vU,vU,vU,vU,vU,vU,vU],sT7 succ pred root (a + 1) (a + 1) [],0,0⟩):=by
 intro d
 induction d with
 | zero =>
   intro k a0 a3 a10 a11 a12 a13 a14 a15 a16 a17 a18 a19 a20 a21 a22 a23 h1 h2
   have hk : k = succ.length:=by omega
   subst hk
   have e:=zuS succ root a
   rw [← zxh] at e
   rw [xl zct rfl,zd5]
   have d1:=ovl succ root (a + 1) 999998 (by omega)
   simp -implicitDefEqProofs only [go_sem,sT7,yf,e,yv,d1]
 | succ d ih =>
   intro k a0 a3 a10 a11 a12 a13 a14 a15 a16 a17 a18 a19 a20 a21 a22 a23 h1 h2
   have hk : k < succ.length:=by omega
   have gR:=zDj (l:=zdn succ root (-1)) (k:=k) (by rw [ziH]; exact hk)
   have gW:=zDj (l:=zdn succ root (a : Int)) (k:=k) (by rw [ziH]; exact hk)
   have go:=zgP succ.length (a + 1) a ha (by omega)
   have gl : (zeW succ root a ++ [Ob.cells 0 1 ((zf8 succ root a k).map zfD)])[a]? = some (.cells 0 1 ((zf8 succ root a k).map zfD)):=by
    rw [yx (by rw [zaG]; omega),zaG,yS]
    rfl
   have sl : ∀ o,(zeW succ root a ++ [Ob.cells 0 1 ((zf8 succ root a k).map zfD)]).set a o = zeW succ root a ++ [o]:=fun o => by
    have:=zrO (zeW succ root a) [] (Ob.cells 0 1 ((zf8 succ root a k).map zfD)) o
    rwa [zaG] at this
   have gk : ((zf8 succ root a k).map zfD)[k]? = some [.f (.lit (.bool false))]:=by
    rw [ys,zh4 succ root a k k hk,if_neg (by omega)]
    rfl
   have hset : ((zf8 succ root a k).map zfD).set k [C.f (.lit (.bool (ovB succ root a k)))] = (zf8 succ root a (k + 1)).map zfD:=by
    rw [← zwh succ root a k hk,yI]
    rfl
   have hlk : (zf8 succ root a k).length = succ.length:=zer succ root a k
   have hia : ((a : Int) < (succ.length : Int)) = True:=by simp; omega
   have hik : ((k : Int) < (succ.length : Int)) = True:=by simp; omega
   have:=ih (k + 1) vU vU vU vU vU vU vU vU vU vU vU vU vU vU vU vU (by omega) (by omega)
   have d1:=ovl succ root a 999997 (by omega)
   rw [xl zct rfl,zd5]
   simp -implicitDefEqProofs only [go_sem,sT7] at this
   cases c : (zdn succ root (-1)).getD k false
   ·have e : ovB succ root a k = false:=by unfold ovB; rw [c]; rfl
    rw [c] at gR
    rw [e] at hset
    simp -implicitDefEqProofs only [go_sem,sT7,zqX,ilt hk,hia,hik,gR,go,gl,sl,gk,hset,yg,yh,yp,yb,yc,ya,d1,za hk (show succ.length ≤ 4294967296 by omega),this]
   ·have e : ovB succ root a k = !(zdn succ root (a : Int)).getD k false:=by unfold ovB; rw [c]; rfl
    rw [c] at gR
    rw [e] at hset
    simp -implicitDefEqProofs only [go_sem,sT7,zqX,ilt hk,hia,hik,gR,gW,go,gl,sl,gk,hset,yg,yh,yp,yb,yc,ya,d1,za hk (show succ.length ≤ 4294967296 by omega),this]
theorem zAO : ∀ (d k : Nat) (a0 a3 a8 a9 a10 a11 a12 a13 a14 a15 a16 a17 a18 a19 a20 a21 a22 a23 : V),succ.length - k = d → k ≤ succ.length →
  exec T zb8 ⟨[a0,vI root,.one (.ptr 0 0 0 0),a3,vI succ.length,vBs (zdn succ root (-1)),.one (.own 1 0 0 succ.length),vI k,a8,a9,a10,a11,a12,a13,a14,a15,a16,a17,a18,a19,a20,a21,a22,a23],sT7 succ pred root k k [],0,0⟩ =
   some (.exit 0,⟨[vU,vI root,vU,vU,vI succ.length,vU,.one (.own 1 0 0 succ.length),vU,vU,vU,vU,vU,vU,vU,vU,vU,vU,vU,vU,vU,vU,vU,vU,vU],sT7 succ pred root succ.length succ.length [],0,0⟩):=by
 intro d
 induction d with
 | zero =>
   intro k a0 a3 a8 a9 a10 a11 a12 a13 a14 a15 a16 a17 a18 a19 a20 a21 a22 a23 h1 h2
   have hk : k = succ.length:=by omega
   subst hk
   rw [xl zb8 rfl,zeo]
   have d1:=ovl succ root succ.length 999998 (by omega)
   simp -implicitDefEqProofs only [go_sem,sT7,yf,yv,d1]
 | succ d ih =>
   intro k a0 a3 a8 a9 a10 a11 a12 a13 a14 a15 a16 a17 a18 a19 a20 a21 a22 a23 h1 h2
   have hk : k < succ.length:=by omega
   have hR:=zm6 succ pred (by omega) hl hr (k : Int) root h0
   have hL:=fun a0 a3 a10 a11 a12 a13 a14 a15 a16 a17 a18 a19 a20 a21 a22 a23 => zBi succ pred root hn hl hr h0 k hk succ.length 0 a0 a3 a10 a11 a12 a13 a14 a15 a16 a17 a18 a19 a20 a21 a22 a23 (by omega) (by omega)
   simp only [yj,zuL] at hL
   have:=ih (k + 1) vU vU vU vU vU vU vU vU vU vU vU vU vU vU vU vU vU vU (by omega) (by omega)
   obtain ⟨c0,hc0⟩:=zAi succ.length k k hk
   have hset:=zzL succ.length k hk
   have hz : yC succ.length [C.f (.lit (.bool false))] = (yC succ.length false).map zfD:=by rw [yK]; rfl
   have hlim : (succ.length : Int) ≤ (LIM : Int):=by unfold LIM; omega
   have d1:=ovl succ root (k + 1) 999998 (by omega)
   have hlen : (zeW succ root k).length = k:=zaG succ root k
   rw [xl zb8 rfl,zeo]
   simp -implicitDefEqProofs only [go_sem] at hR
   simp -implicitDefEqProofs only [go_sem,sT7,yv] at hL this
   simp -implicitDefEqProofs only [go_sem,sT7,zqX,ilt hk,hlim,hz,hc0,hset,hlen,yv,yN,yq,yg,yh,yp,List.set_cons_zero,yb,yc,ya,hR,hL,d1,za hk (show succ.length ≤ 4294967296 by omega),this]
end
end AC
namespace AC
open Go Go.A Go.A.Lex
section
variable (f : PFunc) (hf : okF f) (succ pred : List (List Int)) (hpl : pred.length = f.blocks.length) (hpe : ∀ l ∈ pred,l.length ≤ 4294967296) (reach : List Bool) (hrl : reach.length = f.blocks.length)
abbrev znv (r : zd) : zd:=.cells 0 3 [zcW f] :: .cells 0 2 [[.f (.sl (succ.map rl)),.f (.sl (pred.map rl))]] :: r
include hf hpl hpe hrl
theorem zwT (b : PBlock) (hb : okB b) (i : Nat) (hi : i < f.blocks.length) : ∀ (d k : Nat) (a0 a2 a4 a9 a10 a11 a12 a13 : V),b.phis.length - k = d → k ≤ b.phis.length →
  exec T zbJ ⟨[a0,.one (.ptr 0 0 0 0),a2,.one (.ptr 1 0 0 0),a4,.one (.f (.sl (reach.map rbo))),vI i,.one (.ptr 2 0 0 0),vI k,a9,a10,a11,a12,a13],znv f succ pred [.cells 0 5 [zq b]],0,0⟩ =
   some (if (b.phis.drop k).all (zhP (pred.getD i [])) = true then (.exit 2,⟨[vU,.one (.ptr 0 0 0 0),vU,.one (.ptr 1 0 0 0),vU,.one (.f (.sl (reach.map rbo))),vI i,vU,vU,vU,vU,vU,vU,vU],znv f succ pred [.cells 0 5 [zq b]],0,0⟩)
    else (.ret,⟨[vU,vU,vB false,vU,vU,vU,vU,vU,vU,vU,vU,vU,vU,vU],znv f succ pred [.cells 0 5 [zq b]],0,0⟩)):=by
 intro d
 induction d with
 | zero =>
   intro k a0 a2 a4 a9 a10 a11 a12 a13 h1 h2
   have hk : k = b.phis.length:=by omega
   subst hk
   rw [xl zbJ rfl,zdB]
   simp -implicitDefEqProofs only [go_sem,znv,yf,ya,yi,yt]
 | succ d ih =>
   intro k a0 a2 a4 a9 a10 a11 a12 a13 h1 h2
   have hk : k < b.phis.length:=by omega
   have hd : b.phis.drop k = b.phis[k] :: b.phis.drop (k + 1):=ye hk
   have hip : i < pred.length:=by omega
   have hg : pred.getD i [] = pred[i]:=by rw [yy,yB hip]; rfl
   have hp:=hb.phi _ (yl hk)
   have hI:=zjQ b.phis[k].src pred[i] hp.1
   have:=ih (k + 1) vU vU vU vU vU vU vU vU (by omega) (by omega)
   rw [xl zbJ rfl,zdB,hd,ym]
   rw [hg] at this ⊢
   simp -implicitDefEqProofs only [go_sem,znv] at this
   by_cases c : b.phis[k].src = pred[i]
   ·by_cases c2 : b.phis[k].args.length = pred[i].length
    ·have e : zhP pred[i] b.phis[k] = true:=by
      unfold zhP
      rw [decide_eq_true c,decide_eq_true (by rw [c]; exact c2)]
      rfl
     have c2' : (b.phis[k].args.length : Int) = (pred[i].length : Int):=by omega
     simp -implicitDefEqProofs only [go_sem,decide_eq_true c] at hI
     simp -implicitDefEqProofs only [go_sem,znv,ilt hk,ilt hip,zp hk,zp hip,rp,rl,ya,hI,eq_true c2',e,yb,yc,za hk hb.phis,this]
    ·have e : zhP pred[i] b.phis[k] = false:=by
      have hne : ¬ b.phis[k].args.length = b.phis[k].src.length:=fun h => c2 (by rw [h,c])
      unfold zhP
      rw [decide_eq_false hne,yu]
     have c2' : ¬ (b.phis[k].args.length : Int) = (pred[i].length : Int):=by omega
     simp -implicitDefEqProofs only [go_sem,decide_eq_true c] at hI
     simp -implicitDefEqProofs only [go_sem,znv,ilt hk,ilt hip,zp hk,zp hip,rp,rl,ya,hI,c2',e,yb,yc]
   ·have e : zhP pred[i] b.phis[k] = false:=by
     unfold zhP
     rw [decide_eq_false c]
     rfl
    simp -implicitDefEqProofs only [go_sem,decide_eq_false c] at hI
    simp -implicitDefEqProofs only [go_sem,znv,ilt hk,ilt hip,zp hk,zp hip,rp,rl,ya,hI,e,yb,yc]
def zjE (pred : List (List Int)) (reach : List Bool) (i : Nat) (b : PBlock) : Bool:=reach.getD i false && (zeB b && b.phis.all (zhP (pred.getD i [])))
def zbn (pred : List (List Int)) (reach : List Bool) : Nat → List PBlock → Bool
 | _,[] => true
 | i,b :: r => zjE pred reach i b && zbn pred reach (i + 1) r
theorem zxr : ∀ (d k : Nat),f.blocks.length - k = d → k ≤ f.blocks.length → ∃ r,∀ (a0 a2 a4 a7 a8 a9 a10 a11 a12 a13 : V),
  exec T zT ⟨[a0,.one (.ptr 0 0 0 0),a2,.one (.ptr 1 0 0 0),a4,.one (.f (.sl (reach.map rbo))),vI k,a7,a8,a9,a10,a11,a12,a13],znv f succ pred [],0,0⟩ =
   some (if zbn pred reach k (f.blocks.drop k) = true then (.exit 0,⟨[vU,vU,vU,vU,vU,vU,vU,vU,vU,vU,vU,vU,vU,vU],znv f succ pred [],0,0⟩)
    else (.ret,⟨[vU,vU,vB false,vU,vU,vU,vU,vU,vU,vU,vU,vU,vU,vU],znv f succ pred r,0,0⟩)):=by
 intro d
 induction d with
 | zero =>
   intro k h1 h2
   have hk : k = f.blocks.length:=by omega
   subst hk
   refine ⟨[],fun a0 a2 a4 a7 a8 a9 a10 a11 a12 a13 => ?_⟩
   rw [xl zT rfl,zai]
   simp -implicitDefEqProofs only [go_sem,znv,yf,ya,yi,zbn]
 | succ d ih =>
   intro k h1 h2
   have hk : k < f.blocks.length:=by omega
   have hd : f.blocks.drop k = f.blocks[k] :: f.blocks.drop (k + 1):=ye hk
   obtain ⟨b,hb'⟩ : ∃ b,b = f.blocks[k]:=⟨_,rfl⟩
   have hb:=hf.block _ (yl hk)
   have gk:=zp (r:=rb) hk
   rw [← hb'] at hb gk
   have gr:=zDj (l:=reach) (k:=k) (by omega)
   have h0:=fun a0 a2 a4 a9 a10 a11 a12 a13 => zwT f hf succ pred hpl hpe reach hrl b hb k hk b.phis.length 0 a0 a2 a4 a9 a10 a11 a12 a13 (by omega) (by omega)
   simp only [yj,yn] at h0
   obtain ⟨r,hr⟩:=ih (k + 1) (by omega) (by omega)
   rw [hd,zbn,← hb',zjE]
   simp -implicitDefEqProofs only [go_sem,znv] at hr
   cases c : reach.getD k false
   ·rw [c] at gr
    refine ⟨[.cells 0 5 [zq b]],fun a0 a2 a4 a7 a8 a9 a10 a11 a12 a13 => ?_⟩
    rw [xl zT rfl,zai]
    simp -implicitDefEqProofs only [go_sem,znv,ilt hk,gk,gr,rb,ya,yb,yc]
   ·rw [c] at gr
    cases e : zeB b
    ·refine ⟨[.cells 0 5 [zq b]],fun a0 a2 a4 a7 a8 a9 a10 a11 a12 a13 => ?_⟩
     have e' : (b.kind = 1 ∨ b.kind = 3) ∧ ¬ b.arg = 0:=by
      unfold zeB at e
      simp only [yL,yr,yQ,decide_eq_true_eq,Bool.not_eq_true',decide_eq_false_iff_not] at e
      exact e
     rw [xl zT rfl,zai]
     by_cases k1 : b.kind = 1
     ·simp -implicitDefEqProofs only [go_sem,znv,ilt hk,gk,gr,rb,ya,yb,yc,eq_true k1,e'.2]
     ·have k3 : b.kind = 3:=e'.1.resolve_left k1
      simp -implicitDefEqProofs only [go_sem,znv,ilt hk,gk,gr,rb,ya,yb,yc,k1,eq_true k3,e'.2]
    ·have e' : ¬ (b.kind = 1 ∨ b.kind = 3) ∨ b.arg = 0:=by
      by_cases z : b.arg = 0
      ·exact .inr z
      ·left
       intro h
       have : zeB b = false:=by
        unfold zeB
        simp only [decide_eq_false z,Bool.not_false,yM,yL,yQ,decide_eq_true_eq]
        exact h
       rw [this] at e
       cases e
     cases cp : b.phis.all (zhP (pred.getD k []))
     ·simp -implicitDefEqProofs only [go_sem,znv,cp,yo] at h0
      refine ⟨[.cells 0 5 [zq b]],fun a0 a2 a4 a7 a8 a9 a10 a11 a12 a13 => ?_⟩
      rw [xl zT rfl,zai]
      by_cases k1 : b.kind = 1
      ·have z : b.arg = 0:=e'.resolve_left fun h => h (.inl k1)
       simp -implicitDefEqProofs only [go_sem,znv,ilt hk,gk,gr,rb,ya,yb,yc,eq_true k1,eq_true z,h0]
      ·by_cases k3 : b.kind = 3
       ·have z : b.arg = 0:=e'.resolve_left fun h => h (.inr k3)
        simp -implicitDefEqProofs only [go_sem,znv,ilt hk,gk,gr,rb,ya,yb,yc,k1,eq_true k3,eq_true z,h0]
       ·simp -implicitDefEqProofs only [go_sem,znv,ilt hk,gk,gr,rb,ya,yb,yc,k1,k3,h0]
     ·simp -implicitDefEqProofs only [go_sem,znv,cp] at h0
      refine ⟨r,fun a0 a2 a4 a7 a8 a9 a10 a11 a12 a13 => ?_⟩
      rw [xl zT rfl,zai]
      by_cases k1 : b.kind = 1
      ·have z : b.arg = 0:=e'.resolve_left fun h => h (.inl k1)
       simp -implicitDefEqProofs only [go_sem,znv,ilt hk,gk,gr,rb,ya,yb,yc,eq_true k1,eq_true z,h0,za hk hf.blocks,hr]
      ·by_cases k3 : b.kind = 3
       ·have z : b.arg = 0:=e'.resolve_left fun h => h (.inr k3)
        simp -implicitDefEqProofs only [go_sem,znv,ilt hk,gk,gr,rb,ya,yb,yc,k1,eq_true k3,eq_true z,h0,za hk hf.blocks,hr]
       ·simp -implicitDefEqProofs only [go_sem,znv,ilt hk,gk,gr,rb,ya,yb,yc,k1,k3,h0,za hk hf.blocks,hr]
end
def zf5 (f : PFunc) : Bool:=zax f && zbn (zM (zm f)) (zdn (zm f) 0 (-1)) 0 f.blocks
theorem zrQ (f : PFunc) (hf : okF f) : call T 71 [zhc f] [] = some (vB (zf5 f),[]):=by
 rw [ze (fn:=zaM) rfl]
 have hO:=zqt f hf
 cases c : zax f
 ·simp -implicitDefEqProofs only [go_sem,zgo,c,yo] at hO
  simp -implicitDefEqProofs only [go_sem,zaM,zf5,c,hO]
 ·have hm:=zfi c
  obtain ⟨n1,n64,hr⟩:=zew hm
  have hsl : (zm f).length = f.blocks.length:=by simp [zm]
  have hs:=zh6 hf
  have hR:=zm6 (zm f) (zM (zm f)) (by omega) hs.2 hr (-1) 0 (by omega)
  obtain ⟨r,h⟩:=zxr f hf (zm f) (zM (zm f)) (by rw [zb5]; exact hsl) (zjm _ hs (zgA hm)) (zdn (zm f) 0 (-1)) (by rw [ziH]; exact hsl) f.blocks.length 0 (by omega) (by omega)
  simp only [yj,yn] at h
  simp -implicitDefEqProofs only [go_sem,zgo,c] at hO
  simp -implicitDefEqProofs only [go_sem] at hR
  cases e : zbn (zM (zm f)) (zdn (zm f) 0 (-1)) 0 f.blocks
  ·simp -implicitDefEqProofs only [go_sem,znv,e,yo] at h
   simp -implicitDefEqProofs only [go_sem,zaM,zf5,c,hO,hR,h,e]
  ·simp -implicitDefEqProofs only [go_sem,znv,e] at h
   simp -implicitDefEqProofs only [go_sem,zaM,zf5,c,hO,hR,h,e]
end AC
namespace AC
open Go Go.A Go.A.Lex
theorem zzb {o : POp} (h : zgq o = true) : 0 ≤ o.kind ∧ o.kind ≤ 22:=by
 unfold zgq at h
 simp only [yr] at h
 cases hv : zgr o.kind
 ·rw [zpj hv] at h
  exact absurd h.2.1 (by simp)
 ·simpa [zgr] using hv
section
variable (f : PFunc) (hf : okF f) (level : Int)
abbrev zhU (r : zd) : zd:=.cells 0 3 [zcW f] :: r
include hf
theorem zwn : ∀ (d k : Nat) (a0 a3 a5 a6 a7 a8 a9 a10 a11 a12 a13 a14 a15 a16 a17 a18 : V),f.params.length - k = d → k ≤ f.params.length →
  exec T zbB ⟨[a0,vI level,.one (.ptr 0 0 0 0),a3,vI k,a5,a6,a7,a8,a9,a10,a11,a12,a13,a14,a15,a16,a17,a18],zhU f [],0,0⟩ =
   some (if (f.params.drop k).all zhF = true then (.exit 0,⟨[vU,vI level,.one (.ptr 0 0 0 0),vU,vU,vU,vU,vU,vU,vU,vU,vU,vU,vU,vU,vU,vU,vU,vU],zhU f [],0,0⟩) else (.ret,⟨[vU,vU,vU,vB false,vU,vU,vU,vU,vU,vU,vU,vU,vU,vU,vU,vU,vU,vU,vU],zhU f [],0,0⟩)):=by
 intro d
 induction d with
 | zero =>
   intro k a0 a3 a5 a6 a7 a8 a9 a10 a11 a12 a13 a14 a15 a16 a17 a18 h1 h2
   have hk : k = f.params.length:=by omega
   subst hk
   rw [xl zbB rfl,zdF]
   simp -implicitDefEqProofs only [go_sem,zhU,yf,ya,yi,yt]
 | succ d ih =>
   intro k a0 a3 a5 a6 a7 a8 a9 a10 a11 a12 a13 a14 a15 a16 a17 a18 h1 h2
   have hk : k < f.params.length:=by omega
   have hd : f.params.drop k = f.params[k] :: f.params.drop (k + 1):=ye hk
   have hM:=zfB f.params[k]
   have:=ih (k + 1) vU vU vU vU vU vU vU vU vU vU vU vU vU vU vU vU (by omega) (by omega)
   rw [xl zbB rfl,zdF,hd,ym]
   simp -implicitDefEqProofs only [go_sem,zhU] at this
   cases c : zhF f.params[k]
   ·simp -implicitDefEqProofs only [go_sem,c] at hM
    simp -implicitDefEqProofs only [go_sem,zhU,ilt hk,zp hk,ri,ya,hM,c]
   ·simp -implicitDefEqProofs only [go_sem,c] at hM
    simp -implicitDefEqProofs only [go_sem,zhU,ilt hk,zp hk,ri,ya,hM,c,za hk hf.params,this]
theorem zwY (b : PBlock) (i : Nat) (hi : i < f.blocks.length) (hb : b = f.blocks[i]) (hbl : b.phis.length ≤ 4294967296) : ∀ (d k : Nat) (a0 a3 a4 a7 a8 a9 a10 a11 a12 a13 a14 a15 a16 a17 a18 : V),b.phis.length - k = d → k ≤ b.phis.length →
  exec T zbu ⟨[a0,vI level,.one (.ptr 0 0 0 0),a3,a4,vI i,vI k,a7,a8,a9,a10,a11,a12,a13,a14,a15,a16,a17,a18],zhU f [],0,0⟩ =
   some (if (b.phis.drop k).all (fun p => zhF p.bits) = true then (.exit 4,⟨[vU,vI level,.one (.ptr 0 0 0 0),vU,vU,vI i,vU,vU,vU,vU,vU,vU,vU,vU,vU,vU,vU,vU,vU],zhU f [],0,0⟩) else (.ret,⟨[vU,vU,vU,vB false,vU,vU,vU,vU,vU,vU,vU,vU,vU,vU,vU,vU,vU,vU,vU],zhU f [],0,0⟩)):=by
 intro d
 have gi:=zp (r:=rb) hi
 rw [← hb] at gi
 induction d with
 | zero =>
   intro k a0 a3 a4 a7 a8 a9 a10 a11 a12 a13 a14 a15 a16 a17 a18 h1 h2
   have hk : k = b.phis.length:=by omega
   subst hk
   rw [xl zbu rfl,zdH]
   simp -implicitDefEqProofs only [go_sem,zhU,gi,rb,ilt hi,yf,ya,yi,yt,yb,yc]
 | succ d ih =>
   intro k a0 a3 a4 a7 a8 a9 a10 a11 a12 a13 a14 a15 a16 a17 a18 h1 h2
   have hk : k < b.phis.length:=by omega
   have hd : b.phis.drop k = b.phis[k] :: b.phis.drop (k + 1):=ye hk
   have hM:=zfB b.phis[k].bits
   have:=ih (k + 1) vU vU vU vU vU vU vU vU vU vU vU vU vU vU vU (by omega) (by omega)
   rw [xl zbu rfl,zdH,hd,ym]
   simp -implicitDefEqProofs only [go_sem,zhU] at this
   cases c : zhF b.phis[k].bits
   ·simp -implicitDefEqProofs only [go_sem,c] at hM
    simp -implicitDefEqProofs only [go_sem,zhU,gi,rb,ilt hi,ilt hk,zp hk,rp,ya,hM,c,yb,yc]
   ·simp -implicitDefEqProofs only [go_sem,c] at hM
    simp -implicitDefEqProofs only [go_sem,zhU,gi,rb,ilt hi,ilt hk,zp hk,rp,ya,hM,c,yb,yc,za hk hbl,this]
set_option maxHeartbeats 4000000 in
theorem zwm (hlv : level = 0 ∨ level = 1 ∨ level = 2) (b : PBlock) (hbo : okB b) (i : Nat) (hi : i < f.blocks.length) (hb : b = f.blocks[i]) : ∀ (d k : Nat) (a0 a3 a4 a6 a8 a9 a10 a11 a12 a13 a14 a15 a16 a17 a18 : V),b.ops.length - k = d → k ≤ b.ops.length →
  exec T zbN ⟨[a0,vI level,.one (.ptr 0 0 0 0),a3,a4,vI i,a6,vI k,a8,a9,a10,a11,a12,a13,a14,a15,a16,a17,a18],zhU f [],0,0⟩ =
   some (match (b.ops.drop k).find? (fun o => !ofS level o) with | none => (.exit 6,⟨[vU,vI level,.one (.ptr 0 0 0 0),vU,vU,vI i,vU,vU,vU,vU,vU,vU,vU,vU,vU,vU,vU,vU,vU],zhU f [],0,0⟩) | some o => (.ret,⟨[vU,vU,vU,vB false,vU,vU,vU,vU,vU,vU,vU,vU,vU,vU,vU,vU,vU,vU,vU],zhU f [.cells 0 6 [cOp o]],0,0⟩)):=by
 intro d
 have gi:=zp (r:=rb) hi
 rw [← hb] at gi
 induction d with
 | zero =>
   intro k a0 a3 a4 a6 a8 a9 a10 a11 a12 a13 a14 a15 a16 a17 a18 h1 h2
   have hk : k = b.ops.length:=by omega
   subst hk
   rw [xl zbN rfl,zds]
   simp -implicitDefEqProofs only [go_sem,zhU,gi,rb,ilt hi,yf,ya,yi,yD,yb,yc]
 | succ d ih =>
   intro k a0 a3 a4 a6 a8 a9 a10 a11 a12 a13 a14 a15 a16 a17 a18 h1 h2
   have hk : k < b.ops.length:=by omega
   have hd : b.ops.drop k = b.ops[k] :: b.ops.drop (k + 1):=ye hk
   have hM:=zlp b.ops[k] (hbo.op _ (yl hk))
   have:=ih (k + 1) vU vU vU vU vU vU vU vU vU vU vU vU vU vU vU (by omega) (by omega)
   rw [xl zbN rfl,zds,hd,yk]
   simp -implicitDefEqProofs only [go_sem,zhU] at this
   obtain ⟨o,ho⟩ : ∃ o,o = b.ops[k]:=⟨_,rfl⟩
   have gk:=zp (r:=ro) hk
   rw [← ho] at gk hM ⊢
   cases c : zgq o
   ·have e : ofS level o = false:=by unfold ofS; rw [c,yu,yu]
    simp -implicitDefEqProofs only [go_sem,c] at hM
    rcases hlv with rfl | rfl | rfl <;> simp -implicitDefEqProofs only [go_sem,zhU,gi,rb,ilt hi,ilt hk,gk,ro,ya,hM,e,yb,yc]
   ·simp -implicitDefEqProofs only [go_sem,c] at hM
    have hv:=(zzb c)
    by_cases k20 : 20 < o.kind
    ·by_cases k17 : 17 < o.kind
     ·have k22 : ¬ o.kind > 22:=by omega
      have g20 : o.kind > 20:=k20
      have g17 : o.kind > 17:=k17
      by_cases l1 : 1 < o.lanes
      ·have gl : o.lanes > 1:=l1
       rcases hlv with rfl | rfl | rfl <;> simp -implicitDefEqProofs only [go_sem,zhU,gi,rb,ilt hi,ilt hk,gk,ro,ya,hM,c,ofS,k22,eq_true g20,eq_true g17,eq_true k20,eq_true k17,eq_true l1,eq_true gl,yb,yc,za hk hbo.ops,this]
      ·have gl : ¬ o.lanes > 1:=l1
       rcases hlv with rfl | rfl | rfl <;> simp -implicitDefEqProofs only [go_sem,zhU,gi,rb,ilt hi,ilt hk,gk,ro,ya,hM,c,ofS,k22,eq_true g20,eq_true g17,eq_true k20,eq_true k17,l1,gl,yb,yc,za hk hbo.ops,this]
     ·omega
    ·have k22 : ¬ o.kind > 22:=by omega
     have g20 : ¬ o.kind > 20:=k20
     by_cases k17 : 17 < o.kind
     ·have g17 : o.kind > 17:=k17
      by_cases l1 : 1 < o.lanes
      ·have gl : o.lanes > 1:=l1
       rcases hlv with rfl | rfl | rfl <;> simp -implicitDefEqProofs only [go_sem,zhU,gi,rb,ilt hi,ilt hk,gk,ro,ya,hM,c,ofS,k22,g20,eq_true g17,k20,eq_true k17,eq_true l1,eq_true gl,yb,yc,za hk hbo.ops,this]
      ·have gl : ¬ o.lanes > 1:=l1
       rcases hlv with rfl | rfl | rfl <;> simp -implicitDefEqProofs only [go_sem,zhU,gi,rb,ilt hi,ilt hk,gk,ro,ya,hM,c,ofS,k22,g20,eq_true g17,k20,eq_true k17,l1,gl,yb,yc,za hk hbo.ops,this]
     ·have g17 : ¬ o.kind > 17:=k17
      by_cases l1 : 1 < o.lanes
      ·have gl : o.lanes > 1:=l1
       rcases hlv with rfl | rfl | rfl <;> simp -implicitDefEqProofs only [go_sem,zhU,gi,rb,ilt hi,ilt hk,gk,ro,ya,hM,c,ofS,k22,g20,g17,k20,k17,eq_true l1,eq_true gl,yb,yc,za hk hbo.ops,this]
      ·have gl : ¬ o.lanes > 1:=l1
       rcases hlv with rfl | rfl | rfl <;> simp -implicitDefEqProofs only [go_sem,zhU,gi,rb,ilt hi,ilt hk,gk,ro,ya,hM,c,ofS,k22,g20,g17,k20,k17,l1,gl,yb,yc,za hk hbo.ops,this]
theorem zxx (hlv : level = 0 ∨ level = 1 ∨ level = 2) : ∀ (d k : Nat),f.blocks.length - k = d → k ≤ f.blocks.length → ∃ r,∀ (a0 a3 a4 a6 a7 a8 a9 a10 a11 a12 a13 a14 a15 a16 a17 a18 : V),
  exec T zag ⟨[a0,vI level,.one (.ptr 0 0 0 0),a3,a4,vI k,a6,a7,a8,a9,a10,a11,a12,a13,a14,a15,a16,a17,a18],zhU f [],0,0⟩ =
   some (if (f.blocks.drop k).all (zjB level) = true then (.exit 2,⟨[vU,vU,.one (.ptr 0 0 0 0),vU,vU,vU,vU,vU,vU,vU,vU,vU,vU,vU,vU,vU,vU,vU,vU],zhU f [],0,0⟩) else (.ret,⟨[vU,vU,vU,vB false,vU,vU,vU,vU,vU,vU,vU,vU,vU,vU,vU,vU,vU,vU,vU],zhU f r,0,0⟩)):=by
 intro d
 induction d with
 | zero =>
   intro k h1 h2
   have hk : k = f.blocks.length:=by omega
   subst hk
   refine ⟨[],fun a0 a3 a4 a6 a7 a8 a9 a10 a11 a12 a13 a14 a15 a16 a17 a18 => ?_⟩
   rw [xl zag rfl,zaE]
   simp -implicitDefEqProofs only [go_sem,zhU,yf,ya,yi,yt]
 | succ d ih =>
   intro k h1 h2
   have hk : k < f.blocks.length:=by omega
   have hd : f.blocks.drop k = f.blocks[k] :: f.blocks.drop (k + 1):=ye hk
   obtain ⟨b,hb'⟩ : ∃ b,b = f.blocks[k]:=⟨_,rfl⟩
   have hb:=hf.block _ (yl hk)
   rw [← hb'] at hb
   have hP:=fun a0 a3 a4 a7 a8 a9 a10 a11 a12 a13 a14 a15 a16 a17 a18 => zwY f hf level b k hk hb' hb.phis b.phis.length 0 a0 a3 a4 a7 a8 a9 a10 a11 a12 a13 a14 a15 a16 a17 a18 (by omega) (by omega)
   have hO:=fun a0 a3 a4 a6 a8 a9 a10 a11 a12 a13 a14 a15 a16 a17 a18 => zwm f hf level hlv b hb k hk hb' b.ops.length 0 a0 a3 a4 a6 a8 a9 a10 a11 a12 a13 a14 a15 a16 a17 a18 (by omega) (by omega)
   simp only [yj,yn] at hP hO
   obtain ⟨r,hr⟩:=ih (k + 1) (by omega) (by omega)
   rw [hd,ym,← hb',zjB]
   simp -implicitDefEqProofs only [go_sem,zhU] at hr
   cases e1 : b.phis.all (fun p => zhF p.bits)
   ·refine ⟨[],fun a0 a3 a4 a6 a7 a8 a9 a10 a11 a12 a13 a14 a15 a16 a17 a18 => ?_⟩
    rw [xl zag rfl,zaE]
    simp -implicitDefEqProofs only [go_sem,zhU,e1,yo] at hP
    simp -implicitDefEqProofs only [go_sem,zhU,ilt hk,ya,hP]
   ·simp -implicitDefEqProofs only [go_sem,zhU,e1] at hP
    cases e2 : b.ops.find? (fun o => !ofS level o) with
    | some o =>
      have qa:=zeT e2
      refine ⟨[.cells 0 6 [cOp o]],fun a0 a3 a4 a6 a7 a8 a9 a10 a11 a12 a13 a14 a15 a16 a17 a18 => ?_⟩
      rw [xl zag rfl,zaE]
      simp -implicitDefEqProofs only [go_sem,zhU,e2] at hO
      simp -implicitDefEqProofs only [go_sem,zhU,ilt hk,ya,hP,hO,qa,yu]
    | none =>
      have qa:=zeY e2
      refine ⟨r,fun a0 a3 a4 a6 a7 a8 a9 a10 a11 a12 a13 a14 a15 a16 a17 a18 => ?_⟩
      rw [xl zag rfl,zaE]
      simp -implicitDefEqProofs only [go_sem,zhU,e2] at hO
      simp -implicitDefEqProofs only [go_sem,zhU,ilt hk,ya,hP,hO,qa,za hk hf.blocks,hr]
theorem zrh (hlv : level = 0 ∨ level = 1 ∨ level = 2) : call T 72 [zhc f,vI level] [] = some (vB (zfm f level),[]):=by
 rw [ze (fn:=zaO) rfl]
 have h0:=fun a0 a3 a5 a6 a7 a8 a9 a10 a11 a12 a13 a14 a15 a16 a17 a18 => zwn f hf level f.params.length 0 a0 a3 a5 a6 a7 a8 a9 a10 a11 a12 a13 a14 a15 a16 a17 a18 (by omega) (by omega)
 obtain ⟨r,h3⟩:=zxx f hf level hlv f.blocks.length 0 (by omega) (by omega)
 have hM:=zfB f.ret
 simp only [yj,yn] at h0 h3
 simp -implicitDefEqProofs only [go_sem] at hM
 cases e1 : f.params.all zhF
 ·simp -implicitDefEqProofs only [go_sem,zhU,e1,yo] at h0
  simp -implicitDefEqProofs only [go_sem,zaO,zfm,h0,e1,yu]
 ·simp -implicitDefEqProofs only [go_sem,zhU,e1] at h0
  cases e2 : f.blocks.all (zjB level)
  ·simp -implicitDefEqProofs only [go_sem,zhU,e2,yo] at h3
   simp -implicitDefEqProofs only [go_sem,zaO,zfm,h0,h3,e1,e2,yu]
  ·simp -implicitDefEqProofs only [go_sem,zhU,e2] at h3
   simp -implicitDefEqProofs only [go_sem,zaO,zfm,h0,h3,hM,e1,e2,yM]
end
end AC
namespace AC
open Go Go.A Go.A.Lex
section
variable (succ pred : List (List Int)) (root : Int) (hn1 : 1 ≤ succ.length) (hn : succ.length ≤ 64) (hl : ∀ l ∈ succ,l.length ≤ 4294967296) (hr : ∀ l ∈ succ,∀ y ∈ l,0 ≤ y ∧ y < (succ.length : Int)) (h0 : 0 ≤ root ∧ root < (succ.length : Int))
abbrev sO7 (out : List Int) : zd:=sT7 succ pred root succ.length succ.length [.cells 0 1 (out.map zj)]
theorem zz6 (o : Ob) (c : Nat) (h : c < succ.length) : (zeW succ root succ.length ++ [o])[c]? = some (.cells 0 1 ((znY succ root c).map zfD)):=by
 rw [List.getElem?_append_left (by rw [zaG]; exact h)]
 exact zwq succ root _ c h
theorem zy3 (c b : Nat) (h : b < succ.length) : ((znY succ root c).map zfD)[b]? = some [.f (.lit (.bool (ovB succ root c b)))]:=by
 rw [ys,zs4 succ root c b h]
 rfl
theorem zCH (o : Ob) : (zeW succ root succ.length ++ [o])[succ.length]? = some o:=by
 rw [yx (by rw [zaG]; omega),zaG,yS]
 rfl
theorem zFM (o p : Ob) : (zeW succ root succ.length ++ [o]).set succ.length p = zeW succ root succ.length ++ [p]:=by
 have:=zrO (zeW succ root succ.length) [] o p
 rwa [zaG] at this
include hn hl hr h0
theorem zBk (out : List Int) (b a : Nat) (hb : b < succ.length) (ha : a < succ.length) : ∀ (d k : Nat) (nr : Bool) (a0 a2 a3 a5 a7 a8 a9 a15 a16 a17 a18 a19 a20 a21 a22 a23 : V),succ.length - k = d → k ≤ succ.length →
  exec T zch ⟨[a0,vI root,a2,a3,vI succ.length,a5,.one (.own 1 0 0 succ.length),a7,a8,a9,.one (.own (succ.length + 1 + 1) 0 0 succ.length),vI b,vI a,vB nr,vI k,a15,a16,a17,a18,a19,a20,a21,a22,a23],sO7 succ pred root out,0,0⟩ =
   some (.exit 8,⟨[vU,vI root,vU,vU,vI succ.length,vU,.one (.own 1 0 0 succ.length),vU,vU,vU,.one (.own (succ.length + 1 + 1) 0 0 succ.length),vI b,vI a,vB (nr && ze2 succ root b a k d),vU,vU,vU,vU,vU,vU,vU,vU,vU,vU],sO7 succ pred root out,0,0⟩):=by
 intro d
 induction d with
 | zero =>
   intro k nr a0 a2 a3 a5 a7 a8 a9 a15 a16 a17 a18 a19 a20 a21 a22 a23 h1 h2
   have hk : k = succ.length:=by omega
   subst hk
   have d1:=ovl succ root succ.length 999997 (by omega)
   rw [xl zch rfl,zdQ]
   simp -implicitDefEqProofs only [go_sem,sT7,yf,d1,ze2,yM]
 | succ d ih =>
   intro k nr a0 a2 a3 a5 a7 a8 a9 a15 a16 a17 a18 a19 a20 a21 a22 a23 h1 h2
   have hk : k < succ.length:=by omega
   have d1:=ovl succ root succ.length 999997 (by omega)
   have go:=zgP succ.length succ.length k hk hk
   have gr:=fun o => zz6 succ root o k hk
   have gb:=zy3 succ root k b hb
   have ga:=zy3 succ root k a ha
   have hlk : (znY succ root k).length = succ.length:=zji succ root k
   have ib:=ilt hb
   have ia:=ilt ha
   rw [xl zch rfl,zdQ,ze2]
   cases nr with
   | false =>
     have:=ih (k + 1) false vU vU vU vU vU vU vU vU vU vU vU vU vU vU vU vU (by omega) (by omega)
     simp -implicitDefEqProofs only [go_sem,sT7] at this
     simp -implicitDefEqProofs only [go_sem,sT7,ilt hk,d1,za hk (show succ.length ≤ 4294967296 by omega),this]
   | true =>
     by_cases c : k = b
     ·have c' : (k : Int) = (b : Int):=by omega
      have:=ih (k + 1) true vU vU vU vU vU vU vU vU vU vU vU vU vU vU vU vU (by omega) (by omega)
      simp -implicitDefEqProofs only [go_sem,sT7] at this
      simp -implicitDefEqProofs only [go_sem,sT7,ilt hk,d1,eq_true c',eq_true c,za hk (show succ.length ≤ 4294967296 by omega),this]
     ·have c' : ¬ (k : Int) = (b : Int):=by omega
      cases e1 : ovB succ root k b
      ·rw [e1] at gb
       have:=ih (k + 1) true vU vU vU vU vU vU vU vU vU vU vU vU vU vU vU vU (by omega) (by omega)
       simp -implicitDefEqProofs only [go_sem,sT7] at this
       simp -implicitDefEqProofs only [go_sem,sT7,ilt hk,ib,d1,c',c,go,gr,gb,yg,yh,yb,yc,za hk (show succ.length ≤ 4294967296 by omega),this]
      ·rw [e1] at gb
       cases e2 : ovB succ root k a
       ·rw [e2] at ga
        have:=ih (k + 1) false vU vU vU vU vU vU vU vU vU vU vU vU vU vU vU vU (by omega) (by omega)
        simp -implicitDefEqProofs only [go_sem,sT7] at this
        simp -implicitDefEqProofs only [go_sem,sT7,ilt hk,ib,ia,d1,c',c,go,gr,gb,ga,yg,yh,yb,yc,za hk (show succ.length ≤ 4294967296 by omega),this]
       ·rw [e2] at ga
        have:=ih (k + 1) true vU vU vU vU vU vU vU vU vU vU vU vU vU vU vU vU (by omega) (by omega)
        simp -implicitDefEqProofs only [go_sem,sT7] at this
        simp -implicitDefEqProofs only [go_sem,sT7,ilt hk,ib,ia,d1,c',c,go,gr,gb,ga,yg,yh,yb,yc,za hk (show succ.length ≤ 4294967296 by omega),this]
theorem zBN (b : Nat) (hb : b < succ.length) (hbr : ¬ (b : Int) = root) : ∀ (d k : Nat) (v : Int) (out : List Int) (a0 a2 a3 a5 a7 a8 a9 a13 a14 a15 a16 a17 a18 a19 a20 a21 a22 a23 : V),succ.length - k = d → k ≤ succ.length → out.length = succ.length →
  exec T zam ⟨[a0,vI root,a2,a3,vI succ.length,a5,.one (.own 1 0 0 succ.length),a7,a8,a9,.one (.own (succ.length + 1 + 1) 0 0 succ.length),vI b,vI k,a13,a14,a15,a16,a17,a18,a19,a20,a21,a22,a23],sO7 succ pred root (out.set b v),0,0⟩ =
   some (.exit 6,⟨[vU,vI root,vU,vU,vI succ.length,vU,.one (.own 1 0 0 succ.length),vU,vU,vU,.one (.own (succ.length + 1 + 1) 0 0 succ.length),vI b,vU,vU,vU,vU,vU,vU,vU,vU,vU,vU,vU,vU],sO7 succ pred root (out.set b (zfS succ root b k d v)),0,0⟩):=by
 intro d
 induction d with
 | zero =>
   intro k v out a0 a2 a3 a5 a7 a8 a9 a13 a14 a15 a16 a17 a18 a19 a20 a21 a22 a23 h1 h2 ho
   have hk : k = succ.length:=by omega
   subst hk
   have d1:=ovl succ root succ.length 999997 (by omega)
   rw [xl zam rfl,zbU]
   simp -implicitDefEqProofs only [go_sem,sT7,yf,d1,zfS]
 | succ d ih =>
   intro k v out a0 a2 a3 a5 a7 a8 a9 a13 a14 a15 a16 a17 a18 a19 a20 a21 a22 a23 h1 h2 ho
   have hk : k < succ.length:=by omega
   have d1:=ovl succ root succ.length 999997 (by omega)
   have go:=zgP succ.length succ.length k hk hk
   have gr:=fun o => zz6 succ root o k hk
   have gb:=zy3 succ root k b hb
   have gl:=fun o => zCH succ root o
   have sl:=fun o p => zFM succ root o p
   have hlk : (znY succ root k).length = succ.length:=zji succ root k
   have ib:=ilt hb
   have hN:=fun a0 a2 a3 a5 a7 a8 a9 a15 a16 a17 a18 a19 a20 a21 a22 a23 => zBk succ pred root hn hl hr h0 (out.set b v) b k hb hk succ.length 0 true a0 a2 a3 a5 a7 a8 a9 a15 a16 a17 a18 a19 a20 a21 a22 a23 (by omega) (by omega)
   simp only [yj] at hN
   have hol : (out.set b v).length = succ.length:=by rw [yR]; exact ho
   have gv : ((out.set b v).map zj)[b]? = some [.f (.lit (.int .i64 v))]:=by
    rw [ys,yE (by omega)]
    rfl
   have hset : ((out.set b v).map zj).set b [C.f (.lit (.int .i64 (k : Int)))] = (out.set b (k : Int)).map zj:=by
    have : ((out.set b v).set b (k : Int)) = out.set b (k : Int):=yU _
    rw [← this,yI (l:=out.set b v)]
    rfl
   have i1:=ih (k + 1) v out vU vU vU vU vU vU vU vU vU vU vU vU vU vU vU vU vU vU (by omega) (by omega) ho
   have i2:=ih (k + 1) (k : Int) out vU vU vU vU vU vU vU vU vU vU vU vU vU vU vU vU vU vU (by omega) (by omega) ho
   obtain ⟨os,hos⟩ : ∃ os,os = out.set b v:=⟨_,rfl⟩
   obtain ⟨ok,hok⟩ : ∃ ok,ok = out.set b (k : Int):=⟨_,rfl⟩
   rw [← hos] at gv hset hol hN i1 ⊢
   rw [← hok] at hset i2
   rw [xl zam rfl,zbU,zfS]
   simp -implicitDefEqProofs only [go_sem,sT7] at i1 i2 hN
   by_cases c : k = b
   ·have c' : (k : Int) = (b : Int):=by omega
    simp -implicitDefEqProofs only [go_sem,sT7,ilt hk,d1,hbr,eq_true c',eq_true c,za hk (show succ.length ≤ 4294967296 by omega),i1]
   ·have c' : ¬ (k : Int) = (b : Int):=by omega
    cases e1 : ovB succ root k b
    ·rw [e1] at gb
     simp -implicitDefEqProofs only [go_sem,sT7,ilt hk,ib,d1,hbr,c',c,go,gr,gb,yg,yh,yb,yc,za hk (show succ.length ≤ 4294967296 by omega),i1]
    ·rw [e1] at gb
     cases e2 : ze2 succ root b k 0 succ.length
     ·simp -implicitDefEqProofs only [e2] at hN
      simp -implicitDefEqProofs only [go_sem,sT7,ilt hk,ib,d1,hbr,c',c,go,gr,gb,hN,yg,yh,yb,yc,za hk (show succ.length ≤ 4294967296 by omega),i1]
     ·simp -implicitDefEqProofs only [e2] at hN
      simp -implicitDefEqProofs only [go_sem,sT7,ilt hk,ib,d1,hbr,c',c,go,gr,gb,gl,sl,gv,hset,hN,yg,yh,yp,yb,yc,za hk (show succ.length ≤ 4294967296 by omega),i2]
theorem zru (b : Nat) (hb : b < succ.length) (hbr : (b : Int) = root) (out : List Int) a0 a2 a3 a5 a7 a8 a9 a13 a14 a15 a16 a17 a18 a19 a20 a21 a22 a23 :
  exec T zam ⟨[a0,vI root,a2,a3,vI succ.length,a5,.one (.own 1 0 0 succ.length),a7,a8,a9,.one (.own (succ.length + 1 + 1) 0 0 succ.length),vI b,vI 0,a13,a14,a15,a16,a17,a18,a19,a20,a21,a22,a23],sO7 succ pred root out,0,0⟩ =
   some (.exit 6,⟨[vU,vI root,vU,vU,vI succ.length,vU,.one (.own 1 0 0 succ.length),vU,vU,vU,.one (.own (succ.length + 1 + 1) 0 0 succ.length),vI b,vU,vU,vU,vU,vU,vU,vU,vU,vU,vU,vU,vU],sO7 succ pred root out,0,0⟩):=by
 have d1:=ovl succ root succ.length 999997 (by omega)
 have hz : (0 : Int) < (succ.length : Int):=by omega
 rw [xl zam rfl,zbU]
 simp -implicitDefEqProofs only [go_sem,sT7,d1,eq_true hz,eq_true hbr]
theorem zBa : ∀ (d k : Nat) (a0 a2 a3 a5 a7 a8 a9 a12 a13 a14 a15 a16 a17 a18 a19 a20 a21 a22 a23 : V),succ.length - k = d → k ≤ succ.length →
  exec T zcs ⟨[a0,vI root,a2,a3,vI succ.length,a5,.one (.own 1 0 0 succ.length),a7,a8,a9,.one (.own (succ.length + 1 + 1) 0 0 succ.length),vI k,a12,a13,a14,a15,a16,a17,a18,a19,a20,a21,a22,a23],sO7 succ pred root (zgm succ root k),0,0⟩ =
   some (.exit 4,⟨[vU,vU,vU,vU,vU,vU,vU,vU,vU,vU,.one (.own (succ.length + 1 + 1) 0 0 succ.length),vU,vU,vU,vU,vU,vU,vU,vU,vU,vU,vU,vU,vU],sO7 succ pred root (zeS succ root),0,0⟩):=by
 intro d
 induction d with
 | zero =>
   intro k a0 a2 a3 a5 a7 a8 a9 a12 a13 a14 a15 a16 a17 a18 a19 a20 a21 a22 a23 h1 h2
   have hk : k = succ.length:=by omega
   subst hk
   have d1:=ovl succ root succ.length 999997 (by omega)
   rw [xl zcs rfl,zdZ]
   simp -implicitDefEqProofs only [go_sem,sT7,yf,d1,zzI]
 | succ d ih =>
   intro k a0 a2 a3 a5 a7 a8 a9 a12 a13 a14 a15 a16 a17 a18 a19 a20 a21 a22 a23 h1 h2
   have hk : k < succ.length:=by omega
   have d1:=ovl succ root succ.length 999997 (by omega)
   have gl:=fun o => zCH succ root o
   have sl:=fun o p => zFM succ root o p
   have htl:=zf1 succ root k
   have gv : ((zgm succ root k).map zj)[k]? = some [.f (.lit (.int .i64 0))]:=by
    rw [ys,zlT succ root k k hk,if_neg (by omega)]
    rfl
   have hset : ((zgm succ root k).map zj).set k [C.f (.lit (.int .i64 (-2)))] = ((zgm succ root k).set k (-2)).map zj:=by rw [yI]; rfl
   have:=ih (k + 1) vU vU vU vU vU vU vU vU vU vU vU vU vU vU vU vU vU vU vU (by omega) (by omega)
   have hst:=zxP succ root k hk
   have hl2 : ((zgm succ root k).set k (-2)).length = succ.length:=by rw [yR]; exact htl
   rw [xl zcs rfl,zdZ]
   by_cases c : (k : Int) = root
   ·have e : zr3 succ root k = -1:=by unfold zr3; rw [if_pos c]
    rw [e] at hst
    have hg2 : (((zgm succ root k).set k (-2)).map zj)[k]? = some [.f (.lit (.int .i64 (-2)))]:=by
     rw [ys,yE (by omega)]
     rfl
    have hset2 : (((zgm succ root k).set k (-2)).map zj).set k [C.f (.lit (.int .i64 (-1)))] = (zgm succ root (k + 1)).map zj:=by
     have h3 : ((zgm succ root k).set k (-2)).set k (-1) = zgm succ root (k + 1):=by rw [yU,hst]
     rw [← h3,yI (l:=(zgm succ root k).set k (-2))]
     rfl
    have hN:=fun a0 a2 a3 a5 a7 a8 a9 a13 a14 a15 a16 a17 a18 a19 a20 a21 a22 a23 => zru succ pred root hn hl hr h0 k hk c (zgm succ root (k + 1)) a0 a2 a3 a5 a7 a8 a9 a13 a14 a15 a16 a17 a18 a19 a20 a21 a22 a23
    obtain ⟨os,hos⟩ : ∃ os,os = (zgm succ root k).set k (-2):=⟨_,rfl⟩
    rw [← hos] at hset hg2 hset2 hl2
    simp -implicitDefEqProofs only [go_sem,sT7] at hN this
    simp -implicitDefEqProofs only [go_sem,sT7,ilt hk,d1,eq_true c,gl,sl,gv,hset,hg2,hset2,hN,yg,yh,yp,yb,yc,za hk (show succ.length ≤ 4294967296 by omega),this]
   ·have e : zr3 succ root k = zfS succ root k 0 succ.length (-2):=by unfold zr3; rw [if_neg c]
    rw [e] at hst
    have hN:=fun a0 a2 a3 a5 a7 a8 a9 a13 a14 a15 a16 a17 a18 a19 a20 a21 a22 a23 => zBN succ pred root hn hl hr h0 k hk c succ.length 0 (-2) (zgm succ root k) a0 a2 a3 a5 a7 a8 a9 a13 a14 a15 a16 a17 a18 a19 a20 a21 a22 a23 (by omega) (by omega) htl
    simp only [yj,hst] at hN
    obtain ⟨os,hos⟩ : ∃ os,os = (zgm succ root k).set k (-2):=⟨_,rfl⟩
    rw [← hos] at hset hl2
    simp only [← hos] at hN
    simp -implicitDefEqProofs only [go_sem,sT7] at hN this
    simp -implicitDefEqProofs only [go_sem,sT7,ilt hk,d1,c,gl,sl,gv,hset,hN,yg,yh,yp,yb,yc,za hk (show succ.length ≤ 4294967296 by omega),this]
end
theorem ztP (succ : List (List Int)) (hs : zjv succ) (hm : zbk succ = true) (root : Int) (h0 : 0 ≤ root ∧ root < (succ.length : Int)) : call T 78 [.agg [.f (.sl (succ.map rl)),.f (.sl ((zM succ).map rl))],vI root] [] = some (vIs (zeS succ root),[]):=by
 rw [ze (fn:=zeI) rfl]
 obtain ⟨n1,n64,hr⟩:=zew hm
 have hM:=zyR succ hs hm
 have hR:=zm6 succ (zM succ) (by omega) hs.2 hr (-1) root h0
 have h1:=fun a0 a3 a8 a9 a10 a11 a12 a13 a14 a15 a16 a17 a18 a19 a20 a21 a22 a23 => zAO succ (zM succ) root n64 hs.2 hr h0 succ.length 0 a0 a3 a8 a9 a10 a11 a12 a13 a14 a15 a16 a17 a18 a19 a20 a21 a22 a23 (by omega) (by omega)
 have h4:=fun a0 a2 a3 a5 a7 a8 a9 a12 a13 a14 a15 a16 a17 a18 a19 a20 a21 a22 a23 => zBa succ (zM succ) root n64 hs.2 hr h0 succ.length 0 a0 a2 a3 a5 a7 a8 a9 a12 a13 a14 a15 a16 a17 a18 a19 a20 a21 a22 a23 (by omega) (by omega)
 have e0 : zeW succ root 0 = []:=rfl
 have hlim : (succ.length : Int) ≤ (LIM : Int):=by unfold LIM; omega
 have hz : yC succ.length [C.f (.sl [])] = zm0 succ.length 0:=(zwt _).symm
 have hz2 : yC succ.length [C.f (.lit (.int .i64 0))] = (zgm succ root 0).map zj:=by rw [zw7,yK]; rfl
 have hlen : (zeW succ root succ.length).length = succ.length:=zaG succ root succ.length
 have gl:=fun o => zCH succ root o
 have ht : ((zeS succ root).map zj).take succ.length = (zeS succ root).map zj:=yF (by simp [zeS])
 have r0 : ¬ root < 0:=by omega
 have r1 : ¬ root ≥ (succ.length : Int):=by omega
 simp only [yj] at h1 h4
 simp -implicitDefEqProofs only [go_sem] at hM hR
 simp -implicitDefEqProofs only [go_sem,sT7,e0,yv,List.nil_append] at h1 h4
 simp -implicitDefEqProofs only [go_sem,zeI,hM,hR,r0,r1,hlim,hz,hz2,hlen,h1,h4,gl,ht,zdh,ya,yq,yN,yg,yh,yb,yc]
end AC
namespace AC
open Go Go.A Go.A.Lex
def pathFrom (t : List Int) : Nat → List Int → Int → List Int
 | 0,_,_ => []
 | r + 1,acc,a => if a < 0 ∨ (t.length : Int) ≤ a then [] else if tr t a = -1 then acc ++ [a] else pathFrom t r (acc ++ [a]) (tr t a)
def zid (t : List Int) (a : Int) : List Int:=pathFrom t t.length [] a
theorem zqc (t : List Int) : ∀ (r : Nat) (acc : List Int) (a n : Int),0 ≤ n → (pathFrom t r acc a = [] ↔ (zX t r n a).getD (-1) < 0)
 | 0,acc,a,n,_ => by simp [pathFrom,zX]
 | r + 1,acc,a,n,hn => by
   rw [pathFrom,zX]
   by_cases c1 : a < 0
   ·rw [if_pos (.inl c1),if_pos c1]
    simp
   ·by_cases c2 : (t.length : Int) ≤ a
    ·rw [if_pos (.inr c2),if_neg c1,if_pos c2]
     simp
    ·rw [if_neg (by omega),if_neg c1,if_neg c2]
     by_cases c3 : tr t a = -1
     ·rw [if_pos c3,if_pos c3]
      simp
      exact hn
     ·rw [if_neg c3,if_neg c3]
      exact zqc t r (acc ++ [a]) (tr t a) (n + 1) (by omega)
theorem zxI (t : List Int) (a : Int) : zid t a = [] ↔ zE t a < 0:=zqc t _ [] a 0 (Int.le_refl _)
section
variable (t : List Int) (htl : t.length ≤ 4294967296)
include htl
theorem zAt : ∀ (r : Nat) (acc : List Int) (a : Int),acc.length + r = t.length → ∃ k,∀ (a2 a4 a5 : V),
  exec T zY ⟨[vIs t,vI a,a2,.one (.ap 0 0 (acc.map ri)),a4,a5],[.tok 1 [acc.length]],0,0⟩ =
   some (if pathFrom t r acc a = [] then (.exit 0,⟨[vU,vU,vU,vU,vU,vU],[.tok 1 [k]],0,0⟩) else (.ret,⟨[vU,vU,.one (.ap 0 0 ((pathFrom t r acc a).map ri)),vU,vU,vU],[.tok 1 [(pathFrom t r acc a).length]],0,0⟩)):=by
 intro r
 induction r with
 | zero =>
   intro acc a h
   have e : ¬ (acc.length : Int) < (t.length : Int):=by omega
   refine ⟨acc.length,fun a2 a4 a5 => ?_⟩
   rw [xl zY rfl,zap,pathFrom]
   simp -implicitDefEqProofs only [go_sem,ya,e]
 | succ r ih =>
   intro acc a h
   have e : (acc.length : Int) < (t.length : Int):=by omega
   by_cases c1 : a < 0
   ·have c1' : ¬ a ≥ 0:=by omega
    refine ⟨acc.length,fun a2 a4 a5 => ?_⟩
    rw [xl zY rfl,zap,pathFrom,if_pos (.inl c1 : a < 0 ∨ (t.length : Int) ≤ a)]
    simp -implicitDefEqProofs only [go_sem,ya,eq_true e,c1']
   have c1' : a ≥ 0:=by omega
   by_cases c2 : (t.length : Int) ≤ a
   ·have c2' : ¬ a < (t.length : Int):=by omega
    refine ⟨acc.length,fun a2 a4 a5 => ?_⟩
    rw [xl zY rfl,zap,pathFrom,if_pos (.inr c2 : a < 0 ∨ (t.length : Int) ≤ a)]
    simp -implicitDefEqProofs only [go_sem,ya,eq_true e,eq_true c1',c2']
   have c2' : a < (t.length : Int):=by omega
   have gT:=ztS (t:=t) (a:=a) (by omega) c2
   have hlim : acc.length + 1 ≤ LIM:=by unfold LIM; omega
   have e1 : yW ri acc ++ [[Fz.lit (Value.int .i64 a)]] = yW ri (acc ++ [a]):=by simp [ri]
   by_cases c3 : tr t a = -1
   ·refine ⟨0,fun a2 a4 a5 => ?_⟩
    have hne : ¬ acc ++ [a] = []:=by simp
    rw [xl zY rfl,zap,pathFrom,if_neg (show ¬ (a < 0 ∨ (t.length : Int) ≤ a) by omega),if_pos c3,if_neg hne]
    simp -implicitDefEqProofs only [go_sem,ya,eq_true e,eq_true c1',eq_true c2',gT,hlim,e1,c3,yA,yq,yH,yT]
   ·obtain ⟨k,hk⟩:=ih (acc ++ [a]) (tr t a) (by simp; omega)
    refine ⟨k,fun a2 a4 a5 => ?_⟩
    rw [xl zY rfl,zap,pathFrom,if_neg (show ¬ (a < 0 ∨ (t.length : Int) ≤ a) by omega),if_neg c3]
    simp -implicitDefEqProofs only [go_sem,yA,yq,yH,yT] at hk
    simp -implicitDefEqProofs only [go_sem,ya,eq_true e,eq_true c1',eq_true c2',gT,hlim,e1,c3,hk]
theorem zjG (a : Int) : call T 132 [vIs t,vI a] [] = some (vIs (zid t a),[]):=by
 rw [ze (fn:=zcH) rfl]
 obtain ⟨k,h⟩:=zAt t htl t.length [] a (by simp)
 have e : pathFrom t t.length [] a = zid t a:=rfl
 rw [e] at h
 simp -implicitDefEqProofs only [go_sem,yJ,yH] at h
 by_cases c : zid t a = []
 ·simp -implicitDefEqProofs only [c] at h
  simp -implicitDefEqProofs only [go_sem,zcH,h,c,yJ]
 ·simp -implicitDefEqProofs only [c] at h
  simp -implicitDefEqProofs only [go_sem,zcH,h]
theorem zz1 : ∀ (d k n : Nat) (a1 a4 a5 a6 : V),t.length - k = d → k ≤ t.length → n ≤ k →
  exec T zbw ⟨[vIs t,a1,vI n,vI k,a4,a5,a6],[],0,0⟩ =
   some (match zaD t k n (t.drop k) with | some m => (.exit 0,⟨[vU,vU,vI m,vU,vU,vU,vU],[],0,0⟩) | none => (.ret,⟨[vU,vB false,vU,vU,vU,vU,vU],[],0,0⟩)):=by
 intro d
 induction d with
 | zero =>
   intro k n a1 a4 a5 a6 h1 h2 hn
   have hk : k = t.length:=by omega
   subst hk
   rw [xl zbw rfl,zdt]
   simp -implicitDefEqProofs only [go_sem,yf,ya,yi,zaD]
 | succ d ih =>
   intro k n a1 a4 a5 a6 h1 h2 hn
   have hk : k < t.length:=by omega
   have hd : t.drop k = t[k] :: t.drop (k + 1):=ye hk
   obtain ⟨x,hx⟩ : ∃ x,x = t[k]:=⟨_,rfl⟩
   have gk:=zp (r:=ri) hk
   rw [← hx] at gk
   have hP:=zjG t htl (k : Int)
   have hnil:=zxI t (k : Int)
   have w1 : Go.IntKind.i64.wrap ((n : Int) + 1) = ((n + 1 : Nat) : Int):=by rw [wrap_i64] <;> omega
   have i1:=ih (k + 1) n vU vU vU vU (by omega) (by omega) (by omega)
   have i2:=ih (k + 1) (n + 1) vU vU vU vU (by omega) (by omega) (by omega)
   rw [xl zbw rfl,zdt,hd,zaD,← hx]
   simp -implicitDefEqProofs only [go_sem] at i1 i2 hP
   by_cases c1 : x = -2
   ·simp -implicitDefEqProofs only [go_sem,ilt hk,gk,ri,ya,c1,yb,yc,za hk htl,i1]
   ·by_cases c2 : zE t (k : Int) < 0
    ·have hp0 : ((zid t (k : Int)).length : Int) = 0:=by rw [hnil.2 c2]; rfl
     by_cases c3 : x = -1
     ·simp -implicitDefEqProofs only [go_sem,ilt hk,gk,ri,ya,eq_true c3,c1,eq_true c2,hP,eq_true hp0,yb,yc,w1]
     ·simp -implicitDefEqProofs only [go_sem,ilt hk,gk,ri,ya,c3,c1,eq_true c2,hP,eq_true hp0,yb,yc]
    ·have hp0 : ¬ ((zid t (k : Int)).length : Int) = 0:=fun h => by
      have h' : (zid t (k : Int)).length = 0:=by omega
      exact c2 (hnil.1 (yw h'))
     by_cases c3 : x = -1
     ·simp -implicitDefEqProofs only [go_sem,ilt hk,gk,ri,ya,eq_true c3,c1,c2,hP,hp0,yb,yc,w1,za hk htl,i2]
     ·simp -implicitDefEqProofs only [go_sem,ilt hk,gk,ri,ya,c3,c1,c2,hP,hp0,yb,yc,za hk htl,i1]
theorem zq4 : call T 131 [vIs t] [] = some (vB (zgp t),[]):=by
 rw [ze (fn:=zci) rfl]
 have h:=fun a1 a4 a5 a6 => zz1 t htl t.length 0 0 a1 a4 a5 a6 (by omega) (by omega) (by omega)
 simp only [yj,yn] at h
 unfold zgp
 cases c : zaD t 0 0 t with
 | none =>
   simp -implicitDefEqProofs only [go_sem,c] at h
   simp -implicitDefEqProofs only [go_sem,zci,h]
   rfl
 | some m =>
   simp -implicitDefEqProofs only [go_sem,c] at h
   simp -implicitDefEqProofs only [go_sem,zci,h]
   have e : (some m == some 1) = decide ((m : Int) = 1):=by
    by_cases hm : m = 1
    ·subst hm; rfl
    ·rw [decide_eq_false (by omega)]
     simp [hm]
   rw [e]
def zmf (t : List Int) (a b : Int) : Int:=if zgp t = true then ((zid t a).find? fun x => decide (x ∈ zid t b)).getD (-2) else -2
omit htl in
theorem zrq (t : List Int) : ∀ (r : Nat) (acc : List Int) (a : Int),(pathFrom t r acc a).length ≤ acc.length + r
 | 0,acc,a => by simp [pathFrom]
 | r + 1,acc,a => by
   have:=zrq t r (acc ++ [a]) (tr t a)
   rw [pathFrom]
   split
   ·simp
   ·split
    ·simp
    ·rw [yA] at this
     simp at this
     omega
omit htl in
theorem zAS (p q : List Int) (hp : p.length ≤ 4294967296) (hq : q.length ≤ 4294967296) : ∀ (d k : Nat) (a0 a1 a2 a3 a7 a8 a9 : V),p.length - k = d → k ≤ p.length →
  exec T zb7 ⟨[a0,a1,a2,a3,vIs p,vIs q,vI k,a7,a8,a9],[],0,0⟩ =
   some (match (p.drop k).find? (fun x => decide (x ∈ q)) with | some x => (.ret,⟨[vU,vU,vU,vI x,vU,vU,vU,vU,vU,vU],[],0,0⟩) | none => (.exit 0,⟨[vU,vU,vU,vU,vU,vU,vU,vU,vU,vU],[],0,0⟩)):=by
 intro d
 induction d with
 | zero =>
   intro k a0 a1 a2 a3 a7 a8 a9 h1 h2
   have hk : k = p.length:=by omega
   subst hk
   rw [xl zb7 rfl,zd6]
   simp -implicitDefEqProofs only [go_sem,yf,ya,yi,yD]
 | succ d ih =>
   intro k a0 a1 a2 a3 a7 a8 a9 h1 h2
   have hk : k < p.length:=by omega
   have hd : p.drop k = p[k] :: p.drop (k + 1):=ye hk
   have hH:=zkT q p[k] hq
   have:=ih (k + 1) vU vU vU vU vU vU vU (by omega) (by omega)
   rw [xl zb7 rfl,zd6,hd,yk]
   simp -implicitDefEqProofs only [go_sem] at this
   by_cases c : p[k] ∈ q
   ·simp -implicitDefEqProofs only [go_sem,decide_eq_true c] at hH
    simp -implicitDefEqProofs only [go_sem,ilt hk,zp hk,ri,ya,hH,c,yb,yc]
   ·simp -implicitDefEqProofs only [go_sem,decide_eq_false c] at hH
    simp -implicitDefEqProofs only [go_sem,ilt hk,zp hk,ri,ya,hH,c,yb,yc,za hk hp,this]
theorem zto (a b : Int) : call T 79 [vIs t,vI a,vI b] [] = some (vI (zmf t a b),[]):=by
 rw [ze (fn:=za8) rfl]
 have hR:=zq4 t htl
 have hA:=zjG t htl a
 have hB:=zjG t htl b
 have la : (zid t a).length ≤ 4294967296:=by have:=zrq t t.length [] a; unfold zid; simp at this; omega
 have lb : (zid t b).length ≤ 4294967296:=by have:=zrq t t.length [] b; unfold zid; simp at this; omega
 have h:=fun a0 a1 a2 a3 a7 a8 a9 => zAS (zid t a) (zid t b) la lb (zid t a).length 0 a0 a1 a2 a3 a7 a8 a9 (by omega) (by omega)
 simp only [yj,yn] at h
 cases c : zgp t
 ·simp -implicitDefEqProofs only [go_sem,c] at hR
  simp -implicitDefEqProofs only [go_sem,za8,zmf,c,hR,yo]
 ·simp -implicitDefEqProofs only [go_sem,c] at hR
  simp -implicitDefEqProofs only [go_sem] at hA hB
  cases e : (zid t a).find? (fun x => decide (x ∈ zid t b)) with
  | none =>
    simp -implicitDefEqProofs only [go_sem,e] at h
    simp -implicitDefEqProofs only [go_sem,za8,zmf,c,hR,hA,hB,h,e,Option.getD_none]
  | some x =>
    simp -implicitDefEqProofs only [go_sem,e] at h
    simp -implicitDefEqProofs only [go_sem,za8,zmf,c,hR,hA,hB,h,e,Option.getD_some]
end
end AC
namespace AC
open Go Go.A Go.A.Lex
def zfs (defs : List Use) : Nat → List Use → Bool
 | _,[] => true
 | k,u :: r => (value u.v && decide (zh u.v 0 defs = (k : Int))) && zfs defs (k + 1) r
def zhN (defs : List Use) (v : Int) : Use:=defs.getD (zh v 0 defs).toNat ⟨0,(0,0),0,0⟩
def zjt (defs : List Use) (u : Use) : Bool:=!decide (zh u.v 0 defs < 0)
def sameShape (defs : List Use) (u : Use) : Bool:=decide ((zhN defs u.v).shape = u.shape)
def zgf (defs : List Use) (tree : List Int) (u : Use) : Bool :=
 (decide ((zhN defs u.v).block < 0) || (decide ((zhN defs u.v).block = u.block) && decide ((zhN defs u.v).at' < u.at'))) || !(decide ((zhN defs u.v).block = u.block) || !decide (zmf tree (zhN defs u.v).block u.block = (zhN defs u.v).block))
theorem ziK (v : Int) : ∀ (l : List Use) (k : Nat),0 ≤ zh v k l → (k : Int) ≤ zh v k l ∧ zh v k l < ((k + l.length : Nat) : Int)
 | [],k,h => by simp [zh] at h
 | u :: r,k,h => by
   rw [zh] at h ⊢
   split
   ·simp only [yq]; omega
   ·rename_i c
    rw [if_neg c] at h
    have:=ziK v r (k + 1) h
    simp only [yq]
    omega
section
variable (f : PFunc) (hf : okF f) (defs uses : List Use) (hdl : defs.length ≤ 4294967296) (hul : uses.length ≤ 4294967296)
abbrev zib (r : zd) : zd:=.cells 0 3 [zcW f] :: r
include hf hdl
theorem zwC : ∀ (d k : Nat) (a0 a1 a3 a6 a7 a8 a9 a10 a11 a12 a13 a14 a15 a16 a17 a18 a19 a20 a21 a22 a23 a24 a25 a26 : V),defs.length - k = d → k ≤ defs.length →
  exec T zby ⟨[a0,a1,.one (.ptr 0 0 0 0),a3,vUs defs,vI k,a6,a7,a8,a9,a10,a11,a12,a13,a14,a15,a16,a17,a18,a19,a20,a21,a22,a23,a24,a25,a26],zib f [],0,0⟩ =
   some (if zfs defs k (defs.drop k) = true then (.exit 0,⟨[vU,vU,.one (.ptr 0 0 0 0),vU,vUs defs,vU,vU,vU,vU,vU,vU,vU,vU,vU,vU,vU,vU,vU,vU,vU,vU,vU,vU,vU,vU,vU,vU],zib f [],0,0⟩) else (.ret,⟨[vU,vU,vU,vI 7,vU,vU,vU,vU,vU,vU,vU,vU,vU,vU,vU,vU,vU,vU,vU,vU,vU,vU,vU,vU,vU,vU,vU],zib f [],0,0⟩)):=by
 intro d
 induction d with
 | zero =>
   intro k a0 a1 a3 a6 a7 a8 a9 a10 a11 a12 a13 a14 a15 a16 a17 a18 a19 a20 a21 a22 a23 a24 a25 a26 h1 h2
   have hk : k = defs.length:=by omega
   subst hk
   rw [xl zby rfl,zdG]
   simp -implicitDefEqProofs only [go_sem,zib,yf,ya,yi,zfs]
 | succ d ih =>
   intro k a0 a1 a3 a6 a7 a8 a9 a10 a11 a12 a13 a14 a15 a16 a17 a18 a19 a20 a21 a22 a23 a24 a25 a26 h1 h2
   have hk : k < defs.length:=by omega
   have hd : defs.drop k = defs[k] :: defs.drop (k + 1):=ye hk
   have hV:=ziq defs[k].v
   have hF:=zht defs defs[k].v hdl
   have:=ih (k + 1) vU vU vU vU vU vU vU vU vU vU vU vU vU vU vU vU vU vU vU vU vU vU vU vU (by omega) (by omega)
   rw [xl zby rfl,zdG,hd,zfs]
   simp -implicitDefEqProofs only [go_sem,zib] at this
   simp -implicitDefEqProofs only [go_sem] at hF
   cases c : value defs[k].v
   ·simp -implicitDefEqProofs only [go_sem,c] at hV
    simp -implicitDefEqProofs only [go_sem,zib,ilt hk,zp hk,rU,ya,hV,c,yb,yc]
   ·simp -implicitDefEqProofs only [go_sem,c] at hV
    by_cases e : zh defs[k].v 0 defs = (k : Int)
    ·simp -implicitDefEqProofs only [go_sem,zib,ilt hk,zp hk,rU,ya,hV,hF,c,eq_true e,yb,yc,za hk hdl,this]
    ·simp -implicitDefEqProofs only [go_sem,zib,ilt hk,zp hk,rU,ya,hV,hF,c,e,yb,yc]
include hul
theorem zv4 : ∀ (d k : Nat) (a0 a1 a3 a5 a8 a9 a10 a11 a12 a13 a14 a15 a16 a17 a18 a19 a20 a21 a22 a23 a24 a25 a26 : V),uses.length - k = d → k ≤ uses.length →
  exec T zbM ⟨[a0,a1,.one (.ptr 0 0 0 0),a3,vUs defs,a5,vUs uses,vI k,a8,a9,a10,a11,a12,a13,a14,a15,a16,a17,a18,a19,a20,a21,a22,a23,a24,a25,a26],zib f [],0,0⟩ =
   some (if (uses.drop k).all (zjt defs) = true then (.exit 2,⟨[vU,vU,.one (.ptr 0 0 0 0),vU,vUs defs,vU,vUs uses,vU,vU,vU,vU,vU,vU,vU,vU,vU,vU,vU,vU,vU,vU,vU,vU,vU,vU,vU,vU],zib f [],0,0⟩) else (.ret,⟨[vU,vU,vU,vI 7,vU,vU,vU,vU,vU,vU,vU,vU,vU,vU,vU,vU,vU,vU,vU,vU,vU,vU,vU,vU,vU,vU,vU],zib f [],0,0⟩)):=by
 intro d
 induction d with
 | zero =>
   intro k a0 a1 a3 a5 a8 a9 a10 a11 a12 a13 a14 a15 a16 a17 a18 a19 a20 a21 a22 a23 a24 a25 a26 h1 h2
   have hk : k = uses.length:=by omega
   subst hk
   rw [xl zbM rfl,zdx]
   simp -implicitDefEqProofs only [go_sem,zib,yf,ya,yi,yt]
 | succ d ih =>
   intro k a0 a1 a3 a5 a8 a9 a10 a11 a12 a13 a14 a15 a16 a17 a18 a19 a20 a21 a22 a23 a24 a25 a26 h1 h2
   have hk : k < uses.length:=by omega
   have hd : uses.drop k = uses[k] :: uses.drop (k + 1):=ye hk
   have hF:=zht defs uses[k].v hdl
   have:=ih (k + 1) vU vU vU vU vU vU vU vU vU vU vU vU vU vU vU vU vU vU vU vU vU vU vU (by omega) (by omega)
   rw [xl zbM rfl,zdx,hd,ym,zjt]
   simp -implicitDefEqProofs only [go_sem,zib] at this
   simp -implicitDefEqProofs only [go_sem] at hF
   by_cases e : zh uses[k].v 0 defs < 0
   ·simp -implicitDefEqProofs only [go_sem,zib,ilt hk,zp hk,rU,ya,hF,eq_true e,yb,yc]
   ·simp -implicitDefEqProofs only [go_sem,zib,ilt hk,zp hk,rU,ya,hF,e,yb,yc,za hk hul,this]
variable (hall : ∀ u ∈ uses,zjt defs u = true)
omit hf hdl hul in
theorem zCm (u : Use) (h : zjt defs u = true) : 0 ≤ zh u.v 0 defs ∧ zh u.v 0 defs < (defs.length : Int) ∧ (defs.map rU)[(zh u.v 0 defs).toNat]? = some (rU (zhN defs u.v)):=by
 have h0 : 0 ≤ zh u.v 0 defs:=by
  unfold zjt at h
  simp at h
  exact h
 have h1:=ziK u.v defs 0 h0
 have hlt : (zh u.v 0 defs).toNat < defs.length:=by omega
 refine ⟨h0,by omega,?_⟩
 rw [zp hlt]
 unfold zhN
 rw [yy,yB hlt]
 rfl
include hall
theorem zv5 : ∀ (d k : Nat) (a0 a1 a3 a5 a7 a9 a10 a11 a12 a13 a14 a15 a16 a17 a18 a19 a20 a21 a22 a23 a24 a25 a26 : V),uses.length - k = d → k ≤ uses.length →
  exec T zbx ⟨[a0,a1,.one (.ptr 0 0 0 0),a3,vUs defs,a5,vUs uses,a7,vI k,a9,a10,a11,a12,a13,a14,a15,a16,a17,a18,a19,a20,a21,a22,a23,a24,a25,a26],zib f [],0,0⟩ =
   some (if (uses.drop k).all (sameShape defs) = true then (.exit 4,⟨[vU,vU,.one (.ptr 0 0 0 0),vU,vUs defs,vU,vUs uses,vU,vU,vU,vU,vU,vU,vU,vU,vU,vU,vU,vU,vU,vU,vU,vU,vU,vU,vU,vU],zib f [],0,0⟩) else (.ret,⟨[vU,vU,vU,vI 6,vU,vU,vU,vU,vU,vU,vU,vU,vU,vU,vU,vU,vU,vU,vU,vU,vU,vU,vU,vU,vU,vU,vU],zib f [],0,0⟩)):=by
 intro d
 induction d with
 | zero =>
   intro k a0 a1 a3 a5 a7 a9 a10 a11 a12 a13 a14 a15 a16 a17 a18 a19 a20 a21 a22 a23 a24 a25 a26 h1 h2
   have hk : k = uses.length:=by omega
   subst hk
   rw [xl zbx rfl,zdN]
   simp -implicitDefEqProofs only [go_sem,zib,yf,ya,yi,yt]
 | succ d ih =>
   intro k a0 a1 a3 a5 a7 a9 a10 a11 a12 a13 a14 a15 a16 a17 a18 a19 a20 a21 a22 a23 a24 a25 a26 h1 h2
   have hk : k < uses.length:=by omega
   have hd : uses.drop k = uses[k] :: uses.drop (k + 1):=ye hk
   have hF:=zht defs uses[k].v hdl
   obtain ⟨p1,p2,p3⟩:=zCm defs uses[k] (hall _ (yl hk))
   have:=ih (k + 1) vU vU vU vU vU vU vU vU vU vU vU vU vU vU vU vU vU vU vU vU vU vU vU (by omega) (by omega)
   rw [xl zbx rfl,zdN,hd,ym,sameShape]
   simp -implicitDefEqProofs only [go_sem,zib] at this
   simp -implicitDefEqProofs only [go_sem] at hF
   obtain ⟨e,he⟩ : ∃ e,e = zhN defs uses[k].v:=⟨_,rfl⟩
   rw [← he] at p3 ⊢
   have hsh : (e.shape = uses[k].shape) = (e.shape.1 = uses[k].shape.1 ∧ e.shape.2 = uses[k].shape.2):=by rw [Prod.ext_iff]
   by_cases s1 : e.shape.1 = uses[k].shape.1
   ·by_cases s2 : e.shape.2 = uses[k].shape.2
    ·simp -implicitDefEqProofs only [go_sem,zib,ilt hk,zp hk,rU,ya,hF,p1,p2,p3,hsh,eq_true s1,eq_true s2,yb,yc,za hk hul,this]
    ·simp -implicitDefEqProofs only [go_sem,zib,ilt hk,zp hk,rU,ya,hF,p1,p2,p3,hsh,eq_true s1,s2,and_false,yb,yc]
   ·simp -implicitDefEqProofs only [go_sem,zib,ilt hk,zp hk,rU,ya,hF,p1,p2,p3,hsh,s1,false_and,yb,yc]
theorem zxd (tree : List Int) (htl : tree.length ≤ 4294967296) (x1 y1 : Fz) : ∀ (d k : Nat),uses.length - k = d → k ≤ uses.length → ∃ r,∀ (a0 a1 a2 a3 a5 a7 a8 a9 a12 a13 a14 a15 a16 a17 a18 a19 a20 a21 a22 a23 a24 a25 a26 : V),
  exec T zI ⟨[a0,a1,a2,a3,vUs defs,a5,vUs uses,a7,a8,a9,vIs tree,vI k,a12,a13,a14,a15,a16,a17,a18,a19,a20,a21,a22,a23,a24,a25,a26],zib f [.cells 0 2 [[.f x1,.f y1]]],0,0⟩ =
   some (if (uses.drop k).all (zgf defs tree) = true then (.exit 6,⟨[vU,vU,vU,vU,vU,vU,vU,vU,vU,vU,vU,vU,vU,vU,vU,vU,vU,vU,vU,vU,vU,vU,vU,vU,vU,vU,vU],zib f [.cells 0 2 [[.f x1,.f y1]]],0,0⟩) else (.ret,⟨[vU,vU,vU,vI 7,vU,vU,vU,vU,vU,vU,vU,vU,vU,vU,vU,vU,vU,vU,vU,vU,vU,vU,vU,vU,vU,vU,vU],zib f (.cells 0 2 [[.f x1,.f y1]] :: r),0,0⟩)):=by
 intro d
 induction d with
 | zero =>
   intro k h1 h2
   have hk : k = uses.length:=by omega
   subst hk
   refine ⟨[],fun a0 a1 a2 a3 a5 a7 a8 a9 a12 a13 a14 a15 a16 a17 a18 a19 a20 a21 a22 a23 a24 a25 a26 => ?_⟩
   rw [xl zI rfl,zR]
   simp -implicitDefEqProofs only [go_sem,zib,yf,ya,yi,yt]
 | succ d ih =>
   intro k h1 h2
   have hk : k < uses.length:=by omega
   have hd : uses.drop k = uses[k] :: uses.drop (k + 1):=ye hk
   have hF:=zht defs uses[k].v hdl
   obtain ⟨p1,p2,p3⟩:=zCm defs uses[k] (hall _ (yl hk))
   obtain ⟨r,hr⟩:=ih (k + 1) (by omega) (by omega)
   simp -implicitDefEqProofs only [go_sem,zib] at hr
   simp -implicitDefEqProofs only [go_sem] at hF
   rw [hd,ym,zgf]
   obtain ⟨e,he⟩ : ∃ e,e = zhN defs uses[k].v:=⟨_,rfl⟩
   obtain ⟨u,hu⟩ : ∃ u,u = uses[k]:=⟨_,rfl⟩
   have gk:=zp (r:=rU) hk
   rw [← he] at p3 ⊢
   rw [← hu] at gk hF p1 p2 p3 ⊢
   have hM:=zto tree htl e.block u.block
   simp -implicitDefEqProofs only [go_sem] at hM
   by_cases c1 : e.block < 0
   ·refine ⟨r,fun a0 a1 a2 a3 a5 a7 a8 a9 a12 a13 a14 a15 a16 a17 a18 a19 a20 a21 a22 a23 a24 a25 a26 => ?_⟩
    rw [xl zI rfl,zR]
    simp -implicitDefEqProofs only [go_sem,zib,ilt hk,gk,rU,ya,hF,p1,p2,p3,eq_true c1,yb,yc,za hk hul,hr]
   ·by_cases c2 : e.block = u.block
    ·by_cases c3 : e.at' < u.at'
     ·refine ⟨r,fun a0 a1 a2 a3 a5 a7 a8 a9 a12 a13 a14 a15 a16 a17 a18 a19 a20 a21 a22 a23 a24 a25 a26 => ?_⟩
      rw [xl zI rfl,zR]
      simp -implicitDefEqProofs only [go_sem,zib,ilt hk,gk,rU,ya,hF,p1,p2,p3,c1,eq_true c2,eq_true c3,yb,yc,za hk hul,hr]
     ·refine ⟨[.cells 0 5 [(rU u).map C.f],.cells 0 5 [(rU e).map C.f]],fun a0 a1 a2 a3 a5 a7 a8 a9 a12 a13 a14 a15 a16 a17 a18 a19 a20 a21 a22 a23 a24 a25 a26 => ?_⟩
      rw [xl zI rfl,zR]
      simp -implicitDefEqProofs only [go_sem,zib,ilt hk,gk,rU,ya,yz,yJ,hF,p1,p2,p3,c1,eq_true c2,c3,yb,yc]
    ·by_cases c4 : zmf tree e.block u.block = e.block
     ·refine ⟨r,fun a0 a1 a2 a3 a5 a7 a8 a9 a12 a13 a14 a15 a16 a17 a18 a19 a20 a21 a22 a23 a24 a25 a26 => ?_⟩
      rw [xl zI rfl,zR]
      simp -implicitDefEqProofs only [go_sem,zib,ilt hk,gk,rU,ya,hF,hM,p1,p2,p3,c1,c2,eq_true c4,yb,yc,za hk hul,hr]
     ·refine ⟨[.cells 0 5 [(rU u).map C.f],.cells 0 5 [(rU e).map C.f]],fun a0 a1 a2 a3 a5 a7 a8 a9 a12 a13 a14 a15 a16 a17 a18 a19 a20 a21 a22 a23 a24 a25 a26 => ?_⟩
      rw [xl zI rfl,zR]
      simp -implicitDefEqProofs only [go_sem,zib,ilt hk,gk,rU,ya,yz,yJ,hF,hM,p1,p2,p3,c1,c2,c4,yb,yc]
end
end AC
namespace AC
open Go Go.A Go.A.Lex
theorem zEQ (n : Nat) : (1 < n + 5) = True:=by (first | (simp; omega) | simp)
theorem zEx (n : Nat) : (3 < n + 5) = True:=by (first | (simp; omega) | simp)
theorem zD5 (n : Nat) : (4 < n + 5) = True:=by (first | (simp; omega) | simp)
theorem zEv (n : Nat) : (1 < n + 6) = True:=by (first | (simp; omega) | simp)
theorem zEy (n : Nat) : (3 < n + 6) = True:=by (first | (simp; omega) | simp)
theorem zDZ (n : Nat) : (4 < n + 6) = True:=by (first | (simp; omega) | simp)
theorem zEi (n : Nat) : (1 < n + 7) = True:=by (first | (simp; omega) | simp)
theorem zD8 (n : Nat) : (3 < n + 7) = True:=by (first | (simp; omega) | simp)
theorem zEH (n : Nat) : (4 < n + 7) = True:=by (first | (simp; omega) | simp)
theorem zEn (n : Nat) : (1 < n + 8) = True:=by (first | (simp; omega) | simp)
theorem zEb (n : Nat) : (3 < n + 8) = True:=by (first | (simp; omega) | simp)
theorem zEG (n : Nat) : (4 < n + 8) = True:=by (first | (simp; omega) | simp)
attribute [go_sem] zEQ zEx zD5 zEv zEy zDZ zEi zD8 zEH zEn zEb zEG
def getM {α : Type} (k : Int) : List (Int × α) → Option α
 | [] => none
 | e :: es => if e.1 = k then some e.2 else getM k es
def zk1 {α : Type} (k : Int) (v : α) : List (Int × α) → List (Int × α)
 | [] => [(k,v)]
 | e :: es => if e.1 = k then (k,v) :: es else e :: zk1 k v es
def zoe {α : Type} (enc : α → V) (D : List (Int × α)) : List (Int × V):=D.map fun e => (e.1,enc e.2)
theorem zq7 {α : Type} (enc : α → V) (k : Int) : ∀ D : List (Int × α),zif k (zoe enc D) = (getM k D).map enc
 | [] => rfl
 | e :: es => by
   have ih:=zq7 enc k es
   unfold zoe at ih ⊢
   simp only [yz,zif,getM]
   by_cases h : e.1 = k
   ·rw [if_pos h,if_pos h]; rfl
   ·rw [if_neg h,if_neg h,ih]
theorem zrK {α : Type} (enc : α → V) (k : Int) (v : α) : ∀ D : List (Int × α),zl1 k (enc v) (zoe enc D) = zoe enc (zk1 k v D)
 | [] => rfl
 | e :: es => by
   have ih:=zrK enc k v es
   unfold zoe at ih ⊢
   simp only [yz,zl1,zk1]
   by_cases h : e.1 = k
   ·rw [if_pos h,if_pos h]; rfl
   ·rw [if_neg h,if_neg h,ih]; rfl
theorem zzD {α : Type} (enc : α → V) (n : Nat) (h : ∀ a,(enc a).lt n = true) : ∀ D : List (Int × α),C.ltm n (zoe enc D) = true
 | [] => rfl
 | e :: es => by
   have ih:=zzD enc n h es
   unfold zoe at ih ⊢
   simp only [yz,C.ltm,h,ih,Bool.and_self]
structure PDef where
 block : Int
 at' : Int
 shape : Int × Int
abbrev zj3:=List (Int × PDef)
def zie (d : PDef) : V:=.agg [.f (ei d.block),.f (ei d.at'),.f (ei d.shape.1),.f (ei d.shape.2)]
theorem zaa (n : Nat) (D : zj3) : C.ltm n (zoe zie D) = true:=zzD zie n (fun a => by simp [zie,V.lt,C.lts,C.lt]) D
theorem zj7 (k : Int) (D : zj3) : zif k (zoe zie D) = (getM k D).map zie:=zq7 zie k D
theorem zAW (k : Int) (d : PDef) (D : zj3) : zl1 k (V.agg [.f (.lit (.int .i64 d.block)),.f (.lit (.int .i64 d.at')),.f (.lit (.int .i64 d.shape.1)),.f (.lit (.int .i64 d.shape.2))]) (zoe zie D) = zoe zie (zk1 k d D):=zrK zie k d D
abbrev P1 : Ob:=.cells 0 1 [[.ptr 1 0 0 0]]
abbrev stD (f : PFunc) (level : Int) (x y z : C) (D : zj3) (r : zd) : zd:=O0 f :: zxA f level x y z (.map 4) :: O2 :: P1 :: .mp (zoe zie D) :: r
section
variable (f : PFunc) (level : Int) (succ pred : List (List Int)) (tree : List Int) (D : zj3) (r : zd) (hr : Obs.lt (r.length + 5) r = true)
abbrev xS (l : List (List Int)) : C:=.f (.sl (l.map rl))
abbrev zS (l : List Int) : C:=.f (eI l)
include hr
theorem zr4 (v : Int) (d : PDef) : call T 204 [.one (.ptr 1 0 0 0),vI v,zie d] (stD f level (xS succ) (xS pred) (zS tree) D r) = some (vB (getM v D).isNone,stD f level (xS succ) (xS pred) (zS tree) (zk1 v d D) r):=by
 rw [ze (fn:=zc3) rfl]
 have hp:=zAW v d D
 cases e : getM v D with
 | none => simp -implicitDefEqProofs only [go_sem,zc3,stD,zie,zj7,e,hp,hr,zaa,yd,yO]
 | some d0 => simp -implicitDefEqProofs only [go_sem,zc3,stD,zie,zj7,e,hp,hr,zaa,yd,yP]
theorem zpT (u : Use) : call T 208 [vI u.v,.agg [.f (ei u.shape.1),.f (ei u.shape.2)],vI u.block,vI u.at',.one (.ptr 3 0 0 0)] (stD f level (xS succ) (xS pred) (zS tree) D r) =
  some (vI (if (getM u.v D).isNone then 7 else 0),stD f level (xS succ) (xS pred) (zS tree) D r):=by
 rw [ze (fn:=zaI) rfl]
 cases e : getM u.v D with
 | none => simp -implicitDefEqProofs only [go_sem,zaI,stD,zie,zj7,e,hr,zaa,yd,yO]
 | some d0 => simp -implicitDefEqProofs only [go_sem,zaI,stD,zie,zj7,e,hr,zaa,yd,yP]
end
def zlm (D : zj3) (v : Int) : PDef:=(getM v D).getD ⟨0,0,(0,0)⟩
def zkE (D : zj3) (u : Use) : Int:=if (getM u.v D).isNone = true then 7 else 0
def zcc (D : zj3) (u : Use) : Int:=if (zlm D u.v).shape = u.shape then 0 else 6
def zaV (D : zj3) (tree : List Int) (u : Use) : Int :=
 let d:=zlm D u.v
 if d.block < 0 then 0 else if (d.block = u.block ∧ d.at' < u.at') ∨ (d.block ≠ u.block ∧ zkr tree d.block u.block = true) then 0 else 7
section
variable (f : PFunc) (level : Int) (succ pred : List (List Int)) (tree : List Int) (D : zj3) (r : zd) (hr : Obs.lt (r.length + 6) r = true)
include hr
theorem zrz (u : Use) : call T 209 [vI u.v,.agg [.f (ei u.shape.1),.f (ei u.shape.2)],vI u.block,vI u.at',.one (.ptr 5 0 0 0)] (stD f level (xS succ) (xS pred) (zS tree) D (P1 :: r)) =
  some (vI (zcc D u),stD f level (xS succ) (xS pred) (zS tree) D (P1 :: r)):=by
 rw [ze (fn:=zx) rfl]
 have hp : ∀ a b : Int × Int,(a = b) = (a.1 = b.1 ∧ a.2 = b.2):=fun a b => by rw [Prod.ext_iff]
 have key : ∀ d : PDef,zlm D u.v = d → zif u.v (zoe zie D) = some (zie d) ∨ (zif u.v (zoe zie D) = none ∧ d = ⟨0,0,(0,0)⟩):=fun d hd => by
  rw [zj7]
  unfold zlm at hd
  cases e : getM u.v D with
  | none => rw [e] at hd; exact .inr ⟨rfl,hd.symm⟩
  | some d0 => rw [e] at hd; simp at hd; subst hd; exact .inl rfl
 by_cases c1 : (zlm D u.v).shape.1 = u.shape.1
 ·by_cases c2 : (zlm D u.v).shape.2 = u.shape.2
  ·rcases key _ rfl with h | ⟨h,h2⟩
   ·simp -implicitDefEqProofs only [go_sem,zx,stD,zie,h,hr,zaa,yd,zcc,hp,eq_true c1,eq_true c2]
   ·rw [h2] at c1 c2
    simp -implicitDefEqProofs only [go_sem,zx,stD,zie,h,hr,zaa,yd,zcc,hp,h2,eq_true c1,eq_true c2]
  ·rcases key _ rfl with h | ⟨h,h2⟩
   ·simp -implicitDefEqProofs only [go_sem,zx,stD,zie,h,hr,zaa,yd,zcc,hp,eq_true c1,c2,and_false]
   ·rw [h2] at c1 c2
    simp -implicitDefEqProofs only [go_sem,zx,stD,zie,h,hr,zaa,yd,zcc,hp,h2,eq_true c1,c2,and_false]
 ·rcases key _ rfl with h | ⟨h,h2⟩
  ·simp -implicitDefEqProofs only [go_sem,zx,stD,zie,h,hr,zaa,yd,zcc,hp,c1,false_and]
  ·rw [h2] at c1
   simp -implicitDefEqProofs only [go_sem,zx,stD,zie,h,hr,zaa,yd,zcc,hp,h2,c1,false_and]
theorem zr6 (htl : tree.length ≤ 4294967296) (u : Use) : call T 210 [vI u.v,.agg [.f (ei u.shape.1),.f (ei u.shape.2)],vI u.block,vI u.at',.one (.ptr 5 0 0 0)] (stD f level (xS succ) (xS pred) (zS tree) D (P1 :: r)) =
  some (vI (zaV D tree u),stD f level (xS succ) (xS pred) (zS tree) D (P1 :: r)):=by
 rw [ze (fn:=zg) rfl]
 have key : ∀ d : PDef,zlm D u.v = d → zif u.v (zoe zie D) = some (zie d) ∨ (zif u.v (zoe zie D) = none ∧ d = ⟨0,0,(0,0)⟩):=fun d hd => by
  rw [zj7]
  unfold zlm at hd
  cases e : getM u.v D with
  | none => rw [e] at hd; exact .inr ⟨rfl,hd.symm⟩
  | some d0 => rw [e] at hd; simp at hd; subst hd; exact .inl rfl
 rcases key _ rfl with h | ⟨h,h2⟩
 ·have ho:=zov tree (zlm D u.v).block u.block htl
  simp -implicitDefEqProofs only [go_sem] at ho
  by_cases c1 : (zlm D u.v).block < 0
  ·simp -implicitDefEqProofs only [go_sem,zg,stD,zie,h,hr,zaa,yd,zaV,c1]
  by_cases c2 : (zlm D u.v).block = u.block
  ·by_cases c3 : (zlm D u.v).at' < u.at'
   ·simp -implicitDefEqProofs only [go_sem,zg,stD,zie,h,hr,zaa,yd,zaV,c1,eq_true c2,c3,true_and,true_or]
   ·simp -implicitDefEqProofs only [go_sem,zg,stD,zie,h,hr,zaa,yd,zaV,c1,eq_true c2,c3,and_false,false_and,or_self,ne_eq]
  ·cases c4 : zkr tree (zlm D u.v).block u.block
   ·rw [c4] at ho
    simp -implicitDefEqProofs only [go_sem,zg,stD,zie,h,hr,zaa,yd,zaV,c1,c2,ho,c4,and_false,false_and,or_self,ne_eq]
   ·rw [c4] at ho
    simp -implicitDefEqProofs only [go_sem,zg,stD,zie,h,hr,zaa,yd,zaV,c1,c2,ho,c4,and_self,false_and,false_or,ne_eq]
 ·have ho:=zov tree (0 : Int) u.block htl
  simp -implicitDefEqProofs only [go_sem] at ho
  by_cases c1 : (0 : Int) < 0
  ·simp -implicitDefEqProofs only [go_sem,zg,stD,zie,h,hr,zaa,yd,zaV,h2,c1]
  by_cases c2 : (0 : Int) = u.block
  ·by_cases c3 : (0 : Int) < u.at'
   ·simp -implicitDefEqProofs only [go_sem,zg,stD,zie,h,hr,zaa,yd,zaV,h2,c1,eq_true c2,c3,true_and,true_or]
   ·simp -implicitDefEqProofs only [go_sem,zg,stD,zie,h,hr,zaa,yd,zaV,h2,c1,eq_true c2,c3,and_false,false_and,or_self,ne_eq]
  ·cases c4 : zkr tree (0 : Int) u.block
   ·rw [c4] at ho
    simp -implicitDefEqProofs only [go_sem,zg,stD,zie,h,hr,zaa,yd,zaV,h2,c1,c2,ho,c4,and_false,false_and,or_self,ne_eq]
   ·rw [c4] at ho
    simp -implicitDefEqProofs only [go_sem,zg,stD,zie,h,hr,zaa,yd,zaV,h2,c1,c2,ho,c4,and_self,false_and,false_or,ne_eq]
end
end AC
namespace AC
open Go Go.A Go.A.Lex
def zd9 : Nat → zj3 → List Int → zj3
 | _,D,[] => D
 | i,D,b :: r => zd9 (i + 1) (zk1 ((i : Int) + 1) ⟨-1,0,(b,1)⟩ D) r
def zg9 (i : Int) : zj3 → List PPhi → zj3 × Option PPhi
 | D,[] => (D,none)
 | D,p :: r => if p.dst < 1 ∨ 1023 < p.dst then (D,some p) else if (getM p.dst D).isNone = true then zg9 i (zk1 p.dst ⟨i,-1,(p.bits,1)⟩ D) r else (zk1 p.dst ⟨i,-1,(p.bits,1)⟩ D,some p)
def zi1 (i : Int) : Nat → zj3 → List POp → zj3 × Option POp
 | _,D,[] => (D,none)
 | k,D,o :: r => if (zab o).1 ≤ 0 then zi1 i (k + 1) D r else if (getM o.dst D).isNone = true then zi1 i (k + 1) (zk1 o.dst ⟨i,k,zab o⟩ D) r else (zk1 o.dst ⟨i,k,zab o⟩ D,some o)
def zd2 : Nat → zj3 → List PBlock → zj3 × Option (List Ob)
 | _,D,[] => (D,none)
 | i,D,b :: r => match zg9 i D b.phis with
   | (D1,some p) => (D1,some [.cells 0 5 [zq b],.cells 0 4 [zuO p]])
   | (D1,none) => match zi1 i 0 D1 b.ops with
     | (D2,some o) => (D2,some [.cells 0 5 [zq b],.cells 0 6 [cOp o]])
     | (D2,none) => zd2 (i + 1) D2 r
section
variable (f : PFunc) (hf : okF f) (level : Int) (succ pred : List (List Int)) (tree : List Int)
abbrev sD (f : PFunc) (level : Int) (succ pred : List (List Int)) (tree : List Int) (D : zj3) (r : zd) : zd:=stD f level (xS succ) (xS pred) (zS tree) D r
include hf
theorem zxf : ∀ (d k : Nat) (D : zj3) (a0 a2 a3 a4 a5 a6 a7 a8 a9 a10 a11 a15 a16 a17 a18 a19 a20 a21 a22 a23 a24 a25 a26 a27 a28 a29 : V),f.params.length - k = d → k ≤ f.params.length →
  exec T zaU ⟨[a0,.one (.ptr 3 0 0 0),a2,a3,a4,a5,a6,a7,a8,a9,a10,a11,vIs f.params,vI f.params.length,vI k,a15,a16,a17,a18,a19,a20,a21,a22,a23,a24,a25,a26,a27,a28,a29],sD f level succ pred tree D [],3,5⟩ =
   some (.exit 0,⟨[vU,.one (.ptr 3 0 0 0),vU,vU,vU,vU,vU,vU,vU,vU,vU,vU,vU,vU,vU,vU,vU,vU,vU,vU,vU,vU,vU,vU,vU,vU,vU,vU,vU,vU],sD f level succ pred tree (zd9 k D (f.params.drop k)) [],3,5⟩):=by
 intro d
 induction d with
 | zero =>
   intro k D a0 a2 a3 a4 a5 a6 a7 a8 a9 a10 a11 a15 a16 a17 a18 a19 a20 a21 a22 a23 a24 a25 a26 a27 a28 a29 h1 h2
   have hk : k = f.params.length:=by omega
   subst hk
   rw [xl zaU rfl,zcN]
   simp -implicitDefEqProofs only [go_sem,stD,yf,yi,zd9]
 | succ d ih =>
   intro k D a0 a2 a3 a4 a5 a6 a7 a8 a9 a10 a11 a15 a16 a17 a18 a19 a20 a21 a22 a23 a24 a25 a26 a27 a28 a29 h1 h2
   have hk : k < f.params.length:=by omega
   have hd : f.params.drop k = f.params[k] :: f.params.drop (k + 1):=ye hk
   have hsc:=ziE f.params[k]
   have hp:=zr4 f level succ pred tree D [] rfl ((k : Int) + 1) ⟨-1,0,(f.params[k],1)⟩
   have hw:=za hk hf.params
   have hc : ((k + 1 : Nat) : Int) = (k : Int) + 1:=by omega
   have:=ih (k + 1) (zk1 ((k : Int) + 1) ⟨-1,0,(f.params[k],1)⟩ D) vU vU vU vU vU vU vU vU vU vU vU vU vU vU vU vU vU vU vU vU vU vU vU vU vU vU (by omega) (by omega)
   rw [xl zaU rfl,zcN,hd,zd9]
   rw [hc] at hw this
   simp -implicitDefEqProofs only [go_sem,stD,zie] at hp hsc this
   simp -implicitDefEqProofs only [go_sem,stD,ilt hk,zp hk,ri,hsc,hp,hw,this]
theorem zwx (b : PBlock) (hb : okB b) (i : Int) : ∀ (d k : Nat) (D : zj3) (a0 a2 a3 a4 a7 a8 a9 a10 a11 a12 a13 a14 a15 a19 a23 a24 a25 a26 a27 a28 a29 : V),b.phis.length - k = d → k ≤ b.phis.length →
  exec T zaT ⟨[a0,.one (.ptr 3 0 0 0),a2,a3,a4,vI i,.one (.ptr 5 0 0 0),a7,a8,a9,a10,a11,a12,a13,a14,a15,vL (f.blocks.map rb),vI f.blocks.length,vI i,a19,vL (b.phis.map rp),vI b.phis.length,vI k,a23,a24,a25,a26,a27,a28,a29],sD f level succ pred tree D [.cells 0 5 [zq b]],3,5⟩ =
   some (match zg9 i D (b.phis.drop k) with
    | (D1,none) => (.exit 4,⟨[vU,.one (.ptr 3 0 0 0),vU,vU,vU,vI i,.one (.ptr 5 0 0 0),vU,vU,vU,vU,vU,vU,vU,vU,vU,vL (f.blocks.map rb),vI f.blocks.length,vI i,vU,vU,vU,vU,vU,vU,vU,vU,vU,vU,vU],sD f level succ pred tree D1 [.cells 0 5 [zq b]],3,5⟩)
    | (D1,some p) => (.ret,⟨[vU,vU,vI 7,vU,vU,vU,vU,vU,vU,vU,vU,vU,vU,vU,vU,vU,vU,vU,vU,vU,vU,vU,vU,vU,vU,vU,vU,vU,vU,vU],sD f level succ pred tree D1 [.cells 0 5 [zq b],.cells 0 4 [zuO p]],3,5⟩)):=by
 intro d
 induction d with
 | zero =>
   intro k D a0 a2 a3 a4 a7 a8 a9 a10 a11 a12 a13 a14 a15 a19 a23 a24 a25 a26 a27 a28 a29 h1 h2
   have hk : k = b.phis.length:=by omega
   subst hk
   rw [xl zaT rfl,zcJ]
   simp -implicitDefEqProofs only [go_sem,stD,yf,yi,zg9]
 | succ d ih =>
   intro k D a0 a2 a3 a4 a7 a8 a9 a10 a11 a12 a13 a14 a15 a19 a23 a24 a25 a26 a27 a28 a29 h1 h2
   have hk : k < b.phis.length:=by omega
   have hd : b.phis.drop k = b.phis[k] :: b.phis.drop (k + 1):=ye hk
   have hsc:=ziE b.phis[k].bits
   have hp:=zr4 f level succ pred tree D [.cells 0 5 [zq b],.cells 0 4 [zuO b.phis[k]]] (by simp -implicitDefEqProofs only [go_sem]) b.phis[k].dst ⟨i,-1,(b.phis[k].bits,1)⟩
   rw [xl zaT rfl,zcJ,hd,zg9]
   simp -implicitDefEqProofs only [go_sem,stD,zie] at hp hsc
   by_cases c1 : b.phis[k].dst < 1
   ·simp -implicitDefEqProofs only [go_sem,stD,ilt hk,zp hk,rp,c1]
   by_cases c2 : 1023 < b.phis[k].dst
   ·simp -implicitDefEqProofs only [go_sem,stD,ilt hk,zp hk,rp,c1,c2]
   cases c3 : (getM b.phis[k].dst D).isNone
   ·rw [c3] at hp
    simp -implicitDefEqProofs only [go_sem,stD,ilt hk,zp hk,rp,c1,c2,hsc,hp]
   ·have:=ih (k + 1) (zk1 b.phis[k].dst ⟨i,-1,(b.phis[k].bits,1)⟩ D) vU vU vU vU vU vU vU vU vU vU vU vU vU vU vU vU vU vU vU vU vU (by omega) (by omega)
    rw [c3] at hp
    simp -implicitDefEqProofs only [go_sem,stD] at this
    simp -implicitDefEqProofs only [go_sem,stD,ilt hk,zp hk,rp,c1,c2,hsc,hp,zaa,za hk hb.phis,this]
theorem zxm (b : PBlock) (hb : okB b) (i : Int) : ∀ (d k : Nat) (D : zj3) (a0 a2 a3 a4 a6 a7 a8 a9 a10 a11 a12 a13 a14 a15 a19 a20 a21 a22 a23 a24 a28 a29 : V),b.ops.length - k = d → k ≤ b.ops.length →
  exec T za1 ⟨[a0,.one (.ptr 3 0 0 0),a2,a3,a4,vI i,a6,a7,a8,a9,a10,a11,a12,a13,a14,a15,vL (f.blocks.map rb),vI f.blocks.length,vI i,a19,a20,a21,a22,a23,a24,vL (b.ops.map ro),vI b.ops.length,vI k,a28,a29],sD f level succ pred tree D [.cells 0 5 [zq b]],3,5⟩ =
   some (match zi1 i k D (b.ops.drop k) with
    | (D1,none) => (.exit 6,⟨[vU,.one (.ptr 3 0 0 0),vU,vU,vU,vU,vU,vU,vU,vU,vU,vU,vU,vU,vU,vU,vL (f.blocks.map rb),vI f.blocks.length,vI i,vU,vU,vU,vU,vU,vU,vU,vU,vU,vU,vU],sD f level succ pred tree D1 [.cells 0 5 [zq b]],3,5⟩)
    | (D1,some o) => (.ret,⟨[vU,vU,vI 7,vU,vU,vU,vU,vU,vU,vU,vU,vU,vU,vU,vU,vU,vU,vU,vU,vU,vU,vU,vU,vU,vU,vU,vU,vU,vU,vU],sD f level succ pred tree D1 [.cells 0 5 [zq b],.cells 0 6 [cOp o]],3,5⟩)):=by
 intro d
 induction d with
 | zero =>
   intro k D a0 a2 a3 a4 a6 a7 a8 a9 a10 a11 a12 a13 a14 a15 a19 a20 a21 a22 a23 a24 a28 a29 h1 h2
   have hk : k = b.ops.length:=by omega
   subst hk
   rw [xl za1 rfl,zcX]
   simp -implicitDefEqProofs only [go_sem,stD,yf,yi,zi1]
 | succ d ih =>
   intro k D a0 a2 a3 a4 a6 a7 a8 a9 a10 a11 a12 a13 a14 a15 a19 a20 a21 a22 a23 a24 a28 a29 h1 h2
   have hk : k < b.ops.length:=by omega
   have hd : b.ops.drop k = b.ops[k] :: b.ops.drop (k + 1):=ye hk
   have ho:=hb.op _ (yl hk)
   have hgv:=zoL b.ops[k] ho.1 ho.2
   have hp:=zr4 f level succ pred tree D [.cells 0 5 [zq b],.cells 0 6 [cOp b.ops[k]]] (by simp -implicitDefEqProofs only [go_sem]) b.ops[k].dst ⟨i,k,zab b.ops[k]⟩
   rw [xl za1 rfl,zcX,hd,zi1]
   simp -implicitDefEqProofs only [go_sem,stD,zie] at hp hgv
   by_cases c1 : (zab b.ops[k]).1 ≤ 0
   ·have c1' : ¬ 0 < (zab b.ops[k]).1:=by omega
    have:=ih (k + 1) D vU vU vU vU vU vU vU vU vU vU vU vU vU vU vU vU vU vU vU vU vU vU (by omega) (by omega)
    simp -implicitDefEqProofs only [go_sem,stD] at this
    simp -implicitDefEqProofs only [go_sem,stD,ilt hk,zp hk,ro,hgv,c1,c1',zaa,za hk hb.ops,this]
   have c1' : 0 < (zab b.ops[k]).1:=by omega
   cases c3 : (getM b.ops[k].dst D).isNone
   ·rw [c3] at hp
    simp -implicitDefEqProofs only [go_sem,stD,ilt hk,zp hk,ro,hgv,c1,c1',hp]
   ·have:=ih (k + 1) (zk1 b.ops[k].dst ⟨i,k,zab b.ops[k]⟩ D) vU vU vU vU vU vU vU vU vU vU vU vU vU vU vU vU vU vU vU vU vU vU (by omega) (by omega)
    rw [c3] at hp
    simp -implicitDefEqProofs only [go_sem,stD] at this
    simp -implicitDefEqProofs only [go_sem,stD,ilt hk,zp hk,ro,hgv,c1,c1',hp,zaa,za hk hb.ops,this]
theorem zxv : ∀ (d k : Nat) (D : zj3) (a0 a2 a3 a4 a5 a6 a7 a8 a9 a10 a11 a12 a13 a14 a15 a19 a20 a21 a22 a23 a24 a25 a26 a27 a28 a29 : V),f.blocks.length - k = d → k ≤ f.blocks.length →
  exec T za2 ⟨[a0,.one (.ptr 3 0 0 0),a2,a3,a4,a5,a6,a7,a8,a9,a10,a11,a12,a13,a14,a15,vL (f.blocks.map rb),vI f.blocks.length,vI k,a19,a20,a21,a22,a23,a24,a25,a26,a27,a28,a29],sD f level succ pred tree D [],3,5⟩ =
   some (match zd2 k D (f.blocks.drop k) with
    | (D1,none) => (.exit 2,⟨[vU,.one (.ptr 3 0 0 0),vU,vU,vU,vU,vU,vU,vU,vU,vU,vU,vU,vU,vU,vU,vU,vU,vU,vU,vU,vU,vU,vU,vU,vU,vU,vU,vU,vU],sD f level succ pred tree D1 [],3,5⟩)
    | (D1,some G) => (.ret,⟨[vU,vU,vI 7,vU,vU,vU,vU,vU,vU,vU,vU,vU,vU,vU,vU,vU,vU,vU,vU,vU,vU,vU,vU,vU,vU,vU,vU,vU,vU,vU],sD f level succ pred tree D1 G,3,5⟩)):=by
 intro d
 induction d with
 | zero =>
   intro k D a0 a2 a3 a4 a5 a6 a7 a8 a9 a10 a11 a12 a13 a14 a15 a19 a20 a21 a22 a23 a24 a25 a26 a27 a28 a29 h1 h2
   have hk : k = f.blocks.length:=by omega
   subst hk
   rw [xl za2 rfl,zcV]
   simp -implicitDefEqProofs only [go_sem,stD,yf,yi,zd2]
 | succ d ih =>
   intro k D a0 a2 a3 a4 a5 a6 a7 a8 a9 a10 a11 a12 a13 a14 a15 a19 a20 a21 a22 a23 a24 a25 a26 a27 a28 a29 h1 h2
   have hk : k < f.blocks.length:=by omega
   have hd : f.blocks.drop k = f.blocks[k] :: f.blocks.drop (k + 1):=ye hk
   have hb:=hf.block _ (yl hk)
   have q1:=fun a0 a2 a3 a4 a7 a8 a9 a10 a11 a12 a13 a14 a15 a19 a23 a24 a25 a26 a27 a28 a29 => zwx f hf level succ pred tree f.blocks[k] hb k f.blocks[k].phis.length 0 D a0 a2 a3 a4 a7 a8 a9 a10 a11 a12 a13 a14 a15 a19 a23 a24 a25 a26 a27 a28 a29 (by omega) (by omega)
   simp only [yn,yj] at q1
   rw [xl za2 rfl,zcV,hd,zd2]
   rcases e1 : zg9 k D f.blocks[k].phis with ⟨D1,_ | p⟩
   ·have q2:=fun a0 a2 a3 a4 a6 a7 a8 a9 a10 a11 a12 a13 a14 a15 a19 a20 a21 a22 a23 a24 a28 a29 => zxm f hf level succ pred tree f.blocks[k] hb k f.blocks[k].ops.length 0 D1 a0 a2 a3 a4 a6 a7 a8 a9 a10 a11 a12 a13 a14 a15 a19 a20 a21 a22 a23 a24 a28 a29 (by omega) (by omega)
    simp only [yn,yj] at q2
    rcases e2 : zi1 k 0 D1 f.blocks[k].ops with ⟨D2,_ | o⟩
    ·have:=ih (k + 1) D2 vU vU vU vU vU vU vU vU vU vU vU vU vU vU vU vU vU vU vU vU vU vU vU vU vU vU (by omega) (by omega)
     simp -implicitDefEqProofs only [go_sem,stD,e1,e2] at q1 q2 this
     simp -implicitDefEqProofs only [go_sem,stD,ilt hk,zp hk,rb,q1,q2,e2,zaa,za hk hf.blocks,this]
    ·simp -implicitDefEqProofs only [go_sem,stD,e1,e2] at q1 q2
     simp -implicitDefEqProofs only [go_sem,stD,ilt hk,zp hk,rb,q1,q2,e2]
   ·simp -implicitDefEqProofs only [go_sem,stD,e1] at q1
    simp -implicitDefEqProofs only [go_sem,stD,ilt hk,zp hk,rb,q1]
end
end AC
namespace AC
open Go Go.A Go.A.Lex
attribute [go_sem] zxA O0 O2 P1 xS zS sD stD cM
def zr2 (f : PFunc) : zj3 × Option (List Ob):=zd2 0 (zd9 0 [] f.params) f.blocks
theorem zmP (o : POp) : (zaW o).length ≤ o.args.length:=by
 unfold zaW
 split
 ·rename_i h
  simp only [zgq,yr,decide_eq_true_eq] at h
  omega
 ·simp
theorem zlL (pred : List (List Int)) (tree : List Int) : ∀ (l : List PBlock) (i : Nat),zd4 pred tree i l = true → ∀ k (hk : k < l.length),zqR pred tree (i + k) l[k] = true
 | [],_,_,k,hk => by simp at hk
 | b :: r,i,h,k,hk => by
   simp only [zd4,yr] at h
   cases k with
   | zero => exact h.1
   | succ k =>
     have:=zlL pred tree r (i + 1) h.2 k (by simpa using hk)
     simpa [Nat.add_assoc,yG 1 k] using this
theorem zxN {f : PFunc} {pred : List (List Int)} {tree : List Int} (h : zd4 pred tree 0 f.blocks = true) : ∀ b ∈ f.blocks,zjc b:=fun b hb => by
 obtain ⟨k,hk,rfl⟩:=List.getElem_of_mem hb
 have:=zlL pred tree f.blocks 0 h k hk
 simp only [zqR,yr,List.all_eq_true] at this
 refine ⟨fun p hp => ?_,fun o _ => zmP o⟩
 have:=this.2.1 p hp
 simp only [zhP,yr,decide_eq_true_eq] at this
 exact this.2
theorem zEm (f : PFunc) (level : Int) (succ pred : List (List Int)) (tree : List Int) (D : zj3) : Ok (sD f level succ pred tree D []):=by
 unfold Ok
 simp -implicitDefEqProofs only [go_sem,stD,zaa]
theorem zzK (f : PFunc) (level : Int) (succ pred : List (List Int)) (tree : List Int) (D : zj3) : Ok (sD f level succ pred tree D [P1]):=by
 unfold Ok
 simp -implicitDefEqProofs only [go_sem,stD,zaa]
section
variable (f : PFunc) (hf : okF f) (level : Int) (succ pred : List (List Int)) (tree : List Int) (hab : ∀ b ∈ f.blocks,zjc b)
include hf hab
theorem zsS : call T 161 [.one (.ptr 1 0 0 0)] [O0 f,zxA f level (xS succ) (xS pred) (zS tree) (.f (.lit (.map none))),O2] =
  some (vI (match zr2 f with | (D,none) => zU (zkE D) (zfb f) | (_,some _) => 7),sD f level succ pred tree (zr2 f).1 []):=by
 rw [ze (fn:=zbd) rfl]
 have q0:=fun a0 a2 a3 a4 a5 a6 a7 a8 a9 a10 a11 a15 a16 a17 a18 a19 a20 a21 a22 a23 a24 a25 a26 a27 a28 a29 => zxf f hf level succ pred tree f.params.length 0 [] a0 a2 a3 a4 a5 a6 a7 a8 a9 a10 a11 a15 a16 a17 a18 a19 a20 a21 a22 a23 a24 a25 a26 a27 a28 a29 (by omega) (by omega)
 have q3:=fun a0 a2 a3 a4 a5 a6 a7 a8 a9 a10 a11 a12 a13 a14 a15 a19 a20 a21 a22 a23 a24 a25 a26 a27 a28 a29 => zxv f hf level succ pred tree f.blocks.length 0 (zd9 0 [] f.params) a0 a2 a3 a4 a5 a6 a7 a8 a9 a10 a11 a12 a13 a14 a15 a19 a20 a21 a22 a23 a24 a25 a26 a27 a28 a29 (by omega) (by omega)
 have en : zoe zie [] = []:=rfl
 simp only [yn,yj] at q0 q3
 have ed : zr2 f = zd2 0 (zd9 0 [] f.params) f.blocks:=rfl
 rw [ed]
 rcases e : zd2 0 (zd9 0 [] f.params) f.blocks with ⟨D,_ | G⟩
 ·have hu:=zox f level (xS succ) (xS pred) (zS tree) (.map 4) 208 [.ptr 3 0 0 0] (sD f level succ pred tree D []) rfl (zEm _ _ _ _ _ _) rfl (zkE D)
   (fun r u hr => zpT f level succ pred tree D r (by simpa [yG] using hr) u) hf hab
  simp -implicitDefEqProofs only [go_sem,stD,e,en] at q0 q3 hu
  simp -implicitDefEqProofs only [go_sem,zbd,q0,q3,hu,zaa,e]
 ·simp -implicitDefEqProofs only [go_sem,stD,e,en] at q0 q3
  simp -implicitDefEqProofs only [go_sem,zbd,q0,q3,zaa,e,yd]
  by_cases hG : G.length ≤ 0
  ·have : G = []:=yw (by omega)
   subst this
   rfl
  ·rw [if_neg hG]
   rfl
theorem zuu (D : zj3) : call T 162 [.one (.ptr 1 0 0 0)] (sD f level succ pred tree D []) = some (vI (zU (zcc D) (zfb f)),sD f level succ pred tree D []):=by
 rw [ze (fn:=zdD) rfl]
 have hu:=zox f level (xS succ) (xS pred) (zS tree) (.map 4) 209 [.ptr 5 0 0 0] (sD f level succ pred tree D [P1]) rfl (zzK _ _ _ _ _ _) rfl (zcc D)
  (fun r u hr => zrz f level succ pred tree D r (by simpa [yG] using hr) u) hf hab
 simp -implicitDefEqProofs only [go_sem,stD] at hu
 simp -implicitDefEqProofs only [go_sem,zdD,stD,hu,zaa]
theorem zuF (htl : tree.length ≤ 4294967296) (D : zj3) : call T 163 [.one (.ptr 1 0 0 0)] (sD f level succ pred tree D []) = some (vI (zU (zaV D tree) (zfb f)),sD f level succ pred tree D []):=by
 rw [ze (fn:=zdL) rfl]
 have hu:=zox f level (xS succ) (xS pred) (zS tree) (.map 4) 210 [.ptr 5 0 0 0] (sD f level succ pred tree D [P1]) rfl (zzK _ _ _ _ _ _) rfl (zaV D tree)
  (fun r u hr => zr6 f level succ pred tree D r (by simpa [yG] using hr) htl u) hf hab
 simp -implicitDefEqProofs only [go_sem,stD] at hu
 simp -implicitDefEqProofs only [go_sem,zdL,stD,hu,zaa]
end
def zlb (f : PFunc) (level : Int) (tree : List Int) : Int :=
 if zlx f = false then 4 else if zgY f tree = false then 5 else if zfm f level = false then 6 else
 match zr2 f with
 | (_,some _) => 7
 | (D,none) => if zU (zkE D) (zfb f) ≠ 0 then zU (zkE D) (zfb f) else if zU (zcc D) (zfb f) ≠ 0 then zU (zcc D) (zfb f) else zU (zaV D tree) (zfb f)
def zsW (f : PFunc) (tree : List Int) : Prop:=tree.length ≤ 4294967296 ∧ (zax f = true → call T 195 [.agg [.f (.sl ((zm f).map rl)),.f (.sl ((zM (zm f)).map rl))],vI 0] [] = some (vIs tree,[]))
theorem n5 : ((5 : Nat) : Int) = 5:=rfl
theorem wr1 : Go.IntKind.i64.wrap 1 = 1:=by decide
theorem wr2 : Go.IntKind.i64.wrap 2 = 2:=by decide
theorem wr3 : Go.IntKind.i64.wrap 3 = 3:=by decide
theorem wr4 : Go.IntKind.i64.wrap 4 = 4:=by decide
theorem wr5 : Go.IntKind.i64.wrap 5 = 5:=by decide
attribute [go_sem] n5 wr1 wr2 wr3 wr4 wr5
set_option maxRecDepth 10000 in
theorem zzy (f : PFunc) (hf : okF f) (level : Int) (tree : List Int) (hT : zsW f tree) : ∃ σ',call T 110 [zhc f,vI level] [] = some (.tup [.one (.ptr 1 0 0 0),vI (zlb f level tree)],σ') ∧ (zlb f level tree = 0 → σ' = sD f level (zm f) (zM (zm f)) tree (zr2 f).1 []):=by
 rw [ze (fn:=zaP) rfl]
 have hm:=zsh f hf
 cases e0 : zlx f
 ·rw [e0] at hm
  simp -implicitDefEqProofs only [go_sem] at hm
  simp -implicitDefEqProofs only [go_sem,zaP,hm,zlb,e0]
  exact ⟨_,rfl,fun h => by first | exact h.elim | simp at h⟩
 rw [e0] at hm
 cases e1 : zax f
 ·have hs:=zpW f hf level e1
  have e2 : zgY f tree = false:=by simp [zgY,e1]
  simp -implicitDefEqProofs only [go_sem] at hm hs
  simp -implicitDefEqProofs only [go_sem,zaP,hm,zlb,e0,e2,xl zbb rfl,zbf,hs]
  exact ⟨_,rfl,fun h => by first | exact h.elim | simp at h⟩
 have hs:=zr8 f hf level e1 tree hT.1 (hT.2 e1)
 cases e2 : zd4 (zM (zm f)) tree 0 f.blocks
 ·have e2' : zgY f tree = false:=by simp [zgY,e2]
  rw [e2] at hs
  simp -implicitDefEqProofs only [go_sem] at hm hs
  simp -implicitDefEqProofs only [go_sem,zaP,hm,zlb,e0,e2',xl zbb rfl,zbf,hs]
  exact ⟨_,rfl,fun h => by first | exact h.elim | simp at h⟩
 have e2' : zgY f tree = true:=by simp [zgY,e1,e2]
 have hab:=zxN e2
 have ht:=zxo f level (xS (zm f)) (xS (zM (zm f))) (zS tree) (.f (.lit (.map none))) [O0 f,zxA f level (xS (zm f)) (xS (zM (zm f))) (zS tree) (.f (.lit (.map none))),O2] rfl (by unfold Ok; simp -implicitDefEqProofs only [go_sem]) hf
 rw [e2] at hs
 cases e3 : zfm f level
 ·rw [e3] at ht
  simp -implicitDefEqProofs only [go_sem] at hm hs ht
  simp -implicitDefEqProofs only [go_sem,zaP,hm,zlb,e0,e2',e3,xl zbb rfl,zbf,hs,ht]
  exact ⟨_,rfl,fun h => by first | exact h.elim | simp at h⟩
 rw [e3] at ht
 have hd:=zsS f hf level (zm f) (zM (zm f)) tree hab
 rcases e4 : zr2 f with ⟨D,_ | G⟩
 ·rw [e4] at hd
  by_cases e5 : zU (zkE D) (zfb f) = 0
  ·have hsh:=zuu f hf level (zm f) (zM (zm f)) tree hab D
   by_cases e6 : zU (zcc D) (zfb f) = 0
   ·have hpl:=zuF f hf level (zm f) (zM (zm f)) tree hab hT.1 D
    by_cases e7 : zU (zaV D tree) (zfb f) = 0
    ·simp -implicitDefEqProofs only [go_sem,e5,e6,e7] at hm hs ht hd hsh hpl
     simp -implicitDefEqProofs only [go_sem,zaP,hm,zlb,e0,e2',e3,e4,e5,e6,e7,xl zbb rfl,zbf,hs,ht,hd,hsh,hpl,zaa,ne_eq]
     exact ⟨_,rfl,fun _ => rfl⟩
    ·simp -implicitDefEqProofs only [go_sem,e5,e6] at hm hs ht hd hsh hpl
     simp -implicitDefEqProofs only [go_sem,zaP,hm,zlb,e0,e2',e3,e4,e5,e6,e7,xl zbb rfl,zbf,hs,ht,hd,hsh,hpl,zaa,ne_eq]
     exact ⟨_,rfl,fun h => by first | exact absurd h e7 | exact h.elim⟩
   ·simp -implicitDefEqProofs only [go_sem,e5] at hm hs ht hd hsh
    simp -implicitDefEqProofs only [go_sem,zaP,hm,zlb,e0,e2',e3,e4,e5,e6,xl zbb rfl,zbf,hs,ht,hd,hsh,zaa,ne_eq]
    exact ⟨_,rfl,fun h => by first | exact absurd h e6 | exact h.elim⟩
  ·simp -implicitDefEqProofs only [go_sem] at hm hs ht hd
   simp -implicitDefEqProofs only [go_sem,zaP,hm,zlb,e0,e2',e3,e4,e5,xl zbb rfl,zbf,hs,ht,hd,zaa,ne_eq]
   exact ⟨_,rfl,fun h => by first | exact absurd h e5 | exact h.elim⟩
 ·rw [e4] at hd
  simp -implicitDefEqProofs only [go_sem] at hm hs ht hd
  simp -implicitDefEqProofs only [go_sem,zaP,hm,zlb,e0,e2',e3,e4,xl zbb rfl,zbf,hs,ht,hd,zaa,ne_eq]
  exact ⟨_,rfl,fun h => by first | exact h.elim | simp at h⟩
end AC
namespace AC
open Go Go.A Go.A.Lex
def zoq (f : PFunc) (level : Int) (tree : List Int) : Int:=if level < 0 ∨ 2 < level then 1 else zlb f level tree
@[go_sem] theorem zv7 (f : PFunc) (hf : okF f) (level : Int) (tree : List Int) (hT : zsW f tree) : call T 51 [zhc f,vI level] [] = some (vI (zoq f level tree),[]):=by
  rw [ze (fn:=zfq) rfl]
  by_cases c1 : level < 0
  ·simp -implicitDefEqProofs only [go_sem,zfq,zoq,c1]
  by_cases c2 : 2 < level
  ·simp -implicitDefEqProofs only [go_sem,zfq,zoq,c1,c2]
  obtain ⟨σ',h,_⟩:=zzy f hf level tree hT
  simp -implicitDefEqProofs only [go_sem] at h
  simp -implicitDefEqProofs only [go_sem,zfq,zoq,c1,c2,h]
end AC
namespace AC
open Go Go.A Go.A.Lex
theorem zwX (f : PFunc) (hf : okF f) : ∀ (d k : Nat) (a0 a2 a5 : V),f.blocks.length - k = d → k ≤ f.blocks.length →
  exec T zb9 ⟨[a0,.one (.ptr 0 0 0 0),a2,vI ((k + ((f.blocks.map fun b => b.phis.length + b.ops.length).take k).sum : Nat) : Int),vI k,a5],[.cells 0 3 [zcW f]],0,0⟩ =
   some (.exit 0,⟨[vU,vU,vU,vI (zh8 f : Int),vU,vU],[.cells 0 3 [zcW f]],0,0⟩):=by
 intro d
 induction d with
 | zero =>
   intro k a0 a2 a5 h1 h2
   have hk : k = f.blocks.length:=by omega
   subst hk
   rw [xl zb9 rfl,zd3]
   have e : (f.blocks.map fun b => b.phis.length + b.ops.length).take f.blocks.length = f.blocks.map fun b => b.phis.length + b.ops.length:=yF (by simp)
   simp -implicitDefEqProofs only [go_sem,yf,e,zh8,ya]
 | succ d ih =>
   intro k a0 a2 a5 h1 h2
   have hk : k < f.blocks.length:=by omega
   have hk' : k < (f.blocks.map fun b => b.phis.length + b.ops.length).length:=by simpa using hk
   have e:=zlR (f.blocks.map fun b => b.phis.length + b.ops.length) k hk'
   have e2:=zoN (f.blocks.map fun b => b.phis.length + b.ops.length) (k + 1)
   have e3:=hf.small
   have e4:=hf.blocks
   simp only [List.getElem_map] at e
   have w1 : Go.IntKind.i64.wrap (((k + ((f.blocks.map fun b => b.phis.length + b.ops.length).take k).sum : Nat) : Int) + (f.blocks[k].phis.length : Int)) = ((k + ((f.blocks.map fun b => b.phis.length + b.ops.length).take k).sum : Nat) : Int) + (f.blocks[k].phis.length : Int):=by
    rw [wrap_i64] <;> omega
   have w2 : Go.IntKind.i64.wrap (((k + ((f.blocks.map fun b => b.phis.length + b.ops.length).take k).sum : Nat) : Int) + (f.blocks[k].phis.length : Int) + (f.blocks[k].ops.length : Int)) = ((k + ((f.blocks.map fun b => b.phis.length + b.ops.length).take k).sum : Nat) : Int) + (f.blocks[k].phis.length : Int) + (f.blocks[k].ops.length : Int):=by
    rw [wrap_i64] <;> omega
   have w3 : Go.IntKind.i64.wrap (((k + ((f.blocks.map fun b => b.phis.length + b.ops.length).take k).sum : Nat) : Int) + (f.blocks[k].phis.length : Int) + (f.blocks[k].ops.length : Int) + 1) = ((k + 1 + ((f.blocks.map fun b => b.phis.length + b.ops.length).take (k + 1)).sum : Nat) : Int):=by
    rw [wrap_i64] <;> omega
   have:=ih (k + 1) vU vU vU (by omega) (by omega)
   rw [xl zb9 rfl,zd3]
   simp -implicitDefEqProofs only [go_sem] at this
   simp -implicitDefEqProofs only [go_sem,ilt hk,zp hk,rb,w1,w2,w3,za hk hf.blocks,ya,this]
theorem ztf (f : PFunc) (hf : okF f) : call T 123 [zhc f] [] = some (vI (zh8 f : Int),[]):=by
 rw [ze (fn:=zeN) rfl]
 have h:=fun a0 a2 a5 => zwX f hf f.blocks.length 0 a0 a2 a5 (by omega) (by omega)
 simp only [List.take_zero,List.sum_nil,Nat.add_zero,yj] at h
 simp -implicitDefEqProofs only [go_sem] at h
 simp -implicitDefEqProofs only [go_sem,zeN,h]
section
variable (f : PFunc) (hf : okF f)
abbrev st4 (f : PFunc) (b : PBlock) : zd:=[.cells 0 3 [zcW f],.cells 0 5 [zq b]]
include hf
theorem zyu (b : PBlock) (hb : okB b) (i : Int) : ∀ (d k : Nat) (a0 a2 a6 a7 a8 a9 a10 a11 a12 a13 a14 a15 : V),b.phis.length - k = d → k ≤ b.phis.length →
  exec T zcE ⟨[a0,.one (.ptr 0 0 0 0),a2,vI i,.one (.ptr 1 0 0 0),vI k,a6,a7,a8,a9,a10,a11,a12,a13,a14,a15],st4 f b,0,0⟩ =
   some (match (b.phis.drop k).find? (fun x => !zhh x) with | none => (.exit 2,⟨[vU,.one (.ptr 0 0 0 0),vU,vI i,.one (.ptr 1 0 0 0),vU,vU,vU,vU,vU,vU,vU,vU,vU,vU,vU],st4 f b,0,0⟩) | some x => (.ret,⟨[vU,vU,vB false,vU,vU,vU,vU,vU,vU,vU,vU,vU,vU,vU,vU,vU],st4 f b ++ [.cells 0 4 [zuO x]],0,0⟩)):=by
 intro d
 induction d with
 | zero =>
   intro k a0 a2 a6 a7 a8 a9 a10 a11 a12 a13 a14 a15 h1 h2
   have hk : k = b.phis.length:=by omega
   subst hk
   rw [xl zcE rfl,zeG]
   simp -implicitDefEqProofs only [go_sem,st4,yf,ya,yi,yD]
 | succ d ih =>
   intro k a0 a2 a6 a7 a8 a9 a10 a11 a12 a13 a14 a15 h1 h2
   have hk : k < b.phis.length:=by omega
   have hd : b.phis.drop k = b.phis[k] :: b.phis.drop (k + 1):=ye hk
   have ho:=hb.phi _ (yl hk)
   have c1:=zcz b.phis[k].bits
   have c2:=zcz b.phis[k].dst
   have c3:=zf6 b.phis[k].src ho.1
   have c4:=zf6 b.phis[k].args ho.2
   have:=ih (k + 1) vU vU vU vU vU vU vU vU vU vU vU vU (by omega) (by omega)
   rw [xl zcE rfl,zeG,hd]
   simp -implicitDefEqProofs only [go_sem,st4] at this
   cases e1 : num b.phis[k].bits
   ·simp -implicitDefEqProofs only [go_sem,e1] at c1
    simp -implicitDefEqProofs only [go_sem,st4,ilt hk,zp hk,rp,ya,c1,zhh,yk,e1]
   simp -implicitDefEqProofs only [go_sem,e1] at c1
   cases e2 : num b.phis[k].dst
   ·simp -implicitDefEqProofs only [go_sem,e2] at c2
    simp -implicitDefEqProofs only [go_sem,st4,ilt hk,zp hk,rp,ya,c1,c2,zhh,yk,e1,e2]
   simp -implicitDefEqProofs only [go_sem,e2] at c2
   cases e3 : zfG b.phis[k].src
   ·simp -implicitDefEqProofs only [go_sem,e3] at c3
    simp -implicitDefEqProofs only [go_sem,st4,ilt hk,zp hk,rp,ya,c1,c2,c3,zhh,yk,e1,e2,e3]
   simp -implicitDefEqProofs only [go_sem,e3] at c3
   cases e4 : zfG b.phis[k].args
   ·simp -implicitDefEqProofs only [go_sem,e4] at c4
    simp -implicitDefEqProofs only [go_sem,st4,ilt hk,zp hk,rp,ya,c1,c2,c3,c4,zhh,yk,e1,e2,e3,e4]
   simp -implicitDefEqProofs only [go_sem,e4] at c4
   simp -implicitDefEqProofs only [go_sem,st4,ilt hk,zp hk,rp,ya,c1,c2,c3,c4,zhh,yk,e1,e2,e3,e4,za hk hb.phis,this]
theorem zx4 (b : PBlock) (hb : okB b) (i : Int) : ∀ (d k : Nat) (a0 a2 a5 a6 a8 a9 a10 a11 a12 a13 a14 a15 : V),b.ops.length - k = d → k ≤ b.ops.length →
  exec T zcF ⟨[a0,.one (.ptr 0 0 0 0),a2,vI i,.one (.ptr 1 0 0 0),a5,a6,vI k,a8,a9,a10,a11,a12,a13,a14,a15],st4 f b,0,0⟩ =
   some (match (b.ops.drop k).find? (fun x => !zk2 x) with | none => (.exit 4,⟨[vU,.one (.ptr 0 0 0 0),vU,vI i,.one (.ptr 1 0 0 0),vU,vU,vU,vU,vU,vU,vU,vU,vU,vU,vU],st4 f b,0,0⟩) | some x => (.ret,⟨[vU,vU,vB false,vU,vU,vU,vU,vU,vU,vU,vU,vU,vU,vU,vU,vU],st4 f b ++ [.cells 0 6 [cOp x]],0,0⟩)):=by
 intro d
 induction d with
 | zero =>
   intro k a0 a2 a5 a6 a8 a9 a10 a11 a12 a13 a14 a15 h1 h2
   have hk : k = b.ops.length:=by omega
   subst hk
   rw [xl zcF rfl,zeM]
   simp -implicitDefEqProofs only [go_sem,st4,yf,ya,yi,yD]
 | succ d ih =>
   intro k a0 a2 a5 a6 a8 a9 a10 a11 a12 a13 a14 a15 h1 h2
   have hk : k < b.ops.length:=by omega
   have hd : b.ops.drop k = b.ops[k] :: b.ops.drop (k + 1):=ye hk
   have ho:=hb.op _ (yl hk)
   have c1:=zcz b.ops[k].kind
   have c2:=zcz b.ops[k].bits
   have c3:=zcz b.ops[k].lanes
   have c4:=zcz b.ops[k].dst
   have c5:=zf6 b.ops[k].args ho.2
   have:=ih (k + 1) vU vU vU vU vU vU vU vU vU vU vU vU (by omega) (by omega)
   rw [xl zcF rfl,zeM,hd]
   simp -implicitDefEqProofs only [go_sem,st4] at this
   cases e1 : num b.ops[k].kind
   ·simp -implicitDefEqProofs only [go_sem,e1] at c1
    simp -implicitDefEqProofs only [go_sem,st4,ilt hk,zp hk,ro,ya,c1,zk2,yk,e1]
   simp -implicitDefEqProofs only [go_sem,e1] at c1
   cases e2 : num b.ops[k].bits
   ·simp -implicitDefEqProofs only [go_sem,e2] at c2
    simp -implicitDefEqProofs only [go_sem,st4,ilt hk,zp hk,ro,ya,c1,c2,zk2,yk,e1,e2]
   simp -implicitDefEqProofs only [go_sem,e2] at c2
   cases e3 : num b.ops[k].lanes
   ·simp -implicitDefEqProofs only [go_sem,e3] at c3
    simp -implicitDefEqProofs only [go_sem,st4,ilt hk,zp hk,ro,ya,c1,c2,c3,zk2,yk,e1,e2,e3]
   simp -implicitDefEqProofs only [go_sem,e3] at c3
   cases e4 : num b.ops[k].dst
   ·simp -implicitDefEqProofs only [go_sem,e4] at c4
    simp -implicitDefEqProofs only [go_sem,st4,ilt hk,zp hk,ro,ya,c1,c2,c3,c4,zk2,yk,e1,e2,e3,e4]
   simp -implicitDefEqProofs only [go_sem,e4] at c4
   cases e5 : zfG b.ops[k].args
   ·simp -implicitDefEqProofs only [go_sem,e5] at c5
    simp -implicitDefEqProofs only [go_sem,st4,ilt hk,zp hk,ro,ya,c1,c2,c3,c4,c5,zk2,yk,e1,e2,e3,e4,e5]
   simp -implicitDefEqProofs only [go_sem,e5] at c5
   simp -implicitDefEqProofs only [go_sem,st4,ilt hk,zp hk,ro,ya,c1,c2,c3,c4,c5,zk2,yk,e1,e2,e3,e4,e5,za hk hb.ops,this]
theorem zyV : ∀ (d k : Nat),f.blocks.length - k = d → k ≤ f.blocks.length →
  ∃ r,∀ (a0 a2 a4 a5 a6 a7 a8 a9 a10 a11 a12 a13 a14 a15 : V),exec T zJ ⟨[a0,.one (.ptr 0 0 0 0),a2,vI k,a4,a5,a6,a7,a8,a9,a10,a11,a12,a13,a14,a15],[.cells 0 3 [zcW f]],0,0⟩ =
    some (if (f.blocks.drop k).all zqP = true then (.exit 0,⟨[vU,vU,vU,vU,vU,vU,vU,vU,vU,vU,vU,vU,vU,vU,vU,vU],[.cells 0 3 [zcW f]],0,0⟩) else (.ret,⟨[vU,vU,vB false,vU,vU,vU,vU,vU,vU,vU,vU,vU,vU,vU,vU,vU],.cells 0 3 [zcW f] :: r,0,0⟩)):=by
 intro d
 induction d with
 | zero =>
   intro k h1 h2
   have hk : k = f.blocks.length:=by omega
   subst hk
   refine ⟨[],fun a0 a2 a4 a5 a6 a7 a8 a9 a10 a11 a12 a13 a14 a15 => ?_⟩
   rw [xl zJ rfl,zQ]
   simp -implicitDefEqProofs only [go_sem,yf,ya,yi,yt]
 | succ d ih =>
   intro k h1 h2
   have hk : k < f.blocks.length:=by omega
   have hd : f.blocks.drop k = f.blocks[k] :: f.blocks.drop (k + 1):=ye hk
   have hb:=hf.block _ (yl hk)
   have h0:=fun a0 a2 a6 a7 a8 a9 a10 a11 a12 a13 a14 a15 => zyu f hf f.blocks[k] hb k f.blocks[k].phis.length 0 a0 a2 a6 a7 a8 a9 a10 a11 a12 a13 a14 a15 (by omega) (by omega)
   have h1':=fun a0 a2 a5 a6 a8 a9 a10 a11 a12 a13 a14 a15 => zx4 f hf f.blocks[k] hb k f.blocks[k].ops.length 0 a0 a2 a5 a6 a8 a9 a10 a11 a12 a13 a14 a15 (by omega) (by omega)
   have c1:=zcz f.blocks[k].kind
   have c2:=zcz f.blocks[k].arg
   have c3:=zf6 f.blocks[k].to hb.to
   simp only [yn,yj] at h0 h1'
   obtain ⟨r,hr⟩:=ih (k + 1) (by omega) (by omega)
   simp -implicitDefEqProofs only [go_sem] at hr
   cases e1 : f.blocks[k].phis.find? (fun x => !zhh x) with
   | some x =>
     have qa:=zeT e1
     simp -implicitDefEqProofs only [go_sem,st4,e1] at h0
     refine ⟨[.cells 0 5 [zq f.blocks[k]],.cells 0 4 [zuO x]],fun a0 a2 a4 a5 a6 a7 a8 a9 a10 a11 a12 a13 a14 a15 => ?_⟩
     rw [xl zJ rfl,zQ,hd,ym]
     simp -implicitDefEqProofs only [go_sem,ilt hk,zp hk,rb,ya,h0,zqP,qa]
   | none =>
   have qa:=zeY e1
   simp -implicitDefEqProofs only [go_sem,st4,e1] at h0
   cases e2 : f.blocks[k].ops.find? (fun x => !zk2 x) with
   | some x =>
     have qb:=zeT e2
     simp -implicitDefEqProofs only [go_sem,st4,e2] at h1'
     refine ⟨[.cells 0 5 [zq f.blocks[k]],.cells 0 6 [cOp x]],fun a0 a2 a4 a5 a6 a7 a8 a9 a10 a11 a12 a13 a14 a15 => ?_⟩
     rw [xl zJ rfl,zQ,hd,ym]
     simp -implicitDefEqProofs only [go_sem,ilt hk,zp hk,rb,ya,h0,h1',zqP,qa,qb]
   | none =>
   have qb:=zeY e2
   simp -implicitDefEqProofs only [go_sem,st4,e2] at h1'
   cases e3 : num f.blocks[k].kind
   ·simp -implicitDefEqProofs only [go_sem,e3] at c1
    refine ⟨[.cells 0 5 [zq f.blocks[k]]],fun a0 a2 a4 a5 a6 a7 a8 a9 a10 a11 a12 a13 a14 a15 => ?_⟩
    rw [xl zJ rfl,zQ,hd,ym]
    simp -implicitDefEqProofs only [go_sem,ilt hk,zp hk,rb,ya,h0,h1',c1,zqP,zo2,qa,qb,e3]
   simp -implicitDefEqProofs only [go_sem,e3] at c1
   cases e4 : num f.blocks[k].arg
   ·simp -implicitDefEqProofs only [go_sem,e4] at c2
    refine ⟨[.cells 0 5 [zq f.blocks[k]]],fun a0 a2 a4 a5 a6 a7 a8 a9 a10 a11 a12 a13 a14 a15 => ?_⟩
    rw [xl zJ rfl,zQ,hd,ym]
    simp -implicitDefEqProofs only [go_sem,ilt hk,zp hk,rb,ya,h0,h1',c1,c2,zqP,zo2,qa,qb,e3,e4]
   simp -implicitDefEqProofs only [go_sem,e4] at c2
   cases e5 : zfG f.blocks[k].to
   ·simp -implicitDefEqProofs only [go_sem,e5] at c3
    refine ⟨[.cells 0 5 [zq f.blocks[k]]],fun a0 a2 a4 a5 a6 a7 a8 a9 a10 a11 a12 a13 a14 a15 => ?_⟩
    rw [xl zJ rfl,zQ,hd,ym]
    simp -implicitDefEqProofs only [go_sem,ilt hk,zp hk,rb,ya,h0,h1',c1,c2,c3,zqP,zo2,qa,qb,e3,e4,e5]
   simp -implicitDefEqProofs only [go_sem,e5] at c3
   refine ⟨r,fun a0 a2 a4 a5 a6 a7 a8 a9 a10 a11 a12 a13 a14 a15 => ?_⟩
   rw [xl zJ rfl,zQ,hd,ym]
   simp -implicitDefEqProofs only [go_sem,ilt hk,zp hk,rb,ya,h0,h1',c1,c2,c3,zqP,zo2,qa,qb,e3,e4,e5,za hk hf.blocks,hr]
end
theorem zsG {l : List Int} (h : l.length ≤ 64) : zfG l = l.all num:=by
 unfold zfG
 rw [decide_eq_true h,Bool.true_and]
theorem zuC (f : PFunc) (hf : okF f) : call T 70 [zhc f] [] = some (vB (zlx f),[]):=by
 rw [ze (fn:=zF) rfl]
 have hs:=ztf f hf
 have hi:=zcz f.ret
 have hp:=zf6 f.params hf.params
 simp -implicitDefEqProofs only [go_sem] at hs hi hp
 by_cases c1 : f.blocks.length < 1
 ·have c1' : (f.blocks.length : Int) = 0:=by omega
  simp -implicitDefEqProofs only [go_sem,zF,zlx,c1,eq_true c1',ya]
 have c1' : ¬ (f.blocks.length : Int) = 0:=by omega
 by_cases c2 : 64 < f.blocks.length
 ·have c2' : (f.blocks.length : Int) > 64:=by omega
  simp -implicitDefEqProofs only [go_sem,zF,zlx,c1,c1',c2,eq_true c2',ya]
 have c2' : ¬ (f.blocks.length : Int) > 64:=by omega
 by_cases c3 : 16 < f.params.length
 ·have c3' : (f.params.length : Int) > 16:=by omega
  simp -implicitDefEqProofs only [go_sem,zF,zlx,c1,c1',c2,c2',c3,eq_true c3',ya]
 have c3' : ¬ (f.params.length : Int) > 16:=by omega
 rw [zsG (by omega)] at hp
 cases c6 : f.params.all num
 ·simp -implicitDefEqProofs only [go_sem,c6] at hp
  simp -implicitDefEqProofs only [go_sem,zF,zlx,c1,c1',c2,c2',c3,c3',hp,c6,ya,yV]
 simp -implicitDefEqProofs only [go_sem,c6] at hp
 cases c5 : num f.ret
 ·simp -implicitDefEqProofs only [go_sem,c5] at hi
  simp -implicitDefEqProofs only [go_sem,zF,zlx,c1,c1',c2,c2',c3,c3',hp,hi,c6,c5,ya,yV]
 simp -implicitDefEqProofs only [go_sem,c5] at hi
 by_cases c4 : 512 < zh8 f
 ·have c4' : (zh8 f : Int) > 512:=by omega
  simp -implicitDefEqProofs only [go_sem,zF,zlx,c1,c1',c2,c2',c3,c3',hs,c4,eq_true c4',hp,hi,c6,c5,ya]
 have c4' : ¬ (zh8 f : Int) > 512:=by omega
 obtain ⟨r,h⟩:=zyV f hf f.blocks.length 0 (by omega) (by omega)
 simp only [yn,yj] at h
 cases c7 : f.blocks.all zqP
 ·simp -implicitDefEqProofs only [go_sem,c7] at h
  simp -implicitDefEqProofs only [go_sem,zF,zlx,c1,c1',c2,c2',c3,c3',hs,c4,c4',hp,hi,c6,c5,c7,h,ya]
 ·simp -implicitDefEqProofs only [go_sem,c7] at h
  simp -implicitDefEqProofs only [go_sem,zF,zlx,c1,c1',c2,c2',c3,c3',hs,c4,c4',hp,hi,c6,c5,c7,h,ya]
end AC
